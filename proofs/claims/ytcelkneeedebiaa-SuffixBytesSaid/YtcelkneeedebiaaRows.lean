/-
  No cell of these rows narrows 'for every input' (looked for: loops, veiled, ifaces, maps, wideKeys, modest, calm, conditions, laid).
  DERIVED. THE GIVEN ROWS OF THIS SEAT. 7 by the template 'for every input the law returns true; each argument reads behind the call as it read before'; 0 by the template 'total and deterministic' (their statements: YtcelkneeedebiaaTotals.lean).
  GIVEN WITH THE SEED: the statements are not yours to turn. If you find one false, say at which input.
  Laid BY PROGRAM, IN A SANDBOX (cutbox-rows.mjs): the forced cells as the released guide's own fill.sh prints them over the translation e9dbacad8c4c151c… (all of the seat's roots in one cut). By AI agents, Wed Nov 11 2026. No macro, syntax, notation, axiom, sorry.
-/
import Derived.Test.YtcelkneeedebiaaChecked
import GoSem.Claim
import GoSem.ClaimJoined
import GoSem.ClaimMapViews
import Derived.JoinedTies
import Derived.KernelRfl
namespace Go.Proofs.Ytcelkneeedebiaa
/- THE CELL 'sum', in the pinned program and in every row, IS THE sha256 OF THE DUMP (.gsa) THAT YtcelkneeedebiaaProg.lean LOADS. Nothing in Lean hashes anything: it is a label: what it is worth is what the hold of that sum in a sandbox is worth. -/
noncomputable def Try.pinned : Pinned := { name := "ytcelkneeedebiaa", sum := "e9dbacad8c4c151c24150b2396a7ca5b21d4e55b65776c55a90d1e860e55e7e6", checked := Try.checked }
namespace Rows
def none {H : Type} : Left H := { results := [], args := [] }

/-- 'inlaylaw04.SuffixMatchesReference': WHATEVER THE INPUT: true; the input reads as it did. -/
def suffixMatchesReferenceSpec : ChangeSpec := { name := "suffixMatchesReference", fn := fun _ => fun
  | [d1, d2] => { results := [.lit (.bool true)], args := [d1, d2] }
  | _ => none }
def suffixMatchesReferenceRow : OpenClaim := { program := "ytcelkneeedebiaa", sum := "e9dbacad8c4c151c24150b2396a7ca5b21d4e55b65776c55a90d1e860e55e7e6", func := "inlay/inlaylaw04.SuffixMatchesReference", spec := "suffixMatchesReference", inPlace := ["internal/bytealg.Compare"], unfollowed := true, recurses := true, apart := false }
def SuffixMatchesReferenceSaid : Prop := suffixMatchesReferenceRow.holds Try.pinned (OpenSpec.ofChange suffixMatchesReferenceSpec)

/-- ITS FALSE NEIGHBOUR: 'it returns false'. Refute it at one input. -/
def suffixMatchesReferenceWrong : ChangeSpec := { name := "suffixMatchesReference", fn := fun _ => fun
  | [d1, d2] => { results := [.lit (.bool false)], args := [d1, d2] }
  | _ => none }
def SuffixMatchesReferenceWrongFalsely : Prop := suffixMatchesReferenceRow.holds Try.pinned (OpenSpec.ofChange suffixMatchesReferenceWrong)

/-- 'inlaylaw04.SuffixOrders': WHATEVER THE INPUT: true; the input reads as it did. -/
def suffixOrdersSpec : ChangeSpec := { name := "suffixOrders", fn := fun _ => fun
  | [d] => { results := [.lit (.bool true)], args := [d] }
  | _ => none }
def suffixOrdersRow : OpenClaim := { program := "ytcelkneeedebiaa", sum := "e9dbacad8c4c151c24150b2396a7ca5b21d4e55b65776c55a90d1e860e55e7e6", func := "inlay/inlaylaw04.SuffixOrders", spec := "suffixOrders", inPlace := ["internal/bytealg.Compare"], unfollowed := true, recurses := true, apart := false }
def SuffixOrdersSaid : Prop := suffixOrdersRow.holds Try.pinned (OpenSpec.ofChange suffixOrdersSpec)

/-- ITS FALSE NEIGHBOUR: 'it returns false'. Refute it at one input. -/
def suffixOrdersWrong : ChangeSpec := { name := "suffixOrders", fn := fun _ => fun
  | [d] => { results := [.lit (.bool false)], args := [d] }
  | _ => none }
def SuffixOrdersWrongFalsely : Prop := suffixOrdersRow.holds Try.pinned (OpenSpec.ofChange suffixOrdersWrong)

/-- 'inlaylaw04.SuffixFinds': WHATEVER THE INPUT: true; the input reads as it did. -/
def suffixFindsSpec : ChangeSpec := { name := "suffixFinds", fn := fun _ => fun
  | [d1, d2] => { results := [.lit (.bool true)], args := [d1, d2] }
  | _ => none }
def suffixFindsRow : OpenClaim := { program := "ytcelkneeedebiaa", sum := "e9dbacad8c4c151c24150b2396a7ca5b21d4e55b65776c55a90d1e860e55e7e6", func := "inlay/inlaylaw04.SuffixFinds", spec := "suffixFinds", inPlace := ["internal/bytealg.Compare"], unfollowed := true, recurses := true, apart := false }
def SuffixFindsSaid : Prop := suffixFindsRow.holds Try.pinned (OpenSpec.ofChange suffixFindsSpec)

/-- ITS FALSE NEIGHBOUR: 'it returns false'. Refute it at one input. -/
def suffixFindsWrong : ChangeSpec := { name := "suffixFinds", fn := fun _ => fun
  | [d1, d2] => { results := [.lit (.bool false)], args := [d1, d2] }
  | _ => none }
def SuffixFindsWrongFalsely : Prop := suffixFindsRow.holds Try.pinned (OpenSpec.ofChange suffixFindsWrong)

/-- 'inlaylaw04.SuffixParts': WHATEVER THE INPUT: true; the input reads as it did. -/
def suffixPartsSpec : ChangeSpec := { name := "suffixParts", fn := fun _ => fun
  | [d1, d2, d3] => { results := [.lit (.bool true)], args := [d1, d2, d3] }
  | _ => none }
def suffixPartsRow : OpenClaim := { program := "ytcelkneeedebiaa", sum := "e9dbacad8c4c151c24150b2396a7ca5b21d4e55b65776c55a90d1e860e55e7e6", func := "inlay/inlaylaw04.SuffixParts", spec := "suffixParts", inPlace := ["internal/bytealg.Compare"], unfollowed := true, recurses := true, apart := false }
def SuffixPartsSaid : Prop := suffixPartsRow.holds Try.pinned (OpenSpec.ofChange suffixPartsSpec)

/-- ITS FALSE NEIGHBOUR: 'it returns false'. Refute it at one input. -/
def suffixPartsWrong : ChangeSpec := { name := "suffixParts", fn := fun _ => fun
  | [d1, d2, d3] => { results := [.lit (.bool false)], args := [d1, d2, d3] }
  | _ => none }
def SuffixPartsWrongFalsely : Prop := suffixPartsRow.holds Try.pinned (OpenSpec.ofChange suffixPartsWrong)

/-- 'inlaylaw04.SuffixCommons': WHATEVER THE INPUT: true; the input reads as it did. -/
def suffixCommonsSpec : ChangeSpec := { name := "suffixCommons", fn := fun _ => fun
  | [d] => { results := [.lit (.bool true)], args := [d] }
  | _ => none }
def suffixCommonsRow : OpenClaim := { program := "ytcelkneeedebiaa", sum := "e9dbacad8c4c151c24150b2396a7ca5b21d4e55b65776c55a90d1e860e55e7e6", func := "inlay/inlaylaw04.SuffixCommons", spec := "suffixCommons", inPlace := ["internal/bytealg.Compare"], unfollowed := true, recurses := true, apart := false }
def SuffixCommonsSaid : Prop := suffixCommonsRow.holds Try.pinned (OpenSpec.ofChange suffixCommonsSpec)

/-- ITS FALSE NEIGHBOUR: 'it returns false'. Refute it at one input. -/
def suffixCommonsWrong : ChangeSpec := { name := "suffixCommons", fn := fun _ => fun
  | [d] => { results := [.lit (.bool false)], args := [d] }
  | _ => none }
def SuffixCommonsWrongFalsely : Prop := suffixCommonsRow.holds Try.pinned (OpenSpec.ofChange suffixCommonsWrong)

/-- 'inlaylaw04.SuffixEnds': WHATEVER THE INPUT: true; the input reads as it did. -/
def suffixEndsSpec : ChangeSpec := { name := "suffixEnds", fn := fun _ => fun
  | [d1, d2] => { results := [.lit (.bool true)], args := [d1, d2] }
  | _ => none }
def suffixEndsRow : OpenClaim := { program := "ytcelkneeedebiaa", sum := "e9dbacad8c4c151c24150b2396a7ca5b21d4e55b65776c55a90d1e860e55e7e6", func := "inlay/inlaylaw04.SuffixEnds", spec := "suffixEnds", inPlace := ["internal/bytealg.Compare"], unfollowed := true, recurses := true, apart := false }
def SuffixEndsSaid : Prop := suffixEndsRow.holds Try.pinned (OpenSpec.ofChange suffixEndsSpec)

/-- ITS FALSE NEIGHBOUR: 'it returns false'. Refute it at one input. -/
def suffixEndsWrong : ChangeSpec := { name := "suffixEnds", fn := fun _ => fun
  | [d1, d2] => { results := [.lit (.bool false)], args := [d1, d2] }
  | _ => none }
def SuffixEndsWrongFalsely : Prop := suffixEndsRow.holds Try.pinned (OpenSpec.ofChange suffixEndsWrong)

/-- 'inlaylaw04.SuffixBytes': WHATEVER THE INPUT: true; the input reads as it did. -/
def suffixBytesSpec : ChangeSpec := { name := "suffixBytes", fn := fun _ => fun
  | [d1, d2, d3] => { results := [.lit (.bool true)], args := [d1, d2, d3] }
  | _ => none }
def suffixBytesRow : OpenClaim := { program := "ytcelkneeedebiaa", sum := "e9dbacad8c4c151c24150b2396a7ca5b21d4e55b65776c55a90d1e860e55e7e6", func := "inlay/inlaylaw04.SuffixBytes", spec := "suffixBytes", inPlace := ["internal/bytealg.Compare"], unfollowed := true, recurses := true, apart := false }
def SuffixBytesSaid : Prop := suffixBytesRow.holds Try.pinned (OpenSpec.ofChange suffixBytesSpec)

/-- ITS FALSE NEIGHBOUR: 'it returns false'. Refute it at one input. -/
def suffixBytesWrong : ChangeSpec := { name := "suffixBytes", fn := fun _ => fun
  | [d1, d2, d3] => { results := [.lit (.bool false)], args := [d1, d2, d3] }
  | _ => none }
def SuffixBytesWrongFalsely : Prop := suffixBytesRow.holds Try.pinned (OpenSpec.ofChange suffixBytesWrong)

/- THE SECOND FORM. 'bulk': how many values and letters a reading holds, each counted each time it is reached (what is shared counts as often as it is met; a slice's spare places count too). A statement '..UptoSaid' is the law's where the arguments, and the package variables that the reading takes, are together of bulk at most 1048576: NARROWER than '..Said'. Prove '..Said' where nothing that the law and all that it calls make is longer than what came in: it says more and counts as full. Else prove '..UptoSaid'. A law counts once. -/
mutual
def uptoBulk {H : Type} : DataW H → Nat
  | .lit (.string bytes) => bytes.length + 1
  | .lit _ => 1
  | .nil => 1
  | .ptr d => uptoBulk d + 1
  | .slice elems spare => uptoBulkAll elems + uptoBulkAll spare + 1
  | .agg parts => uptoBulkAll parts + 1
  | .iface _ d => uptoBulk d + 1
  | .map entries => uptoBulkEntries entries + 1
  | .held _ => 1
def uptoBulkAll {H : Type} : List (DataW H) → Nat
  | [] => 0
  | d :: r => uptoBulk d + uptoBulkAll r
def uptoBulkEntries {H : Type} : List (Lit × DataW H) → Nat
  | [] => 0
  | x :: r => uptoBulkEntry x + uptoBulkEntries r
def uptoBulkEntry {H : Type} : Lit × DataW H → Nat
  | (.string bytes, d) => bytes.length + uptoBulk d + 1
  | (_, d) => uptoBulk d + 1
 end
def uptoSmall : (H : Type) → List (DataW H) → Bool := fun _ ds => decide (uptoBulkAll ds ≤ 1048576)
def OpenSpec.upto (s : _root_.Go.ChangeSpec) : _root_.Go.OpenSpec := { _root_.Go.OpenSpec.ofChange s with cond := some uptoSmall }

/-- 'inlaylaw04.SuffixMatchesReference', WHERE WHAT IT READS IS OF BULK AT MOST 1048576: true; the input reads as it did. -/
def suffixMatchesReferenceUptoRow : OpenClaim := { program := "ytcelkneeedebiaa", sum := "e9dbacad8c4c151c24150b2396a7ca5b21d4e55b65776c55a90d1e860e55e7e6", func := "inlay/inlaylaw04.SuffixMatchesReference", spec := "suffixMatchesReference", inPlace := ["internal/bytealg.Compare"], unfollowed := true, recurses := true, apart := false, narrowed := true }
def SuffixMatchesReferenceUptoSaid : Prop := suffixMatchesReferenceUptoRow.holds Try.pinned (OpenSpec.upto suffixMatchesReferenceSpec)

/-- 'inlaylaw04.SuffixOrders', WHERE WHAT IT READS IS OF BULK AT MOST 1048576: true; the input reads as it did. -/
def suffixOrdersUptoRow : OpenClaim := { program := "ytcelkneeedebiaa", sum := "e9dbacad8c4c151c24150b2396a7ca5b21d4e55b65776c55a90d1e860e55e7e6", func := "inlay/inlaylaw04.SuffixOrders", spec := "suffixOrders", inPlace := ["internal/bytealg.Compare"], unfollowed := true, recurses := true, apart := false, narrowed := true }
def SuffixOrdersUptoSaid : Prop := suffixOrdersUptoRow.holds Try.pinned (OpenSpec.upto suffixOrdersSpec)

/-- 'inlaylaw04.SuffixFinds', WHERE WHAT IT READS IS OF BULK AT MOST 1048576: true; the input reads as it did. -/
def suffixFindsUptoRow : OpenClaim := { program := "ytcelkneeedebiaa", sum := "e9dbacad8c4c151c24150b2396a7ca5b21d4e55b65776c55a90d1e860e55e7e6", func := "inlay/inlaylaw04.SuffixFinds", spec := "suffixFinds", inPlace := ["internal/bytealg.Compare"], unfollowed := true, recurses := true, apart := false, narrowed := true }
def SuffixFindsUptoSaid : Prop := suffixFindsUptoRow.holds Try.pinned (OpenSpec.upto suffixFindsSpec)

/-- 'inlaylaw04.SuffixParts', WHERE WHAT IT READS IS OF BULK AT MOST 1048576: true; the input reads as it did. -/
def suffixPartsUptoRow : OpenClaim := { program := "ytcelkneeedebiaa", sum := "e9dbacad8c4c151c24150b2396a7ca5b21d4e55b65776c55a90d1e860e55e7e6", func := "inlay/inlaylaw04.SuffixParts", spec := "suffixParts", inPlace := ["internal/bytealg.Compare"], unfollowed := true, recurses := true, apart := false, narrowed := true }
def SuffixPartsUptoSaid : Prop := suffixPartsUptoRow.holds Try.pinned (OpenSpec.upto suffixPartsSpec)

/-- 'inlaylaw04.SuffixCommons', WHERE WHAT IT READS IS OF BULK AT MOST 1048576: true; the input reads as it did. -/
def suffixCommonsUptoRow : OpenClaim := { program := "ytcelkneeedebiaa", sum := "e9dbacad8c4c151c24150b2396a7ca5b21d4e55b65776c55a90d1e860e55e7e6", func := "inlay/inlaylaw04.SuffixCommons", spec := "suffixCommons", inPlace := ["internal/bytealg.Compare"], unfollowed := true, recurses := true, apart := false, narrowed := true }
def SuffixCommonsUptoSaid : Prop := suffixCommonsUptoRow.holds Try.pinned (OpenSpec.upto suffixCommonsSpec)

/-- 'inlaylaw04.SuffixEnds', WHERE WHAT IT READS IS OF BULK AT MOST 1048576: true; the input reads as it did. -/
def suffixEndsUptoRow : OpenClaim := { program := "ytcelkneeedebiaa", sum := "e9dbacad8c4c151c24150b2396a7ca5b21d4e55b65776c55a90d1e860e55e7e6", func := "inlay/inlaylaw04.SuffixEnds", spec := "suffixEnds", inPlace := ["internal/bytealg.Compare"], unfollowed := true, recurses := true, apart := false, narrowed := true }
def SuffixEndsUptoSaid : Prop := suffixEndsUptoRow.holds Try.pinned (OpenSpec.upto suffixEndsSpec)

/-- 'inlaylaw04.SuffixBytes', WHERE WHAT IT READS IS OF BULK AT MOST 1048576: true; the input reads as it did. -/
def suffixBytesUptoRow : OpenClaim := { program := "ytcelkneeedebiaa", sum := "e9dbacad8c4c151c24150b2396a7ca5b21d4e55b65776c55a90d1e860e55e7e6", func := "inlay/inlaylaw04.SuffixBytes", spec := "suffixBytes", inPlace := ["internal/bytealg.Compare"], unfollowed := true, recurses := true, apart := false, narrowed := true }
def SuffixBytesUptoSaid : Prop := suffixBytesUptoRow.holds Try.pinned (OpenSpec.upto suffixBytesSpec)

end Rows
end Go.Proofs.Ytcelkneeedebiaa
