/-
  No cell of these rows narrows 'for every input' (looked for: loops, veiled, ifaces, maps, wideKeys, modest, calm, conditions, laid).
  DERIVED. THE GIVEN ROWS OF THIS SEAT. 8 by the template 'for every input the law returns true; each argument reads behind the call as it read before'; 0 by the template 'total and deterministic' (their statements: YtgelchbbknckcaaTotals.lean).
  GIVEN WITH THE SEED: the statements are not yours to turn. If you find one false, say at which input.
  Laid BY PROGRAM, IN A SANDBOX (cutbox-rows.mjs): the forced cells as the released guide's own fill.sh prints them over the translation 63fb253986401ce8… (all of the seat's roots in one cut). By AI agents, Wed Nov 11 2026. No macro, syntax, notation, axiom, sorry.
-/
import Derived.Test.YtgelchbbknckcaaChecked
import GoSem.Claim
import GoSem.ClaimJoined
import GoSem.ClaimMapViews
import Derived.JoinedTies
import Derived.KernelRfl
namespace Go.Proofs.Ytgelchbbknckcaa
/- THE CELL 'sum', in the pinned program and in every row, IS THE sha256 OF THE DUMP (.gsa) THAT YtgelchbbknckcaaProg.lean LOADS. Nothing in Lean hashes anything: it is a label: what it is worth is what the hold of that sum in a sandbox is worth. -/
noncomputable def Try.pinned : Pinned := { name := "ytgelchbbknckcaa", sum := "63fb253986401ce80f2bfba61156e9503ae02a284597d7e6bc31a35b3559271e", checked := Try.checked }
namespace Rows
def none {H : Type} : Left H := { results := [], args := [] }

/-- 'inlaylaw29.GraphMatchesReference': WHATEVER THE INPUT: true; the input reads as it did. -/
def graphMatchesReferenceSpec : ChangeSpec := { name := "graphMatchesReference", fn := fun _ => fun
  | [d1, d2, d3] => { results := [.lit (.bool true)], args := [d1, d2, d3] }
  | _ => none }
def graphMatchesReferenceRow : OpenClaim := { program := "ytgelchbbknckcaa", sum := "63fb253986401ce80f2bfba61156e9503ae02a284597d7e6bc31a35b3559271e", func := "inlay/inlaylaw29.GraphMatchesReference", spec := "graphMatchesReference", unfollowed := true, recurses := true, apart := false }
def GraphMatchesReferenceSaid : Prop := graphMatchesReferenceRow.holds Try.pinned (OpenSpec.ofChange graphMatchesReferenceSpec)

/-- ITS FALSE NEIGHBOUR: 'it returns false'. Refute it at one input. -/
def graphMatchesReferenceWrong : ChangeSpec := { name := "graphMatchesReference", fn := fun _ => fun
  | [d1, d2, d3] => { results := [.lit (.bool false)], args := [d1, d2, d3] }
  | _ => none }
def GraphMatchesReferenceWrongFalsely : Prop := graphMatchesReferenceRow.holds Try.pinned (OpenSpec.ofChange graphMatchesReferenceWrong)

/-- 'inlaylaw29.GraphValid': WHATEVER THE INPUT: true; the input reads as it did. -/
def graphValidSpec : ChangeSpec := { name := "graphValid", fn := fun _ => fun
  | [d1, d2, d3] => { results := [.lit (.bool true)], args := [d1, d2, d3] }
  | _ => none }
def graphValidRow : OpenClaim := { program := "ytgelchbbknckcaa", sum := "63fb253986401ce80f2bfba61156e9503ae02a284597d7e6bc31a35b3559271e", func := "inlay/inlaylaw29.GraphValid", spec := "graphValid", unfollowed := true, recurses := true, apart := false }
def GraphValidSaid : Prop := graphValidRow.holds Try.pinned (OpenSpec.ofChange graphValidSpec)

/-- ITS FALSE NEIGHBOUR: 'it returns false'. Refute it at one input. -/
def graphValidWrong : ChangeSpec := { name := "graphValid", fn := fun _ => fun
  | [d1, d2, d3] => { results := [.lit (.bool false)], args := [d1, d2, d3] }
  | _ => none }
def GraphValidWrongFalsely : Prop := graphValidRow.holds Try.pinned (OpenSpec.ofChange graphValidWrong)

/-- 'inlaylaw29.GraphWays': WHATEVER THE INPUT: true; the input reads as it did. -/
def graphWaysSpec : ChangeSpec := { name := "graphWays", fn := fun _ => fun
  | [d1, d2, d3] => { results := [.lit (.bool true)], args := [d1, d2, d3] }
  | _ => none }
def graphWaysRow : OpenClaim := { program := "ytgelchbbknckcaa", sum := "63fb253986401ce80f2bfba61156e9503ae02a284597d7e6bc31a35b3559271e", func := "inlay/inlaylaw29.GraphWays", spec := "graphWays", unfollowed := true, recurses := true, apart := false }
def GraphWaysSaid : Prop := graphWaysRow.holds Try.pinned (OpenSpec.ofChange graphWaysSpec)

/-- ITS FALSE NEIGHBOUR: 'it returns false'. Refute it at one input. -/
def graphWaysWrong : ChangeSpec := { name := "graphWays", fn := fun _ => fun
  | [d1, d2, d3] => { results := [.lit (.bool false)], args := [d1, d2, d3] }
  | _ => none }
def GraphWaysWrongFalsely : Prop := graphWaysRow.holds Try.pinned (OpenSpec.ofChange graphWaysWrong)

/-- 'inlaylaw29.GraphReaches': WHATEVER THE INPUT: true; the input reads as it did. -/
def graphReachesSpec : ChangeSpec := { name := "graphReaches", fn := fun _ => fun
  | [d1, d2, d3] => { results := [.lit (.bool true)], args := [d1, d2, d3] }
  | _ => none }
def graphReachesRow : OpenClaim := { program := "ytgelchbbknckcaa", sum := "63fb253986401ce80f2bfba61156e9503ae02a284597d7e6bc31a35b3559271e", func := "inlay/inlaylaw29.GraphReaches", spec := "graphReaches", unfollowed := true, recurses := true, apart := false }
def GraphReachesSaid : Prop := graphReachesRow.holds Try.pinned (OpenSpec.ofChange graphReachesSpec)

/-- ITS FALSE NEIGHBOUR: 'it returns false'. Refute it at one input. -/
def graphReachesWrong : ChangeSpec := { name := "graphReaches", fn := fun _ => fun
  | [d1, d2, d3] => { results := [.lit (.bool false)], args := [d1, d2, d3] }
  | _ => none }
def GraphReachesWrongFalsely : Prop := graphReachesRow.holds Try.pinned (OpenSpec.ofChange graphReachesWrong)

/-- 'inlaylaw29.GraphParts': WHATEVER THE INPUT: true; the input reads as it did. -/
def graphPartsSpec : ChangeSpec := { name := "graphParts", fn := fun _ => fun
  | [d1, d2, d3] => { results := [.lit (.bool true)], args := [d1, d2, d3] }
  | _ => none }
def graphPartsRow : OpenClaim := { program := "ytgelchbbknckcaa", sum := "63fb253986401ce80f2bfba61156e9503ae02a284597d7e6bc31a35b3559271e", func := "inlay/inlaylaw29.GraphParts", spec := "graphParts", unfollowed := true, recurses := true, apart := false }
def GraphPartsSaid : Prop := graphPartsRow.holds Try.pinned (OpenSpec.ofChange graphPartsSpec)

/-- ITS FALSE NEIGHBOUR: 'it returns false'. Refute it at one input. -/
def graphPartsWrong : ChangeSpec := { name := "graphParts", fn := fun _ => fun
  | [d1, d2, d3] => { results := [.lit (.bool false)], args := [d1, d2, d3] }
  | _ => none }
def GraphPartsWrongFalsely : Prop := graphPartsRow.holds Try.pinned (OpenSpec.ofChange graphPartsWrong)

/-- 'inlaylaw29.GraphLimits': WHATEVER THE INPUT: true; the input reads as it did. -/
def graphLimitsSpec : ChangeSpec := { name := "graphLimits", fn := fun _ => fun
  | [d1, d2, d3] => { results := [.lit (.bool true)], args := [d1, d2, d3] }
  | _ => none }
def graphLimitsRow : OpenClaim := { program := "ytgelchbbknckcaa", sum := "63fb253986401ce80f2bfba61156e9503ae02a284597d7e6bc31a35b3559271e", func := "inlay/inlaylaw29.GraphLimits", spec := "graphLimits", unfollowed := true, recurses := true, apart := false }
def GraphLimitsSaid : Prop := graphLimitsRow.holds Try.pinned (OpenSpec.ofChange graphLimitsSpec)

/-- ITS FALSE NEIGHBOUR: 'it returns false'. Refute it at one input. -/
def graphLimitsWrong : ChangeSpec := { name := "graphLimits", fn := fun _ => fun
  | [d1, d2, d3] => { results := [.lit (.bool false)], args := [d1, d2, d3] }
  | _ => none }
def GraphLimitsWrongFalsely : Prop := graphLimitsRow.holds Try.pinned (OpenSpec.ofChange graphLimitsWrong)

/-- 'inlaylaw29.GraphLinks': WHATEVER THE INPUT: true; the input reads as it did. -/
def graphLinksSpec : ChangeSpec := { name := "graphLinks", fn := fun _ => fun
  | [d1, d2] => { results := [.lit (.bool true)], args := [d1, d2] }
  | _ => none }
def graphLinksRow : OpenClaim := { program := "ytgelchbbknckcaa", sum := "63fb253986401ce80f2bfba61156e9503ae02a284597d7e6bc31a35b3559271e", func := "inlay/inlaylaw29.GraphLinks", spec := "graphLinks", unfollowed := true, recurses := true, apart := false }
def GraphLinksSaid : Prop := graphLinksRow.holds Try.pinned (OpenSpec.ofChange graphLinksSpec)

/-- ITS FALSE NEIGHBOUR: 'it returns false'. Refute it at one input. -/
def graphLinksWrong : ChangeSpec := { name := "graphLinks", fn := fun _ => fun
  | [d1, d2] => { results := [.lit (.bool false)], args := [d1, d2] }
  | _ => none }
def GraphLinksWrongFalsely : Prop := graphLinksRow.holds Try.pinned (OpenSpec.ofChange graphLinksWrong)

/-- 'inlaylaw29.GraphDetours': WHATEVER THE INPUT: true; the input reads as it did. -/
def graphDetoursSpec : ChangeSpec := { name := "graphDetours", fn := fun _ => fun
  | [d1, d2, d3] => { results := [.lit (.bool true)], args := [d1, d2, d3] }
  | _ => none }
def graphDetoursRow : OpenClaim := { program := "ytgelchbbknckcaa", sum := "63fb253986401ce80f2bfba61156e9503ae02a284597d7e6bc31a35b3559271e", func := "inlay/inlaylaw29.GraphDetours", spec := "graphDetours", unfollowed := true, recurses := true, apart := false }
def GraphDetoursSaid : Prop := graphDetoursRow.holds Try.pinned (OpenSpec.ofChange graphDetoursSpec)

/-- ITS FALSE NEIGHBOUR: 'it returns false'. Refute it at one input. -/
def graphDetoursWrong : ChangeSpec := { name := "graphDetours", fn := fun _ => fun
  | [d1, d2, d3] => { results := [.lit (.bool false)], args := [d1, d2, d3] }
  | _ => none }
def GraphDetoursWrongFalsely : Prop := graphDetoursRow.holds Try.pinned (OpenSpec.ofChange graphDetoursWrong)

/- THE SECOND FORM. 'bulk': how many values and letters a reading holds, each counted each time it is reached (what is shared counts as often as it is met; a slice's spare places count too). A statement '..UptoSaid' is the law's where the arguments, and the package variables that the reading takes, are together of bulk at most 1048576: NARROWER than '..Said'. Prove '..Said' where nothing that the law and all that it calls make is longer than what came in: it says more and counts as full. Else prove '..UptoSaid'. A law counts once. -/
mutual
def uptoBulk {H : Type} : DataW H → Nat
  | .lit (.string bytes) => bytes.length + 1
  | .lit _ => 1
  | .nil => 1
  | .ptr d => uptoBulk d + 1
  | .slice elems spare => uptoBulkAll elems + uptoBulkAll spare + 1
  | .agg parts => uptoBulkAll parts + 1
  | .iface _ d => uptoBulk d + 1
  | .map entries => uptoBulkEntries entries + 1
  | .held _ => 1
def uptoBulkAll {H : Type} : List (DataW H) → Nat
  | [] => 0
  | d :: r => uptoBulk d + uptoBulkAll r
def uptoBulkEntries {H : Type} : List (Lit × DataW H) → Nat
  | [] => 0
  | x :: r => uptoBulkEntry x + uptoBulkEntries r
def uptoBulkEntry {H : Type} : Lit × DataW H → Nat
  | (.string bytes, d) => bytes.length + uptoBulk d + 1
  | (_, d) => uptoBulk d + 1
 end
def uptoSmall : (H : Type) → List (DataW H) → Bool := fun _ ds => decide (uptoBulkAll ds ≤ 1048576)
def OpenSpec.upto (s : _root_.Go.ChangeSpec) : _root_.Go.OpenSpec := { _root_.Go.OpenSpec.ofChange s with cond := some uptoSmall }

/-- 'inlaylaw29.GraphMatchesReference', WHERE WHAT IT READS IS OF BULK AT MOST 1048576: true; the input reads as it did. -/
def graphMatchesReferenceUptoRow : OpenClaim := { program := "ytgelchbbknckcaa", sum := "63fb253986401ce80f2bfba61156e9503ae02a284597d7e6bc31a35b3559271e", func := "inlay/inlaylaw29.GraphMatchesReference", spec := "graphMatchesReference", unfollowed := true, recurses := true, apart := false, narrowed := true }
def GraphMatchesReferenceUptoSaid : Prop := graphMatchesReferenceUptoRow.holds Try.pinned (OpenSpec.upto graphMatchesReferenceSpec)

/-- 'inlaylaw29.GraphValid', WHERE WHAT IT READS IS OF BULK AT MOST 1048576: true; the input reads as it did. -/
def graphValidUptoRow : OpenClaim := { program := "ytgelchbbknckcaa", sum := "63fb253986401ce80f2bfba61156e9503ae02a284597d7e6bc31a35b3559271e", func := "inlay/inlaylaw29.GraphValid", spec := "graphValid", unfollowed := true, recurses := true, apart := false, narrowed := true }
def GraphValidUptoSaid : Prop := graphValidUptoRow.holds Try.pinned (OpenSpec.upto graphValidSpec)

/-- 'inlaylaw29.GraphWays', WHERE WHAT IT READS IS OF BULK AT MOST 1048576: true; the input reads as it did. -/
def graphWaysUptoRow : OpenClaim := { program := "ytgelchbbknckcaa", sum := "63fb253986401ce80f2bfba61156e9503ae02a284597d7e6bc31a35b3559271e", func := "inlay/inlaylaw29.GraphWays", spec := "graphWays", unfollowed := true, recurses := true, apart := false, narrowed := true }
def GraphWaysUptoSaid : Prop := graphWaysUptoRow.holds Try.pinned (OpenSpec.upto graphWaysSpec)

/-- 'inlaylaw29.GraphReaches', WHERE WHAT IT READS IS OF BULK AT MOST 1048576: true; the input reads as it did. -/
def graphReachesUptoRow : OpenClaim := { program := "ytgelchbbknckcaa", sum := "63fb253986401ce80f2bfba61156e9503ae02a284597d7e6bc31a35b3559271e", func := "inlay/inlaylaw29.GraphReaches", spec := "graphReaches", unfollowed := true, recurses := true, apart := false, narrowed := true }
def GraphReachesUptoSaid : Prop := graphReachesUptoRow.holds Try.pinned (OpenSpec.upto graphReachesSpec)

/-- 'inlaylaw29.GraphParts', WHERE WHAT IT READS IS OF BULK AT MOST 1048576: true; the input reads as it did. -/
def graphPartsUptoRow : OpenClaim := { program := "ytgelchbbknckcaa", sum := "63fb253986401ce80f2bfba61156e9503ae02a284597d7e6bc31a35b3559271e", func := "inlay/inlaylaw29.GraphParts", spec := "graphParts", unfollowed := true, recurses := true, apart := false, narrowed := true }
def GraphPartsUptoSaid : Prop := graphPartsUptoRow.holds Try.pinned (OpenSpec.upto graphPartsSpec)

/-- 'inlaylaw29.GraphLimits', WHERE WHAT IT READS IS OF BULK AT MOST 1048576: true; the input reads as it did. -/
def graphLimitsUptoRow : OpenClaim := { program := "ytgelchbbknckcaa", sum := "63fb253986401ce80f2bfba61156e9503ae02a284597d7e6bc31a35b3559271e", func := "inlay/inlaylaw29.GraphLimits", spec := "graphLimits", unfollowed := true, recurses := true, apart := false, narrowed := true }
def GraphLimitsUptoSaid : Prop := graphLimitsUptoRow.holds Try.pinned (OpenSpec.upto graphLimitsSpec)

/-- 'inlaylaw29.GraphLinks', WHERE WHAT IT READS IS OF BULK AT MOST 1048576: true; the input reads as it did. -/
def graphLinksUptoRow : OpenClaim := { program := "ytgelchbbknckcaa", sum := "63fb253986401ce80f2bfba61156e9503ae02a284597d7e6bc31a35b3559271e", func := "inlay/inlaylaw29.GraphLinks", spec := "graphLinks", unfollowed := true, recurses := true, apart := false, narrowed := true }
def GraphLinksUptoSaid : Prop := graphLinksUptoRow.holds Try.pinned (OpenSpec.upto graphLinksSpec)

/-- 'inlaylaw29.GraphDetours', WHERE WHAT IT READS IS OF BULK AT MOST 1048576: true; the input reads as it did. -/
def graphDetoursUptoRow : OpenClaim := { program := "ytgelchbbknckcaa", sum := "63fb253986401ce80f2bfba61156e9503ae02a284597d7e6bc31a35b3559271e", func := "inlay/inlaylaw29.GraphDetours", spec := "graphDetours", unfollowed := true, recurses := true, apart := false, narrowed := true }
def GraphDetoursUptoSaid : Prop := graphDetoursUptoRow.holds Try.pinned (OpenSpec.upto graphDetoursSpec)

end Rows
end Go.Proofs.Ytgelchbbknckcaa
