/-
  No cell of these rows narrows 'for every input' (looked for: loops, veiled, ifaces, maps, wideKeys, modest, calm, conditions, laid).
  DERIVED. THE GIVEN ROWS OF THIS SEAT. 7 by the template 'for every input the law returns true; each argument reads behind the call as it read before'; 0 by the template 'total and deterministic' (their statements: YteofgkdpknaapaaTotals.lean).
  GIVEN WITH THE SEED: the statements are not yours to turn. If you find one false, say at which input.
  Laid BY PROGRAM, IN A SANDBOX (cutbox-rows.mjs): the forced cells as the released guide's own fill.sh prints them over the translation f9d4ea10abbfed34… (all of the seat's roots in one cut). By AI agents, Wed Nov 11 2026. No macro, syntax, notation, axiom, sorry.
-/
import Derived.Test.YteofgkdpknaapaaChecked
import GoSem.Claim
import GoSem.ClaimJoined
import GoSem.ClaimMapViews
import Derived.JoinedTies
import Derived.KernelRfl
namespace Go.Proofs.Yteofgkdpknaapaa
/- THE CELL 'sum', in the pinned program and in every row, IS THE sha256 OF THE DUMP (.gsa) THAT YteofgkdpknaapaaProg.lean LOADS. Nothing in Lean hashes anything: it is a label: what it is worth is what the hold of that sum in a sandbox is worth. -/
noncomputable def Try.pinned : Pinned := { name := "yteofgkdpknaapaa", sum := "f9d4ea10abbfed34f830469c291d7b270d5fa320016a5df9e36ebf40ca9b5087", checked := Try.checked }
namespace Rows
def none {H : Type} : Left H := { results := [], args := [] }

/-- 'inlaylaw31.NetMatchesReference': WHATEVER THE INPUT: true; the input reads as it did. -/
def netMatchesReferenceSpec : ChangeSpec := { name := "netMatchesReference", fn := fun _ => fun
  | [d1, d2, d3] => { results := [.lit (.bool true)], args := [d1, d2, d3] }
  | _ => none }
def netMatchesReferenceRow : OpenClaim := { program := "yteofgkdpknaapaa", sum := "f9d4ea10abbfed34f830469c291d7b270d5fa320016a5df9e36ebf40ca9b5087", func := "inlay/inlaylaw31.NetMatchesReference", spec := "netMatchesReference", unfollowed := true, recurses := true, apart := false }
def NetMatchesReferenceSaid : Prop := netMatchesReferenceRow.holds Try.pinned (OpenSpec.ofChange netMatchesReferenceSpec)

/-- ITS FALSE NEIGHBOUR: 'it returns false'. Refute it at one input. -/
def netMatchesReferenceWrong : ChangeSpec := { name := "netMatchesReference", fn := fun _ => fun
  | [d1, d2, d3] => { results := [.lit (.bool false)], args := [d1, d2, d3] }
  | _ => none }
def NetMatchesReferenceWrongFalsely : Prop := netMatchesReferenceRow.holds Try.pinned (OpenSpec.ofChange netMatchesReferenceWrong)

/-- 'inlaylaw31.NetBytes': WHATEVER THE INPUT: true; the input reads as it did. -/
def netBytesSpec : ChangeSpec := { name := "netBytes", fn := fun _ => fun
  | [d1, d2] => { results := [.lit (.bool true)], args := [d1, d2] }
  | _ => none }
def netBytesRow : OpenClaim := { program := "yteofgkdpknaapaa", sum := "f9d4ea10abbfed34f830469c291d7b270d5fa320016a5df9e36ebf40ca9b5087", func := "inlay/inlaylaw31.NetBytes", spec := "netBytes", unfollowed := true, recurses := true, apart := false }
def NetBytesSaid : Prop := netBytesRow.holds Try.pinned (OpenSpec.ofChange netBytesSpec)

/-- ITS FALSE NEIGHBOUR: 'it returns false'. Refute it at one input. -/
def netBytesWrong : ChangeSpec := { name := "netBytes", fn := fun _ => fun
  | [d1, d2] => { results := [.lit (.bool false)], args := [d1, d2] }
  | _ => none }
def NetBytesWrongFalsely : Prop := netBytesRow.holds Try.pinned (OpenSpec.ofChange netBytesWrong)

/-- 'inlaylaw31.NetParses': WHATEVER THE INPUT: true; the input reads as it did. -/
def netParsesSpec : ChangeSpec := { name := "netParses", fn := fun _ => fun
  | [d1, d2] => { results := [.lit (.bool true)], args := [d1, d2] }
  | _ => none }
def netParsesRow : OpenClaim := { program := "yteofgkdpknaapaa", sum := "f9d4ea10abbfed34f830469c291d7b270d5fa320016a5df9e36ebf40ca9b5087", func := "inlay/inlaylaw31.NetParses", spec := "netParses", unfollowed := true, recurses := true, apart := false }
def NetParsesSaid : Prop := netParsesRow.holds Try.pinned (OpenSpec.ofChange netParsesSpec)

/-- ITS FALSE NEIGHBOUR: 'it returns false'. Refute it at one input. -/
def netParsesWrong : ChangeSpec := { name := "netParses", fn := fun _ => fun
  | [d1, d2] => { results := [.lit (.bool false)], args := [d1, d2] }
  | _ => none }
def NetParsesWrongFalsely : Prop := netParsesRow.holds Try.pinned (OpenSpec.ofChange netParsesWrong)

/-- 'inlaylaw31.NetTakes': WHATEVER THE INPUT: true; the input reads as it did. -/
def netTakesSpec : ChangeSpec := { name := "netTakes", fn := fun _ => fun
  | [d1, d2] => { results := [.lit (.bool true)], args := [d1, d2] }
  | _ => none }
def netTakesRow : OpenClaim := { program := "yteofgkdpknaapaa", sum := "f9d4ea10abbfed34f830469c291d7b270d5fa320016a5df9e36ebf40ca9b5087", func := "inlay/inlaylaw31.NetTakes", spec := "netTakes", unfollowed := true, recurses := true, apart := false }
def NetTakesSaid : Prop := netTakesRow.holds Try.pinned (OpenSpec.ofChange netTakesSpec)

/-- ITS FALSE NEIGHBOUR: 'it returns false'. Refute it at one input. -/
def netTakesWrong : ChangeSpec := { name := "netTakes", fn := fun _ => fun
  | [d1, d2] => { results := [.lit (.bool false)], args := [d1, d2] }
  | _ => none }
def NetTakesWrongFalsely : Prop := netTakesRow.holds Try.pinned (OpenSpec.ofChange netTakesWrong)

/-- 'inlaylaw31.NetDoubles': WHATEVER THE INPUT: true; the input reads as it did. -/
def netDoublesSpec : ChangeSpec := { name := "netDoubles", fn := fun _ => fun
  | [d1, d2, d3] => { results := [.lit (.bool true)], args := [d1, d2, d3] }
  | _ => none }
def netDoublesRow : OpenClaim := { program := "yteofgkdpknaapaa", sum := "f9d4ea10abbfed34f830469c291d7b270d5fa320016a5df9e36ebf40ca9b5087", func := "inlay/inlaylaw31.NetDoubles", spec := "netDoubles", unfollowed := true, recurses := true, apart := false }
def NetDoublesSaid : Prop := netDoublesRow.holds Try.pinned (OpenSpec.ofChange netDoublesSpec)

/-- ITS FALSE NEIGHBOUR: 'it returns false'. Refute it at one input. -/
def netDoublesWrong : ChangeSpec := { name := "netDoubles", fn := fun _ => fun
  | [d1, d2, d3] => { results := [.lit (.bool false)], args := [d1, d2, d3] }
  | _ => none }
def NetDoublesWrongFalsely : Prop := netDoublesRow.holds Try.pinned (OpenSpec.ofChange netDoublesWrong)

/-- 'inlaylaw31.NetForges': WHATEVER THE INPUT: true; the input reads as it did. -/
def netForgesSpec : ChangeSpec := { name := "netForges", fn := fun _ => fun
  | [d1, d2, d3] => { results := [.lit (.bool true)], args := [d1, d2, d3] }
  | _ => none }
def netForgesRow : OpenClaim := { program := "yteofgkdpknaapaa", sum := "f9d4ea10abbfed34f830469c291d7b270d5fa320016a5df9e36ebf40ca9b5087", func := "inlay/inlaylaw31.NetForges", spec := "netForges", unfollowed := true, recurses := true, apart := false }
def NetForgesSaid : Prop := netForgesRow.holds Try.pinned (OpenSpec.ofChange netForgesSpec)

/-- ITS FALSE NEIGHBOUR: 'it returns false'. Refute it at one input. -/
def netForgesWrong : ChangeSpec := { name := "netForges", fn := fun _ => fun
  | [d1, d2, d3] => { results := [.lit (.bool false)], args := [d1, d2, d3] }
  | _ => none }
def NetForgesWrongFalsely : Prop := netForgesRow.holds Try.pinned (OpenSpec.ofChange netForgesWrong)

/-- 'inlaylaw31.NetSends': WHATEVER THE INPUT: true; the input reads as it did. -/
def netSendsSpec : ChangeSpec := { name := "netSends", fn := fun _ => fun
  | [d1, d2] => { results := [.lit (.bool true)], args := [d1, d2] }
  | _ => none }
def netSendsRow : OpenClaim := { program := "yteofgkdpknaapaa", sum := "f9d4ea10abbfed34f830469c291d7b270d5fa320016a5df9e36ebf40ca9b5087", func := "inlay/inlaylaw31.NetSends", spec := "netSends", unfollowed := true, recurses := true, apart := false }
def NetSendsSaid : Prop := netSendsRow.holds Try.pinned (OpenSpec.ofChange netSendsSpec)

/-- ITS FALSE NEIGHBOUR: 'it returns false'. Refute it at one input. -/
def netSendsWrong : ChangeSpec := { name := "netSends", fn := fun _ => fun
  | [d1, d2] => { results := [.lit (.bool false)], args := [d1, d2] }
  | _ => none }
def NetSendsWrongFalsely : Prop := netSendsRow.holds Try.pinned (OpenSpec.ofChange netSendsWrong)

/- THE SECOND FORM. 'bulk': how many values and letters a reading holds, each counted each time it is reached (what is shared counts as often as it is met; a slice's spare places count too). A statement '..UptoSaid' is the law's where the arguments, and the package variables that the reading takes, are together of bulk at most 1048576: NARROWER than '..Said'. Prove '..Said' where nothing that the law and all that it calls make is longer than what came in: it says more and counts as full. Else prove '..UptoSaid'. A law counts once. -/
mutual
def uptoBulk {H : Type} : DataW H → Nat
  | .lit (.string bytes) => bytes.length + 1
  | .lit _ => 1
  | .nil => 1
  | .ptr d => uptoBulk d + 1
  | .slice elems spare => uptoBulkAll elems + uptoBulkAll spare + 1
  | .agg parts => uptoBulkAll parts + 1
  | .iface _ d => uptoBulk d + 1
  | .map entries => uptoBulkEntries entries + 1
  | .held _ => 1
def uptoBulkAll {H : Type} : List (DataW H) → Nat
  | [] => 0
  | d :: r => uptoBulk d + uptoBulkAll r
def uptoBulkEntries {H : Type} : List (Lit × DataW H) → Nat
  | [] => 0
  | x :: r => uptoBulkEntry x + uptoBulkEntries r
def uptoBulkEntry {H : Type} : Lit × DataW H → Nat
  | (.string bytes, d) => bytes.length + uptoBulk d + 1
  | (_, d) => uptoBulk d + 1
 end
def uptoSmall : (H : Type) → List (DataW H) → Bool := fun _ ds => decide (uptoBulkAll ds ≤ 1048576)
def OpenSpec.upto (s : _root_.Go.ChangeSpec) : _root_.Go.OpenSpec := { _root_.Go.OpenSpec.ofChange s with cond := some uptoSmall }

/-- 'inlaylaw31.NetMatchesReference', WHERE WHAT IT READS IS OF BULK AT MOST 1048576: true; the input reads as it did. -/
def netMatchesReferenceUptoRow : OpenClaim := { program := "yteofgkdpknaapaa", sum := "f9d4ea10abbfed34f830469c291d7b270d5fa320016a5df9e36ebf40ca9b5087", func := "inlay/inlaylaw31.NetMatchesReference", spec := "netMatchesReference", unfollowed := true, recurses := true, apart := false, narrowed := true }
def NetMatchesReferenceUptoSaid : Prop := netMatchesReferenceUptoRow.holds Try.pinned (OpenSpec.upto netMatchesReferenceSpec)

/-- 'inlaylaw31.NetBytes', WHERE WHAT IT READS IS OF BULK AT MOST 1048576: true; the input reads as it did. -/
def netBytesUptoRow : OpenClaim := { program := "yteofgkdpknaapaa", sum := "f9d4ea10abbfed34f830469c291d7b270d5fa320016a5df9e36ebf40ca9b5087", func := "inlay/inlaylaw31.NetBytes", spec := "netBytes", unfollowed := true, recurses := true, apart := false, narrowed := true }
def NetBytesUptoSaid : Prop := netBytesUptoRow.holds Try.pinned (OpenSpec.upto netBytesSpec)

/-- 'inlaylaw31.NetParses', WHERE WHAT IT READS IS OF BULK AT MOST 1048576: true; the input reads as it did. -/
def netParsesUptoRow : OpenClaim := { program := "yteofgkdpknaapaa", sum := "f9d4ea10abbfed34f830469c291d7b270d5fa320016a5df9e36ebf40ca9b5087", func := "inlay/inlaylaw31.NetParses", spec := "netParses", unfollowed := true, recurses := true, apart := false, narrowed := true }
def NetParsesUptoSaid : Prop := netParsesUptoRow.holds Try.pinned (OpenSpec.upto netParsesSpec)

/-- 'inlaylaw31.NetTakes', WHERE WHAT IT READS IS OF BULK AT MOST 1048576: true; the input reads as it did. -/
def netTakesUptoRow : OpenClaim := { program := "yteofgkdpknaapaa", sum := "f9d4ea10abbfed34f830469c291d7b270d5fa320016a5df9e36ebf40ca9b5087", func := "inlay/inlaylaw31.NetTakes", spec := "netTakes", unfollowed := true, recurses := true, apart := false, narrowed := true }
def NetTakesUptoSaid : Prop := netTakesUptoRow.holds Try.pinned (OpenSpec.upto netTakesSpec)

/-- 'inlaylaw31.NetDoubles', WHERE WHAT IT READS IS OF BULK AT MOST 1048576: true; the input reads as it did. -/
def netDoublesUptoRow : OpenClaim := { program := "yteofgkdpknaapaa", sum := "f9d4ea10abbfed34f830469c291d7b270d5fa320016a5df9e36ebf40ca9b5087", func := "inlay/inlaylaw31.NetDoubles", spec := "netDoubles", unfollowed := true, recurses := true, apart := false, narrowed := true }
def NetDoublesUptoSaid : Prop := netDoublesUptoRow.holds Try.pinned (OpenSpec.upto netDoublesSpec)

/-- 'inlaylaw31.NetForges', WHERE WHAT IT READS IS OF BULK AT MOST 1048576: true; the input reads as it did. -/
def netForgesUptoRow : OpenClaim := { program := "yteofgkdpknaapaa", sum := "f9d4ea10abbfed34f830469c291d7b270d5fa320016a5df9e36ebf40ca9b5087", func := "inlay/inlaylaw31.NetForges", spec := "netForges", unfollowed := true, recurses := true, apart := false, narrowed := true }
def NetForgesUptoSaid : Prop := netForgesUptoRow.holds Try.pinned (OpenSpec.upto netForgesSpec)

/-- 'inlaylaw31.NetSends', WHERE WHAT IT READS IS OF BULK AT MOST 1048576: true; the input reads as it did. -/
def netSendsUptoRow : OpenClaim := { program := "yteofgkdpknaapaa", sum := "f9d4ea10abbfed34f830469c291d7b270d5fa320016a5df9e36ebf40ca9b5087", func := "inlay/inlaylaw31.NetSends", spec := "netSends", unfollowed := true, recurses := true, apart := false, narrowed := true }
def NetSendsUptoSaid : Prop := netSendsUptoRow.holds Try.pinned (OpenSpec.upto netSendsSpec)

end Rows
end Go.Proofs.Yteofgkdpknaapaa
