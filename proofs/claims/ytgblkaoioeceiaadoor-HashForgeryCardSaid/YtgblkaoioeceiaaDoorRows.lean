/-
  NARROWER THAN 'FOR EVERY INPUT', by the rows' own cells (each row's printed sentence says how): HashMatchesReference: laid · HashLengths: laid · HashChecks: laid · HashProofs: laid · HashForgery: laid · HashTrees: laid · HashBytes: laid.
  DERIVED. THE GIVEN ROWS OF THIS SEAT. 7 by the template 'for every input the law returns true; each argument reads behind the call as it read before'; 0 by the template 'total and deterministic' (their statements: YtgblkaoioeceiaaDoorTotals.lean).
  GIVEN WITH THE SEED: the statements are not yours to turn. If you find one false, say at which input.
  Laid BY PROGRAM, IN A SANDBOX (cutbox-rows.mjs): the forced cells as the released guide's own fill.sh prints them over the translation b526faf28e25c582… (all of the seat's roots in one cut). By AI agents, Wed Nov 11 2026. No macro, syntax, notation, axiom, sorry.
-/
import Derived.Test.YtgblkaoioeceiaaDoorChecked
import GoSem.Claim
import GoSem.ClaimJoined
import GoSem.ClaimMapViews
import Derived.JoinedTies
import Derived.KernelRfl
namespace Go.Proofs.YtgblkaoioeceiaaDoor
/- THE CELL 'sum', in the pinned program and in every row, IS THE sha256 OF THE DUMP (.gsa) THAT YtgblkaoioeceiaaDoorProg.lean LOADS. Nothing in Lean hashes anything: it is a label: what it is worth is what the hold of that sum in a sandbox is worth. -/
noncomputable def Tryd.pinned : Pinned := { name := "ytgblkaoioeceiaadoor", sum := "b526faf28e25c582f44049a6561989eeb515258c6f20aeb31dd51c1ca76723d7", checked := Tryd.checked }
namespace Rows
def none {H : Type} : Left H := { results := [], args := [] }

/- WHAT THE LISTED PACKAGE-LEVEL VARIABLES READ AS WHEN THE CALL BEGINS. Each datum BY PROGRAM (the guide's laid-datum.mjs) off the statement by which the dump's own 'gosem.cut.vars' lays the variable. In a bare row this is a premise. The card (YtgblkaoioeceiaaDoorCards.lean) ties it to the program's text. -/
def laid_inlay_hash_initial {H : Type} : DataW H := .agg [.lit (.int .u32 1779033703), .lit (.int .u32 3144134277), .lit (.int .u32 1013904242), .lit (.int .u32 2773480762), .lit (.int .u32 1359893119), .lit (.int .u32 2600822924), .lit (.int .u32 528734635), .lit (.int .u32 1541459225)]
def laid_inlay_hash_rounds {H : Type} : DataW H := .agg [.lit (.int .u32 1116352408), .lit (.int .u32 1899447441), .lit (.int .u32 3049323471), .lit (.int .u32 3921009573), .lit (.int .u32 961987163), .lit (.int .u32 1508970993), .lit (.int .u32 2453635748), .lit (.int .u32 2870763221), .lit (.int .u32 3624381080), .lit (.int .u32 310598401), .lit (.int .u32 607225278), .lit (.int .u32 1426881987), .lit (.int .u32 1925078388), .lit (.int .u32 2162078206), .lit (.int .u32 2614888103), .lit (.int .u32 3248222580), .lit (.int .u32 3835390401), .lit (.int .u32 4022224774), .lit (.int .u32 264347078), .lit (.int .u32 604807628), .lit (.int .u32 770255983), .lit (.int .u32 1249150122), .lit (.int .u32 1555081692), .lit (.int .u32 1996064986), .lit (.int .u32 2554220882), .lit (.int .u32 2821834349), .lit (.int .u32 2952996808), .lit (.int .u32 3210313671), .lit (.int .u32 3336571891), .lit (.int .u32 3584528711), .lit (.int .u32 113926993), .lit (.int .u32 338241895), .lit (.int .u32 666307205), .lit (.int .u32 773529912), .lit (.int .u32 1294757372), .lit (.int .u32 1396182291), .lit (.int .u32 1695183700), .lit (.int .u32 1986661051), .lit (.int .u32 2177026350), .lit (.int .u32 2456956037), .lit (.int .u32 2730485921), .lit (.int .u32 2820302411), .lit (.int .u32 3259730800), .lit (.int .u32 3345764771), .lit (.int .u32 3516065817), .lit (.int .u32 3600352804), .lit (.int .u32 4094571909), .lit (.int .u32 275423344), .lit (.int .u32 430227734), .lit (.int .u32 506948616), .lit (.int .u32 659060556), .lit (.int .u32 883997877), .lit (.int .u32 958139571), .lit (.int .u32 1322822218), .lit (.int .u32 1537002063), .lit (.int .u32 1747873779), .lit (.int .u32 1955562222), .lit (.int .u32 2024104815), .lit (.int .u32 2227730452), .lit (.int .u32 2361852424), .lit (.int .u32 2428436474), .lit (.int .u32 2756734187), .lit (.int .u32 3204031479), .lit (.int .u32 3329325298)]

/-- 'inlaylaw15.HashMatchesReference': WHATEVER THE INPUT: true; the input reads as it did. -/
def hashMatchesReferenceSpec : ChangeSpec := { name := "hashMatchesReference", fn := fun _ => fun
  | [d1, d2, d3] => { results := [.lit (.bool true)], args := [d1, d2, d3] }
  | _ => none }
def hashMatchesReferenceRow : OpenClaim := { program := "ytgblkaoioeceiaadoor", sum := "b526faf28e25c582f44049a6561989eeb515258c6f20aeb31dd51c1ca76723d7", func := "inlay/inlaylaw15.HashMatchesReference", spec := "hashMatchesReference", unfollowed := true, recurses := true, named := ["inlay/hash.initial", "inlay/hash.rounds"], apart := false, laid := [("inlay/hash.initial", laid_inlay_hash_initial), ("inlay/hash.rounds", laid_inlay_hash_rounds)] }
def HashMatchesReferenceSaid : Prop := hashMatchesReferenceRow.holds Tryd.pinned (OpenSpec.ofChange hashMatchesReferenceSpec)

/-- ITS FALSE NEIGHBOUR: 'it returns false'. Refute it at one input. -/
def hashMatchesReferenceWrong : ChangeSpec := { name := "hashMatchesReference", fn := fun _ => fun
  | [d1, d2, d3] => { results := [.lit (.bool false)], args := [d1, d2, d3] }
  | _ => none }
def HashMatchesReferenceWrongFalsely : Prop := hashMatchesReferenceRow.holds Tryd.pinned (OpenSpec.ofChange hashMatchesReferenceWrong)

/-- 'inlaylaw15.HashLengths': WHATEVER THE INPUT: true; the input reads as it did. -/
def hashLengthsSpec : ChangeSpec := { name := "hashLengths", fn := fun _ => fun
  | [d1, d2] => { results := [.lit (.bool true)], args := [d1, d2] }
  | _ => none }
def hashLengthsRow : OpenClaim := { program := "ytgblkaoioeceiaadoor", sum := "b526faf28e25c582f44049a6561989eeb515258c6f20aeb31dd51c1ca76723d7", func := "inlay/inlaylaw15.HashLengths", spec := "hashLengths", unfollowed := true, recurses := true, named := ["inlay/hash.initial", "inlay/hash.rounds"], apart := false, laid := [("inlay/hash.initial", laid_inlay_hash_initial), ("inlay/hash.rounds", laid_inlay_hash_rounds)] }
def HashLengthsSaid : Prop := hashLengthsRow.holds Tryd.pinned (OpenSpec.ofChange hashLengthsSpec)

/-- ITS FALSE NEIGHBOUR: 'it returns false'. Refute it at one input. -/
def hashLengthsWrong : ChangeSpec := { name := "hashLengths", fn := fun _ => fun
  | [d1, d2] => { results := [.lit (.bool false)], args := [d1, d2] }
  | _ => none }
def HashLengthsWrongFalsely : Prop := hashLengthsRow.holds Tryd.pinned (OpenSpec.ofChange hashLengthsWrong)

/-- 'inlaylaw15.HashChecks': WHATEVER THE INPUT: true; the input reads as it did. -/
def hashChecksSpec : ChangeSpec := { name := "hashChecks", fn := fun _ => fun
  | [d1, d2] => { results := [.lit (.bool true)], args := [d1, d2] }
  | _ => none }
def hashChecksRow : OpenClaim := { program := "ytgblkaoioeceiaadoor", sum := "b526faf28e25c582f44049a6561989eeb515258c6f20aeb31dd51c1ca76723d7", func := "inlay/inlaylaw15.HashChecks", spec := "hashChecks", unfollowed := true, recurses := true, named := ["inlay/hash.initial", "inlay/hash.rounds"], apart := false, laid := [("inlay/hash.initial", laid_inlay_hash_initial), ("inlay/hash.rounds", laid_inlay_hash_rounds)] }
def HashChecksSaid : Prop := hashChecksRow.holds Tryd.pinned (OpenSpec.ofChange hashChecksSpec)

/-- ITS FALSE NEIGHBOUR: 'it returns false'. Refute it at one input. -/
def hashChecksWrong : ChangeSpec := { name := "hashChecks", fn := fun _ => fun
  | [d1, d2] => { results := [.lit (.bool false)], args := [d1, d2] }
  | _ => none }
def HashChecksWrongFalsely : Prop := hashChecksRow.holds Tryd.pinned (OpenSpec.ofChange hashChecksWrong)

/-- 'inlaylaw15.HashProofs': WHATEVER THE INPUT: true; the input reads as it did. -/
def hashProofsSpec : ChangeSpec := { name := "hashProofs", fn := fun _ => fun
  | [d] => { results := [.lit (.bool true)], args := [d] }
  | _ => none }
def hashProofsRow : OpenClaim := { program := "ytgblkaoioeceiaadoor", sum := "b526faf28e25c582f44049a6561989eeb515258c6f20aeb31dd51c1ca76723d7", func := "inlay/inlaylaw15.HashProofs", spec := "hashProofs", unfollowed := true, recurses := true, named := ["inlay/hash.initial", "inlay/hash.rounds"], apart := false, laid := [("inlay/hash.initial", laid_inlay_hash_initial), ("inlay/hash.rounds", laid_inlay_hash_rounds)] }
def HashProofsSaid : Prop := hashProofsRow.holds Tryd.pinned (OpenSpec.ofChange hashProofsSpec)

/-- ITS FALSE NEIGHBOUR: 'it returns false'. Refute it at one input. -/
def hashProofsWrong : ChangeSpec := { name := "hashProofs", fn := fun _ => fun
  | [d] => { results := [.lit (.bool false)], args := [d] }
  | _ => none }
def HashProofsWrongFalsely : Prop := hashProofsRow.holds Tryd.pinned (OpenSpec.ofChange hashProofsWrong)

/-- 'inlaylaw15.HashForgery': WHATEVER THE INPUT: true; the input reads as it did. -/
def hashForgerySpec : ChangeSpec := { name := "hashForgery", fn := fun _ => fun
  | [d1, d2, d3] => { results := [.lit (.bool true)], args := [d1, d2, d3] }
  | _ => none }
def hashForgeryRow : OpenClaim := { program := "ytgblkaoioeceiaadoor", sum := "b526faf28e25c582f44049a6561989eeb515258c6f20aeb31dd51c1ca76723d7", func := "inlay/inlaylaw15.HashForgery", spec := "hashForgery", unfollowed := true, recurses := true, named := ["inlay/hash.initial", "inlay/hash.rounds"], apart := false, laid := [("inlay/hash.initial", laid_inlay_hash_initial), ("inlay/hash.rounds", laid_inlay_hash_rounds)] }
def HashForgerySaid : Prop := hashForgeryRow.holds Tryd.pinned (OpenSpec.ofChange hashForgerySpec)

/-- ITS FALSE NEIGHBOUR: 'it returns false'. Refute it at one input. -/
def hashForgeryWrong : ChangeSpec := { name := "hashForgery", fn := fun _ => fun
  | [d1, d2, d3] => { results := [.lit (.bool false)], args := [d1, d2, d3] }
  | _ => none }
def HashForgeryWrongFalsely : Prop := hashForgeryRow.holds Tryd.pinned (OpenSpec.ofChange hashForgeryWrong)

/-- 'inlaylaw15.HashTrees': WHATEVER THE INPUT: true; the input reads as it did. -/
def hashTreesSpec : ChangeSpec := { name := "hashTrees", fn := fun _ => fun
  | [d] => { results := [.lit (.bool true)], args := [d] }
  | _ => none }
def hashTreesRow : OpenClaim := { program := "ytgblkaoioeceiaadoor", sum := "b526faf28e25c582f44049a6561989eeb515258c6f20aeb31dd51c1ca76723d7", func := "inlay/inlaylaw15.HashTrees", spec := "hashTrees", unfollowed := true, recurses := true, named := ["inlay/hash.initial", "inlay/hash.rounds"], apart := false, laid := [("inlay/hash.initial", laid_inlay_hash_initial), ("inlay/hash.rounds", laid_inlay_hash_rounds)] }
def HashTreesSaid : Prop := hashTreesRow.holds Tryd.pinned (OpenSpec.ofChange hashTreesSpec)

/-- ITS FALSE NEIGHBOUR: 'it returns false'. Refute it at one input. -/
def hashTreesWrong : ChangeSpec := { name := "hashTrees", fn := fun _ => fun
  | [d] => { results := [.lit (.bool false)], args := [d] }
  | _ => none }
def HashTreesWrongFalsely : Prop := hashTreesRow.holds Tryd.pinned (OpenSpec.ofChange hashTreesWrong)

/-- 'inlaylaw15.HashBytes': WHATEVER THE INPUT: true; the input reads as it did. -/
def hashBytesSpec : ChangeSpec := { name := "hashBytes", fn := fun _ => fun
  | [d1, d2, d3] => { results := [.lit (.bool true)], args := [d1, d2, d3] }
  | _ => none }
def hashBytesRow : OpenClaim := { program := "ytgblkaoioeceiaadoor", sum := "b526faf28e25c582f44049a6561989eeb515258c6f20aeb31dd51c1ca76723d7", func := "inlay/inlaylaw15.HashBytes", spec := "hashBytes", unfollowed := true, recurses := true, named := ["inlay/hash.initial", "inlay/hash.rounds"], apart := false, laid := [("inlay/hash.initial", laid_inlay_hash_initial), ("inlay/hash.rounds", laid_inlay_hash_rounds)] }
def HashBytesSaid : Prop := hashBytesRow.holds Tryd.pinned (OpenSpec.ofChange hashBytesSpec)

/-- ITS FALSE NEIGHBOUR: 'it returns false'. Refute it at one input. -/
def hashBytesWrong : ChangeSpec := { name := "hashBytes", fn := fun _ => fun
  | [d1, d2, d3] => { results := [.lit (.bool false)], args := [d1, d2, d3] }
  | _ => none }
def HashBytesWrongFalsely : Prop := hashBytesRow.holds Tryd.pinned (OpenSpec.ofChange hashBytesWrong)

/- THE SECOND FORM. 'bulk': how many values and letters a reading holds, each counted each time it is reached (what is shared counts as often as it is met; a slice's spare places count too). A statement '..UptoSaid' is the law's where the arguments, and the package variables that the reading takes, are together of bulk at most 1048576: NARROWER than '..Said'. Prove '..Said' where nothing that the law and all that it calls make is longer than what came in: it says more and counts as full. Else prove '..UptoSaid'. A law counts once. -/
mutual
def uptoBulk {H : Type} : DataW H → Nat
  | .lit (.string bytes) => bytes.length + 1
  | .lit _ => 1
  | .nil => 1
  | .ptr d => uptoBulk d + 1
  | .slice elems spare => uptoBulkAll elems + uptoBulkAll spare + 1
  | .agg parts => uptoBulkAll parts + 1
  | .iface _ d => uptoBulk d + 1
  | .map entries => uptoBulkEntries entries + 1
  | .held _ => 1
def uptoBulkAll {H : Type} : List (DataW H) → Nat
  | [] => 0
  | d :: r => uptoBulk d + uptoBulkAll r
def uptoBulkEntries {H : Type} : List (Lit × DataW H) → Nat
  | [] => 0
  | x :: r => uptoBulkEntry x + uptoBulkEntries r
def uptoBulkEntry {H : Type} : Lit × DataW H → Nat
  | (.string bytes, d) => bytes.length + uptoBulk d + 1
  | (_, d) => uptoBulk d + 1
 end
def uptoSmall : (H : Type) → List (DataW H) → Bool := fun _ ds => decide (uptoBulkAll ds ≤ 1048576)
def OpenSpec.upto (s : _root_.Go.ChangeSpec) : _root_.Go.OpenSpec := { _root_.Go.OpenSpec.ofChange s with cond := some uptoSmall }

/-- 'inlaylaw15.HashMatchesReference', WHERE WHAT IT READS IS OF BULK AT MOST 1048576: true; the input reads as it did. -/
def hashMatchesReferenceUptoRow : OpenClaim := { program := "ytgblkaoioeceiaadoor", sum := "b526faf28e25c582f44049a6561989eeb515258c6f20aeb31dd51c1ca76723d7", func := "inlay/inlaylaw15.HashMatchesReference", spec := "hashMatchesReference", unfollowed := true, recurses := true, named := ["inlay/hash.initial", "inlay/hash.rounds"], apart := false, laid := [("inlay/hash.initial", laid_inlay_hash_initial), ("inlay/hash.rounds", laid_inlay_hash_rounds)], narrowed := true }
def HashMatchesReferenceUptoSaid : Prop := hashMatchesReferenceUptoRow.holds Tryd.pinned (OpenSpec.upto hashMatchesReferenceSpec)

/-- 'inlaylaw15.HashLengths', WHERE WHAT IT READS IS OF BULK AT MOST 1048576: true; the input reads as it did. -/
def hashLengthsUptoRow : OpenClaim := { program := "ytgblkaoioeceiaadoor", sum := "b526faf28e25c582f44049a6561989eeb515258c6f20aeb31dd51c1ca76723d7", func := "inlay/inlaylaw15.HashLengths", spec := "hashLengths", unfollowed := true, recurses := true, named := ["inlay/hash.initial", "inlay/hash.rounds"], apart := false, laid := [("inlay/hash.initial", laid_inlay_hash_initial), ("inlay/hash.rounds", laid_inlay_hash_rounds)], narrowed := true }
def HashLengthsUptoSaid : Prop := hashLengthsUptoRow.holds Tryd.pinned (OpenSpec.upto hashLengthsSpec)

/-- 'inlaylaw15.HashChecks', WHERE WHAT IT READS IS OF BULK AT MOST 1048576: true; the input reads as it did. -/
def hashChecksUptoRow : OpenClaim := { program := "ytgblkaoioeceiaadoor", sum := "b526faf28e25c582f44049a6561989eeb515258c6f20aeb31dd51c1ca76723d7", func := "inlay/inlaylaw15.HashChecks", spec := "hashChecks", unfollowed := true, recurses := true, named := ["inlay/hash.initial", "inlay/hash.rounds"], apart := false, laid := [("inlay/hash.initial", laid_inlay_hash_initial), ("inlay/hash.rounds", laid_inlay_hash_rounds)], narrowed := true }
def HashChecksUptoSaid : Prop := hashChecksUptoRow.holds Tryd.pinned (OpenSpec.upto hashChecksSpec)

/-- 'inlaylaw15.HashProofs', WHERE WHAT IT READS IS OF BULK AT MOST 1048576: true; the input reads as it did. -/
def hashProofsUptoRow : OpenClaim := { program := "ytgblkaoioeceiaadoor", sum := "b526faf28e25c582f44049a6561989eeb515258c6f20aeb31dd51c1ca76723d7", func := "inlay/inlaylaw15.HashProofs", spec := "hashProofs", unfollowed := true, recurses := true, named := ["inlay/hash.initial", "inlay/hash.rounds"], apart := false, laid := [("inlay/hash.initial", laid_inlay_hash_initial), ("inlay/hash.rounds", laid_inlay_hash_rounds)], narrowed := true }
def HashProofsUptoSaid : Prop := hashProofsUptoRow.holds Tryd.pinned (OpenSpec.upto hashProofsSpec)

/-- 'inlaylaw15.HashForgery', WHERE WHAT IT READS IS OF BULK AT MOST 1048576: true; the input reads as it did. -/
def hashForgeryUptoRow : OpenClaim := { program := "ytgblkaoioeceiaadoor", sum := "b526faf28e25c582f44049a6561989eeb515258c6f20aeb31dd51c1ca76723d7", func := "inlay/inlaylaw15.HashForgery", spec := "hashForgery", unfollowed := true, recurses := true, named := ["inlay/hash.initial", "inlay/hash.rounds"], apart := false, laid := [("inlay/hash.initial", laid_inlay_hash_initial), ("inlay/hash.rounds", laid_inlay_hash_rounds)], narrowed := true }
def HashForgeryUptoSaid : Prop := hashForgeryUptoRow.holds Tryd.pinned (OpenSpec.upto hashForgerySpec)

/-- 'inlaylaw15.HashTrees', WHERE WHAT IT READS IS OF BULK AT MOST 1048576: true; the input reads as it did. -/
def hashTreesUptoRow : OpenClaim := { program := "ytgblkaoioeceiaadoor", sum := "b526faf28e25c582f44049a6561989eeb515258c6f20aeb31dd51c1ca76723d7", func := "inlay/inlaylaw15.HashTrees", spec := "hashTrees", unfollowed := true, recurses := true, named := ["inlay/hash.initial", "inlay/hash.rounds"], apart := false, laid := [("inlay/hash.initial", laid_inlay_hash_initial), ("inlay/hash.rounds", laid_inlay_hash_rounds)], narrowed := true }
def HashTreesUptoSaid : Prop := hashTreesUptoRow.holds Tryd.pinned (OpenSpec.upto hashTreesSpec)

/-- 'inlaylaw15.HashBytes', WHERE WHAT IT READS IS OF BULK AT MOST 1048576: true; the input reads as it did. -/
def hashBytesUptoRow : OpenClaim := { program := "ytgblkaoioeceiaadoor", sum := "b526faf28e25c582f44049a6561989eeb515258c6f20aeb31dd51c1ca76723d7", func := "inlay/inlaylaw15.HashBytes", spec := "hashBytes", unfollowed := true, recurses := true, named := ["inlay/hash.initial", "inlay/hash.rounds"], apart := false, laid := [("inlay/hash.initial", laid_inlay_hash_initial), ("inlay/hash.rounds", laid_inlay_hash_rounds)], narrowed := true }
def HashBytesUptoSaid : Prop := hashBytesUptoRow.holds Tryd.pinned (OpenSpec.upto hashBytesSpec)

end Rows
end Go.Proofs.YtgblkaoioeceiaaDoor
