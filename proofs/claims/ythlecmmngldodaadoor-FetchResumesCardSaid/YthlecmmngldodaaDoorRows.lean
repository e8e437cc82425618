/-
  NARROWER THAN 'FOR EVERY INPUT', by the rows' own cells (each row's printed sentence says how): FetchMatchesReference: laid · FetchCuts: laid · FetchProves: laid · FetchWants: laid · FetchResumes: laid · FetchLimits: laid · FetchTransfers: laid · TopForgedBytesAreRefused: laid.
  DERIVED. THE GIVEN ROWS OF THIS SEAT. 8 by the template 'for every input the law returns true; each argument reads behind the call as it read before'; 0 by the template 'total and deterministic' (their statements: YthlecmmngldodaaDoorTotals.lean).
  GIVEN WITH THE SEED: the statements are not yours to turn. If you find one false, say at which input.
  Laid BY PROGRAM, IN A SANDBOX (cutbox-rows.mjs): the forced cells as the released guide's own fill.sh prints them over the translation a6daaf7180c298e2… (all of the seat's roots in one cut). By AI agents, Wed Nov 11 2026. No macro, syntax, notation, axiom, sorry.
-/
import Derived.Test.YthlecmmngldodaaDoorChecked
import GoSem.Claim
import GoSem.ClaimJoined
import GoSem.ClaimMapViews
import Derived.JoinedTies
import Derived.KernelRfl
namespace Go.Proofs.YthlecmmngldodaaDoor
/- THE CELL 'sum', in the pinned program and in every row, IS THE sha256 OF THE DUMP (.gsa) THAT YthlecmmngldodaaDoorProg.lean LOADS. Nothing in Lean hashes anything: it is a label: what it is worth is what the hold of that sum in a sandbox is worth. -/
noncomputable def Tryd.pinned : Pinned := { name := "ythlecmmngldodaadoor", sum := "a6daaf7180c298e29e3533211d56b1e319e72443b75304e64c96ebcb2da9d145", checked := Tryd.checked }
namespace Rows
def none {H : Type} : Left H := { results := [], args := [] }

/- WHAT THE LISTED PACKAGE-LEVEL VARIABLES READ AS WHEN THE CALL BEGINS. Each datum BY PROGRAM (the guide's laid-datum.mjs) off the statement by which the dump's own 'gosem.cut.vars' lays the variable. In a bare row this is a premise. The card (YthlecmmngldodaaDoorCards.lean) ties it to the program's text. -/
def laid_inlay_hash_initial {H : Type} : DataW H := .agg [.lit (.int .u32 1779033703), .lit (.int .u32 3144134277), .lit (.int .u32 1013904242), .lit (.int .u32 2773480762), .lit (.int .u32 1359893119), .lit (.int .u32 2600822924), .lit (.int .u32 528734635), .lit (.int .u32 1541459225)]
def laid_inlay_hash_rounds {H : Type} : DataW H := .agg [.lit (.int .u32 1116352408), .lit (.int .u32 1899447441), .lit (.int .u32 3049323471), .lit (.int .u32 3921009573), .lit (.int .u32 961987163), .lit (.int .u32 1508970993), .lit (.int .u32 2453635748), .lit (.int .u32 2870763221), .lit (.int .u32 3624381080), .lit (.int .u32 310598401), .lit (.int .u32 607225278), .lit (.int .u32 1426881987), .lit (.int .u32 1925078388), .lit (.int .u32 2162078206), .lit (.int .u32 2614888103), .lit (.int .u32 3248222580), .lit (.int .u32 3835390401), .lit (.int .u32 4022224774), .lit (.int .u32 264347078), .lit (.int .u32 604807628), .lit (.int .u32 770255983), .lit (.int .u32 1249150122), .lit (.int .u32 1555081692), .lit (.int .u32 1996064986), .lit (.int .u32 2554220882), .lit (.int .u32 2821834349), .lit (.int .u32 2952996808), .lit (.int .u32 3210313671), .lit (.int .u32 3336571891), .lit (.int .u32 3584528711), .lit (.int .u32 113926993), .lit (.int .u32 338241895), .lit (.int .u32 666307205), .lit (.int .u32 773529912), .lit (.int .u32 1294757372), .lit (.int .u32 1396182291), .lit (.int .u32 1695183700), .lit (.int .u32 1986661051), .lit (.int .u32 2177026350), .lit (.int .u32 2456956037), .lit (.int .u32 2730485921), .lit (.int .u32 2820302411), .lit (.int .u32 3259730800), .lit (.int .u32 3345764771), .lit (.int .u32 3516065817), .lit (.int .u32 3600352804), .lit (.int .u32 4094571909), .lit (.int .u32 275423344), .lit (.int .u32 430227734), .lit (.int .u32 506948616), .lit (.int .u32 659060556), .lit (.int .u32 883997877), .lit (.int .u32 958139571), .lit (.int .u32 1322822218), .lit (.int .u32 1537002063), .lit (.int .u32 1747873779), .lit (.int .u32 1955562222), .lit (.int .u32 2024104815), .lit (.int .u32 2227730452), .lit (.int .u32 2361852424), .lit (.int .u32 2428436474), .lit (.int .u32 2756734187), .lit (.int .u32 3204031479), .lit (.int .u32 3329325298)]

/-- 'inlaylaw28.FetchMatchesReference': WHATEVER THE INPUT: true; the input reads as it did. -/
def fetchMatchesReferenceSpec : ChangeSpec := { name := "fetchMatchesReference", fn := fun _ => fun
  | [d1, d2, d3] => { results := [.lit (.bool true)], args := [d1, d2, d3] }
  | _ => none }
def fetchMatchesReferenceRow : OpenClaim := { program := "ythlecmmngldodaadoor", sum := "a6daaf7180c298e29e3533211d56b1e319e72443b75304e64c96ebcb2da9d145", func := "inlay/inlaylaw28.FetchMatchesReference", spec := "fetchMatchesReference", unfollowed := true, recurses := true, named := ["inlay/hash.initial", "inlay/hash.rounds"], apart := false, laid := [("inlay/hash.initial", laid_inlay_hash_initial), ("inlay/hash.rounds", laid_inlay_hash_rounds)] }
def FetchMatchesReferenceSaid : Prop := fetchMatchesReferenceRow.holds Tryd.pinned (OpenSpec.ofChange fetchMatchesReferenceSpec)

/-- ITS FALSE NEIGHBOUR: 'it returns false'. Refute it at one input. -/
def fetchMatchesReferenceWrong : ChangeSpec := { name := "fetchMatchesReference", fn := fun _ => fun
  | [d1, d2, d3] => { results := [.lit (.bool false)], args := [d1, d2, d3] }
  | _ => none }
def FetchMatchesReferenceWrongFalsely : Prop := fetchMatchesReferenceRow.holds Tryd.pinned (OpenSpec.ofChange fetchMatchesReferenceWrong)

/-- 'inlaylaw28.FetchCuts': WHATEVER THE INPUT: true; the input reads as it did. -/
def fetchCutsSpec : ChangeSpec := { name := "fetchCuts", fn := fun _ => fun
  | [d1, d2] => { results := [.lit (.bool true)], args := [d1, d2] }
  | _ => none }
def fetchCutsRow : OpenClaim := { program := "ythlecmmngldodaadoor", sum := "a6daaf7180c298e29e3533211d56b1e319e72443b75304e64c96ebcb2da9d145", func := "inlay/inlaylaw28.FetchCuts", spec := "fetchCuts", unfollowed := true, recurses := true, named := ["inlay/hash.initial", "inlay/hash.rounds"], apart := false, laid := [("inlay/hash.initial", laid_inlay_hash_initial), ("inlay/hash.rounds", laid_inlay_hash_rounds)] }
def FetchCutsSaid : Prop := fetchCutsRow.holds Tryd.pinned (OpenSpec.ofChange fetchCutsSpec)

/-- ITS FALSE NEIGHBOUR: 'it returns false'. Refute it at one input. -/
def fetchCutsWrong : ChangeSpec := { name := "fetchCuts", fn := fun _ => fun
  | [d1, d2] => { results := [.lit (.bool false)], args := [d1, d2] }
  | _ => none }
def FetchCutsWrongFalsely : Prop := fetchCutsRow.holds Tryd.pinned (OpenSpec.ofChange fetchCutsWrong)

/-- 'inlaylaw28.FetchProves': WHATEVER THE INPUT: true; the input reads as it did. -/
def fetchProvesSpec : ChangeSpec := { name := "fetchProves", fn := fun _ => fun
  | [d1, d2, d3] => { results := [.lit (.bool true)], args := [d1, d2, d3] }
  | _ => none }
def fetchProvesRow : OpenClaim := { program := "ythlecmmngldodaadoor", sum := "a6daaf7180c298e29e3533211d56b1e319e72443b75304e64c96ebcb2da9d145", func := "inlay/inlaylaw28.FetchProves", spec := "fetchProves", unfollowed := true, recurses := true, named := ["inlay/hash.initial", "inlay/hash.rounds"], apart := false, laid := [("inlay/hash.initial", laid_inlay_hash_initial), ("inlay/hash.rounds", laid_inlay_hash_rounds)] }
def FetchProvesSaid : Prop := fetchProvesRow.holds Tryd.pinned (OpenSpec.ofChange fetchProvesSpec)

/-- ITS FALSE NEIGHBOUR: 'it returns false'. Refute it at one input. -/
def fetchProvesWrong : ChangeSpec := { name := "fetchProves", fn := fun _ => fun
  | [d1, d2, d3] => { results := [.lit (.bool false)], args := [d1, d2, d3] }
  | _ => none }
def FetchProvesWrongFalsely : Prop := fetchProvesRow.holds Tryd.pinned (OpenSpec.ofChange fetchProvesWrong)

/-- 'inlaylaw28.FetchWants': WHATEVER THE INPUT: true; the input reads as it did. -/
def fetchWantsSpec : ChangeSpec := { name := "fetchWants", fn := fun _ => fun
  | [d1, d2, d3] => { results := [.lit (.bool true)], args := [d1, d2, d3] }
  | _ => none }
def fetchWantsRow : OpenClaim := { program := "ythlecmmngldodaadoor", sum := "a6daaf7180c298e29e3533211d56b1e319e72443b75304e64c96ebcb2da9d145", func := "inlay/inlaylaw28.FetchWants", spec := "fetchWants", unfollowed := true, recurses := true, named := ["inlay/hash.initial", "inlay/hash.rounds"], apart := false, laid := [("inlay/hash.initial", laid_inlay_hash_initial), ("inlay/hash.rounds", laid_inlay_hash_rounds)] }
def FetchWantsSaid : Prop := fetchWantsRow.holds Tryd.pinned (OpenSpec.ofChange fetchWantsSpec)

/-- ITS FALSE NEIGHBOUR: 'it returns false'. Refute it at one input. -/
def fetchWantsWrong : ChangeSpec := { name := "fetchWants", fn := fun _ => fun
  | [d1, d2, d3] => { results := [.lit (.bool false)], args := [d1, d2, d3] }
  | _ => none }
def FetchWantsWrongFalsely : Prop := fetchWantsRow.holds Tryd.pinned (OpenSpec.ofChange fetchWantsWrong)

/-- 'inlaylaw28.FetchResumes': WHATEVER THE INPUT: true; the input reads as it did. -/
def fetchResumesSpec : ChangeSpec := { name := "fetchResumes", fn := fun _ => fun
  | [d1, d2, d3] => { results := [.lit (.bool true)], args := [d1, d2, d3] }
  | _ => none }
def fetchResumesRow : OpenClaim := { program := "ythlecmmngldodaadoor", sum := "a6daaf7180c298e29e3533211d56b1e319e72443b75304e64c96ebcb2da9d145", func := "inlay/inlaylaw28.FetchResumes", spec := "fetchResumes", unfollowed := true, recurses := true, named := ["inlay/hash.initial", "inlay/hash.rounds"], apart := false, laid := [("inlay/hash.initial", laid_inlay_hash_initial), ("inlay/hash.rounds", laid_inlay_hash_rounds)] }
def FetchResumesSaid : Prop := fetchResumesRow.holds Tryd.pinned (OpenSpec.ofChange fetchResumesSpec)

/-- ITS FALSE NEIGHBOUR: 'it returns false'. Refute it at one input. -/
def fetchResumesWrong : ChangeSpec := { name := "fetchResumes", fn := fun _ => fun
  | [d1, d2, d3] => { results := [.lit (.bool false)], args := [d1, d2, d3] }
  | _ => none }
def FetchResumesWrongFalsely : Prop := fetchResumesRow.holds Tryd.pinned (OpenSpec.ofChange fetchResumesWrong)

/-- 'inlaylaw28.FetchLimits': WHATEVER THE INPUT: true; the input reads as it did. -/
def fetchLimitsSpec : ChangeSpec := { name := "fetchLimits", fn := fun _ => fun
  | [d1, d2, d3] => { results := [.lit (.bool true)], args := [d1, d2, d3] }
  | _ => none }
def fetchLimitsRow : OpenClaim := { program := "ythlecmmngldodaadoor", sum := "a6daaf7180c298e29e3533211d56b1e319e72443b75304e64c96ebcb2da9d145", func := "inlay/inlaylaw28.FetchLimits", spec := "fetchLimits", unfollowed := true, recurses := true, named := ["inlay/hash.initial", "inlay/hash.rounds"], apart := false, laid := [("inlay/hash.initial", laid_inlay_hash_initial), ("inlay/hash.rounds", laid_inlay_hash_rounds)] }
def FetchLimitsSaid : Prop := fetchLimitsRow.holds Tryd.pinned (OpenSpec.ofChange fetchLimitsSpec)

/-- ITS FALSE NEIGHBOUR: 'it returns false'. Refute it at one input. -/
def fetchLimitsWrong : ChangeSpec := { name := "fetchLimits", fn := fun _ => fun
  | [d1, d2, d3] => { results := [.lit (.bool false)], args := [d1, d2, d3] }
  | _ => none }
def FetchLimitsWrongFalsely : Prop := fetchLimitsRow.holds Tryd.pinned (OpenSpec.ofChange fetchLimitsWrong)

/-- 'inlaylaw28.FetchTransfers': WHATEVER THE INPUT: true; the input reads as it did. -/
def fetchTransfersSpec : ChangeSpec := { name := "fetchTransfers", fn := fun _ => fun
  | [d1, d2, d3] => { results := [.lit (.bool true)], args := [d1, d2, d3] }
  | _ => none }
def fetchTransfersRow : OpenClaim := { program := "ythlecmmngldodaadoor", sum := "a6daaf7180c298e29e3533211d56b1e319e72443b75304e64c96ebcb2da9d145", func := "inlay/inlaylaw28.FetchTransfers", spec := "fetchTransfers", unfollowed := true, recurses := true, named := ["inlay/hash.initial", "inlay/hash.rounds"], apart := false, laid := [("inlay/hash.initial", laid_inlay_hash_initial), ("inlay/hash.rounds", laid_inlay_hash_rounds)] }
def FetchTransfersSaid : Prop := fetchTransfersRow.holds Tryd.pinned (OpenSpec.ofChange fetchTransfersSpec)

/-- ITS FALSE NEIGHBOUR: 'it returns false'. Refute it at one input. -/
def fetchTransfersWrong : ChangeSpec := { name := "fetchTransfers", fn := fun _ => fun
  | [d1, d2, d3] => { results := [.lit (.bool false)], args := [d1, d2, d3] }
  | _ => none }
def FetchTransfersWrongFalsely : Prop := fetchTransfersRow.holds Tryd.pinned (OpenSpec.ofChange fetchTransfersWrong)

/-- 'inlaytop.TopForgedBytesAreRefused': WHATEVER THE INPUT: true; the input reads as it did. -/
def topForgedBytesAreRefusedSpec : ChangeSpec := { name := "topForgedBytesAreRefused", fn := fun _ => fun
  | [d1, d2, d3] => { results := [.lit (.bool true)], args := [d1, d2, d3] }
  | _ => none }
def topForgedBytesAreRefusedRow : OpenClaim := { program := "ythlecmmngldodaadoor", sum := "a6daaf7180c298e29e3533211d56b1e319e72443b75304e64c96ebcb2da9d145", func := "inlay/inlaytop.TopForgedBytesAreRefused", spec := "topForgedBytesAreRefused", unfollowed := true, recurses := true, named := ["inlay/hash.initial", "inlay/hash.rounds"], apart := false, laid := [("inlay/hash.initial", laid_inlay_hash_initial), ("inlay/hash.rounds", laid_inlay_hash_rounds)] }
def TopForgedBytesAreRefusedSaid : Prop := topForgedBytesAreRefusedRow.holds Tryd.pinned (OpenSpec.ofChange topForgedBytesAreRefusedSpec)

/-- ITS FALSE NEIGHBOUR: 'it returns false'. Refute it at one input. -/
def topForgedBytesAreRefusedWrong : ChangeSpec := { name := "topForgedBytesAreRefused", fn := fun _ => fun
  | [d1, d2, d3] => { results := [.lit (.bool false)], args := [d1, d2, d3] }
  | _ => none }
def TopForgedBytesAreRefusedWrongFalsely : Prop := topForgedBytesAreRefusedRow.holds Tryd.pinned (OpenSpec.ofChange topForgedBytesAreRefusedWrong)

/- THE SECOND FORM. 'bulk': how many values and letters a reading holds, each counted each time it is reached (what is shared counts as often as it is met; a slice's spare places count too). A statement '..UptoSaid' is the law's where the arguments, and the package variables that the reading takes, are together of bulk at most 1048576: NARROWER than '..Said'. Prove '..Said' where nothing that the law and all that it calls make is longer than what came in: it says more and counts as full. Else prove '..UptoSaid'. A law counts once. -/
mutual
def uptoBulk {H : Type} : DataW H → Nat
  | .lit (.string bytes) => bytes.length + 1
  | .lit _ => 1
  | .nil => 1
  | .ptr d => uptoBulk d + 1
  | .slice elems spare => uptoBulkAll elems + uptoBulkAll spare + 1
  | .agg parts => uptoBulkAll parts + 1
  | .iface _ d => uptoBulk d + 1
  | .map entries => uptoBulkEntries entries + 1
  | .held _ => 1
def uptoBulkAll {H : Type} : List (DataW H) → Nat
  | [] => 0
  | d :: r => uptoBulk d + uptoBulkAll r
def uptoBulkEntries {H : Type} : List (Lit × DataW H) → Nat
  | [] => 0
  | x :: r => uptoBulkEntry x + uptoBulkEntries r
def uptoBulkEntry {H : Type} : Lit × DataW H → Nat
  | (.string bytes, d) => bytes.length + uptoBulk d + 1
  | (_, d) => uptoBulk d + 1
 end
def uptoSmall : (H : Type) → List (DataW H) → Bool := fun _ ds => decide (uptoBulkAll ds ≤ 1048576)
def OpenSpec.upto (s : _root_.Go.ChangeSpec) : _root_.Go.OpenSpec := { _root_.Go.OpenSpec.ofChange s with cond := some uptoSmall }

/-- 'inlaylaw28.FetchMatchesReference', WHERE WHAT IT READS IS OF BULK AT MOST 1048576: true; the input reads as it did. -/
def fetchMatchesReferenceUptoRow : OpenClaim := { program := "ythlecmmngldodaadoor", sum := "a6daaf7180c298e29e3533211d56b1e319e72443b75304e64c96ebcb2da9d145", func := "inlay/inlaylaw28.FetchMatchesReference", spec := "fetchMatchesReference", unfollowed := true, recurses := true, named := ["inlay/hash.initial", "inlay/hash.rounds"], apart := false, laid := [("inlay/hash.initial", laid_inlay_hash_initial), ("inlay/hash.rounds", laid_inlay_hash_rounds)], narrowed := true }
def FetchMatchesReferenceUptoSaid : Prop := fetchMatchesReferenceUptoRow.holds Tryd.pinned (OpenSpec.upto fetchMatchesReferenceSpec)

/-- 'inlaylaw28.FetchCuts', WHERE WHAT IT READS IS OF BULK AT MOST 1048576: true; the input reads as it did. -/
def fetchCutsUptoRow : OpenClaim := { program := "ythlecmmngldodaadoor", sum := "a6daaf7180c298e29e3533211d56b1e319e72443b75304e64c96ebcb2da9d145", func := "inlay/inlaylaw28.FetchCuts", spec := "fetchCuts", unfollowed := true, recurses := true, named := ["inlay/hash.initial", "inlay/hash.rounds"], apart := false, laid := [("inlay/hash.initial", laid_inlay_hash_initial), ("inlay/hash.rounds", laid_inlay_hash_rounds)], narrowed := true }
def FetchCutsUptoSaid : Prop := fetchCutsUptoRow.holds Tryd.pinned (OpenSpec.upto fetchCutsSpec)

/-- 'inlaylaw28.FetchProves', WHERE WHAT IT READS IS OF BULK AT MOST 1048576: true; the input reads as it did. -/
def fetchProvesUptoRow : OpenClaim := { program := "ythlecmmngldodaadoor", sum := "a6daaf7180c298e29e3533211d56b1e319e72443b75304e64c96ebcb2da9d145", func := "inlay/inlaylaw28.FetchProves", spec := "fetchProves", unfollowed := true, recurses := true, named := ["inlay/hash.initial", "inlay/hash.rounds"], apart := false, laid := [("inlay/hash.initial", laid_inlay_hash_initial), ("inlay/hash.rounds", laid_inlay_hash_rounds)], narrowed := true }
def FetchProvesUptoSaid : Prop := fetchProvesUptoRow.holds Tryd.pinned (OpenSpec.upto fetchProvesSpec)

/-- 'inlaylaw28.FetchWants', WHERE WHAT IT READS IS OF BULK AT MOST 1048576: true; the input reads as it did. -/
def fetchWantsUptoRow : OpenClaim := { program := "ythlecmmngldodaadoor", sum := "a6daaf7180c298e29e3533211d56b1e319e72443b75304e64c96ebcb2da9d145", func := "inlay/inlaylaw28.FetchWants", spec := "fetchWants", unfollowed := true, recurses := true, named := ["inlay/hash.initial", "inlay/hash.rounds"], apart := false, laid := [("inlay/hash.initial", laid_inlay_hash_initial), ("inlay/hash.rounds", laid_inlay_hash_rounds)], narrowed := true }
def FetchWantsUptoSaid : Prop := fetchWantsUptoRow.holds Tryd.pinned (OpenSpec.upto fetchWantsSpec)

/-- 'inlaylaw28.FetchResumes', WHERE WHAT IT READS IS OF BULK AT MOST 1048576: true; the input reads as it did. -/
def fetchResumesUptoRow : OpenClaim := { program := "ythlecmmngldodaadoor", sum := "a6daaf7180c298e29e3533211d56b1e319e72443b75304e64c96ebcb2da9d145", func := "inlay/inlaylaw28.FetchResumes", spec := "fetchResumes", unfollowed := true, recurses := true, named := ["inlay/hash.initial", "inlay/hash.rounds"], apart := false, laid := [("inlay/hash.initial", laid_inlay_hash_initial), ("inlay/hash.rounds", laid_inlay_hash_rounds)], narrowed := true }
def FetchResumesUptoSaid : Prop := fetchResumesUptoRow.holds Tryd.pinned (OpenSpec.upto fetchResumesSpec)

/-- 'inlaylaw28.FetchLimits', WHERE WHAT IT READS IS OF BULK AT MOST 1048576: true; the input reads as it did. -/
def fetchLimitsUptoRow : OpenClaim := { program := "ythlecmmngldodaadoor", sum := "a6daaf7180c298e29e3533211d56b1e319e72443b75304e64c96ebcb2da9d145", func := "inlay/inlaylaw28.FetchLimits", spec := "fetchLimits", unfollowed := true, recurses := true, named := ["inlay/hash.initial", "inlay/hash.rounds"], apart := false, laid := [("inlay/hash.initial", laid_inlay_hash_initial), ("inlay/hash.rounds", laid_inlay_hash_rounds)], narrowed := true }
def FetchLimitsUptoSaid : Prop := fetchLimitsUptoRow.holds Tryd.pinned (OpenSpec.upto fetchLimitsSpec)

/-- 'inlaylaw28.FetchTransfers', WHERE WHAT IT READS IS OF BULK AT MOST 1048576: true; the input reads as it did. -/
def fetchTransfersUptoRow : OpenClaim := { program := "ythlecmmngldodaadoor", sum := "a6daaf7180c298e29e3533211d56b1e319e72443b75304e64c96ebcb2da9d145", func := "inlay/inlaylaw28.FetchTransfers", spec := "fetchTransfers", unfollowed := true, recurses := true, named := ["inlay/hash.initial", "inlay/hash.rounds"], apart := false, laid := [("inlay/hash.initial", laid_inlay_hash_initial), ("inlay/hash.rounds", laid_inlay_hash_rounds)], narrowed := true }
def FetchTransfersUptoSaid : Prop := fetchTransfersUptoRow.holds Tryd.pinned (OpenSpec.upto fetchTransfersSpec)

/-- 'inlaytop.TopForgedBytesAreRefused', WHERE WHAT IT READS IS OF BULK AT MOST 1048576: true; the input reads as it did. -/
def topForgedBytesAreRefusedUptoRow : OpenClaim := { program := "ythlecmmngldodaadoor", sum := "a6daaf7180c298e29e3533211d56b1e319e72443b75304e64c96ebcb2da9d145", func := "inlay/inlaytop.TopForgedBytesAreRefused", spec := "topForgedBytesAreRefused", unfollowed := true, recurses := true, named := ["inlay/hash.initial", "inlay/hash.rounds"], apart := false, laid := [("inlay/hash.initial", laid_inlay_hash_initial), ("inlay/hash.rounds", laid_inlay_hash_rounds)], narrowed := true }
def TopForgedBytesAreRefusedUptoSaid : Prop := topForgedBytesAreRefusedUptoRow.holds Tryd.pinned (OpenSpec.upto topForgedBytesAreRefusedSpec)

end Rows
end Go.Proofs.YthlecmmngldodaaDoor
