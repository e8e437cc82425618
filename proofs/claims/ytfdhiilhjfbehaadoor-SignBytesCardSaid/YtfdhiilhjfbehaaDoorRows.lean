/-
  NARROWER THAN 'FOR EVERY INPUT', by the rows' own cells (each row's printed sentence says how): SignMatchesReference: laid · SignVerifies: laid · SignUses: laid · SignExplains: laid · SignSecrets: laid · SignKeys: laid · SignBytes: laid.
  DERIVED. THE GIVEN ROWS OF THIS SEAT. 7 by the template 'for every input the law returns true; each argument reads behind the call as it read before'; 0 by the template 'total and deterministic' (their statements: YtfdhiilhjfbehaaDoorTotals.lean).
  GIVEN WITH THE SEED: the statements are not yours to turn. If you find one false, say at which input.
  Laid BY PROGRAM, IN A SANDBOX (cutbox-rows.mjs): the forced cells as the released guide's own fill.sh prints them over the translation dfc820cda8e94053… (all of the seat's roots in one cut). By AI agents, Wed Nov 11 2026. No macro, syntax, notation, axiom, sorry.
-/
import Derived.Test.YtfdhiilhjfbehaaDoorChecked
import GoSem.Claim
import GoSem.ClaimJoined
import GoSem.ClaimMapViews
import Derived.JoinedTies
import Derived.KernelRfl
namespace Go.Proofs.YtfdhiilhjfbehaaDoor
/- THE CELL 'sum', in the pinned program and in every row, IS THE sha256 OF THE DUMP (.gsa) THAT YtfdhiilhjfbehaaDoorProg.lean LOADS. Nothing in Lean hashes anything: it is a label: what it is worth is what the hold of that sum in a sandbox is worth. -/
noncomputable def Tryd.pinned : Pinned := { name := "ytfdhiilhjfbehaadoor", sum := "dfc820cda8e94053b88c738cbe98387c6dc3e2b54f2f30f6ce8610bbeb5c3820", checked := Tryd.checked }
namespace Rows
def none {H : Type} : Left H := { results := [], args := [] }

/- WHAT THE LISTED PACKAGE-LEVEL VARIABLES READ AS WHEN THE CALL BEGINS. Each datum BY PROGRAM (the guide's laid-datum.mjs) off the statement by which the dump's own 'gosem.cut.vars' lays the variable. In a bare row this is a premise. The card (YtfdhiilhjfbehaaDoorCards.lean) ties it to the program's text. -/
def laid_inlay_hash_initial {H : Type} : DataW H := .agg [.lit (.int .u32 1779033703), .lit (.int .u32 3144134277), .lit (.int .u32 1013904242), .lit (.int .u32 2773480762), .lit (.int .u32 1359893119), .lit (.int .u32 2600822924), .lit (.int .u32 528734635), .lit (.int .u32 1541459225)]
def laid_inlay_hash_rounds {H : Type} : DataW H := .agg [.lit (.int .u32 1116352408), .lit (.int .u32 1899447441), .lit (.int .u32 3049323471), .lit (.int .u32 3921009573), .lit (.int .u32 961987163), .lit (.int .u32 1508970993), .lit (.int .u32 2453635748), .lit (.int .u32 2870763221), .lit (.int .u32 3624381080), .lit (.int .u32 310598401), .lit (.int .u32 607225278), .lit (.int .u32 1426881987), .lit (.int .u32 1925078388), .lit (.int .u32 2162078206), .lit (.int .u32 2614888103), .lit (.int .u32 3248222580), .lit (.int .u32 3835390401), .lit (.int .u32 4022224774), .lit (.int .u32 264347078), .lit (.int .u32 604807628), .lit (.int .u32 770255983), .lit (.int .u32 1249150122), .lit (.int .u32 1555081692), .lit (.int .u32 1996064986), .lit (.int .u32 2554220882), .lit (.int .u32 2821834349), .lit (.int .u32 2952996808), .lit (.int .u32 3210313671), .lit (.int .u32 3336571891), .lit (.int .u32 3584528711), .lit (.int .u32 113926993), .lit (.int .u32 338241895), .lit (.int .u32 666307205), .lit (.int .u32 773529912), .lit (.int .u32 1294757372), .lit (.int .u32 1396182291), .lit (.int .u32 1695183700), .lit (.int .u32 1986661051), .lit (.int .u32 2177026350), .lit (.int .u32 2456956037), .lit (.int .u32 2730485921), .lit (.int .u32 2820302411), .lit (.int .u32 3259730800), .lit (.int .u32 3345764771), .lit (.int .u32 3516065817), .lit (.int .u32 3600352804), .lit (.int .u32 4094571909), .lit (.int .u32 275423344), .lit (.int .u32 430227734), .lit (.int .u32 506948616), .lit (.int .u32 659060556), .lit (.int .u32 883997877), .lit (.int .u32 958139571), .lit (.int .u32 1322822218), .lit (.int .u32 1537002063), .lit (.int .u32 1747873779), .lit (.int .u32 1955562222), .lit (.int .u32 2024104815), .lit (.int .u32 2227730452), .lit (.int .u32 2361852424), .lit (.int .u32 2428436474), .lit (.int .u32 2756734187), .lit (.int .u32 3204031479), .lit (.int .u32 3329325298)]

/-- 'inlaylaw16.SignMatchesReference': WHATEVER THE INPUT: true; the input reads as it did. -/
def signMatchesReferenceSpec : ChangeSpec := { name := "signMatchesReference", fn := fun _ => fun
  | [d1, d2, d3] => { results := [.lit (.bool true)], args := [d1, d2, d3] }
  | _ => none }
def signMatchesReferenceRow : OpenClaim := { program := "ytfdhiilhjfbehaadoor", sum := "dfc820cda8e94053b88c738cbe98387c6dc3e2b54f2f30f6ce8610bbeb5c3820", func := "inlay/inlaylaw16.SignMatchesReference", spec := "signMatchesReference", unfollowed := true, recurses := true, named := ["inlay/hash.initial", "inlay/hash.rounds"], apart := false, laid := [("inlay/hash.initial", laid_inlay_hash_initial), ("inlay/hash.rounds", laid_inlay_hash_rounds)] }
def SignMatchesReferenceSaid : Prop := signMatchesReferenceRow.holds Tryd.pinned (OpenSpec.ofChange signMatchesReferenceSpec)

/-- ITS FALSE NEIGHBOUR: 'it returns false'. Refute it at one input. -/
def signMatchesReferenceWrong : ChangeSpec := { name := "signMatchesReference", fn := fun _ => fun
  | [d1, d2, d3] => { results := [.lit (.bool false)], args := [d1, d2, d3] }
  | _ => none }
def SignMatchesReferenceWrongFalsely : Prop := signMatchesReferenceRow.holds Tryd.pinned (OpenSpec.ofChange signMatchesReferenceWrong)

/-- 'inlaylaw16.SignVerifies': WHATEVER THE INPUT: true; the input reads as it did. -/
def signVerifiesSpec : ChangeSpec := { name := "signVerifies", fn := fun _ => fun
  | [d1, d2, d3] => { results := [.lit (.bool true)], args := [d1, d2, d3] }
  | _ => none }
def signVerifiesRow : OpenClaim := { program := "ytfdhiilhjfbehaadoor", sum := "dfc820cda8e94053b88c738cbe98387c6dc3e2b54f2f30f6ce8610bbeb5c3820", func := "inlay/inlaylaw16.SignVerifies", spec := "signVerifies", unfollowed := true, recurses := true, named := ["inlay/hash.initial", "inlay/hash.rounds"], apart := false, laid := [("inlay/hash.initial", laid_inlay_hash_initial), ("inlay/hash.rounds", laid_inlay_hash_rounds)] }
def SignVerifiesSaid : Prop := signVerifiesRow.holds Tryd.pinned (OpenSpec.ofChange signVerifiesSpec)

/-- ITS FALSE NEIGHBOUR: 'it returns false'. Refute it at one input. -/
def signVerifiesWrong : ChangeSpec := { name := "signVerifies", fn := fun _ => fun
  | [d1, d2, d3] => { results := [.lit (.bool false)], args := [d1, d2, d3] }
  | _ => none }
def SignVerifiesWrongFalsely : Prop := signVerifiesRow.holds Tryd.pinned (OpenSpec.ofChange signVerifiesWrong)

/-- 'inlaylaw16.SignUses': WHATEVER THE INPUT: true; the input reads as it did. -/
def signUsesSpec : ChangeSpec := { name := "signUses", fn := fun _ => fun
  | [d1, d2, d3] => { results := [.lit (.bool true)], args := [d1, d2, d3] }
  | _ => none }
def signUsesRow : OpenClaim := { program := "ytfdhiilhjfbehaadoor", sum := "dfc820cda8e94053b88c738cbe98387c6dc3e2b54f2f30f6ce8610bbeb5c3820", func := "inlay/inlaylaw16.SignUses", spec := "signUses", unfollowed := true, recurses := true, named := ["inlay/hash.initial", "inlay/hash.rounds"], apart := false, laid := [("inlay/hash.initial", laid_inlay_hash_initial), ("inlay/hash.rounds", laid_inlay_hash_rounds)] }
def SignUsesSaid : Prop := signUsesRow.holds Tryd.pinned (OpenSpec.ofChange signUsesSpec)

/-- ITS FALSE NEIGHBOUR: 'it returns false'. Refute it at one input. -/
def signUsesWrong : ChangeSpec := { name := "signUses", fn := fun _ => fun
  | [d1, d2, d3] => { results := [.lit (.bool false)], args := [d1, d2, d3] }
  | _ => none }
def SignUsesWrongFalsely : Prop := signUsesRow.holds Tryd.pinned (OpenSpec.ofChange signUsesWrong)

/-- 'inlaylaw16.SignExplains': WHATEVER THE INPUT: true; the input reads as it did. -/
def signExplainsSpec : ChangeSpec := { name := "signExplains", fn := fun _ => fun
  | [d1, d2, d3] => { results := [.lit (.bool true)], args := [d1, d2, d3] }
  | _ => none }
def signExplainsRow : OpenClaim := { program := "ytfdhiilhjfbehaadoor", sum := "dfc820cda8e94053b88c738cbe98387c6dc3e2b54f2f30f6ce8610bbeb5c3820", func := "inlay/inlaylaw16.SignExplains", spec := "signExplains", unfollowed := true, recurses := true, named := ["inlay/hash.initial", "inlay/hash.rounds"], apart := false, laid := [("inlay/hash.initial", laid_inlay_hash_initial), ("inlay/hash.rounds", laid_inlay_hash_rounds)] }
def SignExplainsSaid : Prop := signExplainsRow.holds Tryd.pinned (OpenSpec.ofChange signExplainsSpec)

/-- ITS FALSE NEIGHBOUR: 'it returns false'. Refute it at one input. -/
def signExplainsWrong : ChangeSpec := { name := "signExplains", fn := fun _ => fun
  | [d1, d2, d3] => { results := [.lit (.bool false)], args := [d1, d2, d3] }
  | _ => none }
def SignExplainsWrongFalsely : Prop := signExplainsRow.holds Tryd.pinned (OpenSpec.ofChange signExplainsWrong)

/-- 'inlaylaw16.SignSecrets': WHATEVER THE INPUT: true; the input reads as it did. -/
def signSecretsSpec : ChangeSpec := { name := "signSecrets", fn := fun _ => fun
  | [d1, d2, d3] => { results := [.lit (.bool true)], args := [d1, d2, d3] }
  | _ => none }
def signSecretsRow : OpenClaim := { program := "ytfdhiilhjfbehaadoor", sum := "dfc820cda8e94053b88c738cbe98387c6dc3e2b54f2f30f6ce8610bbeb5c3820", func := "inlay/inlaylaw16.SignSecrets", spec := "signSecrets", unfollowed := true, recurses := true, named := ["inlay/hash.initial", "inlay/hash.rounds"], apart := false, laid := [("inlay/hash.initial", laid_inlay_hash_initial), ("inlay/hash.rounds", laid_inlay_hash_rounds)] }
def SignSecretsSaid : Prop := signSecretsRow.holds Tryd.pinned (OpenSpec.ofChange signSecretsSpec)

/-- ITS FALSE NEIGHBOUR: 'it returns false'. Refute it at one input. -/
def signSecretsWrong : ChangeSpec := { name := "signSecrets", fn := fun _ => fun
  | [d1, d2, d3] => { results := [.lit (.bool false)], args := [d1, d2, d3] }
  | _ => none }
def SignSecretsWrongFalsely : Prop := signSecretsRow.holds Tryd.pinned (OpenSpec.ofChange signSecretsWrong)

/-- 'inlaylaw16.SignKeys': WHATEVER THE INPUT: true; the input reads as it did. -/
def signKeysSpec : ChangeSpec := { name := "signKeys", fn := fun _ => fun
  | [d1, d2, d3] => { results := [.lit (.bool true)], args := [d1, d2, d3] }
  | _ => none }
def signKeysRow : OpenClaim := { program := "ytfdhiilhjfbehaadoor", sum := "dfc820cda8e94053b88c738cbe98387c6dc3e2b54f2f30f6ce8610bbeb5c3820", func := "inlay/inlaylaw16.SignKeys", spec := "signKeys", unfollowed := true, recurses := true, named := ["inlay/hash.initial", "inlay/hash.rounds"], apart := false, laid := [("inlay/hash.initial", laid_inlay_hash_initial), ("inlay/hash.rounds", laid_inlay_hash_rounds)] }
def SignKeysSaid : Prop := signKeysRow.holds Tryd.pinned (OpenSpec.ofChange signKeysSpec)

/-- ITS FALSE NEIGHBOUR: 'it returns false'. Refute it at one input. -/
def signKeysWrong : ChangeSpec := { name := "signKeys", fn := fun _ => fun
  | [d1, d2, d3] => { results := [.lit (.bool false)], args := [d1, d2, d3] }
  | _ => none }
def SignKeysWrongFalsely : Prop := signKeysRow.holds Tryd.pinned (OpenSpec.ofChange signKeysWrong)

/-- 'inlaylaw16.SignBytes': WHATEVER THE INPUT: true; the input reads as it did. -/
def signBytesSpec : ChangeSpec := { name := "signBytes", fn := fun _ => fun
  | [d1, d2, d3] => { results := [.lit (.bool true)], args := [d1, d2, d3] }
  | _ => none }
def signBytesRow : OpenClaim := { program := "ytfdhiilhjfbehaadoor", sum := "dfc820cda8e94053b88c738cbe98387c6dc3e2b54f2f30f6ce8610bbeb5c3820", func := "inlay/inlaylaw16.SignBytes", spec := "signBytes", unfollowed := true, recurses := true, named := ["inlay/hash.initial", "inlay/hash.rounds"], apart := false, laid := [("inlay/hash.initial", laid_inlay_hash_initial), ("inlay/hash.rounds", laid_inlay_hash_rounds)] }
def SignBytesSaid : Prop := signBytesRow.holds Tryd.pinned (OpenSpec.ofChange signBytesSpec)

/-- ITS FALSE NEIGHBOUR: 'it returns false'. Refute it at one input. -/
def signBytesWrong : ChangeSpec := { name := "signBytes", fn := fun _ => fun
  | [d1, d2, d3] => { results := [.lit (.bool false)], args := [d1, d2, d3] }
  | _ => none }
def SignBytesWrongFalsely : Prop := signBytesRow.holds Tryd.pinned (OpenSpec.ofChange signBytesWrong)

/- THE SECOND FORM. 'bulk': how many values and letters a reading holds, each counted each time it is reached (what is shared counts as often as it is met; a slice's spare places count too). A statement '..UptoSaid' is the law's where the arguments, and the package variables that the reading takes, are together of bulk at most 1048576: NARROWER than '..Said'. Prove '..Said' where nothing that the law and all that it calls make is longer than what came in: it says more and counts as full. Else prove '..UptoSaid'. A law counts once. -/
mutual
def uptoBulk {H : Type} : DataW H → Nat
  | .lit (.string bytes) => bytes.length + 1
  | .lit _ => 1
  | .nil => 1
  | .ptr d => uptoBulk d + 1
  | .slice elems spare => uptoBulkAll elems + uptoBulkAll spare + 1
  | .agg parts => uptoBulkAll parts + 1
  | .iface _ d => uptoBulk d + 1
  | .map entries => uptoBulkEntries entries + 1
  | .held _ => 1
def uptoBulkAll {H : Type} : List (DataW H) → Nat
  | [] => 0
  | d :: r => uptoBulk d + uptoBulkAll r
def uptoBulkEntries {H : Type} : List (Lit × DataW H) → Nat
  | [] => 0
  | x :: r => uptoBulkEntry x + uptoBulkEntries r
def uptoBulkEntry {H : Type} : Lit × DataW H → Nat
  | (.string bytes, d) => bytes.length + uptoBulk d + 1
  | (_, d) => uptoBulk d + 1
 end
def uptoSmall : (H : Type) → List (DataW H) → Bool := fun _ ds => decide (uptoBulkAll ds ≤ 1048576)
def OpenSpec.upto (s : _root_.Go.ChangeSpec) : _root_.Go.OpenSpec := { _root_.Go.OpenSpec.ofChange s with cond := some uptoSmall }

/-- 'inlaylaw16.SignMatchesReference', WHERE WHAT IT READS IS OF BULK AT MOST 1048576: true; the input reads as it did. -/
def signMatchesReferenceUptoRow : OpenClaim := { program := "ytfdhiilhjfbehaadoor", sum := "dfc820cda8e94053b88c738cbe98387c6dc3e2b54f2f30f6ce8610bbeb5c3820", func := "inlay/inlaylaw16.SignMatchesReference", spec := "signMatchesReference", unfollowed := true, recurses := true, named := ["inlay/hash.initial", "inlay/hash.rounds"], apart := false, laid := [("inlay/hash.initial", laid_inlay_hash_initial), ("inlay/hash.rounds", laid_inlay_hash_rounds)], narrowed := true }
def SignMatchesReferenceUptoSaid : Prop := signMatchesReferenceUptoRow.holds Tryd.pinned (OpenSpec.upto signMatchesReferenceSpec)

/-- 'inlaylaw16.SignVerifies', WHERE WHAT IT READS IS OF BULK AT MOST 1048576: true; the input reads as it did. -/
def signVerifiesUptoRow : OpenClaim := { program := "ytfdhiilhjfbehaadoor", sum := "dfc820cda8e94053b88c738cbe98387c6dc3e2b54f2f30f6ce8610bbeb5c3820", func := "inlay/inlaylaw16.SignVerifies", spec := "signVerifies", unfollowed := true, recurses := true, named := ["inlay/hash.initial", "inlay/hash.rounds"], apart := false, laid := [("inlay/hash.initial", laid_inlay_hash_initial), ("inlay/hash.rounds", laid_inlay_hash_rounds)], narrowed := true }
def SignVerifiesUptoSaid : Prop := signVerifiesUptoRow.holds Tryd.pinned (OpenSpec.upto signVerifiesSpec)

/-- 'inlaylaw16.SignUses', WHERE WHAT IT READS IS OF BULK AT MOST 1048576: true; the input reads as it did. -/
def signUsesUptoRow : OpenClaim := { program := "ytfdhiilhjfbehaadoor", sum := "dfc820cda8e94053b88c738cbe98387c6dc3e2b54f2f30f6ce8610bbeb5c3820", func := "inlay/inlaylaw16.SignUses", spec := "signUses", unfollowed := true, recurses := true, named := ["inlay/hash.initial", "inlay/hash.rounds"], apart := false, laid := [("inlay/hash.initial", laid_inlay_hash_initial), ("inlay/hash.rounds", laid_inlay_hash_rounds)], narrowed := true }
def SignUsesUptoSaid : Prop := signUsesUptoRow.holds Tryd.pinned (OpenSpec.upto signUsesSpec)

/-- 'inlaylaw16.SignExplains', WHERE WHAT IT READS IS OF BULK AT MOST 1048576: true; the input reads as it did. -/
def signExplainsUptoRow : OpenClaim := { program := "ytfdhiilhjfbehaadoor", sum := "dfc820cda8e94053b88c738cbe98387c6dc3e2b54f2f30f6ce8610bbeb5c3820", func := "inlay/inlaylaw16.SignExplains", spec := "signExplains", unfollowed := true, recurses := true, named := ["inlay/hash.initial", "inlay/hash.rounds"], apart := false, laid := [("inlay/hash.initial", laid_inlay_hash_initial), ("inlay/hash.rounds", laid_inlay_hash_rounds)], narrowed := true }
def SignExplainsUptoSaid : Prop := signExplainsUptoRow.holds Tryd.pinned (OpenSpec.upto signExplainsSpec)

/-- 'inlaylaw16.SignSecrets', WHERE WHAT IT READS IS OF BULK AT MOST 1048576: true; the input reads as it did. -/
def signSecretsUptoRow : OpenClaim := { program := "ytfdhiilhjfbehaadoor", sum := "dfc820cda8e94053b88c738cbe98387c6dc3e2b54f2f30f6ce8610bbeb5c3820", func := "inlay/inlaylaw16.SignSecrets", spec := "signSecrets", unfollowed := true, recurses := true, named := ["inlay/hash.initial", "inlay/hash.rounds"], apart := false, laid := [("inlay/hash.initial", laid_inlay_hash_initial), ("inlay/hash.rounds", laid_inlay_hash_rounds)], narrowed := true }
def SignSecretsUptoSaid : Prop := signSecretsUptoRow.holds Tryd.pinned (OpenSpec.upto signSecretsSpec)

/-- 'inlaylaw16.SignKeys', WHERE WHAT IT READS IS OF BULK AT MOST 1048576: true; the input reads as it did. -/
def signKeysUptoRow : OpenClaim := { program := "ytfdhiilhjfbehaadoor", sum := "dfc820cda8e94053b88c738cbe98387c6dc3e2b54f2f30f6ce8610bbeb5c3820", func := "inlay/inlaylaw16.SignKeys", spec := "signKeys", unfollowed := true, recurses := true, named := ["inlay/hash.initial", "inlay/hash.rounds"], apart := false, laid := [("inlay/hash.initial", laid_inlay_hash_initial), ("inlay/hash.rounds", laid_inlay_hash_rounds)], narrowed := true }
def SignKeysUptoSaid : Prop := signKeysUptoRow.holds Tryd.pinned (OpenSpec.upto signKeysSpec)

/-- 'inlaylaw16.SignBytes', WHERE WHAT IT READS IS OF BULK AT MOST 1048576: true; the input reads as it did. -/
def signBytesUptoRow : OpenClaim := { program := "ytfdhiilhjfbehaadoor", sum := "dfc820cda8e94053b88c738cbe98387c6dc3e2b54f2f30f6ce8610bbeb5c3820", func := "inlay/inlaylaw16.SignBytes", spec := "signBytes", unfollowed := true, recurses := true, named := ["inlay/hash.initial", "inlay/hash.rounds"], apart := false, laid := [("inlay/hash.initial", laid_inlay_hash_initial), ("inlay/hash.rounds", laid_inlay_hash_rounds)], narrowed := true }
def SignBytesUptoSaid : Prop := signBytesUptoRow.holds Tryd.pinned (OpenSpec.upto signBytesSpec)

end Rows
end Go.Proofs.YtfdhiilhjfbehaaDoor
