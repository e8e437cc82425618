/-
  DERIVED. GIVEN WITH THE SEED: THE CARDS: each row of YtgblkaoioeceiaaDoorRows.lean that lists a variable, with what it lists TIED to the program's text (the seventh form; the later family's looks); each row that meets fmt, with fmt's text TOLD by the authors' own Lean function (tested against real Go, not proved from fmt's source: count such statements apart). THE CARD IS WHAT COUNTS. Prove the row's statement (the work); the ties are given (YtgblkaoioeceiaaDoorTie.lean); close each card by the builder's one call (the guide's Derived/Test/ToyasCard.lean, 'card_holds'). Laid BY PROGRAM, IN A SANDBOX (cutbox-door.mjs). By AI agents, Wed Nov 11 2026. No macro, syntax, notation, axiom, sorry.
-/
import Derived.Test.YtgblkaoioeceiaaDoorRows
import GoSem.ClaimSeven
namespace Go.Proofs.YtgblkaoioeceiaaDoor
namespace Rows

/-- THE TIED CARD OF 'inlaylaw15.HashMatchesReference'. -/
def hashMatchesReferenceCard : Claim7 := { stood := { row := hashMatchesReferenceRow, standIns := [], harness := (true, "63d4543f320aad834d56db2184c28d067f4f5a5aab4cbb764f0123fb66cac7f1"), looks := false }, kinds := [], alts := [], laidByText := true, laidKinds := [.data, .data], laidTests := true, laidLooks := .later }
def HashMatchesReferenceCardSaid : Prop := Claim7.holds Tryd.pinned (.plain (OpenSpec.ofChange hashMatchesReferenceSpec)) hashMatchesReferenceCard

/-- THE TIED CARD OF 'inlaylaw15.HashLengths'. -/
def hashLengthsCard : Claim7 := { stood := { row := hashLengthsRow, standIns := [], harness := (true, "63d4543f320aad834d56db2184c28d067f4f5a5aab4cbb764f0123fb66cac7f1"), looks := false }, kinds := [], alts := [], laidByText := true, laidKinds := [.data, .data], laidTests := true, laidLooks := .later }
def HashLengthsCardSaid : Prop := Claim7.holds Tryd.pinned (.plain (OpenSpec.ofChange hashLengthsSpec)) hashLengthsCard

/-- THE TIED CARD OF 'inlaylaw15.HashChecks'. -/
def hashChecksCard : Claim7 := { stood := { row := hashChecksRow, standIns := [], harness := (true, "63d4543f320aad834d56db2184c28d067f4f5a5aab4cbb764f0123fb66cac7f1"), looks := false }, kinds := [], alts := [], laidByText := true, laidKinds := [.data, .data], laidTests := true, laidLooks := .later }
def HashChecksCardSaid : Prop := Claim7.holds Tryd.pinned (.plain (OpenSpec.ofChange hashChecksSpec)) hashChecksCard

/-- THE TIED CARD OF 'inlaylaw15.HashProofs'. -/
def hashProofsCard : Claim7 := { stood := { row := hashProofsRow, standIns := [], harness := (true, "63d4543f320aad834d56db2184c28d067f4f5a5aab4cbb764f0123fb66cac7f1"), looks := false }, kinds := [], alts := [], laidByText := true, laidKinds := [.data, .data], laidTests := true, laidLooks := .later }
def HashProofsCardSaid : Prop := Claim7.holds Tryd.pinned (.plain (OpenSpec.ofChange hashProofsSpec)) hashProofsCard

/-- THE TIED CARD OF 'inlaylaw15.HashForgery'. -/
def hashForgeryCard : Claim7 := { stood := { row := hashForgeryRow, standIns := [], harness := (true, "63d4543f320aad834d56db2184c28d067f4f5a5aab4cbb764f0123fb66cac7f1"), looks := false }, kinds := [], alts := [], laidByText := true, laidKinds := [.data, .data], laidTests := true, laidLooks := .later }
def HashForgeryCardSaid : Prop := Claim7.holds Tryd.pinned (.plain (OpenSpec.ofChange hashForgerySpec)) hashForgeryCard

/-- THE TIED CARD OF 'inlaylaw15.HashTrees'. -/
def hashTreesCard : Claim7 := { stood := { row := hashTreesRow, standIns := [], harness := (true, "63d4543f320aad834d56db2184c28d067f4f5a5aab4cbb764f0123fb66cac7f1"), looks := false }, kinds := [], alts := [], laidByText := true, laidKinds := [.data, .data], laidTests := true, laidLooks := .later }
def HashTreesCardSaid : Prop := Claim7.holds Tryd.pinned (.plain (OpenSpec.ofChange hashTreesSpec)) hashTreesCard

/-- THE TIED CARD OF 'inlaylaw15.HashBytes'. -/
def hashBytesCard : Claim7 := { stood := { row := hashBytesRow, standIns := [], harness := (true, "63d4543f320aad834d56db2184c28d067f4f5a5aab4cbb764f0123fb66cac7f1"), looks := false }, kinds := [], alts := [], laidByText := true, laidKinds := [.data, .data], laidTests := true, laidLooks := .later }
def HashBytesCardSaid : Prop := Claim7.holds Tryd.pinned (.plain (OpenSpec.ofChange hashBytesSpec)) hashBytesCard

/-- THE SECOND FORM's CARD OF 'inlaylaw15.HashMatchesReference'. -/
def hashMatchesReferenceUptoCard : Claim7 := { stood := { row := hashMatchesReferenceUptoRow, standIns := [], harness := (true, "63d4543f320aad834d56db2184c28d067f4f5a5aab4cbb764f0123fb66cac7f1"), looks := false }, kinds := [], alts := [], laidByText := true, laidKinds := [.data, .data], laidTests := true, laidLooks := .later }
def HashMatchesReferenceUptoCardSaid : Prop := Claim7.holds Tryd.pinned (.plain (OpenSpec.upto hashMatchesReferenceSpec)) hashMatchesReferenceUptoCard

/-- THE SECOND FORM's CARD OF 'inlaylaw15.HashLengths'. -/
def hashLengthsUptoCard : Claim7 := { stood := { row := hashLengthsUptoRow, standIns := [], harness := (true, "63d4543f320aad834d56db2184c28d067f4f5a5aab4cbb764f0123fb66cac7f1"), looks := false }, kinds := [], alts := [], laidByText := true, laidKinds := [.data, .data], laidTests := true, laidLooks := .later }
def HashLengthsUptoCardSaid : Prop := Claim7.holds Tryd.pinned (.plain (OpenSpec.upto hashLengthsSpec)) hashLengthsUptoCard

/-- THE SECOND FORM's CARD OF 'inlaylaw15.HashChecks'. -/
def hashChecksUptoCard : Claim7 := { stood := { row := hashChecksUptoRow, standIns := [], harness := (true, "63d4543f320aad834d56db2184c28d067f4f5a5aab4cbb764f0123fb66cac7f1"), looks := false }, kinds := [], alts := [], laidByText := true, laidKinds := [.data, .data], laidTests := true, laidLooks := .later }
def HashChecksUptoCardSaid : Prop := Claim7.holds Tryd.pinned (.plain (OpenSpec.upto hashChecksSpec)) hashChecksUptoCard

/-- THE SECOND FORM's CARD OF 'inlaylaw15.HashProofs'. -/
def hashProofsUptoCard : Claim7 := { stood := { row := hashProofsUptoRow, standIns := [], harness := (true, "63d4543f320aad834d56db2184c28d067f4f5a5aab4cbb764f0123fb66cac7f1"), looks := false }, kinds := [], alts := [], laidByText := true, laidKinds := [.data, .data], laidTests := true, laidLooks := .later }
def HashProofsUptoCardSaid : Prop := Claim7.holds Tryd.pinned (.plain (OpenSpec.upto hashProofsSpec)) hashProofsUptoCard

/-- THE SECOND FORM's CARD OF 'inlaylaw15.HashForgery'. -/
def hashForgeryUptoCard : Claim7 := { stood := { row := hashForgeryUptoRow, standIns := [], harness := (true, "63d4543f320aad834d56db2184c28d067f4f5a5aab4cbb764f0123fb66cac7f1"), looks := false }, kinds := [], alts := [], laidByText := true, laidKinds := [.data, .data], laidTests := true, laidLooks := .later }
def HashForgeryUptoCardSaid : Prop := Claim7.holds Tryd.pinned (.plain (OpenSpec.upto hashForgerySpec)) hashForgeryUptoCard

/-- THE SECOND FORM's CARD OF 'inlaylaw15.HashTrees'. -/
def hashTreesUptoCard : Claim7 := { stood := { row := hashTreesUptoRow, standIns := [], harness := (true, "63d4543f320aad834d56db2184c28d067f4f5a5aab4cbb764f0123fb66cac7f1"), looks := false }, kinds := [], alts := [], laidByText := true, laidKinds := [.data, .data], laidTests := true, laidLooks := .later }
def HashTreesUptoCardSaid : Prop := Claim7.holds Tryd.pinned (.plain (OpenSpec.upto hashTreesSpec)) hashTreesUptoCard

/-- THE SECOND FORM's CARD OF 'inlaylaw15.HashBytes'. -/
def hashBytesUptoCard : Claim7 := { stood := { row := hashBytesUptoRow, standIns := [], harness := (true, "63d4543f320aad834d56db2184c28d067f4f5a5aab4cbb764f0123fb66cac7f1"), looks := false }, kinds := [], alts := [], laidByText := true, laidKinds := [.data, .data], laidTests := true, laidLooks := .later }
def HashBytesUptoCardSaid : Prop := Claim7.holds Tryd.pinned (.plain (OpenSpec.upto hashBytesSpec)) hashBytesUptoCard
end Rows
end Go.Proofs.YtgblkaoioeceiaaDoor
