/-
  DERIVED. GIVEN WITH THE SEED: THE CARDS: each row of YthlecmmngldodaaDoorRows.lean that lists a variable, with what it lists TIED to the program's text (the seventh form; the later family's looks); each row that meets fmt, with fmt's text TOLD by the authors' own Lean function (tested against real Go, not proved from fmt's source: count such statements apart). THE CARD IS WHAT COUNTS. Prove the row's statement (the work); the ties are given (YthlecmmngldodaaDoorTie.lean); close each card by the builder's one call (the guide's Derived/Test/ToyasCard.lean, 'card_holds'). Laid BY PROGRAM, IN A SANDBOX (cutbox-door.mjs). By AI agents, Wed Nov 11 2026. No macro, syntax, notation, axiom, sorry.
-/
import Derived.Test.YthlecmmngldodaaDoorRows
import GoSem.ClaimSeven
namespace Go.Proofs.YthlecmmngldodaaDoor
namespace Rows

/-- THE TIED CARD OF 'inlaylaw28.FetchMatchesReference'. -/
def fetchMatchesReferenceCard : Claim7 := { stood := { row := fetchMatchesReferenceRow, standIns := [], harness := (true, "c63dfdd0b3b6f6f7565e2635f49386ea76998da2e86aa90a92b2cd6016fb1804"), looks := false }, kinds := [], alts := [], laidByText := true, laidKinds := [.data, .data], laidTests := true, laidLooks := .later }
def FetchMatchesReferenceCardSaid : Prop := Claim7.holds Tryd.pinned (.plain (OpenSpec.ofChange fetchMatchesReferenceSpec)) fetchMatchesReferenceCard

/-- THE TIED CARD OF 'inlaylaw28.FetchCuts'. -/
def fetchCutsCard : Claim7 := { stood := { row := fetchCutsRow, standIns := [], harness := (true, "c63dfdd0b3b6f6f7565e2635f49386ea76998da2e86aa90a92b2cd6016fb1804"), looks := false }, kinds := [], alts := [], laidByText := true, laidKinds := [.data, .data], laidTests := true, laidLooks := .later }
def FetchCutsCardSaid : Prop := Claim7.holds Tryd.pinned (.plain (OpenSpec.ofChange fetchCutsSpec)) fetchCutsCard

/-- THE TIED CARD OF 'inlaylaw28.FetchProves'. -/
def fetchProvesCard : Claim7 := { stood := { row := fetchProvesRow, standIns := [], harness := (true, "c63dfdd0b3b6f6f7565e2635f49386ea76998da2e86aa90a92b2cd6016fb1804"), looks := false }, kinds := [], alts := [], laidByText := true, laidKinds := [.data, .data], laidTests := true, laidLooks := .later }
def FetchProvesCardSaid : Prop := Claim7.holds Tryd.pinned (.plain (OpenSpec.ofChange fetchProvesSpec)) fetchProvesCard

/-- THE TIED CARD OF 'inlaylaw28.FetchWants'. -/
def fetchWantsCard : Claim7 := { stood := { row := fetchWantsRow, standIns := [], harness := (true, "c63dfdd0b3b6f6f7565e2635f49386ea76998da2e86aa90a92b2cd6016fb1804"), looks := false }, kinds := [], alts := [], laidByText := true, laidKinds := [.data, .data], laidTests := true, laidLooks := .later }
def FetchWantsCardSaid : Prop := Claim7.holds Tryd.pinned (.plain (OpenSpec.ofChange fetchWantsSpec)) fetchWantsCard

/-- THE TIED CARD OF 'inlaylaw28.FetchResumes'. -/
def fetchResumesCard : Claim7 := { stood := { row := fetchResumesRow, standIns := [], harness := (true, "c63dfdd0b3b6f6f7565e2635f49386ea76998da2e86aa90a92b2cd6016fb1804"), looks := false }, kinds := [], alts := [], laidByText := true, laidKinds := [.data, .data], laidTests := true, laidLooks := .later }
def FetchResumesCardSaid : Prop := Claim7.holds Tryd.pinned (.plain (OpenSpec.ofChange fetchResumesSpec)) fetchResumesCard

/-- THE TIED CARD OF 'inlaylaw28.FetchLimits'. -/
def fetchLimitsCard : Claim7 := { stood := { row := fetchLimitsRow, standIns := [], harness := (true, "c63dfdd0b3b6f6f7565e2635f49386ea76998da2e86aa90a92b2cd6016fb1804"), looks := false }, kinds := [], alts := [], laidByText := true, laidKinds := [.data, .data], laidTests := true, laidLooks := .later }
def FetchLimitsCardSaid : Prop := Claim7.holds Tryd.pinned (.plain (OpenSpec.ofChange fetchLimitsSpec)) fetchLimitsCard

/-- THE TIED CARD OF 'inlaylaw28.FetchTransfers'. -/
def fetchTransfersCard : Claim7 := { stood := { row := fetchTransfersRow, standIns := [], harness := (true, "c63dfdd0b3b6f6f7565e2635f49386ea76998da2e86aa90a92b2cd6016fb1804"), looks := false }, kinds := [], alts := [], laidByText := true, laidKinds := [.data, .data], laidTests := true, laidLooks := .later }
def FetchTransfersCardSaid : Prop := Claim7.holds Tryd.pinned (.plain (OpenSpec.ofChange fetchTransfersSpec)) fetchTransfersCard

/-- THE TIED CARD OF 'inlaytop.TopForgedBytesAreRefused'. -/
def topForgedBytesAreRefusedCard : Claim7 := { stood := { row := topForgedBytesAreRefusedRow, standIns := [], harness := (true, "c63dfdd0b3b6f6f7565e2635f49386ea76998da2e86aa90a92b2cd6016fb1804"), looks := false }, kinds := [], alts := [], laidByText := true, laidKinds := [.data, .data], laidTests := true, laidLooks := .later }
def TopForgedBytesAreRefusedCardSaid : Prop := Claim7.holds Tryd.pinned (.plain (OpenSpec.ofChange topForgedBytesAreRefusedSpec)) topForgedBytesAreRefusedCard

/-- THE SECOND FORM's CARD OF 'inlaylaw28.FetchMatchesReference'. -/
def fetchMatchesReferenceUptoCard : Claim7 := { stood := { row := fetchMatchesReferenceUptoRow, standIns := [], harness := (true, "c63dfdd0b3b6f6f7565e2635f49386ea76998da2e86aa90a92b2cd6016fb1804"), looks := false }, kinds := [], alts := [], laidByText := true, laidKinds := [.data, .data], laidTests := true, laidLooks := .later }
def FetchMatchesReferenceUptoCardSaid : Prop := Claim7.holds Tryd.pinned (.plain (OpenSpec.upto fetchMatchesReferenceSpec)) fetchMatchesReferenceUptoCard

/-- THE SECOND FORM's CARD OF 'inlaylaw28.FetchCuts'. -/
def fetchCutsUptoCard : Claim7 := { stood := { row := fetchCutsUptoRow, standIns := [], harness := (true, "c63dfdd0b3b6f6f7565e2635f49386ea76998da2e86aa90a92b2cd6016fb1804"), looks := false }, kinds := [], alts := [], laidByText := true, laidKinds := [.data, .data], laidTests := true, laidLooks := .later }
def FetchCutsUptoCardSaid : Prop := Claim7.holds Tryd.pinned (.plain (OpenSpec.upto fetchCutsSpec)) fetchCutsUptoCard

/-- THE SECOND FORM's CARD OF 'inlaylaw28.FetchProves'. -/
def fetchProvesUptoCard : Claim7 := { stood := { row := fetchProvesUptoRow, standIns := [], harness := (true, "c63dfdd0b3b6f6f7565e2635f49386ea76998da2e86aa90a92b2cd6016fb1804"), looks := false }, kinds := [], alts := [], laidByText := true, laidKinds := [.data, .data], laidTests := true, laidLooks := .later }
def FetchProvesUptoCardSaid : Prop := Claim7.holds Tryd.pinned (.plain (OpenSpec.upto fetchProvesSpec)) fetchProvesUptoCard

/-- THE SECOND FORM's CARD OF 'inlaylaw28.FetchWants'. -/
def fetchWantsUptoCard : Claim7 := { stood := { row := fetchWantsUptoRow, standIns := [], harness := (true, "c63dfdd0b3b6f6f7565e2635f49386ea76998da2e86aa90a92b2cd6016fb1804"), looks := false }, kinds := [], alts := [], laidByText := true, laidKinds := [.data, .data], laidTests := true, laidLooks := .later }
def FetchWantsUptoCardSaid : Prop := Claim7.holds Tryd.pinned (.plain (OpenSpec.upto fetchWantsSpec)) fetchWantsUptoCard

/-- THE SECOND FORM's CARD OF 'inlaylaw28.FetchResumes'. -/
def fetchResumesUptoCard : Claim7 := { stood := { row := fetchResumesUptoRow, standIns := [], harness := (true, "c63dfdd0b3b6f6f7565e2635f49386ea76998da2e86aa90a92b2cd6016fb1804"), looks := false }, kinds := [], alts := [], laidByText := true, laidKinds := [.data, .data], laidTests := true, laidLooks := .later }
def FetchResumesUptoCardSaid : Prop := Claim7.holds Tryd.pinned (.plain (OpenSpec.upto fetchResumesSpec)) fetchResumesUptoCard

/-- THE SECOND FORM's CARD OF 'inlaylaw28.FetchLimits'. -/
def fetchLimitsUptoCard : Claim7 := { stood := { row := fetchLimitsUptoRow, standIns := [], harness := (true, "c63dfdd0b3b6f6f7565e2635f49386ea76998da2e86aa90a92b2cd6016fb1804"), looks := false }, kinds := [], alts := [], laidByText := true, laidKinds := [.data, .data], laidTests := true, laidLooks := .later }
def FetchLimitsUptoCardSaid : Prop := Claim7.holds Tryd.pinned (.plain (OpenSpec.upto fetchLimitsSpec)) fetchLimitsUptoCard

/-- THE SECOND FORM's CARD OF 'inlaylaw28.FetchTransfers'. -/
def fetchTransfersUptoCard : Claim7 := { stood := { row := fetchTransfersUptoRow, standIns := [], harness := (true, "c63dfdd0b3b6f6f7565e2635f49386ea76998da2e86aa90a92b2cd6016fb1804"), looks := false }, kinds := [], alts := [], laidByText := true, laidKinds := [.data, .data], laidTests := true, laidLooks := .later }
def FetchTransfersUptoCardSaid : Prop := Claim7.holds Tryd.pinned (.plain (OpenSpec.upto fetchTransfersSpec)) fetchTransfersUptoCard

/-- THE SECOND FORM's CARD OF 'inlaytop.TopForgedBytesAreRefused'. -/
def topForgedBytesAreRefusedUptoCard : Claim7 := { stood := { row := topForgedBytesAreRefusedUptoRow, standIns := [], harness := (true, "c63dfdd0b3b6f6f7565e2635f49386ea76998da2e86aa90a92b2cd6016fb1804"), looks := false }, kinds := [], alts := [], laidByText := true, laidKinds := [.data, .data], laidTests := true, laidLooks := .later }
def TopForgedBytesAreRefusedUptoCardSaid : Prop := Claim7.holds Tryd.pinned (.plain (OpenSpec.upto topForgedBytesAreRefusedSpec)) topForgedBytesAreRefusedUptoCard
end Rows
end Go.Proofs.YthlecmmngldodaaDoor
