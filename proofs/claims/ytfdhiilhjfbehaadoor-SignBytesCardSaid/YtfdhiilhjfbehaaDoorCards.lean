/-
  DERIVED. GIVEN WITH THE SEED: THE CARDS: each row of YtfdhiilhjfbehaaDoorRows.lean that lists a variable, with what it lists TIED to the program's text (the seventh form; the later family's looks); each row that meets fmt, with fmt's text TOLD by the authors' own Lean function (tested against real Go, not proved from fmt's source: count such statements apart). THE CARD IS WHAT COUNTS. Prove the row's statement (the work); the ties are given (YtfdhiilhjfbehaaDoorTie.lean); close each card by the builder's one call (the guide's Derived/Test/ToyasCard.lean, 'card_holds'). Laid BY PROGRAM, IN A SANDBOX (cutbox-door.mjs). By AI agents, Wed Nov 11 2026. No macro, syntax, notation, axiom, sorry.
-/
import Derived.Test.YtfdhiilhjfbehaaDoorRows
import GoSem.ClaimSeven
namespace Go.Proofs.YtfdhiilhjfbehaaDoor
namespace Rows

/-- THE TIED CARD OF 'inlaylaw16.SignMatchesReference'. -/
def signMatchesReferenceCard : Claim7 := { stood := { row := signMatchesReferenceRow, standIns := [], harness := (true, "460ff8f7d4f542fa46ac01a0683b64307fb1651329a0d8d11aa520ef96247875"), looks := false }, kinds := [], alts := [], laidByText := true, laidKinds := [.data, .data], laidTests := true, laidLooks := .later }
def SignMatchesReferenceCardSaid : Prop := Claim7.holds Tryd.pinned (.plain (OpenSpec.ofChange signMatchesReferenceSpec)) signMatchesReferenceCard

/-- THE TIED CARD OF 'inlaylaw16.SignVerifies'. -/
def signVerifiesCard : Claim7 := { stood := { row := signVerifiesRow, standIns := [], harness := (true, "460ff8f7d4f542fa46ac01a0683b64307fb1651329a0d8d11aa520ef96247875"), looks := false }, kinds := [], alts := [], laidByText := true, laidKinds := [.data, .data], laidTests := true, laidLooks := .later }
def SignVerifiesCardSaid : Prop := Claim7.holds Tryd.pinned (.plain (OpenSpec.ofChange signVerifiesSpec)) signVerifiesCard

/-- THE TIED CARD OF 'inlaylaw16.SignUses'. -/
def signUsesCard : Claim7 := { stood := { row := signUsesRow, standIns := [], harness := (true, "460ff8f7d4f542fa46ac01a0683b64307fb1651329a0d8d11aa520ef96247875"), looks := false }, kinds := [], alts := [], laidByText := true, laidKinds := [.data, .data], laidTests := true, laidLooks := .later }
def SignUsesCardSaid : Prop := Claim7.holds Tryd.pinned (.plain (OpenSpec.ofChange signUsesSpec)) signUsesCard

/-- THE TIED CARD OF 'inlaylaw16.SignExplains'. -/
def signExplainsCard : Claim7 := { stood := { row := signExplainsRow, standIns := [], harness := (true, "460ff8f7d4f542fa46ac01a0683b64307fb1651329a0d8d11aa520ef96247875"), looks := false }, kinds := [], alts := [], laidByText := true, laidKinds := [.data, .data], laidTests := true, laidLooks := .later }
def SignExplainsCardSaid : Prop := Claim7.holds Tryd.pinned (.plain (OpenSpec.ofChange signExplainsSpec)) signExplainsCard

/-- THE TIED CARD OF 'inlaylaw16.SignSecrets'. -/
def signSecretsCard : Claim7 := { stood := { row := signSecretsRow, standIns := [], harness := (true, "460ff8f7d4f542fa46ac01a0683b64307fb1651329a0d8d11aa520ef96247875"), looks := false }, kinds := [], alts := [], laidByText := true, laidKinds := [.data, .data], laidTests := true, laidLooks := .later }
def SignSecretsCardSaid : Prop := Claim7.holds Tryd.pinned (.plain (OpenSpec.ofChange signSecretsSpec)) signSecretsCard

/-- THE TIED CARD OF 'inlaylaw16.SignKeys'. -/
def signKeysCard : Claim7 := { stood := { row := signKeysRow, standIns := [], harness := (true, "460ff8f7d4f542fa46ac01a0683b64307fb1651329a0d8d11aa520ef96247875"), looks := false }, kinds := [], alts := [], laidByText := true, laidKinds := [.data, .data], laidTests := true, laidLooks := .later }
def SignKeysCardSaid : Prop := Claim7.holds Tryd.pinned (.plain (OpenSpec.ofChange signKeysSpec)) signKeysCard

/-- THE TIED CARD OF 'inlaylaw16.SignBytes'. -/
def signBytesCard : Claim7 := { stood := { row := signBytesRow, standIns := [], harness := (true, "460ff8f7d4f542fa46ac01a0683b64307fb1651329a0d8d11aa520ef96247875"), looks := false }, kinds := [], alts := [], laidByText := true, laidKinds := [.data, .data], laidTests := true, laidLooks := .later }
def SignBytesCardSaid : Prop := Claim7.holds Tryd.pinned (.plain (OpenSpec.ofChange signBytesSpec)) signBytesCard

/-- THE SECOND FORM's CARD OF 'inlaylaw16.SignMatchesReference'. -/
def signMatchesReferenceUptoCard : Claim7 := { stood := { row := signMatchesReferenceUptoRow, standIns := [], harness := (true, "460ff8f7d4f542fa46ac01a0683b64307fb1651329a0d8d11aa520ef96247875"), looks := false }, kinds := [], alts := [], laidByText := true, laidKinds := [.data, .data], laidTests := true, laidLooks := .later }
def SignMatchesReferenceUptoCardSaid : Prop := Claim7.holds Tryd.pinned (.plain (OpenSpec.upto signMatchesReferenceSpec)) signMatchesReferenceUptoCard

/-- THE SECOND FORM's CARD OF 'inlaylaw16.SignVerifies'. -/
def signVerifiesUptoCard : Claim7 := { stood := { row := signVerifiesUptoRow, standIns := [], harness := (true, "460ff8f7d4f542fa46ac01a0683b64307fb1651329a0d8d11aa520ef96247875"), looks := false }, kinds := [], alts := [], laidByText := true, laidKinds := [.data, .data], laidTests := true, laidLooks := .later }
def SignVerifiesUptoCardSaid : Prop := Claim7.holds Tryd.pinned (.plain (OpenSpec.upto signVerifiesSpec)) signVerifiesUptoCard

/-- THE SECOND FORM's CARD OF 'inlaylaw16.SignUses'. -/
def signUsesUptoCard : Claim7 := { stood := { row := signUsesUptoRow, standIns := [], harness := (true, "460ff8f7d4f542fa46ac01a0683b64307fb1651329a0d8d11aa520ef96247875"), looks := false }, kinds := [], alts := [], laidByText := true, laidKinds := [.data, .data], laidTests := true, laidLooks := .later }
def SignUsesUptoCardSaid : Prop := Claim7.holds Tryd.pinned (.plain (OpenSpec.upto signUsesSpec)) signUsesUptoCard

/-- THE SECOND FORM's CARD OF 'inlaylaw16.SignExplains'. -/
def signExplainsUptoCard : Claim7 := { stood := { row := signExplainsUptoRow, standIns := [], harness := (true, "460ff8f7d4f542fa46ac01a0683b64307fb1651329a0d8d11aa520ef96247875"), looks := false }, kinds := [], alts := [], laidByText := true, laidKinds := [.data, .data], laidTests := true, laidLooks := .later }
def SignExplainsUptoCardSaid : Prop := Claim7.holds Tryd.pinned (.plain (OpenSpec.upto signExplainsSpec)) signExplainsUptoCard

/-- THE SECOND FORM's CARD OF 'inlaylaw16.SignSecrets'. -/
def signSecretsUptoCard : Claim7 := { stood := { row := signSecretsUptoRow, standIns := [], harness := (true, "460ff8f7d4f542fa46ac01a0683b64307fb1651329a0d8d11aa520ef96247875"), looks := false }, kinds := [], alts := [], laidByText := true, laidKinds := [.data, .data], laidTests := true, laidLooks := .later }
def SignSecretsUptoCardSaid : Prop := Claim7.holds Tryd.pinned (.plain (OpenSpec.upto signSecretsSpec)) signSecretsUptoCard

/-- THE SECOND FORM's CARD OF 'inlaylaw16.SignKeys'. -/
def signKeysUptoCard : Claim7 := { stood := { row := signKeysUptoRow, standIns := [], harness := (true, "460ff8f7d4f542fa46ac01a0683b64307fb1651329a0d8d11aa520ef96247875"), looks := false }, kinds := [], alts := [], laidByText := true, laidKinds := [.data, .data], laidTests := true, laidLooks := .later }
def SignKeysUptoCardSaid : Prop := Claim7.holds Tryd.pinned (.plain (OpenSpec.upto signKeysSpec)) signKeysUptoCard

/-- THE SECOND FORM's CARD OF 'inlaylaw16.SignBytes'. -/
def signBytesUptoCard : Claim7 := { stood := { row := signBytesUptoRow, standIns := [], harness := (true, "460ff8f7d4f542fa46ac01a0683b64307fb1651329a0d8d11aa520ef96247875"), looks := false }, kinds := [], alts := [], laidByText := true, laidKinds := [.data, .data], laidTests := true, laidLooks := .later }
def SignBytesUptoCardSaid : Prop := Claim7.holds Tryd.pinned (.plain (OpenSpec.upto signBytesSpec)) signBytesUptoCard
end Rows
end Go.Proofs.YtfdhiilhjfbehaaDoor
