/-
  DERIVED. GIVEN WITH THE SEED: THE CARDS: each row of YtddemlajfbagdaaDoorRows.lean that lists a variable, with what it lists TIED to the program's text (the seventh form; the later family's looks); each row that meets fmt, with fmt's text TOLD by the authors' own Lean function (tested against real Go, not proved from fmt's source: count such statements apart). THE CARD IS WHAT COUNTS. Prove the row's statement (the work); the ties are given (YtddemlajfbagdaaDoorTie.lean); close each card by the builder's one call (the guide's Derived/Test/ToyasCard.lean, 'card_holds'). Laid BY PROGRAM, IN A SANDBOX (cutbox-door.mjs). By AI agents, Wed Nov 11 2026. No macro, syntax, notation, axiom, sorry.
-/
import Derived.Test.YtddemlajfbagdaaDoorRows
import GoSem.ClaimSeven
namespace Go.Proofs.YtddemlajfbagdaaDoor
namespace Rows

/-- THE TIED CARD OF 'baileylaw8.PadInfo'. -/
def padInfoCard : Claim7 := { stood := { row := padInfoRow, standIns := [], harness := (true, "bab58f0bb40251d3a30b4b70e19f7dd5126c4074a9e87c38b5a0e3a79fbe3559"), looks := false }, kinds := [], alts := [], laidByText := true, laidKinds := [.data, .data, .pinned], laidTests := true, laidLooks := .later }
def PadInfoCardSaid : Prop := Claim7.holds Tryd.pinned (.plain (OpenSpec.ofChange padInfoSpec)) padInfoCard

/-- THE TIED CARD OF 'baileylaw8.PadOAEP'. -/
def padOAEPCard : Claim7 := { stood := { row := padOAEPRow, standIns := [], harness := (true, "bab58f0bb40251d3a30b4b70e19f7dd5126c4074a9e87c38b5a0e3a79fbe3559"), looks := false }, kinds := [], alts := [], laidByText := true, laidKinds := [.data, .data, .pinned], laidTests := true, laidLooks := .later }
def PadOAEPCardSaid : Prop := Claim7.holds Tryd.pinned (.plain (OpenSpec.ofChange padOAEPSpec)) padOAEPCard

/-- THE TIED CARD OF 'baileylaw8.PadPSS'. -/
def padPSSCard : Claim7 := { stood := { row := padPSSRow, standIns := [], harness := (true, "bab58f0bb40251d3a30b4b70e19f7dd5126c4074a9e87c38b5a0e3a79fbe3559"), looks := false }, kinds := [], alts := [], laidByText := true, laidKinds := [.data, .data, .pinned], laidTests := true, laidLooks := .later }
def PadPSSCardSaid : Prop := Claim7.holds Tryd.pinned (.plain (OpenSpec.ofChange padPSSSpec)) padPSSCard

/-- THE TIED CARD OF 'baileylaw8.PadSpoilt'. -/
def padSpoiltCard : Claim7 := { stood := { row := padSpoiltRow, standIns := [], harness := (true, "bab58f0bb40251d3a30b4b70e19f7dd5126c4074a9e87c38b5a0e3a79fbe3559"), looks := false }, kinds := [], alts := [], laidByText := true, laidKinds := [.data, .data, .pinned], laidTests := true, laidLooks := .later }
def PadSpoiltCardSaid : Prop := Claim7.holds Tryd.pinned (.plain (OpenSpec.ofChange padSpoiltSpec)) padSpoiltCard

/-- THE TIED CARD OF 'baileylaw8.PadDec1'. -/
def padDec1Card : Claim7 := { stood := { row := padDec1Row, standIns := [], harness := (true, "bab58f0bb40251d3a30b4b70e19f7dd5126c4074a9e87c38b5a0e3a79fbe3559"), looks := false }, kinds := [], alts := [], laidByText := true, laidKinds := [.data, .data, .pinned], laidTests := true, laidLooks := .later }
def PadDec1CardSaid : Prop := Claim7.holds Tryd.pinned (.plain (OpenSpec.ofChange padDec1Spec)) padDec1Card

/-- THE TIED CARD OF 'baileylaw8.PadEnc1'. -/
def padEnc1Card : Claim7 := { stood := { row := padEnc1Row, standIns := [], harness := (true, "bab58f0bb40251d3a30b4b70e19f7dd5126c4074a9e87c38b5a0e3a79fbe3559"), looks := false }, kinds := [], alts := [], laidByText := true, laidKinds := [.data, .data, .pinned], laidTests := true, laidLooks := .later }
def PadEnc1CardSaid : Prop := Claim7.holds Tryd.pinned (.plain (OpenSpec.ofChange padEnc1Spec)) padEnc1Card

/-- THE SECOND FORM's CARD OF 'baileylaw8.PadInfo'. -/
def padInfoUptoCard : Claim7 := { stood := { row := padInfoUptoRow, standIns := [], harness := (true, "bab58f0bb40251d3a30b4b70e19f7dd5126c4074a9e87c38b5a0e3a79fbe3559"), looks := false }, kinds := [], alts := [], laidByText := true, laidKinds := [.data, .data, .pinned], laidTests := true, laidLooks := .later }
def PadInfoUptoCardSaid : Prop := Claim7.holds Tryd.pinned (.plain (OpenSpec.upto padInfoSpec)) padInfoUptoCard

/-- THE SECOND FORM's CARD OF 'baileylaw8.PadOAEP'. -/
def padOAEPUptoCard : Claim7 := { stood := { row := padOAEPUptoRow, standIns := [], harness := (true, "bab58f0bb40251d3a30b4b70e19f7dd5126c4074a9e87c38b5a0e3a79fbe3559"), looks := false }, kinds := [], alts := [], laidByText := true, laidKinds := [.data, .data, .pinned], laidTests := true, laidLooks := .later }
def PadOAEPUptoCardSaid : Prop := Claim7.holds Tryd.pinned (.plain (OpenSpec.upto padOAEPSpec)) padOAEPUptoCard

/-- THE SECOND FORM's CARD OF 'baileylaw8.PadPSS'. -/
def padPSSUptoCard : Claim7 := { stood := { row := padPSSUptoRow, standIns := [], harness := (true, "bab58f0bb40251d3a30b4b70e19f7dd5126c4074a9e87c38b5a0e3a79fbe3559"), looks := false }, kinds := [], alts := [], laidByText := true, laidKinds := [.data, .data, .pinned], laidTests := true, laidLooks := .later }
def PadPSSUptoCardSaid : Prop := Claim7.holds Tryd.pinned (.plain (OpenSpec.upto padPSSSpec)) padPSSUptoCard

/-- THE SECOND FORM's CARD OF 'baileylaw8.PadSpoilt'. -/
def padSpoiltUptoCard : Claim7 := { stood := { row := padSpoiltUptoRow, standIns := [], harness := (true, "bab58f0bb40251d3a30b4b70e19f7dd5126c4074a9e87c38b5a0e3a79fbe3559"), looks := false }, kinds := [], alts := [], laidByText := true, laidKinds := [.data, .data, .pinned], laidTests := true, laidLooks := .later }
def PadSpoiltUptoCardSaid : Prop := Claim7.holds Tryd.pinned (.plain (OpenSpec.upto padSpoiltSpec)) padSpoiltUptoCard

/-- THE SECOND FORM's CARD OF 'baileylaw8.PadDec1'. -/
def padDec1UptoCard : Claim7 := { stood := { row := padDec1UptoRow, standIns := [], harness := (true, "bab58f0bb40251d3a30b4b70e19f7dd5126c4074a9e87c38b5a0e3a79fbe3559"), looks := false }, kinds := [], alts := [], laidByText := true, laidKinds := [.data, .data, .pinned], laidTests := true, laidLooks := .later }
def PadDec1UptoCardSaid : Prop := Claim7.holds Tryd.pinned (.plain (OpenSpec.upto padDec1Spec)) padDec1UptoCard

/-- THE SECOND FORM's CARD OF 'baileylaw8.PadEnc1'. -/
def padEnc1UptoCard : Claim7 := { stood := { row := padEnc1UptoRow, standIns := [], harness := (true, "bab58f0bb40251d3a30b4b70e19f7dd5126c4074a9e87c38b5a0e3a79fbe3559"), looks := false }, kinds := [], alts := [], laidByText := true, laidKinds := [.data, .data, .pinned], laidTests := true, laidLooks := .later }
def PadEnc1UptoCardSaid : Prop := Claim7.holds Tryd.pinned (.plain (OpenSpec.upto padEnc1Spec)) padEnc1UptoCard
end Rows
end Go.Proofs.YtddemlajfbagdaaDoor
