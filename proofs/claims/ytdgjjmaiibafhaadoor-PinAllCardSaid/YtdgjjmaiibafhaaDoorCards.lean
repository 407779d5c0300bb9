/-
  DERIVED. GIVEN WITH THE SEED: THE CARDS: each row of YtdgjjmaiibafhaaDoorRows.lean that lists a variable, with what it lists TIED to the program's text (the seventh form; the later family's looks); each row that meets fmt, with fmt's text TOLD by the authors' own Lean function (tested against real Go, not proved from fmt's source: count such statements apart). THE CARD IS WHAT COUNTS. Prove the row's statement (the work); the ties are given (YtdgjjmaiibafhaaDoorTie.lean); close each card by the builder's one call (the guide's Derived/Test/ToyasCard.lean, 'card_holds'). Laid BY PROGRAM, IN A SANDBOX (cutbox-door.mjs). By AI agents, Wed Nov 11 2026. No macro, syntax, notation, axiom, sorry.
-/
import Derived.Test.YtdgjjmaiibafhaaDoorRows
import GoSem.ClaimSeven
namespace Go.Proofs.YtdgjjmaiibafhaaDoor
namespace Rows

/-- THE TIED CARD OF 'baileylaw21.PinCode'. -/
def pinCodeCard : Claim7 := { stood := { row := pinCodeRow, standIns := [], harness := (true, "0f01dcc4d194968f9474a74e10ecd5171e636f731a7214f9886aa90c2d48dac9"), looks := false }, kinds := [], alts := [], laidByText := true, laidKinds := [.data], laidTests := true, laidLooks := .later }
def PinCodeCardSaid : Prop := Claim7.holds Tryd.pinned (.plain (OpenSpec.ofChange pinCodeSpec)) pinCodeCard

/-- THE TIED CARD OF 'baileylaw21.PinAll'. -/
def pinAllCard : Claim7 := { stood := { row := pinAllRow, standIns := [], harness := (true, "0f01dcc4d194968f9474a74e10ecd5171e636f731a7214f9886aa90c2d48dac9"), looks := false }, kinds := [], alts := [], laidByText := true, laidKinds := [.data], laidTests := true, laidLooks := .later }
def PinAllCardSaid : Prop := Claim7.holds Tryd.pinned (.plain (OpenSpec.ofChange pinAllSpec)) pinAllCard

/-- THE TIED CARD OF 'baileylaw21.PinNone'. -/
def pinNoneCard : Claim7 := { stood := { row := pinNoneRow, standIns := [], harness := (true, "0f01dcc4d194968f9474a74e10ecd5171e636f731a7214f9886aa90c2d48dac9"), looks := false }, kinds := [], alts := [], laidByText := true, laidKinds := [.data], laidTests := true, laidLooks := .later }
def PinNoneCardSaid : Prop := Claim7.holds Tryd.pinned (.plain (OpenSpec.ofChange pinNoneSpec)) pinNoneCard

/-- THE SECOND FORM's CARD OF 'baileylaw21.PinCode'. -/
def pinCodeUptoCard : Claim7 := { stood := { row := pinCodeUptoRow, standIns := [], harness := (true, "0f01dcc4d194968f9474a74e10ecd5171e636f731a7214f9886aa90c2d48dac9"), looks := false }, kinds := [], alts := [], laidByText := true, laidKinds := [.data], laidTests := true, laidLooks := .later }
def PinCodeUptoCardSaid : Prop := Claim7.holds Tryd.pinned (.plain (OpenSpec.upto pinCodeSpec)) pinCodeUptoCard

/-- THE SECOND FORM's CARD OF 'baileylaw21.PinAll'. -/
def pinAllUptoCard : Claim7 := { stood := { row := pinAllUptoRow, standIns := [], harness := (true, "0f01dcc4d194968f9474a74e10ecd5171e636f731a7214f9886aa90c2d48dac9"), looks := false }, kinds := [], alts := [], laidByText := true, laidKinds := [.data], laidTests := true, laidLooks := .later }
def PinAllUptoCardSaid : Prop := Claim7.holds Tryd.pinned (.plain (OpenSpec.upto pinAllSpec)) pinAllUptoCard

/-- THE SECOND FORM's CARD OF 'baileylaw21.PinNone'. -/
def pinNoneUptoCard : Claim7 := { stood := { row := pinNoneUptoRow, standIns := [], harness := (true, "0f01dcc4d194968f9474a74e10ecd5171e636f731a7214f9886aa90c2d48dac9"), looks := false }, kinds := [], alts := [], laidByText := true, laidKinds := [.data], laidTests := true, laidLooks := .later }
def PinNoneUptoCardSaid : Prop := Claim7.holds Tryd.pinned (.plain (OpenSpec.upto pinNoneSpec)) pinNoneUptoCard
end Rows
end Go.Proofs.YtdgjjmaiibafhaaDoor
