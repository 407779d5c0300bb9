/-
  DERIVED. GIVEN WITH THE SEED: THE CARDS: each row of YtpccmcpeijmekaaDoorRows.lean that lists a variable, with what it lists TIED to the program's text (the seventh form; the later family's looks); each row that meets fmt, with fmt's text TOLD by the authors' own Lean function (tested against real Go, not proved from fmt's source: count such statements apart). THE CARD IS WHAT COUNTS. Prove the row's statement (the work); the ties are given (YtpccmcpeijmekaaDoorTie.lean); close each card by the builder's one call (the guide's Derived/Test/ToyasCard.lean, 'card_holds'). Laid BY PROGRAM, IN A SANDBOX (cutbox-door.mjs). By AI agents, Wed Nov 11 2026. No macro, syntax, notation, axiom, sorry.
-/
import Derived.Test.YtpccmcpeijmekaaDoorRows
import GoSem.ClaimSeven
namespace Go.Proofs.YtpccmcpeijmekaaDoor
namespace Rows

/-- THE TIED CARD OF 'baileylaw16.AuditAppend'. -/
def auditAppendCard : Claim7 := { stood := { row := auditAppendRow, standIns := [], harness := (true, "fa1f99499f3b2321f4035284054e15c5b8e2afc7c2e3356950cbba3822904f89"), looks := false }, kinds := [], alts := [], laidByText := true, laidKinds := [.data], laidTests := true, laidLooks := .later }
def AuditAppendCardSaid : Prop := Claim7.holds Tryd.pinned (.plain (OpenSpec.ofChange auditAppendSpec)) auditAppendCard

/-- THE TIED CARD OF 'baileylaw16.AuditTaken'. -/
def auditTakenCard : Claim7 := { stood := { row := auditTakenRow, standIns := [], harness := (true, "fa1f99499f3b2321f4035284054e15c5b8e2afc7c2e3356950cbba3822904f89"), looks := false }, kinds := [], alts := [], laidByText := true, laidKinds := [.data], laidTests := true, laidLooks := .later }
def AuditTakenCardSaid : Prop := Claim7.holds Tryd.pinned (.plain (OpenSpec.ofChange auditTakenSpec)) auditTakenCard

/-- THE TIED CARD OF 'baileylaw16.AuditLong'. -/
def auditLongCard : Claim7 := { stood := { row := auditLongRow, standIns := [], harness := (true, "fa1f99499f3b2321f4035284054e15c5b8e2afc7c2e3356950cbba3822904f89"), looks := false }, kinds := [], alts := [], laidByText := true, laidKinds := [.data], laidTests := true, laidLooks := .later }
def AuditLongCardSaid : Prop := Claim7.holds Tryd.pinned (.plain (OpenSpec.ofChange auditLongSpec)) auditLongCard

/-- THE SECOND FORM's CARD OF 'baileylaw16.AuditAppend'. -/
def auditAppendUptoCard : Claim7 := { stood := { row := auditAppendUptoRow, standIns := [], harness := (true, "fa1f99499f3b2321f4035284054e15c5b8e2afc7c2e3356950cbba3822904f89"), looks := false }, kinds := [], alts := [], laidByText := true, laidKinds := [.data], laidTests := true, laidLooks := .later }
def AuditAppendUptoCardSaid : Prop := Claim7.holds Tryd.pinned (.plain (OpenSpec.upto auditAppendSpec)) auditAppendUptoCard

/-- THE SECOND FORM's CARD OF 'baileylaw16.AuditTaken'. -/
def auditTakenUptoCard : Claim7 := { stood := { row := auditTakenUptoRow, standIns := [], harness := (true, "fa1f99499f3b2321f4035284054e15c5b8e2afc7c2e3356950cbba3822904f89"), looks := false }, kinds := [], alts := [], laidByText := true, laidKinds := [.data], laidTests := true, laidLooks := .later }
def AuditTakenUptoCardSaid : Prop := Claim7.holds Tryd.pinned (.plain (OpenSpec.upto auditTakenSpec)) auditTakenUptoCard

/-- THE SECOND FORM's CARD OF 'baileylaw16.AuditLong'. -/
def auditLongUptoCard : Claim7 := { stood := { row := auditLongUptoRow, standIns := [], harness := (true, "fa1f99499f3b2321f4035284054e15c5b8e2afc7c2e3356950cbba3822904f89"), looks := false }, kinds := [], alts := [], laidByText := true, laidKinds := [.data], laidTests := true, laidLooks := .later }
def AuditLongUptoCardSaid : Prop := Claim7.holds Tryd.pinned (.plain (OpenSpec.upto auditLongSpec)) auditLongUptoCard
end Rows
end Go.Proofs.YtpccmcpeijmekaaDoor
