/-
  DERIVED. GIVEN WITH THE SEED: THE CARDS: each row of YtgjnmpjimhbfgaaGreatDoorRows.lean that lists a variable, with what it lists TIED to the program's text (the seventh form; the later family's looks); each row that meets fmt, with fmt's text TOLD by the authors' own Lean function (tested against real Go, not proved from fmt's source: count such statements apart). THE CARD IS WHAT COUNTS. Prove the row's statement (the work); the ties are given (YtgjnmpjimhbfgaaGreatDoorTie.lean); close each card by the builder's one call (the guide's Derived/Test/ToyasCard.lean, 'card_holds'). Laid BY PROGRAM, IN A SANDBOX (cutbox-door.mjs). By AI agents, Wed Nov 11 2026. No macro, syntax, notation, axiom, sorry.
-/
import Derived.Test.YtgjnmpjimhbfgaaGreatDoorRows
import GoSem.ClaimSeven
namespace Go.Proofs.YtgjnmpjimhbfgaaGreatDoor
namespace Rows

/-- THE TIED CARD OF 'baileylaw15.StoreFull'. -/
def storeFullCard : Claim7 := { stood := { row := storeFullRow, standIns := [], harness := (true, "15d1f2f2ffabd3e9456165f2da9f03994a2e0a69cf81981a2d3d059918a04596"), looks := false }, kinds := [], alts := [], laidByText := true, laidKinds := [.data], laidTests := true, laidLooks := .later }
def StoreFullCardSaid : Prop := Claim7.holds Tryz.pinned (.plain (OpenSpec.ofChange storeFullSpec)) storeFullCard

/-- THE TIED CARD OF 'baileylaw15.StoreSeal'. -/
def storeSealCard : Claim7 := { stood := { row := storeSealRow, standIns := [], harness := (true, "15d1f2f2ffabd3e9456165f2da9f03994a2e0a69cf81981a2d3d059918a04596"), looks := false }, kinds := [], alts := [], laidByText := true, laidKinds := [.data], laidTests := true, laidLooks := .later }
def StoreSealCardSaid : Prop := Claim7.holds Tryz.pinned (.plain (OpenSpec.ofChange storeSealSpec)) storeSealCard

/-- THE TIED CARD OF 'baileylaw15.StoreNone'. -/
def storeNoneCard : Claim7 := { stood := { row := storeNoneRow, standIns := [], harness := (true, "15d1f2f2ffabd3e9456165f2da9f03994a2e0a69cf81981a2d3d059918a04596"), looks := false }, kinds := [], alts := [], laidByText := true, laidKinds := [.data], laidTests := true, laidLooks := .later }
def StoreNoneCardSaid : Prop := Claim7.holds Tryz.pinned (.plain (OpenSpec.ofChange storeNoneSpec)) storeNoneCard

/-- THE TIED CARD OF 'baileylaw15.StoreMany'. -/
def storeManyCard : Claim7 := { stood := { row := storeManyRow, standIns := [], harness := (true, "15d1f2f2ffabd3e9456165f2da9f03994a2e0a69cf81981a2d3d059918a04596"), looks := false }, kinds := [], alts := [], laidByText := true, laidKinds := [.data], laidTests := true, laidLooks := .later }
def StoreManyCardSaid : Prop := Claim7.holds Tryz.pinned (.plain (OpenSpec.ofChange storeManySpec)) storeManyCard

/-- THE TIED CARD OF 'baileylaw15.StoreCommits'. -/
def storeCommitsCard : Claim7 := { stood := { row := storeCommitsRow, standIns := [], harness := (true, "15d1f2f2ffabd3e9456165f2da9f03994a2e0a69cf81981a2d3d059918a04596"), looks := false }, kinds := [], alts := [], laidByText := true, laidKinds := [.data], laidTests := true, laidLooks := .later }
def StoreCommitsCardSaid : Prop := Claim7.holds Tryz.pinned (.plain (OpenSpec.ofChange storeCommitsSpec)) storeCommitsCard

/-- THE TIED CARD OF 'baileylaw15.StoreCrash'. -/
def storeCrashCard : Claim7 := { stood := { row := storeCrashRow, standIns := [], harness := (true, "15d1f2f2ffabd3e9456165f2da9f03994a2e0a69cf81981a2d3d059918a04596"), looks := false }, kinds := [], alts := [], laidByText := true, laidKinds := [.data], laidTests := true, laidLooks := .later }
def StoreCrashCardSaid : Prop := Claim7.holds Tryz.pinned (.plain (OpenSpec.ofChange storeCrashSpec)) storeCrashCard

/-- THE SECOND FORM's CARD OF 'baileylaw15.StoreFull'. -/
def storeFullUptoCard : Claim7 := { stood := { row := storeFullUptoRow, standIns := [], harness := (true, "15d1f2f2ffabd3e9456165f2da9f03994a2e0a69cf81981a2d3d059918a04596"), looks := false }, kinds := [], alts := [], laidByText := true, laidKinds := [.data], laidTests := true, laidLooks := .later }
def StoreFullUptoCardSaid : Prop := Claim7.holds Tryz.pinned (.plain (OpenSpec.upto storeFullSpec)) storeFullUptoCard

/-- THE SECOND FORM's CARD OF 'baileylaw15.StoreSeal'. -/
def storeSealUptoCard : Claim7 := { stood := { row := storeSealUptoRow, standIns := [], harness := (true, "15d1f2f2ffabd3e9456165f2da9f03994a2e0a69cf81981a2d3d059918a04596"), looks := false }, kinds := [], alts := [], laidByText := true, laidKinds := [.data], laidTests := true, laidLooks := .later }
def StoreSealUptoCardSaid : Prop := Claim7.holds Tryz.pinned (.plain (OpenSpec.upto storeSealSpec)) storeSealUptoCard

/-- THE SECOND FORM's CARD OF 'baileylaw15.StoreNone'. -/
def storeNoneUptoCard : Claim7 := { stood := { row := storeNoneUptoRow, standIns := [], harness := (true, "15d1f2f2ffabd3e9456165f2da9f03994a2e0a69cf81981a2d3d059918a04596"), looks := false }, kinds := [], alts := [], laidByText := true, laidKinds := [.data], laidTests := true, laidLooks := .later }
def StoreNoneUptoCardSaid : Prop := Claim7.holds Tryz.pinned (.plain (OpenSpec.upto storeNoneSpec)) storeNoneUptoCard

/-- THE SECOND FORM's CARD OF 'baileylaw15.StoreMany'. -/
def storeManyUptoCard : Claim7 := { stood := { row := storeManyUptoRow, standIns := [], harness := (true, "15d1f2f2ffabd3e9456165f2da9f03994a2e0a69cf81981a2d3d059918a04596"), looks := false }, kinds := [], alts := [], laidByText := true, laidKinds := [.data], laidTests := true, laidLooks := .later }
def StoreManyUptoCardSaid : Prop := Claim7.holds Tryz.pinned (.plain (OpenSpec.upto storeManySpec)) storeManyUptoCard

/-- THE SECOND FORM's CARD OF 'baileylaw15.StoreCommits'. -/
def storeCommitsUptoCard : Claim7 := { stood := { row := storeCommitsUptoRow, standIns := [], harness := (true, "15d1f2f2ffabd3e9456165f2da9f03994a2e0a69cf81981a2d3d059918a04596"), looks := false }, kinds := [], alts := [], laidByText := true, laidKinds := [.data], laidTests := true, laidLooks := .later }
def StoreCommitsUptoCardSaid : Prop := Claim7.holds Tryz.pinned (.plain (OpenSpec.upto storeCommitsSpec)) storeCommitsUptoCard

/-- THE SECOND FORM's CARD OF 'baileylaw15.StoreCrash'. -/
def storeCrashUptoCard : Claim7 := { stood := { row := storeCrashUptoRow, standIns := [], harness := (true, "15d1f2f2ffabd3e9456165f2da9f03994a2e0a69cf81981a2d3d059918a04596"), looks := false }, kinds := [], alts := [], laidByText := true, laidKinds := [.data], laidTests := true, laidLooks := .later }
def StoreCrashUptoCardSaid : Prop := Claim7.holds Tryz.pinned (.plain (OpenSpec.upto storeCrashSpec)) storeCrashUptoCard
end Rows
end Go.Proofs.YtgjnmpjimhbfgaaGreatDoor
