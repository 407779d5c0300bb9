/-
  DERIVED. GIVEN WITH THE SEED: THE CARDS: each row of YtdlipoklhojjkaaDoorRows.lean that lists a variable, with what it lists TIED to the program's text (the seventh form; the later family's looks); each row that meets fmt, with fmt's text TOLD by the authors' own Lean function (tested against real Go, not proved from fmt's source: count such statements apart). THE CARD IS WHAT COUNTS. Prove the row's statement (the work); the ties are given (YtdlipoklhojjkaaDoorTie.lean); close each card by the builder's one call (the guide's Derived/Test/ToyasCard.lean, 'card_holds'). Laid BY PROGRAM, IN A SANDBOX (cutbox-door.mjs). By AI agents, Wed Nov 11 2026. No macro, syntax, notation, axiom, sorry.
-/
import Derived.Test.YtdlipoklhojjkaaDoorRows
import GoSem.ClaimSeven
namespace Go.Proofs.YtdlipoklhojjkaaDoor
namespace Rows

/-- THE TIED CARD OF 'baileylaw3.HashAll'. -/
def hashAllCard : Claim7 := { stood := { row := hashAllRow, standIns := [], harness := (true, "5125ff8c2ded4f0237646e5739299c71f5bcde60b01ce759438a91b174ed50a3"), looks := false }, kinds := [], alts := [], laidByText := true, laidKinds := [.data], laidTests := true, laidLooks := .later }
def HashAllCardSaid : Prop := Claim7.holds Tryd.pinned (.plain (OpenSpec.ofChange hashAllSpec)) hashAllCard

/-- THE TIED CARD OF 'baileylaw3.HashParts'. -/
def hashPartsCard : Claim7 := { stood := { row := hashPartsRow, standIns := [], harness := (true, "5125ff8c2ded4f0237646e5739299c71f5bcde60b01ce759438a91b174ed50a3"), looks := false }, kinds := [], alts := [], laidByText := true, laidKinds := [.data], laidTests := true, laidLooks := .later }
def HashPartsCardSaid : Prop := Claim7.holds Tryd.pinned (.plain (OpenSpec.ofChange hashPartsSpec)) hashPartsCard

/-- THE TIED CARD OF 'baileylaw3.HashHMAC'. -/
def hashHMACCard : Claim7 := { stood := { row := hashHMACRow, standIns := [], harness := (true, "5125ff8c2ded4f0237646e5739299c71f5bcde60b01ce759438a91b174ed50a3"), looks := false }, kinds := [], alts := [], laidByText := true, laidKinds := [.data], laidTests := true, laidLooks := .later }
def HashHMACCardSaid : Prop := Claim7.holds Tryd.pinned (.plain (OpenSpec.ofChange hashHMACSpec)) hashHMACCard

/-- THE TIED CARD OF 'baileylaw3.HashChunks'. -/
def hashChunksCard : Claim7 := { stood := { row := hashChunksRow, standIns := [], harness := (true, "5125ff8c2ded4f0237646e5739299c71f5bcde60b01ce759438a91b174ed50a3"), looks := false }, kinds := [], alts := [], laidByText := true, laidKinds := [.data], laidTests := true, laidLooks := .later }
def HashChunksCardSaid : Prop := Claim7.holds Tryd.pinned (.plain (OpenSpec.ofChange hashChunksSpec)) hashChunksCard

/-- THE TIED CARD OF 'baileylaw3.HashEdges'. -/
def hashEdgesCard : Claim7 := { stood := { row := hashEdgesRow, standIns := [], harness := (true, "5125ff8c2ded4f0237646e5739299c71f5bcde60b01ce759438a91b174ed50a3"), looks := false }, kinds := [], alts := [], laidByText := true, laidKinds := [.data], laidTests := true, laidLooks := .later }
def HashEdgesCardSaid : Prop := Claim7.holds Tryd.pinned (.plain (OpenSpec.ofChange hashEdgesSpec)) hashEdgesCard

/-- THE TIED CARD OF 'baileylaw3.HashMGF1'. -/
def hashMGF1Card : Claim7 := { stood := { row := hashMGF1Row, standIns := [], harness := (true, "5125ff8c2ded4f0237646e5739299c71f5bcde60b01ce759438a91b174ed50a3"), looks := false }, kinds := [], alts := [], laidByText := true, laidKinds := [.data], laidTests := true, laidLooks := .later }
def HashMGF1CardSaid : Prop := Claim7.holds Tryd.pinned (.plain (OpenSpec.ofChange hashMGF1Spec)) hashMGF1Card

/-- THE TIED CARD OF 'baileylaw3.HashPBKDF2'. -/
def hashPBKDF2Card : Claim7 := { stood := { row := hashPBKDF2Row, standIns := [], harness := (true, "5125ff8c2ded4f0237646e5739299c71f5bcde60b01ce759438a91b174ed50a3"), looks := false }, kinds := [], alts := [], laidByText := true, laidKinds := [.data], laidTests := true, laidLooks := .later }
def HashPBKDF2CardSaid : Prop := Claim7.holds Tryd.pinned (.plain (OpenSpec.ofChange hashPBKDF2Spec)) hashPBKDF2Card

/-- THE TIED CARD OF 'baileylaw3.HashBig'. -/
def hashBigCard : Claim7 := { stood := { row := hashBigRow, standIns := [], harness := (true, "5125ff8c2ded4f0237646e5739299c71f5bcde60b01ce759438a91b174ed50a3"), looks := false }, kinds := [], alts := [], laidByText := true, laidKinds := [.data], laidTests := true, laidLooks := .later }
def HashBigCardSaid : Prop := Claim7.holds Tryd.pinned (.plain (OpenSpec.ofChange hashBigSpec)) hashBigCard

/-- THE SECOND FORM's CARD OF 'baileylaw3.HashAll'. -/
def hashAllUptoCard : Claim7 := { stood := { row := hashAllUptoRow, standIns := [], harness := (true, "5125ff8c2ded4f0237646e5739299c71f5bcde60b01ce759438a91b174ed50a3"), looks := false }, kinds := [], alts := [], laidByText := true, laidKinds := [.data], laidTests := true, laidLooks := .later }
def HashAllUptoCardSaid : Prop := Claim7.holds Tryd.pinned (.plain (OpenSpec.upto hashAllSpec)) hashAllUptoCard

/-- THE SECOND FORM's CARD OF 'baileylaw3.HashParts'. -/
def hashPartsUptoCard : Claim7 := { stood := { row := hashPartsUptoRow, standIns := [], harness := (true, "5125ff8c2ded4f0237646e5739299c71f5bcde60b01ce759438a91b174ed50a3"), looks := false }, kinds := [], alts := [], laidByText := true, laidKinds := [.data], laidTests := true, laidLooks := .later }
def HashPartsUptoCardSaid : Prop := Claim7.holds Tryd.pinned (.plain (OpenSpec.upto hashPartsSpec)) hashPartsUptoCard

/-- THE SECOND FORM's CARD OF 'baileylaw3.HashHMAC'. -/
def hashHMACUptoCard : Claim7 := { stood := { row := hashHMACUptoRow, standIns := [], harness := (true, "5125ff8c2ded4f0237646e5739299c71f5bcde60b01ce759438a91b174ed50a3"), looks := false }, kinds := [], alts := [], laidByText := true, laidKinds := [.data], laidTests := true, laidLooks := .later }
def HashHMACUptoCardSaid : Prop := Claim7.holds Tryd.pinned (.plain (OpenSpec.upto hashHMACSpec)) hashHMACUptoCard

/-- THE SECOND FORM's CARD OF 'baileylaw3.HashChunks'. -/
def hashChunksUptoCard : Claim7 := { stood := { row := hashChunksUptoRow, standIns := [], harness := (true, "5125ff8c2ded4f0237646e5739299c71f5bcde60b01ce759438a91b174ed50a3"), looks := false }, kinds := [], alts := [], laidByText := true, laidKinds := [.data], laidTests := true, laidLooks := .later }
def HashChunksUptoCardSaid : Prop := Claim7.holds Tryd.pinned (.plain (OpenSpec.upto hashChunksSpec)) hashChunksUptoCard

/-- THE SECOND FORM's CARD OF 'baileylaw3.HashEdges'. -/
def hashEdgesUptoCard : Claim7 := { stood := { row := hashEdgesUptoRow, standIns := [], harness := (true, "5125ff8c2ded4f0237646e5739299c71f5bcde60b01ce759438a91b174ed50a3"), looks := false }, kinds := [], alts := [], laidByText := true, laidKinds := [.data], laidTests := true, laidLooks := .later }
def HashEdgesUptoCardSaid : Prop := Claim7.holds Tryd.pinned (.plain (OpenSpec.upto hashEdgesSpec)) hashEdgesUptoCard

/-- THE SECOND FORM's CARD OF 'baileylaw3.HashMGF1'. -/
def hashMGF1UptoCard : Claim7 := { stood := { row := hashMGF1UptoRow, standIns := [], harness := (true, "5125ff8c2ded4f0237646e5739299c71f5bcde60b01ce759438a91b174ed50a3"), looks := false }, kinds := [], alts := [], laidByText := true, laidKinds := [.data], laidTests := true, laidLooks := .later }
def HashMGF1UptoCardSaid : Prop := Claim7.holds Tryd.pinned (.plain (OpenSpec.upto hashMGF1Spec)) hashMGF1UptoCard

/-- THE SECOND FORM's CARD OF 'baileylaw3.HashPBKDF2'. -/
def hashPBKDF2UptoCard : Claim7 := { stood := { row := hashPBKDF2UptoRow, standIns := [], harness := (true, "5125ff8c2ded4f0237646e5739299c71f5bcde60b01ce759438a91b174ed50a3"), looks := false }, kinds := [], alts := [], laidByText := true, laidKinds := [.data], laidTests := true, laidLooks := .later }
def HashPBKDF2UptoCardSaid : Prop := Claim7.holds Tryd.pinned (.plain (OpenSpec.upto hashPBKDF2Spec)) hashPBKDF2UptoCard

/-- THE SECOND FORM's CARD OF 'baileylaw3.HashBig'. -/
def hashBigUptoCard : Claim7 := { stood := { row := hashBigUptoRow, standIns := [], harness := (true, "5125ff8c2ded4f0237646e5739299c71f5bcde60b01ce759438a91b174ed50a3"), looks := false }, kinds := [], alts := [], laidByText := true, laidKinds := [.data], laidTests := true, laidLooks := .later }
def HashBigUptoCardSaid : Prop := Claim7.holds Tryd.pinned (.plain (OpenSpec.upto hashBigSpec)) hashBigUptoCard
end Rows
end Go.Proofs.YtdlipoklhojjkaaDoor
