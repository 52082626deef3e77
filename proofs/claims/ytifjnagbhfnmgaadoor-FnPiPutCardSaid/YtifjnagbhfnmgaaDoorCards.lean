/-
  DERIVED. GIVEN WITH THE SEED: THE CARDS: each row of YtifjnagbhfnmgaaDoorRows.lean that lists a variable, with what it lists TIED to the program's text (the seventh form; the later family's looks); each row that meets fmt, with fmt's text TOLD by the authors' own Lean function (tested against real Go, not proved from fmt's source: count such statements apart). THE CARD IS WHAT COUNTS. Prove the row's statement (the work); the ties are given (YtifjnagbhfnmgaaDoorTie.lean); close each card by the builder's one call (the guide's Derived/Test/ToyasCard.lean, 'card_holds'). Laid BY PROGRAM, IN A SANDBOX (cutbox-door.mjs). By AI agents, Wed Nov 11 2026. No macro, syntax, notation, axiom, sorry.
-/
import Derived.Test.YtifjnagbhfnmgaaDoorRows
import GoSem.ClaimSeven
namespace Go.Proofs.YtifjnagbhfnmgaaDoor
namespace Rows

/-- THE TIED CARD OF 'laws.FnExactPiKey'. -/
def fnExactPiKeyCard : Claim7 := { stood := { row := fnExactPiKeyRow, standIns := [], harness := (true, "7089076566ac21cd09c82fd74b7bb2875eb8936b43a0f52ca4deaa5e9330036c"), looks := false }, kinds := [], alts := [], laidByText := true, laidKinds := [.data, .data, .data], laidTests := true, laidLooks := .later }
def FnExactPiKeyCardSaid : Prop := Claim7.holds Tryd.pinned (.plain (OpenSpec.ofChange fnExactPiKeySpec)) fnExactPiKeyCard

/-- THE TIED CARD OF 'laws.FnExactPiAlphaSame'. -/
def fnExactPiAlphaSameCard : Claim7 := { stood := { row := fnExactPiAlphaSameRow, standIns := [], harness := (true, "7089076566ac21cd09c82fd74b7bb2875eb8936b43a0f52ca4deaa5e9330036c"), looks := false }, kinds := [], alts := [], laidByText := true, laidKinds := [.data, .data, .data], laidTests := true, laidLooks := .later }
def FnExactPiAlphaSameCardSaid : Prop := Claim7.holds Tryd.pinned (.plain (OpenSpec.ofChange fnExactPiAlphaSameSpec)) fnExactPiAlphaSameCard

/-- THE TIED CARD OF 'laws.FnPiOk'. -/
def fnPiOkCard : Claim7 := { stood := { row := fnPiOkRow, standIns := [], harness := (true, "7089076566ac21cd09c82fd74b7bb2875eb8936b43a0f52ca4deaa5e9330036c"), looks := false }, kinds := [], alts := [], laidByText := true, laidKinds := [.data, .data, .data], laidTests := true, laidLooks := .later }
def FnPiOkCardSaid : Prop := Claim7.holds Tryd.pinned (.plain (OpenSpec.ofChange fnPiOkSpec)) fnPiOkCard

/-- THE TIED CARD OF 'laws.FnPiKey'. -/
def fnPiKeyCard : Claim7 := { stood := { row := fnPiKeyRow, standIns := [], harness := (true, "7089076566ac21cd09c82fd74b7bb2875eb8936b43a0f52ca4deaa5e9330036c"), looks := false }, kinds := [], alts := [], laidByText := true, laidKinds := [.data, .data, .data], laidTests := true, laidLooks := .later }
def FnPiKeyCardSaid : Prop := Claim7.holds Tryd.pinned (.plain (OpenSpec.ofChange fnPiKeySpec)) fnPiKeyCard

/-- THE TIED CARD OF 'laws.FnPiPut'. -/
def fnPiPutCard : Claim7 := { stood := { row := fnPiPutRow, standIns := [], harness := (true, "7089076566ac21cd09c82fd74b7bb2875eb8936b43a0f52ca4deaa5e9330036c"), looks := false }, kinds := [], alts := [], laidByText := true, laidKinds := [.data, .data, .data], laidTests := true, laidLooks := .later }
def FnPiPutCardSaid : Prop := Claim7.holds Tryd.pinned (.plain (OpenSpec.ofChange fnPiPutSpec)) fnPiPutCard

/-- THE TIED CARD OF 'laws.FnPutBack'. -/
def fnPutBackCard : Claim7 := { stood := { row := fnPutBackRow, standIns := [], harness := (true, "7089076566ac21cd09c82fd74b7bb2875eb8936b43a0f52ca4deaa5e9330036c"), looks := false }, kinds := [], alts := [], laidByText := true, laidKinds := [.data, .data, .data], laidTests := true, laidLooks := .later }
def FnPutBackCardSaid : Prop := Claim7.holds Tryd.pinned (.plain (OpenSpec.ofChange fnPutBackSpec)) fnPutBackCard

/-- THE SECOND FORM's CARD OF 'laws.FnExactPiKey'. -/
def fnExactPiKeyUptoCard : Claim7 := { stood := { row := fnExactPiKeyUptoRow, standIns := [], harness := (true, "7089076566ac21cd09c82fd74b7bb2875eb8936b43a0f52ca4deaa5e9330036c"), looks := false }, kinds := [], alts := [], laidByText := true, laidKinds := [.data, .data, .data], laidTests := true, laidLooks := .later }
def FnExactPiKeyUptoCardSaid : Prop := Claim7.holds Tryd.pinned (.plain (OpenSpec.upto fnExactPiKeySpec)) fnExactPiKeyUptoCard

/-- THE SECOND FORM's CARD OF 'laws.FnExactPiAlphaSame'. -/
def fnExactPiAlphaSameUptoCard : Claim7 := { stood := { row := fnExactPiAlphaSameUptoRow, standIns := [], harness := (true, "7089076566ac21cd09c82fd74b7bb2875eb8936b43a0f52ca4deaa5e9330036c"), looks := false }, kinds := [], alts := [], laidByText := true, laidKinds := [.data, .data, .data], laidTests := true, laidLooks := .later }
def FnExactPiAlphaSameUptoCardSaid : Prop := Claim7.holds Tryd.pinned (.plain (OpenSpec.upto fnExactPiAlphaSameSpec)) fnExactPiAlphaSameUptoCard

/-- THE SECOND FORM's CARD OF 'laws.FnPiOk'. -/
def fnPiOkUptoCard : Claim7 := { stood := { row := fnPiOkUptoRow, standIns := [], harness := (true, "7089076566ac21cd09c82fd74b7bb2875eb8936b43a0f52ca4deaa5e9330036c"), looks := false }, kinds := [], alts := [], laidByText := true, laidKinds := [.data, .data, .data], laidTests := true, laidLooks := .later }
def FnPiOkUptoCardSaid : Prop := Claim7.holds Tryd.pinned (.plain (OpenSpec.upto fnPiOkSpec)) fnPiOkUptoCard

/-- THE SECOND FORM's CARD OF 'laws.FnPiKey'. -/
def fnPiKeyUptoCard : Claim7 := { stood := { row := fnPiKeyUptoRow, standIns := [], harness := (true, "7089076566ac21cd09c82fd74b7bb2875eb8936b43a0f52ca4deaa5e9330036c"), looks := false }, kinds := [], alts := [], laidByText := true, laidKinds := [.data, .data, .data], laidTests := true, laidLooks := .later }
def FnPiKeyUptoCardSaid : Prop := Claim7.holds Tryd.pinned (.plain (OpenSpec.upto fnPiKeySpec)) fnPiKeyUptoCard

/-- THE SECOND FORM's CARD OF 'laws.FnPiPut'. -/
def fnPiPutUptoCard : Claim7 := { stood := { row := fnPiPutUptoRow, standIns := [], harness := (true, "7089076566ac21cd09c82fd74b7bb2875eb8936b43a0f52ca4deaa5e9330036c"), looks := false }, kinds := [], alts := [], laidByText := true, laidKinds := [.data, .data, .data], laidTests := true, laidLooks := .later }
def FnPiPutUptoCardSaid : Prop := Claim7.holds Tryd.pinned (.plain (OpenSpec.upto fnPiPutSpec)) fnPiPutUptoCard

/-- THE SECOND FORM's CARD OF 'laws.FnPutBack'. -/
def fnPutBackUptoCard : Claim7 := { stood := { row := fnPutBackUptoRow, standIns := [], harness := (true, "7089076566ac21cd09c82fd74b7bb2875eb8936b43a0f52ca4deaa5e9330036c"), looks := false }, kinds := [], alts := [], laidByText := true, laidKinds := [.data, .data, .data], laidTests := true, laidLooks := .later }
def FnPutBackUptoCardSaid : Prop := Claim7.holds Tryd.pinned (.plain (OpenSpec.upto fnPutBackSpec)) fnPutBackUptoCard
end Rows
end Go.Proofs.YtifjnagbhfnmgaaDoor
