/-
  DERIVED. GIVEN WITH THE SEED: THE CARDS: each row of YthogialdoikanaaDoorRows.lean that lists a variable, with what it lists TIED to the program's text (the seventh form; the later family's looks); each row that meets fmt, with fmt's text TOLD by the authors' own Lean function (tested against real Go, not proved from fmt's source: count such statements apart). THE CARD IS WHAT COUNTS. Prove the row's statement (the work); the ties are given (YthogialdoikanaaDoorTie.lean); close each card by the builder's one call (the guide's Derived/Test/ToyasCard.lean, 'card_holds'). Laid BY PROGRAM, IN A SANDBOX (cutbox-door.mjs). By AI agents, Wed Nov 11 2026. No macro, syntax, notation, axiom, sorry.
-/
import Derived.Test.YthogialdoikanaaDoorRows
import GoSem.ClaimSeven
namespace Go.Proofs.YthogialdoikanaaDoor
namespace Rows

/-- THE TIED CARD OF 'tidemarklaw14.LexKnown'. -/
def lexKnownCard : Claim7 := { stood := { row := lexKnownRow, standIns := [], harness := (true, "842b3a016c820f030ebb6b185f3ba1ddcfa22c13fffe56fd68c72a2c60c717d9"), looks := true }, kinds := [], alts := [], laidByText := true, laidKinds := [.data, .data, .data, .data, .sentinel, .sentinel, .pinned], laidTests := true, laidLooks := .later }
def LexKnownCardSaid : Prop := Claim7.holds Tryd.pinned (.plain (OpenSpec.ofChange lexKnownSpec)) lexKnownCard

/-- THE TIED CARD OF 'tidemarklaw14.LexTexts'. -/
def lexTextsCard : Claim7 := { stood := { row := lexTextsRow, standIns := [], harness := (true, "842b3a016c820f030ebb6b185f3ba1ddcfa22c13fffe56fd68c72a2c60c717d9"), looks := true }, kinds := [], alts := [], laidByText := true, laidKinds := [.data, .data, .data, .data, .sentinel, .sentinel, .pinned], laidTests := true, laidLooks := .later }
def LexTextsCardSaid : Prop := Claim7.holds Tryd.pinned (.plain (OpenSpec.ofChange lexTextsSpec)) lexTextsCard

/-- THE TIED CARD OF 'tidemarklaw14.LexPrints'. -/
def lexPrintsCard : Claim7 := { stood := { row := lexPrintsRow, standIns := [], harness := (true, "842b3a016c820f030ebb6b185f3ba1ddcfa22c13fffe56fd68c72a2c60c717d9"), looks := true }, kinds := [], alts := [], laidByText := true, laidKinds := [.data, .data, .data, .data, .sentinel, .sentinel, .pinned], laidTests := true, laidLooks := .later }
def LexPrintsCardSaid : Prop := Claim7.holds Tryd.pinned (.plain (OpenSpec.ofChange lexPrintsSpec)) lexPrintsCard

/-- THE TIED CARD OF 'tidemarklaw14.LexBack'. -/
def lexBackCard : Claim7 := { stood := { row := lexBackRow, standIns := [], harness := (true, "842b3a016c820f030ebb6b185f3ba1ddcfa22c13fffe56fd68c72a2c60c717d9"), looks := true }, kinds := [], alts := [], laidByText := true, laidKinds := [.data, .data, .data, .data, .sentinel, .sentinel, .pinned], laidTests := true, laidLooks := .later }
def LexBackCardSaid : Prop := Claim7.holds Tryd.pinned (.plain (OpenSpec.ofChange lexBackSpec)) lexBackCard

/-- THE TIED CARD OF 'tidemarklaw14.LexBlanks'. -/
def lexBlanksCard : Claim7 := { stood := { row := lexBlanksRow, standIns := [], harness := (true, "842b3a016c820f030ebb6b185f3ba1ddcfa22c13fffe56fd68c72a2c60c717d9"), looks := true }, kinds := [], alts := [], laidByText := true, laidKinds := [.data, .data, .data, .data, .sentinel, .sentinel, .pinned], laidTests := true, laidLooks := .later }
def LexBlanksCardSaid : Prop := Claim7.holds Tryd.pinned (.plain (OpenSpec.ofChange lexBlanksSpec)) lexBlanksCard

/-- THE TIED CARD OF 'tidemarklaw14.LexParts'. -/
def lexPartsCard : Claim7 := { stood := { row := lexPartsRow, standIns := [], harness := (true, "842b3a016c820f030ebb6b185f3ba1ddcfa22c13fffe56fd68c72a2c60c717d9"), looks := true }, kinds := [], alts := [], laidByText := true, laidKinds := [.data, .data, .data, .data, .sentinel, .sentinel, .pinned], laidTests := true, laidLooks := .later }
def LexPartsCardSaid : Prop := Claim7.holds Tryd.pinned (.plain (OpenSpec.ofChange lexPartsSpec)) lexPartsCard

/-- THE SECOND FORM's CARD OF 'tidemarklaw14.LexKnown'. -/
def lexKnownUptoCard : Claim7 := { stood := { row := lexKnownUptoRow, standIns := [], harness := (true, "842b3a016c820f030ebb6b185f3ba1ddcfa22c13fffe56fd68c72a2c60c717d9"), looks := true }, kinds := [], alts := [], laidByText := true, laidKinds := [.data, .data, .data, .data, .sentinel, .sentinel, .pinned], laidTests := true, laidLooks := .later }
def LexKnownUptoCardSaid : Prop := Claim7.holds Tryd.pinned (.plain (OpenSpec.upto lexKnownSpec)) lexKnownUptoCard

/-- THE SECOND FORM's CARD OF 'tidemarklaw14.LexTexts'. -/
def lexTextsUptoCard : Claim7 := { stood := { row := lexTextsUptoRow, standIns := [], harness := (true, "842b3a016c820f030ebb6b185f3ba1ddcfa22c13fffe56fd68c72a2c60c717d9"), looks := true }, kinds := [], alts := [], laidByText := true, laidKinds := [.data, .data, .data, .data, .sentinel, .sentinel, .pinned], laidTests := true, laidLooks := .later }
def LexTextsUptoCardSaid : Prop := Claim7.holds Tryd.pinned (.plain (OpenSpec.upto lexTextsSpec)) lexTextsUptoCard

/-- THE SECOND FORM's CARD OF 'tidemarklaw14.LexPrints'. -/
def lexPrintsUptoCard : Claim7 := { stood := { row := lexPrintsUptoRow, standIns := [], harness := (true, "842b3a016c820f030ebb6b185f3ba1ddcfa22c13fffe56fd68c72a2c60c717d9"), looks := true }, kinds := [], alts := [], laidByText := true, laidKinds := [.data, .data, .data, .data, .sentinel, .sentinel, .pinned], laidTests := true, laidLooks := .later }
def LexPrintsUptoCardSaid : Prop := Claim7.holds Tryd.pinned (.plain (OpenSpec.upto lexPrintsSpec)) lexPrintsUptoCard

/-- THE SECOND FORM's CARD OF 'tidemarklaw14.LexBack'. -/
def lexBackUptoCard : Claim7 := { stood := { row := lexBackUptoRow, standIns := [], harness := (true, "842b3a016c820f030ebb6b185f3ba1ddcfa22c13fffe56fd68c72a2c60c717d9"), looks := true }, kinds := [], alts := [], laidByText := true, laidKinds := [.data, .data, .data, .data, .sentinel, .sentinel, .pinned], laidTests := true, laidLooks := .later }
def LexBackUptoCardSaid : Prop := Claim7.holds Tryd.pinned (.plain (OpenSpec.upto lexBackSpec)) lexBackUptoCard

/-- THE SECOND FORM's CARD OF 'tidemarklaw14.LexBlanks'. -/
def lexBlanksUptoCard : Claim7 := { stood := { row := lexBlanksUptoRow, standIns := [], harness := (true, "842b3a016c820f030ebb6b185f3ba1ddcfa22c13fffe56fd68c72a2c60c717d9"), looks := true }, kinds := [], alts := [], laidByText := true, laidKinds := [.data, .data, .data, .data, .sentinel, .sentinel, .pinned], laidTests := true, laidLooks := .later }
def LexBlanksUptoCardSaid : Prop := Claim7.holds Tryd.pinned (.plain (OpenSpec.upto lexBlanksSpec)) lexBlanksUptoCard

/-- THE SECOND FORM's CARD OF 'tidemarklaw14.LexParts'. -/
def lexPartsUptoCard : Claim7 := { stood := { row := lexPartsUptoRow, standIns := [], harness := (true, "842b3a016c820f030ebb6b185f3ba1ddcfa22c13fffe56fd68c72a2c60c717d9"), looks := true }, kinds := [], alts := [], laidByText := true, laidKinds := [.data, .data, .data, .data, .sentinel, .sentinel, .pinned], laidTests := true, laidLooks := .later }
def LexPartsUptoCardSaid : Prop := Claim7.holds Tryd.pinned (.plain (OpenSpec.upto lexPartsSpec)) lexPartsUptoCard
end Rows
end Go.Proofs.YthogialdoikanaaDoor
