/-
  DERIVED. GIVEN WITH THE SEED: THE CARDS: each row of YtjhednolknlpiaaDoorRows.lean that lists a variable, with what it lists TIED to the program's text (the seventh form; the later family's looks); each row that meets fmt, with fmt's text TOLD by the authors' own Lean function (tested against real Go, not proved from fmt's source: count such statements apart). THE CARD IS WHAT COUNTS. Prove the row's statement (the work); the ties are given (YtjhednolknlpiaaDoorTie.lean); close each card by the builder's one call (the guide's Derived/Test/ToyasCard.lean, 'card_holds'). Laid BY PROGRAM, IN A SANDBOX (cutbox-door.mjs). By AI agents, Wed Nov 11 2026. No macro, syntax, notation, axiom, sorry.
-/
import Derived.Test.YtjhednolknlpiaaDoorRows
import GoSem.ClaimSeven
namespace Go.Proofs.YtjhednolknlpiaaDoor
namespace Rows

/-- THE TIED CARD OF 'woodcutlaw02.CharsNumeric'. -/
def charsNumericCard : Claim7 := { stood := { row := charsNumericRow, standIns := [], harness := (true, "c9bb9889349b192b9486ea3675dab8bfc9daa8091cc8d434dcc05e1f09bcd5c4"), looks := false }, kinds := [], alts := [], laidByText := true, laidKinds := [.data], laidTests := true, laidLooks := .later }
def CharsNumericCardSaid : Prop := Claim7.holds Tryd.pinned (.plain (OpenSpec.ofChange charsNumericSpec)) charsNumericCard

/-- THE TIED CARD OF 'woodcutlaw02.CharsNumbers'. -/
def charsNumbersCard : Claim7 := { stood := { row := charsNumbersRow, standIns := [], harness := (true, "c9bb9889349b192b9486ea3675dab8bfc9daa8091cc8d434dcc05e1f09bcd5c4"), looks := false }, kinds := [], alts := [], laidByText := true, laidKinds := [.data], laidTests := true, laidLooks := .later }
def CharsNumbersCardSaid : Prop := Claim7.holds Tryd.pinned (.plain (OpenSpec.ofChange charsNumbersSpec)) charsNumbersCard

/-- THE SECOND FORM's CARD OF 'woodcutlaw02.CharsNumeric'. -/
def charsNumericUptoCard : Claim7 := { stood := { row := charsNumericUptoRow, standIns := [], harness := (true, "c9bb9889349b192b9486ea3675dab8bfc9daa8091cc8d434dcc05e1f09bcd5c4"), looks := false }, kinds := [], alts := [], laidByText := true, laidKinds := [.data], laidTests := true, laidLooks := .later }
def CharsNumericUptoCardSaid : Prop := Claim7.holds Tryd.pinned (.plain (OpenSpec.upto charsNumericSpec)) charsNumericUptoCard

/-- THE SECOND FORM's CARD OF 'woodcutlaw02.CharsNumbers'. -/
def charsNumbersUptoCard : Claim7 := { stood := { row := charsNumbersUptoRow, standIns := [], harness := (true, "c9bb9889349b192b9486ea3675dab8bfc9daa8091cc8d434dcc05e1f09bcd5c4"), looks := false }, kinds := [], alts := [], laidByText := true, laidKinds := [.data], laidTests := true, laidLooks := .later }
def CharsNumbersUptoCardSaid : Prop := Claim7.holds Tryd.pinned (.plain (OpenSpec.upto charsNumbersSpec)) charsNumbersUptoCard
end Rows
end Go.Proofs.YtjhednolknlpiaaDoor
