/-
  DERIVED. GIVEN WITH THE SEED: THE CARDS: each row of YtfgghapmgdgaeaaGreatDoorRows.lean that lists a variable, with what it lists TIED to the program's text (the seventh form; the later family's looks); each row that meets fmt, with fmt's text TOLD by the authors' own Lean function (tested against real Go, not proved from fmt's source: count such statements apart). THE CARD IS WHAT COUNTS. Prove the row's statement (the work); the ties are given (YtfgghapmgdgaeaaGreatDoorTie.lean); close each card by the builder's one call (the guide's Derived/Test/ToyasCard.lean, 'card_holds'). Laid BY PROGRAM, IN A SANDBOX (cutbox-door.mjs). By AI agents, Wed Nov 11 2026. No macro, syntax, notation, axiom, sorry.
-/
import Derived.Test.YtfgghapmgdgaeaaGreatDoorRows
import GoSem.ClaimSeven
namespace Go.Proofs.YtfgghapmgdgaeaaGreatDoor
namespace Rows

/-- THE TIED CARD OF 'woodcutlaw14.FindLinks'. -/
def findLinksCard : Claim7 := { stood := { row := findLinksRow, standIns := [], harness := (true, "1873a0c45e5381b75f165f22ebaea6f13ce6e468d2327faf26d238cf907d3186"), looks := false }, kinds := [], alts := [], laidByText := true, laidKinds := [.data, .data, .widerDeep, .widerDeep, .widerDeep, .widerDeep, .widerDeep, .data, .widerDeep, .widerDeep, .widerDeep, .pinned], laidTests := true, laidLooks := .later }
def FindLinksCardSaid : Prop := Claim7.holds Tryz.pinned (.plain (OpenSpec.ofChange findLinksSpec)) findLinksCard

/-- THE TIED CARD OF 'woodcutlaw14.FindTitles'. -/
def findTitlesCard : Claim7 := { stood := { row := findTitlesRow, standIns := [], harness := (true, "1873a0c45e5381b75f165f22ebaea6f13ce6e468d2327faf26d238cf907d3186"), looks := false }, kinds := [], alts := [], laidByText := true, laidKinds := [.data, .data, .widerDeep, .widerDeep, .widerDeep, .widerDeep, .widerDeep, .data, .widerDeep, .widerDeep, .widerDeep, .pinned], laidTests := true, laidLooks := .later }
def FindTitlesCardSaid : Prop := Claim7.holds Tryz.pinned (.plain (OpenSpec.ofChange findTitlesSpec)) findTitlesCard

/-- THE SECOND FORM's CARD OF 'woodcutlaw14.FindLinks'. -/
def findLinksUptoCard : Claim7 := { stood := { row := findLinksUptoRow, standIns := [], harness := (true, "1873a0c45e5381b75f165f22ebaea6f13ce6e468d2327faf26d238cf907d3186"), looks := false }, kinds := [], alts := [], laidByText := true, laidKinds := [.data, .data, .widerDeep, .widerDeep, .widerDeep, .widerDeep, .widerDeep, .data, .widerDeep, .widerDeep, .widerDeep, .pinned], laidTests := true, laidLooks := .later }
def FindLinksUptoCardSaid : Prop := Claim7.holds Tryz.pinned (.plain (OpenSpec.upto findLinksSpec)) findLinksUptoCard

/-- THE SECOND FORM's CARD OF 'woodcutlaw14.FindTitles'. -/
def findTitlesUptoCard : Claim7 := { stood := { row := findTitlesUptoRow, standIns := [], harness := (true, "1873a0c45e5381b75f165f22ebaea6f13ce6e468d2327faf26d238cf907d3186"), looks := false }, kinds := [], alts := [], laidByText := true, laidKinds := [.data, .data, .widerDeep, .widerDeep, .widerDeep, .widerDeep, .widerDeep, .data, .widerDeep, .widerDeep, .widerDeep, .pinned], laidTests := true, laidLooks := .later }
def FindTitlesUptoCardSaid : Prop := Claim7.holds Tryz.pinned (.plain (OpenSpec.upto findTitlesSpec)) findTitlesUptoCard
end Rows
end Go.Proofs.YtfgghapmgdgaeaaGreatDoor
