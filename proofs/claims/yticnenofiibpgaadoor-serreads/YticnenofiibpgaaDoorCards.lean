/-
  DERIVED. GIVEN WITH THE SEED: THE CARDS: each row of YticnenofiibpgaaDoorRows.lean that lists a variable, with what it lists TIED to the program's text (the seventh form; the later family's looks); each row that meets fmt, with fmt's text TOLD by the authors' own Lean function (tested against real Go, not proved from fmt's source: count such statements apart). THE CARD IS WHAT COUNTS. Prove the row's statement (the work); the ties are given (YticnenofiibpgaaDoorTie.lean); close each card by the builder's one call (the guide's Derived/Test/ToyasCard.lean, 'card_holds'). Laid BY PROGRAM, IN A SANDBOX (cutbox-door.mjs). By AI agents, Wed Nov 11 2026. No macro, syntax, notation, axiom, sorry.
-/
import Derived.Test.YticnenofiibpgaaDoorRows
import GoSem.ClaimSeven
namespace Go.Proofs.YticnenofiibpgaaDoor
namespace Rows

/-- THE TIED CARD OF 'woodcutlaw09.LexRefs'. -/
def lexRefsCard : Claim7 := { stood := { row := lexRefsRow, standIns := [], harness := (true, "524505e298aea5053b9eac06536f25a8a8fa17627431223bc922642a22940e10"), looks := false }, kinds := [], alts := [], laidByText := true, laidKinds := [.data], laidTests := true, laidLooks := .later }
def LexRefsCardSaid : Prop := Claim7.holds Tryd.pinned (.plain (OpenSpec.ofChange lexRefsSpec)) lexRefsCard

/-- THE TIED CARD OF 'woodcutlaw09.LexTexts'. -/
def lexTextsCard : Claim7 := { stood := { row := lexTextsRow, standIns := [], harness := (true, "524505e298aea5053b9eac06536f25a8a8fa17627431223bc922642a22940e10"), looks := false }, kinds := [], alts := [], laidByText := true, laidKinds := [.data], laidTests := true, laidLooks := .later }
def LexTextsCardSaid : Prop := Claim7.holds Tryd.pinned (.plain (OpenSpec.ofChange lexTextsSpec)) lexTextsCard

/-- THE TIED CARD OF 'woodcutlaw09.LexSections'. -/
def lexSectionsCard : Claim7 := { stood := { row := lexSectionsRow, standIns := [], harness := (true, "524505e298aea5053b9eac06536f25a8a8fa17627431223bc922642a22940e10"), looks := false }, kinds := [], alts := [], laidByText := true, laidKinds := [.data], laidTests := true, laidLooks := .later }
def LexSectionsCardSaid : Prop := Claim7.holds Tryd.pinned (.plain (OpenSpec.ofChange lexSectionsSpec)) lexSectionsCard

/-- THE TIED CARD OF 'woodcutlaw09.LexComments'. -/
def lexCommentsCard : Claim7 := { stood := { row := lexCommentsRow, standIns := [], harness := (true, "524505e298aea5053b9eac06536f25a8a8fa17627431223bc922642a22940e10"), looks := false }, kinds := [], alts := [], laidByText := true, laidKinds := [.data], laidTests := true, laidLooks := .later }
def LexCommentsCardSaid : Prop := Claim7.holds Tryd.pinned (.plain (OpenSpec.ofChange lexCommentsSpec)) lexCommentsCard

/-- THE TIED CARD OF 'woodcutlaw09.LexDoctypes'. -/
def lexDoctypesCard : Claim7 := { stood := { row := lexDoctypesRow, standIns := [], harness := (true, "524505e298aea5053b9eac06536f25a8a8fa17627431223bc922642a22940e10"), looks := false }, kinds := [], alts := [], laidByText := true, laidKinds := [.data], laidTests := true, laidLooks := .later }
def LexDoctypesCardSaid : Prop := Claim7.holds Tryd.pinned (.plain (OpenSpec.ofChange lexDoctypesSpec)) lexDoctypesCard

/-- THE TIED CARD OF 'woodcutlaw09.LexScripts'. -/
def lexScriptsCard : Claim7 := { stood := { row := lexScriptsRow, standIns := [], harness := (true, "524505e298aea5053b9eac06536f25a8a8fa17627431223bc922642a22940e10"), looks := false }, kinds := [], alts := [], laidByText := true, laidKinds := [.data], laidTests := true, laidLooks := .later }
def LexScriptsCardSaid : Prop := Claim7.holds Tryd.pinned (.plain (OpenSpec.ofChange lexScriptsSpec)) lexScriptsCard

/-- THE TIED CARD OF 'woodcutlaw09.LexRaws'. -/
def lexRawsCard : Claim7 := { stood := { row := lexRawsRow, standIns := [], harness := (true, "524505e298aea5053b9eac06536f25a8a8fa17627431223bc922642a22940e10"), looks := false }, kinds := [], alts := [], laidByText := true, laidKinds := [.data], laidTests := true, laidLooks := .later }
def LexRawsCardSaid : Prop := Claim7.holds Tryd.pinned (.plain (OpenSpec.ofChange lexRawsSpec)) lexRawsCard

/-- THE TIED CARD OF 'woodcutlaw09.LexTags'. -/
def lexTagsCard : Claim7 := { stood := { row := lexTagsRow, standIns := [], harness := (true, "524505e298aea5053b9eac06536f25a8a8fa17627431223bc922642a22940e10"), looks := false }, kinds := [], alts := [], laidByText := true, laidKinds := [.data], laidTests := true, laidLooks := .later }
def LexTagsCardSaid : Prop := Claim7.holds Tryd.pinned (.plain (OpenSpec.ofChange lexTagsSpec)) lexTagsCard

/-- THE TIED CARD OF 'woodcutlaw09.LexJoins'. -/
def lexJoinsCard : Claim7 := { stood := { row := lexJoinsRow, standIns := [], harness := (true, "524505e298aea5053b9eac06536f25a8a8fa17627431223bc922642a22940e10"), looks := false }, kinds := [], alts := [], laidByText := true, laidKinds := [.data], laidTests := true, laidLooks := .later }
def LexJoinsCardSaid : Prop := Claim7.holds Tryd.pinned (.plain (OpenSpec.ofChange lexJoinsSpec)) lexJoinsCard

/-- THE TIED CARD OF 'woodcutlaw10.SerReads'. -/
def serReadsCard : Claim7 := { stood := { row := serReadsRow, standIns := [], harness := (true, "524505e298aea5053b9eac06536f25a8a8fa17627431223bc922642a22940e10"), looks := false }, kinds := [], alts := [], laidByText := true, laidKinds := [.data, .widerDeep, .widerDeep], laidTests := true, laidLooks := .later }
def SerReadsCardSaid : Prop := Claim7.holds Tryd.pinned (.plain (OpenSpec.ofChange serReadsSpec)) serReadsCard

/-- THE SECOND FORM's CARD OF 'woodcutlaw09.LexRefs'. -/
def lexRefsUptoCard : Claim7 := { stood := { row := lexRefsUptoRow, standIns := [], harness := (true, "524505e298aea5053b9eac06536f25a8a8fa17627431223bc922642a22940e10"), looks := false }, kinds := [], alts := [], laidByText := true, laidKinds := [.data], laidTests := true, laidLooks := .later }
def LexRefsUptoCardSaid : Prop := Claim7.holds Tryd.pinned (.plain (OpenSpec.upto lexRefsSpec)) lexRefsUptoCard

/-- THE SECOND FORM's CARD OF 'woodcutlaw09.LexTexts'. -/
def lexTextsUptoCard : Claim7 := { stood := { row := lexTextsUptoRow, standIns := [], harness := (true, "524505e298aea5053b9eac06536f25a8a8fa17627431223bc922642a22940e10"), looks := false }, kinds := [], alts := [], laidByText := true, laidKinds := [.data], laidTests := true, laidLooks := .later }
def LexTextsUptoCardSaid : Prop := Claim7.holds Tryd.pinned (.plain (OpenSpec.upto lexTextsSpec)) lexTextsUptoCard

/-- THE SECOND FORM's CARD OF 'woodcutlaw09.LexSections'. -/
def lexSectionsUptoCard : Claim7 := { stood := { row := lexSectionsUptoRow, standIns := [], harness := (true, "524505e298aea5053b9eac06536f25a8a8fa17627431223bc922642a22940e10"), looks := false }, kinds := [], alts := [], laidByText := true, laidKinds := [.data], laidTests := true, laidLooks := .later }
def LexSectionsUptoCardSaid : Prop := Claim7.holds Tryd.pinned (.plain (OpenSpec.upto lexSectionsSpec)) lexSectionsUptoCard

/-- THE SECOND FORM's CARD OF 'woodcutlaw09.LexComments'. -/
def lexCommentsUptoCard : Claim7 := { stood := { row := lexCommentsUptoRow, standIns := [], harness := (true, "524505e298aea5053b9eac06536f25a8a8fa17627431223bc922642a22940e10"), looks := false }, kinds := [], alts := [], laidByText := true, laidKinds := [.data], laidTests := true, laidLooks := .later }
def LexCommentsUptoCardSaid : Prop := Claim7.holds Tryd.pinned (.plain (OpenSpec.upto lexCommentsSpec)) lexCommentsUptoCard

/-- THE SECOND FORM's CARD OF 'woodcutlaw09.LexDoctypes'. -/
def lexDoctypesUptoCard : Claim7 := { stood := { row := lexDoctypesUptoRow, standIns := [], harness := (true, "524505e298aea5053b9eac06536f25a8a8fa17627431223bc922642a22940e10"), looks := false }, kinds := [], alts := [], laidByText := true, laidKinds := [.data], laidTests := true, laidLooks := .later }
def LexDoctypesUptoCardSaid : Prop := Claim7.holds Tryd.pinned (.plain (OpenSpec.upto lexDoctypesSpec)) lexDoctypesUptoCard

/-- THE SECOND FORM's CARD OF 'woodcutlaw09.LexScripts'. -/
def lexScriptsUptoCard : Claim7 := { stood := { row := lexScriptsUptoRow, standIns := [], harness := (true, "524505e298aea5053b9eac06536f25a8a8fa17627431223bc922642a22940e10"), looks := false }, kinds := [], alts := [], laidByText := true, laidKinds := [.data], laidTests := true, laidLooks := .later }
def LexScriptsUptoCardSaid : Prop := Claim7.holds Tryd.pinned (.plain (OpenSpec.upto lexScriptsSpec)) lexScriptsUptoCard

/-- THE SECOND FORM's CARD OF 'woodcutlaw09.LexRaws'. -/
def lexRawsUptoCard : Claim7 := { stood := { row := lexRawsUptoRow, standIns := [], harness := (true, "524505e298aea5053b9eac06536f25a8a8fa17627431223bc922642a22940e10"), looks := false }, kinds := [], alts := [], laidByText := true, laidKinds := [.data], laidTests := true, laidLooks := .later }
def LexRawsUptoCardSaid : Prop := Claim7.holds Tryd.pinned (.plain (OpenSpec.upto lexRawsSpec)) lexRawsUptoCard

/-- THE SECOND FORM's CARD OF 'woodcutlaw09.LexTags'. -/
def lexTagsUptoCard : Claim7 := { stood := { row := lexTagsUptoRow, standIns := [], harness := (true, "524505e298aea5053b9eac06536f25a8a8fa17627431223bc922642a22940e10"), looks := false }, kinds := [], alts := [], laidByText := true, laidKinds := [.data], laidTests := true, laidLooks := .later }
def LexTagsUptoCardSaid : Prop := Claim7.holds Tryd.pinned (.plain (OpenSpec.upto lexTagsSpec)) lexTagsUptoCard

/-- THE SECOND FORM's CARD OF 'woodcutlaw09.LexJoins'. -/
def lexJoinsUptoCard : Claim7 := { stood := { row := lexJoinsUptoRow, standIns := [], harness := (true, "524505e298aea5053b9eac06536f25a8a8fa17627431223bc922642a22940e10"), looks := false }, kinds := [], alts := [], laidByText := true, laidKinds := [.data], laidTests := true, laidLooks := .later }
def LexJoinsUptoCardSaid : Prop := Claim7.holds Tryd.pinned (.plain (OpenSpec.upto lexJoinsSpec)) lexJoinsUptoCard

/-- THE SECOND FORM's CARD OF 'woodcutlaw10.SerReads'. -/
def serReadsUptoCard : Claim7 := { stood := { row := serReadsUptoRow, standIns := [], harness := (true, "524505e298aea5053b9eac06536f25a8a8fa17627431223bc922642a22940e10"), looks := false }, kinds := [], alts := [], laidByText := true, laidKinds := [.data, .widerDeep, .widerDeep], laidTests := true, laidLooks := .later }
def SerReadsUptoCardSaid : Prop := Claim7.holds Tryd.pinned (.plain (OpenSpec.upto serReadsSpec)) serReadsUptoCard
end Rows
end Go.Proofs.YticnenofiibpgaaDoor
