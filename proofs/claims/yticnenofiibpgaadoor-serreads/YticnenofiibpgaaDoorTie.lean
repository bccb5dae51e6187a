/-
  DERIVED. GIVEN WITH THE SEED: THE PROGRAM's TIES (one call each: nine closed facts by the kernel) AND EACH ROW's TIE, after the 31st guide's Derived/Test/Toyas{Tie, Card}.lean. No idea stands in it: it is a product of the set-up. Laid BY PROGRAM, IN A SANDBOX (cutbox-door.mjs). By AI agents, Wed Nov 11 2026. No macro, syntax, notation, axiom, sorry.
-/
import Derived.Test.YticnenofiibpgaaDoorRows
import Derived.LaidByTextLater
import Derived.SevenTiedAt
import Derived.LaidSub
import Derived.LaidOnce
namespace Go.Proofs.YticnenofiibpgaaDoor
open Go
set_option maxRecDepth 100000
theorem seatTie1 : Tryd.prog.laidByTextLater [("woodcut/chars.windows", Rows.laid_woodcut_chars_windows), ("woodcut/ser.voids", Rows.laid_woodcut_ser_voids), ("woodcut/ser.raws", Rows.laid_woodcut_ser_raws)] [.data, .widerDeep, .widerDeep] true :=
  Program.laidByTextLater_by_one 24 8 33 (by kernel_rfl) (by kernel_rfl) (by kernel_rfl) (by kernel_rfl) (by kernel_rfl) (by kernel_rfl) (fun _ _ => by kernel_rfl)
theorem noOwnUnsafe : Tryd.pinned.checked.prog.headLifts.contains "ownunsafe" = false := by kernel_rfl
theorem tie : Tryd.prog.laidByTextLater [("woodcut/chars.windows", Rows.laid_woodcut_chars_windows)] [.data] true :=
  Program.laidByTextLater.sub seatTie1 ["woodcut/chars.windows"] (by kernel_rfl) (by kernel_rfl)
theorem lexRefs_row_tie : Rows.lexRefsRow.laidByTextAt .later Tryd.pinned [.data] true :=
  OpenClaim.laidByTextAt_later rfl rfl tie noOwnUnsafe
theorem lexTexts_row_tie : Rows.lexTextsRow.laidByTextAt .later Tryd.pinned [.data] true :=
  OpenClaim.laidByTextAt_later rfl rfl tie noOwnUnsafe
theorem lexSections_row_tie : Rows.lexSectionsRow.laidByTextAt .later Tryd.pinned [.data] true :=
  OpenClaim.laidByTextAt_later rfl rfl tie noOwnUnsafe
theorem lexComments_row_tie : Rows.lexCommentsRow.laidByTextAt .later Tryd.pinned [.data] true :=
  OpenClaim.laidByTextAt_later rfl rfl tie noOwnUnsafe
theorem lexDoctypes_row_tie : Rows.lexDoctypesRow.laidByTextAt .later Tryd.pinned [.data] true :=
  OpenClaim.laidByTextAt_later rfl rfl tie noOwnUnsafe
theorem lexScripts_row_tie : Rows.lexScriptsRow.laidByTextAt .later Tryd.pinned [.data] true :=
  OpenClaim.laidByTextAt_later rfl rfl tie noOwnUnsafe
theorem lexRaws_row_tie : Rows.lexRawsRow.laidByTextAt .later Tryd.pinned [.data] true :=
  OpenClaim.laidByTextAt_later rfl rfl tie noOwnUnsafe
theorem lexTags_row_tie : Rows.lexTagsRow.laidByTextAt .later Tryd.pinned [.data] true :=
  OpenClaim.laidByTextAt_later rfl rfl tie noOwnUnsafe
theorem lexJoins_row_tie : Rows.lexJoinsRow.laidByTextAt .later Tryd.pinned [.data] true :=
  OpenClaim.laidByTextAt_later rfl rfl tie noOwnUnsafe
theorem tie2 : Tryd.prog.laidByTextLater [("woodcut/chars.windows", Rows.laid_woodcut_chars_windows), ("woodcut/ser.voids", Rows.laid_woodcut_ser_voids), ("woodcut/ser.raws", Rows.laid_woodcut_ser_raws)] [.data, .widerDeep, .widerDeep] true :=
  Program.laidByTextLater.sub seatTie1 ["woodcut/chars.windows", "woodcut/ser.voids", "woodcut/ser.raws"] (by kernel_rfl) (by kernel_rfl)
theorem serReads_row_tie : Rows.serReadsRow.laidByTextAt .later Tryd.pinned [.data, .widerDeep, .widerDeep] true :=
  OpenClaim.laidByTextAt_later rfl rfl tie2 noOwnUnsafe
theorem lexRefsUpto_row_tie : Rows.lexRefsUptoRow.laidByTextAt .later Tryd.pinned [.data] true :=
  OpenClaim.laidByTextAt_later rfl rfl tie noOwnUnsafe
theorem lexTextsUpto_row_tie : Rows.lexTextsUptoRow.laidByTextAt .later Tryd.pinned [.data] true :=
  OpenClaim.laidByTextAt_later rfl rfl tie noOwnUnsafe
theorem lexSectionsUpto_row_tie : Rows.lexSectionsUptoRow.laidByTextAt .later Tryd.pinned [.data] true :=
  OpenClaim.laidByTextAt_later rfl rfl tie noOwnUnsafe
theorem lexCommentsUpto_row_tie : Rows.lexCommentsUptoRow.laidByTextAt .later Tryd.pinned [.data] true :=
  OpenClaim.laidByTextAt_later rfl rfl tie noOwnUnsafe
theorem lexDoctypesUpto_row_tie : Rows.lexDoctypesUptoRow.laidByTextAt .later Tryd.pinned [.data] true :=
  OpenClaim.laidByTextAt_later rfl rfl tie noOwnUnsafe
theorem lexScriptsUpto_row_tie : Rows.lexScriptsUptoRow.laidByTextAt .later Tryd.pinned [.data] true :=
  OpenClaim.laidByTextAt_later rfl rfl tie noOwnUnsafe
theorem lexRawsUpto_row_tie : Rows.lexRawsUptoRow.laidByTextAt .later Tryd.pinned [.data] true :=
  OpenClaim.laidByTextAt_later rfl rfl tie noOwnUnsafe
theorem lexTagsUpto_row_tie : Rows.lexTagsUptoRow.laidByTextAt .later Tryd.pinned [.data] true :=
  OpenClaim.laidByTextAt_later rfl rfl tie noOwnUnsafe
theorem lexJoinsUpto_row_tie : Rows.lexJoinsUptoRow.laidByTextAt .later Tryd.pinned [.data] true :=
  OpenClaim.laidByTextAt_later rfl rfl tie noOwnUnsafe
theorem serReadsUpto_row_tie : Rows.serReadsUptoRow.laidByTextAt .later Tryd.pinned [.data, .widerDeep, .widerDeep] true :=
  OpenClaim.laidByTextAt_later rfl rfl tie2 noOwnUnsafe
end Go.Proofs.YticnenofiibpgaaDoor
