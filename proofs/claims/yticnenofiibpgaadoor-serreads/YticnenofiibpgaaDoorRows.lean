/-
  NARROWER THAN 'FOR EVERY INPUT', by the rows' own cells (each row's printed sentence says how): LexRefs: laid · LexTexts: laid · LexSections: laid · LexComments: laid · LexDoctypes: laid · LexScripts: laid · LexRaws: laid · LexTags: laid · LexJoins: laid · SerReads: laid.
  DERIVED. THE GIVEN ROWS OF THIS SEAT. 10 by the template 'for every input the law returns true; each argument reads behind the call as it read before'; 0 by the template 'total and deterministic' (their statements: YticnenofiibpgaaDoorTotals.lean).
  GIVEN WITH THE SEED: the statements are not yours to turn. If you find one false, say at which input.
  Laid BY PROGRAM, IN A SANDBOX (cutbox-rows.mjs): the forced cells as the released guide's own fill.sh prints them over the translation 4fa21b468c5fe325… (all of the seat's roots in one cut). By AI agents, Wed Nov 11 2026. No macro, syntax, notation, axiom, sorry.
-/
import Derived.Test.YticnenofiibpgaaDoorChecked
import GoSem.Claim
import GoSem.ClaimJoined
import GoSem.ClaimMapViews
import Derived.JoinedTies
import Derived.KernelRfl
namespace Go.Proofs.YticnenofiibpgaaDoor
/- THE CELL 'sum', in the pinned program and in every row, IS THE sha256 OF THE DUMP (.gsa) THAT YticnenofiibpgaaDoorProg.lean LOADS. Nothing in Lean hashes anything: it is a label: what it is worth is what the hold of that sum in a sandbox is worth. -/
noncomputable def Tryd.pinned : Pinned := { name := "yticnenofiibpgaadoor", sum := "4fa21b468c5fe32509e34a202e465a3bbcc575eae5fdad75235af26873185f4e", checked := Tryd.checked }
namespace Rows
def none {H : Type} : Left H := { results := [], args := [] }

/- WHAT THE LISTED PACKAGE-LEVEL VARIABLES READ AS WHEN THE CALL BEGINS. Each datum BY PROGRAM (the guide's laid-datum.mjs) off the statement by which the dump's own 'gosem.cut.vars' lays the variable. In a bare row this is a premise. The card (YticnenofiibpgaaDoorCards.lean) ties it to the program's text. -/
def laid_woodcut_chars_windows {H : Type} : DataW H := .agg [.lit (.int .i32 8364), .lit (.int .i32 129), .lit (.int .i32 8218), .lit (.int .i32 402), .lit (.int .i32 8222), .lit (.int .i32 8230), .lit (.int .i32 8224), .lit (.int .i32 8225), .lit (.int .i32 710), .lit (.int .i32 8240), .lit (.int .i32 352), .lit (.int .i32 8249), .lit (.int .i32 338), .lit (.int .i32 141), .lit (.int .i32 381), .lit (.int .i32 143), .lit (.int .i32 144), .lit (.int .i32 8216), .lit (.int .i32 8217), .lit (.int .i32 8220), .lit (.int .i32 8221), .lit (.int .i32 8226), .lit (.int .i32 8211), .lit (.int .i32 8212), .lit (.int .i32 732), .lit (.int .i32 8482), .lit (.int .i32 353), .lit (.int .i32 8250), .lit (.int .i32 339), .lit (.int .i32 157), .lit (.int .i32 382), .lit (.int .i32 376)]
def laid_woodcut_ser_voids {H : Type} : DataW H := .slice [.lit (.string [97, 114, 101, 97]), .lit (.string [98, 97, 115, 101]), .lit (.string [98, 97, 115, 101, 102, 111, 110, 116]), .lit (.string [98, 103, 115, 111, 117, 110, 100]), .lit (.string [98, 114]), .lit (.string [99, 111, 108]), .lit (.string [101, 109, 98, 101, 100]), .lit (.string [102, 114, 97, 109, 101]), .lit (.string [104, 114]), .lit (.string [105, 109, 103]), .lit (.string [105, 110, 112, 117, 116]), .lit (.string [107, 101, 121, 103, 101, 110]), .lit (.string [108, 105, 110, 107]), .lit (.string [109, 101, 116, 97]), .lit (.string [112, 97, 114, 97, 109]), .lit (.string [115, 111, 117, 114, 99, 101]), .lit (.string [116, 114, 97, 99, 107]), .lit (.string [119, 98, 114])] []
def laid_woodcut_ser_raws {H : Type} : DataW H := .slice [.lit (.string [115, 116, 121, 108, 101]), .lit (.string [115, 99, 114, 105, 112, 116]), .lit (.string [120, 109, 112]), .lit (.string [105, 102, 114, 97, 109, 101]), .lit (.string [110, 111, 101, 109, 98, 101, 100]), .lit (.string [110, 111, 102, 114, 97, 109, 101, 115]), .lit (.string [112, 108, 97, 105, 110, 116, 101, 120, 116])] []

/-- 'woodcutlaw09.LexRefs': WHATEVER THE INPUT: true; the input reads as it did. -/
def lexRefsSpec : ChangeSpec := { name := "lexRefs", fn := fun _ => fun
  | [d1, d2, d3, d4] => { results := [.lit (.bool true)], args := [d1, d2, d3, d4] }
  | _ => none }
def lexRefsRow : OpenClaim := { program := "yticnenofiibpgaadoor", sum := "4fa21b468c5fe32509e34a202e465a3bbcc575eae5fdad75235af26873185f4e", func := "woodcut/woodcutlaw09.LexRefs", spec := "lexRefs", unfollowed := true, recurses := true, named := ["woodcut/chars.windows"], apart := false, laid := [("woodcut/chars.windows", laid_woodcut_chars_windows)] }
def LexRefsSaid : Prop := lexRefsRow.holds Tryd.pinned (OpenSpec.ofChange lexRefsSpec)

/-- ITS FALSE NEIGHBOUR: 'it returns false'. Refute it at one input. -/
def lexRefsWrong : ChangeSpec := { name := "lexRefs", fn := fun _ => fun
  | [d1, d2, d3, d4] => { results := [.lit (.bool false)], args := [d1, d2, d3, d4] }
  | _ => none }
def LexRefsWrongFalsely : Prop := lexRefsRow.holds Tryd.pinned (OpenSpec.ofChange lexRefsWrong)

/-- 'woodcutlaw09.LexTexts': WHATEVER THE INPUT: true; the input reads as it did. -/
def lexTextsSpec : ChangeSpec := { name := "lexTexts", fn := fun _ => fun
  | [d1, d2] => { results := [.lit (.bool true)], args := [d1, d2] }
  | _ => none }
def lexTextsRow : OpenClaim := { program := "yticnenofiibpgaadoor", sum := "4fa21b468c5fe32509e34a202e465a3bbcc575eae5fdad75235af26873185f4e", func := "woodcut/woodcutlaw09.LexTexts", spec := "lexTexts", unfollowed := true, recurses := true, named := ["woodcut/chars.windows"], apart := false, laid := [("woodcut/chars.windows", laid_woodcut_chars_windows)] }
def LexTextsSaid : Prop := lexTextsRow.holds Tryd.pinned (OpenSpec.ofChange lexTextsSpec)

/-- ITS FALSE NEIGHBOUR: 'it returns false'. Refute it at one input. -/
def lexTextsWrong : ChangeSpec := { name := "lexTexts", fn := fun _ => fun
  | [d1, d2] => { results := [.lit (.bool false)], args := [d1, d2] }
  | _ => none }
def LexTextsWrongFalsely : Prop := lexTextsRow.holds Tryd.pinned (OpenSpec.ofChange lexTextsWrong)

/-- 'woodcutlaw09.LexSections': WHATEVER THE INPUT: true; the input reads as it did. -/
def lexSectionsSpec : ChangeSpec := { name := "lexSections", fn := fun _ => fun
  | [d1, d2] => { results := [.lit (.bool true)], args := [d1, d2] }
  | _ => none }
def lexSectionsRow : OpenClaim := { program := "yticnenofiibpgaadoor", sum := "4fa21b468c5fe32509e34a202e465a3bbcc575eae5fdad75235af26873185f4e", func := "woodcut/woodcutlaw09.LexSections", spec := "lexSections", unfollowed := true, recurses := true, named := ["woodcut/chars.windows"], apart := false, laid := [("woodcut/chars.windows", laid_woodcut_chars_windows)] }
def LexSectionsSaid : Prop := lexSectionsRow.holds Tryd.pinned (OpenSpec.ofChange lexSectionsSpec)

/-- ITS FALSE NEIGHBOUR: 'it returns false'. Refute it at one input. -/
def lexSectionsWrong : ChangeSpec := { name := "lexSections", fn := fun _ => fun
  | [d1, d2] => { results := [.lit (.bool false)], args := [d1, d2] }
  | _ => none }
def LexSectionsWrongFalsely : Prop := lexSectionsRow.holds Tryd.pinned (OpenSpec.ofChange lexSectionsWrong)

/-- 'woodcutlaw09.LexComments': WHATEVER THE INPUT: true; the input reads as it did. -/
def lexCommentsSpec : ChangeSpec := { name := "lexComments", fn := fun _ => fun
  | [d1, d2] => { results := [.lit (.bool true)], args := [d1, d2] }
  | _ => none }
def lexCommentsRow : OpenClaim := { program := "yticnenofiibpgaadoor", sum := "4fa21b468c5fe32509e34a202e465a3bbcc575eae5fdad75235af26873185f4e", func := "woodcut/woodcutlaw09.LexComments", spec := "lexComments", unfollowed := true, recurses := true, named := ["woodcut/chars.windows"], apart := false, laid := [("woodcut/chars.windows", laid_woodcut_chars_windows)] }
def LexCommentsSaid : Prop := lexCommentsRow.holds Tryd.pinned (OpenSpec.ofChange lexCommentsSpec)

/-- ITS FALSE NEIGHBOUR: 'it returns false'. Refute it at one input. -/
def lexCommentsWrong : ChangeSpec := { name := "lexComments", fn := fun _ => fun
  | [d1, d2] => { results := [.lit (.bool false)], args := [d1, d2] }
  | _ => none }
def LexCommentsWrongFalsely : Prop := lexCommentsRow.holds Tryd.pinned (OpenSpec.ofChange lexCommentsWrong)

/-- 'woodcutlaw09.LexDoctypes': WHATEVER THE INPUT: true; the input reads as it did. -/
def lexDoctypesSpec : ChangeSpec := { name := "lexDoctypes", fn := fun _ => fun
  | [d1, d2, d3, d4] => { results := [.lit (.bool true)], args := [d1, d2, d3, d4] }
  | _ => none }
def lexDoctypesRow : OpenClaim := { program := "yticnenofiibpgaadoor", sum := "4fa21b468c5fe32509e34a202e465a3bbcc575eae5fdad75235af26873185f4e", func := "woodcut/woodcutlaw09.LexDoctypes", spec := "lexDoctypes", unfollowed := true, recurses := true, named := ["woodcut/chars.windows"], apart := false, laid := [("woodcut/chars.windows", laid_woodcut_chars_windows)] }
def LexDoctypesSaid : Prop := lexDoctypesRow.holds Tryd.pinned (OpenSpec.ofChange lexDoctypesSpec)

/-- ITS FALSE NEIGHBOUR: 'it returns false'. Refute it at one input. -/
def lexDoctypesWrong : ChangeSpec := { name := "lexDoctypes", fn := fun _ => fun
  | [d1, d2, d3, d4] => { results := [.lit (.bool false)], args := [d1, d2, d3, d4] }
  | _ => none }
def LexDoctypesWrongFalsely : Prop := lexDoctypesRow.holds Tryd.pinned (OpenSpec.ofChange lexDoctypesWrong)

/-- 'woodcutlaw09.LexScripts': WHATEVER THE INPUT: true; the input reads as it did. -/
def lexScriptsSpec : ChangeSpec := { name := "lexScripts", fn := fun _ => fun
  | [d1, d2, d3] => { results := [.lit (.bool true)], args := [d1, d2, d3] }
  | _ => none }
def lexScriptsRow : OpenClaim := { program := "yticnenofiibpgaadoor", sum := "4fa21b468c5fe32509e34a202e465a3bbcc575eae5fdad75235af26873185f4e", func := "woodcut/woodcutlaw09.LexScripts", spec := "lexScripts", unfollowed := true, recurses := true, named := ["woodcut/chars.windows"], apart := false, laid := [("woodcut/chars.windows", laid_woodcut_chars_windows)] }
def LexScriptsSaid : Prop := lexScriptsRow.holds Tryd.pinned (OpenSpec.ofChange lexScriptsSpec)

/-- ITS FALSE NEIGHBOUR: 'it returns false'. Refute it at one input. -/
def lexScriptsWrong : ChangeSpec := { name := "lexScripts", fn := fun _ => fun
  | [d1, d2, d3] => { results := [.lit (.bool false)], args := [d1, d2, d3] }
  | _ => none }
def LexScriptsWrongFalsely : Prop := lexScriptsRow.holds Tryd.pinned (OpenSpec.ofChange lexScriptsWrong)

/-- 'woodcutlaw09.LexRaws': WHATEVER THE INPUT: true; the input reads as it did. -/
def lexRawsSpec : ChangeSpec := { name := "lexRaws", fn := fun _ => fun
  | [d1, d2, d3] => { results := [.lit (.bool true)], args := [d1, d2, d3] }
  | _ => none }
def lexRawsRow : OpenClaim := { program := "yticnenofiibpgaadoor", sum := "4fa21b468c5fe32509e34a202e465a3bbcc575eae5fdad75235af26873185f4e", func := "woodcut/woodcutlaw09.LexRaws", spec := "lexRaws", unfollowed := true, recurses := true, named := ["woodcut/chars.windows"], apart := false, laid := [("woodcut/chars.windows", laid_woodcut_chars_windows)] }
def LexRawsSaid : Prop := lexRawsRow.holds Tryd.pinned (OpenSpec.ofChange lexRawsSpec)

/-- ITS FALSE NEIGHBOUR: 'it returns false'. Refute it at one input. -/
def lexRawsWrong : ChangeSpec := { name := "lexRaws", fn := fun _ => fun
  | [d1, d2, d3] => { results := [.lit (.bool false)], args := [d1, d2, d3] }
  | _ => none }
def LexRawsWrongFalsely : Prop := lexRawsRow.holds Tryd.pinned (OpenSpec.ofChange lexRawsWrong)

/-- 'woodcutlaw09.LexTags': WHATEVER THE INPUT: true; the input reads as it did. -/
def lexTagsSpec : ChangeSpec := { name := "lexTags", fn := fun _ => fun
  | [d1, d2] => { results := [.lit (.bool true)], args := [d1, d2] }
  | _ => none }
def lexTagsRow : OpenClaim := { program := "yticnenofiibpgaadoor", sum := "4fa21b468c5fe32509e34a202e465a3bbcc575eae5fdad75235af26873185f4e", func := "woodcut/woodcutlaw09.LexTags", spec := "lexTags", unfollowed := true, recurses := true, named := ["woodcut/chars.windows"], apart := false, laid := [("woodcut/chars.windows", laid_woodcut_chars_windows)] }
def LexTagsSaid : Prop := lexTagsRow.holds Tryd.pinned (OpenSpec.ofChange lexTagsSpec)

/-- ITS FALSE NEIGHBOUR: 'it returns false'. Refute it at one input. -/
def lexTagsWrong : ChangeSpec := { name := "lexTags", fn := fun _ => fun
  | [d1, d2] => { results := [.lit (.bool false)], args := [d1, d2] }
  | _ => none }
def LexTagsWrongFalsely : Prop := lexTagsRow.holds Tryd.pinned (OpenSpec.ofChange lexTagsWrong)

/-- 'woodcutlaw09.LexJoins': WHATEVER THE INPUT: true; the input reads as it did. -/
def lexJoinsSpec : ChangeSpec := { name := "lexJoins", fn := fun _ => fun
  | [d1, d2, d3] => { results := [.lit (.bool true)], args := [d1, d2, d3] }
  | _ => none }
def lexJoinsRow : OpenClaim := { program := "yticnenofiibpgaadoor", sum := "4fa21b468c5fe32509e34a202e465a3bbcc575eae5fdad75235af26873185f4e", func := "woodcut/woodcutlaw09.LexJoins", spec := "lexJoins", unfollowed := true, recurses := true, named := ["woodcut/chars.windows"], apart := false, laid := [("woodcut/chars.windows", laid_woodcut_chars_windows)] }
def LexJoinsSaid : Prop := lexJoinsRow.holds Tryd.pinned (OpenSpec.ofChange lexJoinsSpec)

/-- ITS FALSE NEIGHBOUR: 'it returns false'. Refute it at one input. -/
def lexJoinsWrong : ChangeSpec := { name := "lexJoins", fn := fun _ => fun
  | [d1, d2, d3] => { results := [.lit (.bool false)], args := [d1, d2, d3] }
  | _ => none }
def LexJoinsWrongFalsely : Prop := lexJoinsRow.holds Tryd.pinned (OpenSpec.ofChange lexJoinsWrong)

/-- 'woodcutlaw10.SerReads': WHATEVER THE INPUT: true; the input reads as it did. -/
def serReadsSpec : ChangeSpec := { name := "serReads", fn := fun _ => fun
  | [d] => { results := [.lit (.bool true)], args := [d] }
  | _ => none }
def serReadsRow : OpenClaim := { program := "yticnenofiibpgaadoor", sum := "4fa21b468c5fe32509e34a202e465a3bbcc575eae5fdad75235af26873185f4e", func := "woodcut/woodcutlaw10.SerReads", spec := "serReads", inPlace := ["slices.overlaps[int]"], unfollowed := true, recurses := true, named := ["woodcut/ser.voids", "woodcut/ser.raws", "woodcut/chars.windows"], apart := false, laid := [("woodcut/chars.windows", laid_woodcut_chars_windows), ("woodcut/ser.voids", laid_woodcut_ser_voids), ("woodcut/ser.raws", laid_woodcut_ser_raws)] }
def SerReadsSaid : Prop := serReadsRow.holds Tryd.pinned (OpenSpec.ofChange serReadsSpec)

/-- ITS FALSE NEIGHBOUR: 'it returns false'. Refute it at one input. -/
def serReadsWrong : ChangeSpec := { name := "serReads", fn := fun _ => fun
  | [d] => { results := [.lit (.bool false)], args := [d] }
  | _ => none }
def SerReadsWrongFalsely : Prop := serReadsRow.holds Tryd.pinned (OpenSpec.ofChange serReadsWrong)

/- THE SECOND FORM. 'bulk': how many values and letters a reading holds, each counted each time it is reached (what is shared counts as often as it is met; a slice's spare places count too). A statement '..UptoSaid' is the law's where the arguments, and the package variables that the reading takes, are together of bulk at most 1048576: NARROWER than '..Said'. Prove '..Said' where nothing that the law and all that it calls make is longer than what came in: it says more and counts as full. Else prove '..UptoSaid'. A law counts once. -/
mutual
def uptoBulk {H : Type} : DataW H → Nat
  | .lit (.string bytes) => bytes.length + 1
  | .lit _ => 1
  | .nil => 1
  | .ptr d => uptoBulk d + 1
  | .slice elems spare => uptoBulkAll elems + uptoBulkAll spare + 1
  | .agg parts => uptoBulkAll parts + 1
  | .iface _ d => uptoBulk d + 1
  | .map entries => uptoBulkEntries entries + 1
  | .held _ => 1
def uptoBulkAll {H : Type} : List (DataW H) → Nat
  | [] => 0
  | d :: r => uptoBulk d + uptoBulkAll r
def uptoBulkEntries {H : Type} : List (Lit × DataW H) → Nat
  | [] => 0
  | x :: r => uptoBulkEntry x + uptoBulkEntries r
def uptoBulkEntry {H : Type} : Lit × DataW H → Nat
  | (.string bytes, d) => bytes.length + uptoBulk d + 1
  | (_, d) => uptoBulk d + 1
 end
def uptoSmall : (H : Type) → List (DataW H) → Bool := fun _ ds => decide (uptoBulkAll ds ≤ 1048576)
def OpenSpec.upto (s : _root_.Go.ChangeSpec) : _root_.Go.OpenSpec := { _root_.Go.OpenSpec.ofChange s with cond := some uptoSmall }

/-- 'woodcutlaw09.LexRefs', WHERE WHAT IT READS IS OF BULK AT MOST 1048576: true; the input reads as it did. -/
def lexRefsUptoRow : OpenClaim := { program := "yticnenofiibpgaadoor", sum := "4fa21b468c5fe32509e34a202e465a3bbcc575eae5fdad75235af26873185f4e", func := "woodcut/woodcutlaw09.LexRefs", spec := "lexRefs", unfollowed := true, recurses := true, named := ["woodcut/chars.windows"], apart := false, laid := [("woodcut/chars.windows", laid_woodcut_chars_windows)], narrowed := true }
def LexRefsUptoSaid : Prop := lexRefsUptoRow.holds Tryd.pinned (OpenSpec.upto lexRefsSpec)

/-- 'woodcutlaw09.LexTexts', WHERE WHAT IT READS IS OF BULK AT MOST 1048576: true; the input reads as it did. -/
def lexTextsUptoRow : OpenClaim := { program := "yticnenofiibpgaadoor", sum := "4fa21b468c5fe32509e34a202e465a3bbcc575eae5fdad75235af26873185f4e", func := "woodcut/woodcutlaw09.LexTexts", spec := "lexTexts", unfollowed := true, recurses := true, named := ["woodcut/chars.windows"], apart := false, laid := [("woodcut/chars.windows", laid_woodcut_chars_windows)], narrowed := true }
def LexTextsUptoSaid : Prop := lexTextsUptoRow.holds Tryd.pinned (OpenSpec.upto lexTextsSpec)

/-- 'woodcutlaw09.LexSections', WHERE WHAT IT READS IS OF BULK AT MOST 1048576: true; the input reads as it did. -/
def lexSectionsUptoRow : OpenClaim := { program := "yticnenofiibpgaadoor", sum := "4fa21b468c5fe32509e34a202e465a3bbcc575eae5fdad75235af26873185f4e", func := "woodcut/woodcutlaw09.LexSections", spec := "lexSections", unfollowed := true, recurses := true, named := ["woodcut/chars.windows"], apart := false, laid := [("woodcut/chars.windows", laid_woodcut_chars_windows)], narrowed := true }
def LexSectionsUptoSaid : Prop := lexSectionsUptoRow.holds Tryd.pinned (OpenSpec.upto lexSectionsSpec)

/-- 'woodcutlaw09.LexComments', WHERE WHAT IT READS IS OF BULK AT MOST 1048576: true; the input reads as it did. -/
def lexCommentsUptoRow : OpenClaim := { program := "yticnenofiibpgaadoor", sum := "4fa21b468c5fe32509e34a202e465a3bbcc575eae5fdad75235af26873185f4e", func := "woodcut/woodcutlaw09.LexComments", spec := "lexComments", unfollowed := true, recurses := true, named := ["woodcut/chars.windows"], apart := false, laid := [("woodcut/chars.windows", laid_woodcut_chars_windows)], narrowed := true }
def LexCommentsUptoSaid : Prop := lexCommentsUptoRow.holds Tryd.pinned (OpenSpec.upto lexCommentsSpec)

/-- 'woodcutlaw09.LexDoctypes', WHERE WHAT IT READS IS OF BULK AT MOST 1048576: true; the input reads as it did. -/
def lexDoctypesUptoRow : OpenClaim := { program := "yticnenofiibpgaadoor", sum := "4fa21b468c5fe32509e34a202e465a3bbcc575eae5fdad75235af26873185f4e", func := "woodcut/woodcutlaw09.LexDoctypes", spec := "lexDoctypes", unfollowed := true, recurses := true, named := ["woodcut/chars.windows"], apart := false, laid := [("woodcut/chars.windows", laid_woodcut_chars_windows)], narrowed := true }
def LexDoctypesUptoSaid : Prop := lexDoctypesUptoRow.holds Tryd.pinned (OpenSpec.upto lexDoctypesSpec)

/-- 'woodcutlaw09.LexScripts', WHERE WHAT IT READS IS OF BULK AT MOST 1048576: true; the input reads as it did. -/
def lexScriptsUptoRow : OpenClaim := { program := "yticnenofiibpgaadoor", sum := "4fa21b468c5fe32509e34a202e465a3bbcc575eae5fdad75235af26873185f4e", func := "woodcut/woodcutlaw09.LexScripts", spec := "lexScripts", unfollowed := true, recurses := true, named := ["woodcut/chars.windows"], apart := false, laid := [("woodcut/chars.windows", laid_woodcut_chars_windows)], narrowed := true }
def LexScriptsUptoSaid : Prop := lexScriptsUptoRow.holds Tryd.pinned (OpenSpec.upto lexScriptsSpec)

/-- 'woodcutlaw09.LexRaws', WHERE WHAT IT READS IS OF BULK AT MOST 1048576: true; the input reads as it did. -/
def lexRawsUptoRow : OpenClaim := { program := "yticnenofiibpgaadoor", sum := "4fa21b468c5fe32509e34a202e465a3bbcc575eae5fdad75235af26873185f4e", func := "woodcut/woodcutlaw09.LexRaws", spec := "lexRaws", unfollowed := true, recurses := true, named := ["woodcut/chars.windows"], apart := false, laid := [("woodcut/chars.windows", laid_woodcut_chars_windows)], narrowed := true }
def LexRawsUptoSaid : Prop := lexRawsUptoRow.holds Tryd.pinned (OpenSpec.upto lexRawsSpec)

/-- 'woodcutlaw09.LexTags', WHERE WHAT IT READS IS OF BULK AT MOST 1048576: true; the input reads as it did. -/
def lexTagsUptoRow : OpenClaim := { program := "yticnenofiibpgaadoor", sum := "4fa21b468c5fe32509e34a202e465a3bbcc575eae5fdad75235af26873185f4e", func := "woodcut/woodcutlaw09.LexTags", spec := "lexTags", unfollowed := true, recurses := true, named := ["woodcut/chars.windows"], apart := false, laid := [("woodcut/chars.windows", laid_woodcut_chars_windows)], narrowed := true }
def LexTagsUptoSaid : Prop := lexTagsUptoRow.holds Tryd.pinned (OpenSpec.upto lexTagsSpec)

/-- 'woodcutlaw09.LexJoins', WHERE WHAT IT READS IS OF BULK AT MOST 1048576: true; the input reads as it did. -/
def lexJoinsUptoRow : OpenClaim := { program := "yticnenofiibpgaadoor", sum := "4fa21b468c5fe32509e34a202e465a3bbcc575eae5fdad75235af26873185f4e", func := "woodcut/woodcutlaw09.LexJoins", spec := "lexJoins", unfollowed := true, recurses := true, named := ["woodcut/chars.windows"], apart := false, laid := [("woodcut/chars.windows", laid_woodcut_chars_windows)], narrowed := true }
def LexJoinsUptoSaid : Prop := lexJoinsUptoRow.holds Tryd.pinned (OpenSpec.upto lexJoinsSpec)

/-- 'woodcutlaw10.SerReads', WHERE WHAT IT READS IS OF BULK AT MOST 1048576: true; the input reads as it did. -/
def serReadsUptoRow : OpenClaim := { program := "yticnenofiibpgaadoor", sum := "4fa21b468c5fe32509e34a202e465a3bbcc575eae5fdad75235af26873185f4e", func := "woodcut/woodcutlaw10.SerReads", spec := "serReads", inPlace := ["slices.overlaps[int]"], unfollowed := true, recurses := true, named := ["woodcut/ser.voids", "woodcut/ser.raws", "woodcut/chars.windows"], apart := false, laid := [("woodcut/chars.windows", laid_woodcut_chars_windows), ("woodcut/ser.voids", laid_woodcut_ser_voids), ("woodcut/ser.raws", laid_woodcut_ser_raws)], narrowed := true }
def SerReadsUptoSaid : Prop := serReadsUptoRow.holds Tryd.pinned (OpenSpec.upto serReadsSpec)

end Rows
end Go.Proofs.YticnenofiibpgaaDoor
