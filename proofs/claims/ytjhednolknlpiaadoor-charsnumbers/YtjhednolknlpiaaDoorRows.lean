/-
  NARROWER THAN 'FOR EVERY INPUT', by the rows' own cells (each row's printed sentence says how): CharsNumeric: laid · CharsNumbers: laid.
  DERIVED. THE GIVEN ROWS OF THIS SEAT. 2 by the template 'for every input the law returns true; each argument reads behind the call as it read before'; 0 by the template 'total and deterministic' (their statements: YtjhednolknlpiaaDoorTotals.lean).
  GIVEN WITH THE SEED: the statements are not yours to turn. If you find one false, say at which input.
  Laid BY PROGRAM, IN A SANDBOX (cutbox-rows.mjs): the forced cells as the released guide's own fill.sh prints them over the translation ba0e1ca46aa04c3c… (all of the seat's roots in one cut). By AI agents, Wed Nov 11 2026. No macro, syntax, notation, axiom, sorry.
-/
import Derived.Test.YtjhednolknlpiaaDoorChecked
import GoSem.Claim
import GoSem.ClaimJoined
import GoSem.ClaimMapViews
import Derived.JoinedTies
import Derived.KernelRfl
namespace Go.Proofs.YtjhednolknlpiaaDoor
/- THE CELL 'sum', in the pinned program and in every row, IS THE sha256 OF THE DUMP (.gsa) THAT YtjhednolknlpiaaDoorProg.lean LOADS. Nothing in Lean hashes anything: it is a label: what it is worth is what the hold of that sum in a sandbox is worth. -/
noncomputable def Tryd.pinned : Pinned := { name := "ytjhednolknlpiaadoor", sum := "ba0e1ca46aa04c3cfbc965aaedd7d3208565c6a8849c22b72fcb811f694028fd", checked := Tryd.checked }
namespace Rows
def none {H : Type} : Left H := { results := [], args := [] }

/- WHAT THE LISTED PACKAGE-LEVEL VARIABLES READ AS WHEN THE CALL BEGINS. Each datum BY PROGRAM (the guide's laid-datum.mjs) off the statement by which the dump's own 'gosem.cut.vars' lays the variable. In a bare row this is a premise. The card (YtjhednolknlpiaaDoorCards.lean) ties it to the program's text. -/
def laid_woodcut_chars_windows {H : Type} : DataW H := .agg [.lit (.int .i32 8364), .lit (.int .i32 129), .lit (.int .i32 8218), .lit (.int .i32 402), .lit (.int .i32 8222), .lit (.int .i32 8230), .lit (.int .i32 8224), .lit (.int .i32 8225), .lit (.int .i32 710), .lit (.int .i32 8240), .lit (.int .i32 352), .lit (.int .i32 8249), .lit (.int .i32 338), .lit (.int .i32 141), .lit (.int .i32 381), .lit (.int .i32 143), .lit (.int .i32 144), .lit (.int .i32 8216), .lit (.int .i32 8217), .lit (.int .i32 8220), .lit (.int .i32 8221), .lit (.int .i32 8226), .lit (.int .i32 8211), .lit (.int .i32 8212), .lit (.int .i32 732), .lit (.int .i32 8482), .lit (.int .i32 353), .lit (.int .i32 8250), .lit (.int .i32 339), .lit (.int .i32 157), .lit (.int .i32 382), .lit (.int .i32 376)]

/-- 'woodcutlaw02.CharsNumeric': WHATEVER THE INPUT: true; the input reads as it did. -/
def charsNumericSpec : ChangeSpec := { name := "charsNumeric", fn := fun _ => fun
  | [d] => { results := [.lit (.bool true)], args := [d] }
  | _ => none }
def charsNumericRow : OpenClaim := { program := "ytjhednolknlpiaadoor", sum := "ba0e1ca46aa04c3cfbc965aaedd7d3208565c6a8849c22b72fcb811f694028fd", func := "woodcut/woodcutlaw02.CharsNumeric", spec := "charsNumeric", named := ["woodcut/chars.windows"], apart := false, laid := [("woodcut/chars.windows", laid_woodcut_chars_windows)] }
def CharsNumericSaid : Prop := charsNumericRow.holds Tryd.pinned (OpenSpec.ofChange charsNumericSpec)

/-- ITS FALSE NEIGHBOUR: 'it returns false'. Refute it at one input. -/
def charsNumericWrong : ChangeSpec := { name := "charsNumeric", fn := fun _ => fun
  | [d] => { results := [.lit (.bool false)], args := [d] }
  | _ => none }
def CharsNumericWrongFalsely : Prop := charsNumericRow.holds Tryd.pinned (OpenSpec.ofChange charsNumericWrong)

/-- 'woodcutlaw02.CharsNumbers': WHATEVER THE INPUT: true; the input reads as it did. -/
def charsNumbersSpec : ChangeSpec := { name := "charsNumbers", fn := fun _ => fun
  | [d1, d2] => { results := [.lit (.bool true)], args := [d1, d2] }
  | _ => none }
def charsNumbersRow : OpenClaim := { program := "ytjhednolknlpiaadoor", sum := "ba0e1ca46aa04c3cfbc965aaedd7d3208565c6a8849c22b72fcb811f694028fd", func := "woodcut/woodcutlaw02.CharsNumbers", spec := "charsNumbers", named := ["woodcut/chars.windows"], apart := false, laid := [("woodcut/chars.windows", laid_woodcut_chars_windows)] }
def CharsNumbersSaid : Prop := charsNumbersRow.holds Tryd.pinned (OpenSpec.ofChange charsNumbersSpec)

/-- ITS FALSE NEIGHBOUR: 'it returns false'. Refute it at one input. -/
def charsNumbersWrong : ChangeSpec := { name := "charsNumbers", fn := fun _ => fun
  | [d1, d2] => { results := [.lit (.bool false)], args := [d1, d2] }
  | _ => none }
def CharsNumbersWrongFalsely : Prop := charsNumbersRow.holds Tryd.pinned (OpenSpec.ofChange charsNumbersWrong)

/- THE SECOND FORM. 'bulk': how many values and letters a reading holds, each counted each time it is reached (what is shared counts as often as it is met; a slice's spare places count too). A statement '..UptoSaid' is the law's where the arguments, and the package variables that the reading takes, are together of bulk at most 1048576: NARROWER than '..Said'. Prove '..Said' where nothing that the law and all that it calls make is longer than what came in: it says more and counts as full. Else prove '..UptoSaid'. A law counts once. -/
mutual
def uptoBulk {H : Type} : DataW H → Nat
  | .lit (.string bytes) => bytes.length + 1
  | .lit _ => 1
  | .nil => 1
  | .ptr d => uptoBulk d + 1
  | .slice elems spare => uptoBulkAll elems + uptoBulkAll spare + 1
  | .agg parts => uptoBulkAll parts + 1
  | .iface _ d => uptoBulk d + 1
  | .map entries => uptoBulkEntries entries + 1
  | .held _ => 1
def uptoBulkAll {H : Type} : List (DataW H) → Nat
  | [] => 0
  | d :: r => uptoBulk d + uptoBulkAll r
def uptoBulkEntries {H : Type} : List (Lit × DataW H) → Nat
  | [] => 0
  | x :: r => uptoBulkEntry x + uptoBulkEntries r
def uptoBulkEntry {H : Type} : Lit × DataW H → Nat
  | (.string bytes, d) => bytes.length + uptoBulk d + 1
  | (_, d) => uptoBulk d + 1
 end
def uptoSmall : (H : Type) → List (DataW H) → Bool := fun _ ds => decide (uptoBulkAll ds ≤ 1048576)
def OpenSpec.upto (s : _root_.Go.ChangeSpec) : _root_.Go.OpenSpec := { _root_.Go.OpenSpec.ofChange s with cond := some uptoSmall }

/-- 'woodcutlaw02.CharsNumeric', WHERE WHAT IT READS IS OF BULK AT MOST 1048576: true; the input reads as it did. -/
def charsNumericUptoRow : OpenClaim := { program := "ytjhednolknlpiaadoor", sum := "ba0e1ca46aa04c3cfbc965aaedd7d3208565c6a8849c22b72fcb811f694028fd", func := "woodcut/woodcutlaw02.CharsNumeric", spec := "charsNumeric", named := ["woodcut/chars.windows"], apart := false, laid := [("woodcut/chars.windows", laid_woodcut_chars_windows)], narrowed := true }
def CharsNumericUptoSaid : Prop := charsNumericUptoRow.holds Tryd.pinned (OpenSpec.upto charsNumericSpec)

/-- 'woodcutlaw02.CharsNumbers', WHERE WHAT IT READS IS OF BULK AT MOST 1048576: true; the input reads as it did. -/
def charsNumbersUptoRow : OpenClaim := { program := "ytjhednolknlpiaadoor", sum := "ba0e1ca46aa04c3cfbc965aaedd7d3208565c6a8849c22b72fcb811f694028fd", func := "woodcut/woodcutlaw02.CharsNumbers", spec := "charsNumbers", named := ["woodcut/chars.windows"], apart := false, laid := [("woodcut/chars.windows", laid_woodcut_chars_windows)], narrowed := true }
def CharsNumbersUptoSaid : Prop := charsNumbersUptoRow.holds Tryd.pinned (OpenSpec.upto charsNumbersSpec)

end Rows
end Go.Proofs.YtjhednolknlpiaaDoor
