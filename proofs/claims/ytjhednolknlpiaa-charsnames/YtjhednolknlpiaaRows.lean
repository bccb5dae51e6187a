/-
  No cell of these rows narrows 'for every input' (looked for: loops, veiled, ifaces, maps, wideKeys, modest, calm, conditions, laid).
  DERIVED. THE GIVEN ROWS OF THIS SEAT. 2 by the template 'for every input the law returns true; each argument reads behind the call as it read before'; 0 by the template 'total and deterministic' (their statements: YtjhednolknlpiaaTotals.lean).
  GIVEN WITH THE SEED: the statements are not yours to turn. If you find one false, say at which input.
  Laid BY PROGRAM, IN A SANDBOX (cutbox-rows.mjs): the forced cells as the released guide's own fill.sh prints them over the translation 7f07008d10cc82c7… (all of the seat's roots in one cut). By AI agents, Wed Nov 11 2026. No macro, syntax, notation, axiom, sorry.
-/
import Derived.Test.YtjhednolknlpiaaChecked
import GoSem.Claim
import GoSem.ClaimJoined
import GoSem.ClaimMapViews
import Derived.JoinedTies
import Derived.KernelRfl
namespace Go.Proofs.Ytjhednolknlpiaa
/- THE CELL 'sum', in the pinned program and in every row, IS THE sha256 OF THE DUMP (.gsa) THAT YtjhednolknlpiaaProg.lean LOADS. Nothing in Lean hashes anything: it is a label: what it is worth is what the hold of that sum in a sandbox is worth. -/
noncomputable def Try.pinned : Pinned := { name := "ytjhednolknlpiaa", sum := "7f07008d10cc82c78e6e64a575c666e3f7e1f4825c1bfe27120b7e0af74375c1", checked := Try.checked }
namespace Rows
def none {H : Type} : Left H := { results := [], args := [] }

/-- 'woodcutlaw02.CharsNames': WHATEVER THE INPUT: true; the input reads as it did. -/
def charsNamesSpec : ChangeSpec := { name := "charsNames", fn := fun _ => fun
  | [d] => { results := [.lit (.bool true)], args := [d] }
  | _ => none }
def charsNamesRow : OpenClaim := { program := "ytjhednolknlpiaa", sum := "7f07008d10cc82c78e6e64a575c666e3f7e1f4825c1bfe27120b7e0af74375c1", func := "woodcut/woodcutlaw02.CharsNames", spec := "charsNames", inPlace := ["internal/bytealg.abigen_runtime_cmpstring"], unfollowed := true, recurses := true, apart := false }
def CharsNamesSaid : Prop := charsNamesRow.holds Try.pinned (OpenSpec.ofChange charsNamesSpec)

/-- ITS FALSE NEIGHBOUR: 'it returns false'. Refute it at one input. -/
def charsNamesWrong : ChangeSpec := { name := "charsNames", fn := fun _ => fun
  | [d] => { results := [.lit (.bool false)], args := [d] }
  | _ => none }
def CharsNamesWrongFalsely : Prop := charsNamesRow.holds Try.pinned (OpenSpec.ofChange charsNamesWrong)

/-- 'woodcutlaw02.CharsMatches': WHATEVER THE INPUT: true; the input reads as it did. -/
def charsMatchesSpec : ChangeSpec := { name := "charsMatches", fn := fun _ => fun
  | [d] => { results := [.lit (.bool true)], args := [d] }
  | _ => none }
def charsMatchesRow : OpenClaim := { program := "ytjhednolknlpiaa", sum := "7f07008d10cc82c78e6e64a575c666e3f7e1f4825c1bfe27120b7e0af74375c1", func := "woodcut/woodcutlaw02.CharsMatches", spec := "charsMatches", inPlace := ["internal/bytealg.abigen_runtime_cmpstring"], unfollowed := true, recurses := true, apart := false }
def CharsMatchesSaid : Prop := charsMatchesRow.holds Try.pinned (OpenSpec.ofChange charsMatchesSpec)

/-- ITS FALSE NEIGHBOUR: 'it returns false'. Refute it at one input. -/
def charsMatchesWrong : ChangeSpec := { name := "charsMatches", fn := fun _ => fun
  | [d] => { results := [.lit (.bool false)], args := [d] }
  | _ => none }
def CharsMatchesWrongFalsely : Prop := charsMatchesRow.holds Try.pinned (OpenSpec.ofChange charsMatchesWrong)

/- THE SECOND FORM. 'bulk': how many values and letters a reading holds, each counted each time it is reached (what is shared counts as often as it is met; a slice's spare places count too). A statement '..UptoSaid' is the law's where the arguments, and the package variables that the reading takes, are together of bulk at most 1048576: NARROWER than '..Said'. Prove '..Said' where nothing that the law and all that it calls make is longer than what came in: it says more and counts as full. Else prove '..UptoSaid'. A law counts once. -/
mutual
def uptoBulk {H : Type} : DataW H → Nat
  | .lit (.string bytes) => bytes.length + 1
  | .lit _ => 1
  | .nil => 1
  | .ptr d => uptoBulk d + 1
  | .slice elems spare => uptoBulkAll elems + uptoBulkAll spare + 1
  | .agg parts => uptoBulkAll parts + 1
  | .iface _ d => uptoBulk d + 1
  | .map entries => uptoBulkEntries entries + 1
  | .held _ => 1
def uptoBulkAll {H : Type} : List (DataW H) → Nat
  | [] => 0
  | d :: r => uptoBulk d + uptoBulkAll r
def uptoBulkEntries {H : Type} : List (Lit × DataW H) → Nat
  | [] => 0
  | x :: r => uptoBulkEntry x + uptoBulkEntries r
def uptoBulkEntry {H : Type} : Lit × DataW H → Nat
  | (.string bytes, d) => bytes.length + uptoBulk d + 1
  | (_, d) => uptoBulk d + 1
 end
def uptoSmall : (H : Type) → List (DataW H) → Bool := fun _ ds => decide (uptoBulkAll ds ≤ 1048576)
def OpenSpec.upto (s : _root_.Go.ChangeSpec) : _root_.Go.OpenSpec := { _root_.Go.OpenSpec.ofChange s with cond := some uptoSmall }

/-- 'woodcutlaw02.CharsNames', WHERE WHAT IT READS IS OF BULK AT MOST 1048576: true; the input reads as it did. -/
def charsNamesUptoRow : OpenClaim := { program := "ytjhednolknlpiaa", sum := "7f07008d10cc82c78e6e64a575c666e3f7e1f4825c1bfe27120b7e0af74375c1", func := "woodcut/woodcutlaw02.CharsNames", spec := "charsNames", inPlace := ["internal/bytealg.abigen_runtime_cmpstring"], unfollowed := true, recurses := true, apart := false, narrowed := true }
def CharsNamesUptoSaid : Prop := charsNamesUptoRow.holds Try.pinned (OpenSpec.upto charsNamesSpec)

/-- 'woodcutlaw02.CharsMatches', WHERE WHAT IT READS IS OF BULK AT MOST 1048576: true; the input reads as it did. -/
def charsMatchesUptoRow : OpenClaim := { program := "ytjhednolknlpiaa", sum := "7f07008d10cc82c78e6e64a575c666e3f7e1f4825c1bfe27120b7e0af74375c1", func := "woodcut/woodcutlaw02.CharsMatches", spec := "charsMatches", inPlace := ["internal/bytealg.abigen_runtime_cmpstring"], unfollowed := true, recurses := true, apart := false, narrowed := true }
def CharsMatchesUptoSaid : Prop := charsMatchesUptoRow.holds Try.pinned (OpenSpec.upto charsMatchesSpec)

end Rows
end Go.Proofs.Ytjhednolknlpiaa
