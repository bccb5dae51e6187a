/- 'woodcutlaw02.CharsNames' returns true for every input; and its card. -/
import Derived.Test.YtjhednolknlpiaaRows
import Derived.Test.YtjhednolknlpiaaN4
import Derived.WalkKit
import Derived.ProofKit
import Derived.OpenShut
import Derived.Deep.DeepHandedRow
import Derived.Lib.LaidTab
namespace Go.Proofs.Ytjhednolknlpiaa.charsNames
set_option linter.unusedSimpArgs false
set_option linter.unusedVariables false
set_option linter.unnecessarySimpa false
open Go.ChangeShapes Go.WideShapes Go.ChangeAt Go.RowKit

theorem own : ownKnob Try.prog.godebug = none := by kernel_rfl
theorem globOk (W : World) : Dm.GlobOk Code.D (Dm.Cor.start W) := by
  refine ⟨fun g cs hg x hx => ?_, fun g cs hg => ?_⟩
  · simp only [Code.D, Code.glob] at hg; cases hg
  · simp only [Code.D, Code.glob] at hg; cases hg

theorem tys : Dm.tyB Try.prog [22, 21] = true := by kernel_rfl
theorem run (dvs : List Dm.DV) (h : Dm.TAs Try.prog Try.f3.params.toList dvs) : Dm.F0 Code.D 3 dvs Dm.Heap.start (fun v _ => v = .bool true) := by
  rw [Try.params3] at h
  cases h with | @cons _ c0 _ _ h0 h =>
  cases h
  obtain ⟨t, rs, e0, _, _⟩ := Dm.TC.intsV (k := .i32) Try.underlying22 Try.underlying21 (by kernel_rfl) h0
  rw [e0]
  obtain ⟨v, h', cs', r1, r2, r3⟩ := Code.namesLaw (more := rs) (t := t)
  exact ⟨v, h', cs', r1, r2, r3.1⟩

theorem contract (H : Type) (enc : TypeId × Value → H) (W : World) (base : Nat) (args : Array Value) (ds gs : List (DataW H)) (before : List MemPlace)
    (hval : ∀ (j : Nat) t v, Try.f3.params[j]? = some t → args[j]? = some v → Value.okWide Try.prog W .any base t v)
    (hW : DataW.Whole enc Try.prog Try.f3.params.toList Rows.charsNamesSpec.vars false W args.toList ds gs before) :
    Calls Try.prog 3 args W fun e W' => ∃ v, e = .returned v ∧ Rows.charsNamesSpec.post enc Try.prog Try.f3 false true false false W args v W' := by
  refine Dm.contract_gen (D := Code.D) (cfg := Code.cfg) tys Code.hm Code.hD Code.hP (by kernel_rfl) rfl (tb := 4) Try.underlying4 rfl ?_ run W args ds gs before hval hW (globOk W)
  intro ds hd
  rw [Try.params3] at hd
  match ds, hd with
  | [d0], _ => rfl

set_option maxRecDepth 100000 in
theorem lifted (os : Os) (started : os.Started) (H : Type) (enc : TypeId × Value → H) :
    ReturnsInHanded {} Try.checked os 3 .any (Rows.charsNamesSpec.pre6 enc Try.prog Try.f3 Rows.charsNamesRow.domain false) (Rows.charsNamesSpec.post enc Try.prog Try.f3 false true false false) := by
  refine returnsInHanded_of_change (C := Try.checked) own started (by kernel_rfl) Try.func3
    (ChangeSpec.witness6 (enc := enc) (C := Try.checked) false ⟨#[], #[.slice none 0 0], []⟩ 8 (by kernel_rfl) (by kernel_rfl) (by kernel_rfl) (by kernel_rfl)) ?_
  intro W base args ds gs before hval hW _ _
  exact contract H enc W base args ds gs before hval hW

theorem said : Rows.CharsNamesSaid :=
  OpenClaim.holds_of_wide 3 Try.f3 rfl rfl rfl rfl rfl rfl rfl ⟨rfl, rfl, rfl, rfl, rfl⟩ rfl rfl rfl rfl rfl (by kernel_rfl) Try.func3 (by kernel_rfl)
    (of_decide_eq_true (by kernel_rfl)) (by unfold Func.isWrapper; first | (rw [if_pos (by decide +kernel)]; kernel_rfl) | (rw [if_neg (by decide +kernel)]; exact ⟨rfl, rfl⟩))
    (fun os started H enc _ => lifted os started H enc)
end Go.Proofs.Ytjhednolknlpiaa.charsNames
