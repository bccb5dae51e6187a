/- 'woodcutlaw02.CharsNumeric' returns true for every input, where the table chars.windows reads as it is laid; and its card. -/
import Derived.Test.YtjhednolknlpiaaDoorCards
import Derived.Test.YtjhednolknlpiaaDoorTie
import Derived.Test.YtjhednolknlpiaaDoorCb
import Derived.WalkKit
import Derived.ProofKit
import Derived.OpenShut
import Derived.Deep.DeepHandedRow
import Derived.Lib.LaidTab
namespace Go.Proofs.YtjhednolknlpiaaDoor.charsNumeric
set_option linter.unusedSimpArgs false
set_option linter.unusedVariables false
set_option linter.unnecessarySimpa false
open Go.ChangeShapes Go.WideShapes Go.ChangeAt Go.RowKit

theorem own : ownKnob Tryd.prog.godebug = none := by kernel_rfl
theorem gTab : Tryd.prog.globalNamed "woodcut/chars.windows" = some 0 := by kernel_rfl
theorem gTabType : (Tryd.prog.globals[0]?).map (·.type) = some 33 := by kernel_rfl
theorem cells33 : Tryd.prog.cellsOf 33 = 32 := by kernel_rfl
theorem cells21 : Tryd.prog.cellsOf 21 = 1 := by kernel_rfl

theorem table {W : World} (h : laidMetH Tryd.prog Rows.charsNumericRow.laid W) : Lib.TabIs Tryd.prog W "woodcut/chars.windows" .i32 Code.windows :=
  Lib.tabIs_of_head (rest := []) gTab gTabType Tryd.underlying33 Tryd.underlying21 cells21 cells33 h

theorem globOk {W : World} (h : Lib.TabIs Tryd.prog W "woodcut/chars.windows" .i32 Code.windows) : Dm.GlobOk Code.D (Dm.Cor.start W) := by
  refine ⟨fun g cs hg x hx => ?_, fun g cs hg => ?_⟩
  · simp only [Code.D, Code.glob] at hg
    split at hg <;> cases hg
    obtain ⟨z, _, rfl⟩ := List.mem_map.1 hx
    rfl
  · simp only [Code.D, Code.glob] at hg
    split at hg <;> cases hg
    rename_i hg0
    subst hg0
    refine ⟨Code.windows.map (Value.int .i32), ?_, fun j x hj => ?_⟩
    · generalize Code.windows = ws
      induction ws with
      | nil => exact .nil
      | cons z zs ih => exact .cons (.int _ _) ih
    · show W.cell? ⟨0, j, none⟩ = some x
      have hlt : j < Code.windows.length := by have := (List.getElem?_eq_some_iff.1 hj).1; simpa using this
      have hc := h.cell gTab j hlt
      rw [hc]
      rw [List.getElem?_map, List.getElem?_eq_getElem hlt] at hj
      rw [List.getD_eq_getElem?_getD, List.getElem?_eq_getElem hlt]
      simpa using hj

theorem walk (n : Int) (W : World) (hg : Dm.GlobOk Code.D (Dm.Cor.start W)) : Calls Tryd.prog 3 #[.int .i64 n] W fun e W' => e = .returned (.bool true) ∧ Dm.Keeps W.heap.size W W' := by
  have hh := Code.headRuns
  cases hr : Dm.run Code.D 400 5 [] Dm.Heap.start with
  | none => rw [hr] at hh; cases hh
  | some r =>
    obtain ⟨v, h1⟩ := r
    rw [hr] at hh
    obtain rfl : v = .bool true := by simpa using hh
    obtain ⟨h', hrun⟩ := Code.numericLaw n h1 ⟨400, hr⟩
    exact Dm.calls_true Code.hm Code.hD (fun _ => rfl) hrun (.cons (.int _ _) .nil) hg

theorem contract (H : Type) (enc : TypeId × Value → H) (W : World) (base : Nat) (args : Array Value) (ds gs : List (DataW H)) (before : List MemPlace)
    (hval : ∀ (j : Nat) t v, Tryd.f3.params[j]? = some t → args[j]? = some v → Value.okWide Tryd.prog W .any base t v)
    (hW : DataW.Whole enc Tryd.prog Tryd.f3.params.toList Rows.charsNumericSpec.vars false W args.toList ds gs before) (hL : laidMetH Tryd.prog Rows.charsNumericRow.laid W) :
    Calls Tryd.prog 3 args W fun e W' => ∃ v, e = .returned v ∧ Rows.charsNumericSpec.post enc Tryd.prog Tryd.f3 false true false false W args v W' := by
  have hW' := hW
  obtain ⟨p, q, hA0, hV, rfl, hfz, hnd⟩ := hW
  have hA : DataW.TrodAll enc Tryd.prog W 0 (fun _ => true) true Tryd.f3.params.toList args.toList ds p := hA0
  rw [Tryd.params3] at hA hval
  obtain ⟨v0, vs0, d0, ds0, p0, q0, hargs, rfl, rfl, h0, r0⟩ := trodAll_cons hA
  obtain ⟨rfl, rfl, rfl⟩ := trodAll_nil r0
  obtain rfl : args = #[v0] := by cases args; simp_all
  obtain ⟨rfl, rfl⟩ := trodVars_none hV
  obtain ⟨n, rfl, rfl, rfl, w0⟩ := open_int Tryd.underlying3 (hval 0 3 v0 rfl rfl) h0
  clear hA0
  simp only [List.append_nil] at hW'
  refine (walk n W (globOk (table hL))).mono fun e W' ⟨he, hk⟩ => ?_
  subst he
  exact ⟨_, rfl, _, _, _, [], [], [], hW', trodAll_cons_mk (shut_bool Tryd.underlying4 _) trodAll_mk0, trodAll_cons_mk (shut_int Tryd.underlying3 w0) trodAll_mk0, rfl, hk.but _, fun h => by cases h⟩

noncomputable def laidWorld (os : Os) : World :=
  { World.holding Tryd.prog os ⟨#[], #[], []⟩ with heap := (World.holding Tryd.prog os ⟨#[], #[], []⟩).heap.modify 0 fun
      | .cells _ t frozen => .cells (Code.windows.map (Value.int .i32)).toArray t frozen
      | o => o }
theorem laid_met (os : Os) : laidMet Tryd.prog Rows.charsNumericRow.laid ((laidWorld os).forCall (fun _ _ => 0) ⟨#[], #[.int .i64 0], []⟩).memory :=
  laidMet_of_run' 8 (by kernel_rfl) (by kernel_rfl)
theorem reads (os : Os) {H : Type} (enc : TypeId × Value → H) : ∃ places, DataW.whole enc Tryd.prog ((laidWorld os).forCall (fun _ _ => 0) ⟨#[], #[.int .i64 0], []⟩).memory Tryd.f3.params.toList Rows.charsNumericSpec.vars false #[Value.int .i64 0].toList 8 = some ([.lit (.int .i64 0)], [], places) :=
  ⟨[], by kernel_rfl⟩

set_option maxRecDepth 100000 in
theorem lifted (os : Os) (started : os.Started) (H : Type) (enc : TypeId × Value → H) (F : Stop.Interp) :
    ReturnsInHanded {} Tryd.checked os 3 .any ((OpenSpec.ofChange Rows.charsNumericSpec).preRow enc Tryd.prog Tryd.f3 Rows.charsNumericRow.domain false Rows.charsNumericRow.laid) (((OpenSpec.ofChange Rows.charsNumericSpec).at F).post enc Tryd.prog Tryd.f3 false true false false) := by
  obtain ⟨places, hx⟩ := reads os enc
  refine returnsInHanded_of_row (C := Tryd.checked) (s := OpenSpec.ofChange Rows.charsNumericSpec) own started (by kernel_rfl) Tryd.func3
    (witness_row_at (enc := enc) (C := Tryd.checked) false (laidWorld os) #[.int .i64 0] rfl (by kernel_rfl) (by kernel_rfl) (by kernel_rfl)
      (OpenSpec.preRow_of_cond 8 hx (by kernel_rfl) (fun k hk => by cases hk) (by kernel_rfl) (laid_met os))) ?_
  intro W base args ds gs before hval hW _ _ _ hL _ _
  exact contract H enc W base args ds gs before hval hW hL

theorem said : Rows.CharsNumericSaid :=
  OpenClaim.holds_of_cond 3 Tryd.f3 rfl rfl rfl rfl rfl rfl rfl ⟨rfl, rfl, rfl, rfl, rfl⟩ rfl rfl rfl rfl rfl (by kernel_rfl) Tryd.func3 (by kernel_rfl)
    (of_decide_eq_true (by kernel_rfl)) (by unfold Func.isWrapper; first | (rw [if_pos (by decide +kernel)]; kernel_rfl) | (rw [if_neg (by decide +kernel)]; exact ⟨rfl, rfl⟩))
    (fun os started H enc _ F => by rw [OpenClaim.pre_eq_preRow]; exact lifted os started H enc F)

theorem plain (f : FuncId) (fn : Func) (hf : Tryd.pinned.checked.prog.funcNamed "woodcut/woodcutlaw02.CharsNumeric" = some f) (hfn : Tryd.pinned.checked.prog.funcs[f]? = some fn) :
    false = Tryd.pinned.checked.prog.looks [] ∧ ∀ (j : Nat) t, fn.params[j]? = some t → Tryd.pinned.checked.prog.wantsStandIn t = false := by
  obtain rfl : f = 3 := Option.some.inj ((show Tryd.prog.funcNamed "woodcut/woodcutlaw02.CharsNumeric" = some 3 by kernel_rfl).symm.trans hf) |>.symm
  obtain rfl : fn = Tryd.f3 := (Option.some.inj (Tryd.func3.symm.trans hfn)).symm
  refine ⟨by kernel_rfl, fun j t ht => ?_⟩
  rw [Tryd.params3] at ht
  obtain rfl : t = 3 := by simpa using Array.mem_of_getElem? ht
  exact (show Tryd.prog.wantsStandIn 3 = false by kernel_rfl)

theorem card : Rows.CharsNumericCardSaid :=
  Claim7.holds_tied_plain_at .later [] _ _ _ _ said (fun _ h => by cases h) (by kernel_rfl) (fun _ h => by cases h) charsNumeric_row_tie rfl ⟨rfl, rfl⟩ (by kernel_rfl) rfl plain (by kernel_rfl)
end Go.Proofs.YtjhednolknlpiaaDoor.charsNumeric
