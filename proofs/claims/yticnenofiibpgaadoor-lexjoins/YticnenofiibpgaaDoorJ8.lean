/- LexJoins returns true for every input: part 8 of the proof (several texts joined). -/
import Derived.Test.YticnenofiibpgaaDoorCards
import Derived.Test.YticnenofiibpgaaDoorTie
import Derived.WalkKit
import Derived.ProofKit
import Derived.OpenShut
import Derived.Deep.DeepHandedRow
import Derived.Lib.LaidTab
import Derived.Test.YticnenofiibpgaaDoorJ7
/- 'woodcutlaw09.LexJoins' returns true for every input; and its card. -/
namespace Go.Proofs.YticnenofiibpgaaDoor.lexJoins
set_option linter.unusedSimpArgs false
set_option linter.unusedVariables false
set_option linter.unnecessarySimpa false
open Go.ChangeShapes Go.WideShapes Go.ChangeAt Go.RowKit

theorem own : ownKnob Tryd.prog.godebug = none := by kernel_rfl
theorem gTab : Tryd.prog.globalNamed "woodcut/chars.windows" = some 0 := by kernel_rfl
theorem gTabType : (Tryd.prog.globals[0]?).map (·.type) = some 69 := by kernel_rfl
theorem cells33 : Tryd.prog.cellsOf 69 = 32 := by kernel_rfl
theorem cells21 : Tryd.prog.cellsOf 21 = 1 := by kernel_rfl

theorem table {W : World} (h : laidMetH Tryd.prog Rows.lexJoinsRow.laid W) : Lib.TabIs Tryd.prog W "woodcut/chars.windows" .i32 Code.windows :=
  Lib.tabIs_of_head (rest := []) gTab gTabType Tryd.underlying69 Tryd.underlying21 cells21 cells33 h

theorem globOk {W : World} (h : Lib.TabIs Tryd.prog W "woodcut/chars.windows" .i32 Code.windows) : Dm.GlobOk Code.D (Dm.Cor.start W) := by
  refine ⟨fun g cs hg x hx => ?_, fun g cs hg => ?_⟩
  · simp only [Code.D, Code.glob] at hg
    split at hg <;> cases hg
    obtain ⟨z, _, rfl⟩ := List.mem_map.1 hx
    rfl
  · simp only [Code.D, Code.glob] at hg
    split at hg <;> cases hg
    rename_i hg0
    obtain rfl := Nat.eq_of_beq_eq_true hg0
    refine ⟨Code.windows.map (Value.int .i32), ?_, fun j x hj => ?_⟩
    · generalize Code.windows = ws
      induction ws with
      | nil => exact .nil
      | cons z zs ih => exact .cons (.int _ _) ih
    · show W.cell? ⟨0, j, none⟩ = some x
      have hlt : j < Code.windows.length := by have := (List.getElem?_eq_some_iff.1 hj).1; simpa using this
      have hc := h.cell gTab j hlt
      rw [hc]
      rw [List.getElem?_map, List.getElem?_eq_getElem hlt] at hj
      rw [List.getD_eq_getElem?_getD, List.getElem?_eq_getElem hlt]
      simpa using hj

theorem tys : Dm.tyB Tryd.prog [26, 35, 33, 38, 3, 9, 4, 21] = true := by kernel_rfl
theorem run (dvs : List Dm.DV) (h : Dm.TAs Tryd.prog Tryd.f11.params.toList dvs) : Dm.F0 Code.D 11 dvs Dm.Heap.start (fun v _ => v = .bool true) := by
  rw [Tryd.params11] at h
  cases h with | @cons _ c0 _ _ h0 h =>
  cases h with | @cons _ c1 _ _ h1 h =>
  cases h with | @cons _ c2 _ _ h2 h =>
  cases h
  have hc38 : Tryd.prog.cellsOf 38 = 2 := by kernel_rfl
  have hc35 : Tryd.prog.cellsOf 35 = 10 := by kernel_rfl
  obtain ⟨t, ls, e0, _, _, _, _⟩ := Dm.TC.sliceV (f := Dm.encT) (q := fun _ => True) Tryd.underlying26 (by rw [hc35]; decide) (fun ys hy => Dm.TC.tokV Tryd.underlying35 Tryd.underlying38 ⟨rfl, rfl⟩ Tryd.underlying33 Tryd.underlying3 Tryd.underlying9 Tryd.underlying4 hc38 rfl hy) h0
  obtain ⟨t', ms, e1, _, _, _, _⟩ := Dm.TC.sliceV (f := Dm.encT) (q := fun _ => True) Tryd.underlying26 (by rw [hc35]; decide) (fun ys hy => Dm.TC.tokV Tryd.underlying35 Tryd.underlying38 ⟨rfl, rfl⟩ Tryd.underlying33 Tryd.underlying3 Tryd.underlying9 Tryd.underlying4 hc38 rfl hy) h1
  obtain ⟨n, e2, _⟩ := Dm.TC.intV Tryd.underlying3 h2
  rw [e0, e1, e2]
  exact Dm.F.at0 (Code.joinsLaw (ls := ls) (ms := ms) (way := n) (by rw [hc35]) (by rw [hc35]))

set_option maxRecDepth 100000 in
theorem contract (H : Type) (enc : TypeId × Value → H) (W : World) (base : Nat) (args : Array Value) (ds gs : List (DataW H)) (before : List MemPlace)
    (hval : ∀ (j : Nat) t v, Tryd.f11.params[j]? = some t → args[j]? = some v → Value.okWide Tryd.prog W .any base t v)
    (hW : DataW.Whole enc Tryd.prog Tryd.f11.params.toList Rows.lexJoinsSpec.vars false W args.toList ds gs before) (hL : laidMetH Tryd.prog Rows.lexJoinsRow.laid W) :
    Calls Tryd.prog 11 args W fun e W' => ∃ v, e = .returned v ∧ Rows.lexJoinsSpec.post enc Tryd.prog Tryd.f11 false true false false W args v W' := by
  refine Dm.contract_gen (D := Code.D) (cfg := Code.cfg) tys Code.hm Code.hD Code.hP (by kernel_rfl) rfl (tb := 4) Tryd.underlying4 rfl ?_ run W args ds gs before hval hW (globOk (table hL))
  intro ds hd
  rw [Tryd.params11] at hd
  match ds, hd with
  | [d0, d1, d2], _ => rfl

noncomputable def laidWorld (os : Os) : World :=
  { World.holding Tryd.prog os ⟨#[], #[], []⟩ with heap := (World.holding Tryd.prog os ⟨#[], #[], []⟩).heap.modify 0 fun
      | .cells _ t frozen => .cells (Code.windows.map (Value.int .i32)).toArray t frozen
      | o => o }
theorem laid_met (os : Os) : laidMet Tryd.prog Rows.lexJoinsRow.laid ((laidWorld os).forCall (fun _ _ => 0) ⟨#[], #[.slice none 0 0, .slice none 0 0, .int .i64 0], []⟩).memory :=
  laidMet_of_run' 8 (by kernel_rfl) (by kernel_rfl)
theorem reads (os : Os) {H : Type} (enc : TypeId × Value → H) : ∃ places, DataW.whole enc Tryd.prog ((laidWorld os).forCall (fun _ _ => 0) ⟨#[], #[.slice none 0 0, .slice none 0 0, .int .i64 0], []⟩).memory Tryd.f11.params.toList Rows.lexJoinsSpec.vars false #[.slice none 0 0, .slice none 0 0, .int .i64 0].toList 8 = some ([.nil, .nil, .lit (.int .i64 0)], [], places) :=
  ⟨[], by kernel_rfl⟩

set_option maxRecDepth 100000 in
theorem lifted (os : Os) (started : os.Started) (H : Type) (enc : TypeId × Value → H) (F : Stop.Interp) :
    ReturnsInHanded {} Tryd.checked os 11 .any ((OpenSpec.ofChange Rows.lexJoinsSpec).preRow enc Tryd.prog Tryd.f11 Rows.lexJoinsRow.domain false Rows.lexJoinsRow.laid) (((OpenSpec.ofChange Rows.lexJoinsSpec).at F).post enc Tryd.prog Tryd.f11 false true false false) := by
  obtain ⟨places, hx⟩ := reads os enc
  refine returnsInHanded_of_row (C := Tryd.checked) (s := OpenSpec.ofChange Rows.lexJoinsSpec) own started (by kernel_rfl) Tryd.func11
    (witness_row_at (enc := enc) (C := Tryd.checked) false (laidWorld os) #[.slice none 0 0, .slice none 0 0, .int .i64 0] rfl (by kernel_rfl) (by kernel_rfl) (by kernel_rfl)
      (OpenSpec.preRow_of_cond 8 hx (by kernel_rfl) (fun k hk => by cases hk) (by kernel_rfl) (laid_met os))) ?_
  intro W base args ds gs before hval hW _ _ _ hL _ _
  exact contract H enc W base args ds gs before hval hW hL

theorem said : Rows.LexJoinsSaid :=
  OpenClaim.holds_of_cond 11 Tryd.f11 rfl rfl rfl rfl rfl rfl rfl ⟨rfl, rfl, rfl, rfl, rfl⟩ rfl rfl rfl rfl rfl (by kernel_rfl) Tryd.func11 (by kernel_rfl)
    (of_decide_eq_true (by kernel_rfl)) (by unfold Func.isWrapper; first | (rw [if_pos (by decide +kernel)]; kernel_rfl) | (rw [if_neg (by decide +kernel)]; exact ⟨rfl, rfl⟩))
    (fun os started H enc _ F => by rw [OpenClaim.pre_eq_preRow]; exact lifted os started H enc F)

theorem plain (f : FuncId) (fn : Func) (hf : Tryd.pinned.checked.prog.funcNamed "woodcut/woodcutlaw09.LexJoins" = some f) (hfn : Tryd.pinned.checked.prog.funcs[f]? = some fn) :
    false = Tryd.pinned.checked.prog.looks [] ∧ ∀ (j : Nat) t, fn.params[j]? = some t → Tryd.pinned.checked.prog.wantsStandIn t = false := by
  obtain rfl : f = 11 := Option.some.inj ((show Tryd.prog.funcNamed "woodcut/woodcutlaw09.LexJoins" = some 11 by kernel_rfl).symm.trans hf) |>.symm
  obtain rfl : fn = Tryd.f11 := (Option.some.inj (Tryd.func11.symm.trans hfn)).symm
  refine ⟨by kernel_rfl, fun j t ht => ?_⟩
  rw [Tryd.params11] at ht
  have hall : [26, 26, 3].all (fun t => Tryd.prog.wantsStandIn t == false) = true := by kernel_rfl
  have hmem : t ∈ [26, 26, 3] := by have := Array.mem_of_getElem? ht; simpa using this
  exact eq_of_beq (List.all_eq_true.1 hall t hmem)

theorem card : Rows.LexJoinsCardSaid :=
  Claim7.holds_tied_plain_at .later [] _ _ _ _ said (fun _ h => by cases h) (by kernel_rfl) (fun _ h => by cases h) lexJoins_row_tie rfl ⟨rfl, rfl⟩ (by kernel_rfl) rfl plain (by kernel_rfl)
end Go.Proofs.YticnenofiibpgaaDoor.lexJoins
