/- The D-machine (30): from a run of ours to the model's call. -/
import Derived.Test.YtjhednolknlpiaaDmWp
import Derived.RowKit3
namespace Go.Dm
set_option linter.unusedSimpArgs false
set_option linter.unusedVariables false
set_option linter.unnecessarySimpa false
open Go.RowKit

/-- Where nothing is ours yet: all that lies in the memory stays. -/
def Cor.start (W : World) : Cor := { φ := fun _ => none, τ := fun _ => none, kp := fun b o => W.cell? ⟨b, o, none⟩ }
def Heap.start : Heap := { next := 2, objs := .nil, tags := .nil }
theorem start_sim {CC : Code → DC → Prop} (W : World) : Sim CC W.heap.size (Cor.start W) Heap.start W.heap := by
  refine ⟨?_, ?_, ?_, ?_, ?_, ?_, ?_, ?_, ?_, ?_, Nat.le_refl _, Nat.le_refl _, ?_⟩
  · intro _ _ _ _ _ _ _ h; cases h
  · intro _ _ _ _ _ _ _ _ _ _ _ _ _ h; cases h
  · intro b o v h
    have h' : W.cell? ⟨b, o, none⟩ = some v := h
    unfold World.cell? at h'
    split at h'
    · rename_i c e f hb
      exact ⟨c, e, f, hb, by simpa using h'⟩
    · cases h'
  · intro _ _ _ _ _ _ _ h; cases h
  · intro _ _ _ _ _ _ _ h; cases h
  · intro _ _ _ _ _ _ _ _ _ _ _ _ _ h; cases h
  · intro _ _ _ _ _ _ _ _ _ _ _ _ h; cases h
  · intro _ _ h; cases h
  · intro _ _ h; cases h
  · intro _ _ _ _ _ h; cases h
  · intro id _; exact ⟨rfl, rfl⟩
theorem Keeps.but {W W' : World} (h : Keeps W.heap.size W W') (may : MemPlace → Prop) : W.keptBut W' may := by
  refine ⟨h.os, h.output, fun i hi => ?_⟩
  have := h.old i hi
  rw [this]
  cases hx : W.heap[i]? with
  | none => trivial
  | some o => cases o <;> first | exact ⟨rfl, rfl, rfl, fun _ _ => rfl⟩ | exact .inr ⟨rfl, rfl⟩ | rfl

/-- What the parts that are not run as code do is what the model's do. -/
def PrimOk (P : Program) (cfg : Cfg) (D : DProg) : Prop := ∀ base, CallOk P (fun code dc => ∃ mf, compC P cfg mf code = some dc) base D (fun f args h => (D.prim f).bind fun p => p args h)
theorem primOk_none {P : Program} {cfg : Cfg} {D : DProg} (hprim : ∀ f, D.prim f = none) : PrimOk P cfg D := by
  intro base f args h v h' he
  simp only [hprim, Option.bind_none] at he
  cases he
theorem calls_of_runs {P : Program} {cfg : Cfg} {D : DProg} (hm : P.follows .mixedOrders = true) (hD : ∀ f df, D.fn f = some df → compF P cfg f = some df) (hprim : PrimOk P cfg D) {f : Nat} {args : List DV} {v : DV} {h' : Heap} (hr : Runs D f args Heap.start v h')
    {W : World} {vargs : Array Value} (hv : VRels (Cor.start W) args vargs.toList) (hg : GlobOk D (Cor.start W)) : Calls P f vargs W fun e W' => ∃ v' c', e = .returned v' ∧ VRel c' v v' ∧ Keeps W.heap.size W W' := by
  obtain ⟨n, hn⟩ := hr
  let CC : Code → DC → Prop := fun code dc => ∃ mf, compC P cfg mf code = some dc
  have hp : CallOk P CC W.heap.size D (fun f args h => (D.prim f).bind fun p => p args h) := hprim _
  have hcode := code_sound (base := W.heap.size) hm (CC := CC) rfl hD hp n
  have hcall := call_sound (cfg := cfg) hcode (fun mf code dc h => ⟨mf, h⟩) hD hp
  obtain ⟨fn, _, _, _, hcs⟩ := hcall f args Heap.start v h' hn 0 (Cor.start W) W vargs.toList hg hv (start_sim W)
  have hcs' := callsIn_wide.1 hcs
  rw [Array.toArray_toList] at hcs'
  exact Calls.mono hcs' fun e W' ⟨v', c', he, ho, hv'⟩ => ⟨v', c', he, hv', ho.keeps⟩
theorem calls_true {P : Program} {cfg : Cfg} {D : DProg} (hm : P.follows .mixedOrders = true) (hD : ∀ f df, D.fn f = some df → compF P cfg f = some df) (hprim : PrimOk P cfg D) {f : Nat} {args : List DV} {h' : Heap} (hr : Runs D f args Heap.start (.bool true) h')
    {W : World} {vargs : Array Value} (hv : VRels (Cor.start W) args vargs.toList) (hg : GlobOk D (Cor.start W)) : Calls P f vargs W fun e W' => e = .returned (.bool true) ∧ Keeps W.heap.size W W' :=
  (calls_of_runs hm hD hprim hr hv hg).mono fun _ _ ⟨_, _, he, hv', hk⟩ => ⟨by rw [he, hv'.bool_inv], hk⟩
end Go.Dm
