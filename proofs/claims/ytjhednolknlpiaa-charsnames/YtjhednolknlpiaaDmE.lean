/- The D-machine (5): values that are made without a look at the heap. -/
import Derived.Test.YtjhednolknlpiaaDmD
namespace Go.Dm
set_option linter.unusedSimpArgs false
set_option linter.unusedVariables false
set_option linter.unnecessarySimpa false

inductive All2 {α β : Type} (R : α → β → Prop) : List α → List β → Prop where
  | nil : All2 R [] []
  | cons {a : α} {b : β} {x : List α} {y : List β} (h : R a b) (hs : All2 R x y) : All2 R (a :: x) (b :: y)
/-! ### cells laid over cells -/
def ovl {α : Type} (cs : List α) (off : Nat) (xs : List α) : List α := cs.take off ++ xs ++ cs.drop (off + xs.length)
theorem overwrite_eq (cs : List DV) (off : Nat) (xs : List DV) : overwrite cs off xs = ovl cs off xs := rfl
theorem ovl_length {α : Type} (cs : List α) (off : Nat) (xs : List α) (h : off + xs.length ≤ cs.length) : (ovl cs off xs).length = cs.length := by
  simp [ovl]; omega
theorem VRels.ovl {c : Cor} {cs xs : List DV} {vs ws : List Value} (h : VRels c cs vs) (k : VRels c xs ws) (off : Nat) : VRels c (Dm.ovl cs off xs) (Dm.ovl vs off ws) := by
  unfold Dm.ovl
  rw [k.length_eq]
  exact ((h.take off).append k).append (h.drop _)
theorem foldl_set_list : ∀ (l : List Value) (k off : Nat) (cs : Array Value), off + k + l.length ≤ cs.size →
    ((l.zipIdx k).foldl (fun (cs : Array Value) (x : Value × Nat) => cs.setIfInBounds (off + x.2) x.1) cs).toList = ovl cs.toList (off + k) l
  | [], k, off, cs, h => by simp [ovl]
  | x :: l, k, off, cs, h => by
    simp only [List.zipIdx_cons, List.foldl_cons]
    rw [foldl_set_list l (k + 1) off _ (by simp at h ⊢; omega)]
    simp only [ovl, Array.toList_setIfInBounds, List.length_cons]
    have e : off + (k + 1) = off + k + 1 := by omega
    rw [e]
    have hlt : off + k < cs.toList.length := by simp at h ⊢; omega
    rw [List.take_set, List.drop_set_of_lt (by omega), List.take_add_one]
    have : cs.toList[off + k]? = some cs.toList[off + k] := List.getElem?_eq_getElem hlt
    rw [this]
    simp only [Option.toList_some]
    rw [List.set_append_right _ _ (by simp; omega)]
    have hl : (List.take (off + k) cs.toList).length = off + k := by simp; simp at hlt; omega
    simp [hl]
    have e2 : off + k + 1 + l.length = off + k + (l.length + 1) := by omega
    rw [e2]
theorem foldl_set_array (xs cs : Array Value) (off : Nat) (h : off + xs.size ≤ cs.size) :
    (xs.zipIdx.foldl (fun (cs : Array Value) (x : Value × Nat) => cs.setIfInBounds (off + x.2) x.1) cs).toList = ovl cs.toList off xs.toList := by
  have := foldl_set_list xs.toList 0 off cs (by simpa using h)
  rw [← Array.foldl_toList]
  simpa using this
theorem VRel.cells_size {c : Cor} {x : DV} {v : Value} (h : VRel c x v) : v.cells.size = x.cells.length := by
  rw [h.cells.length_eq]; simp

theorem fill_rel {c : Cor} {place : Nat → Option (Nat × Nat)} {ρ : Operand → Value} : ∀ (ps : List (Nat × Operand)) (qs : List (Nat × Nat × DV)),
    All2 (fun (p : Nat × Operand) (q : Nat × Nat × DV) => place p.1 = some (q.1, q.2.1) ∧ VRel c q.2.2 (ρ p.2)) ps qs →
    ∀ (cs : List DV) (r : List DV) (arr : Array Value), VRels c cs arr.toList → buildL cs qs = some r →
    (∀ x ∈ cs, x.one = true) → ∃ arr', Instr.fill place arr (ps.map fun p => (p.1, ρ p.2)) = some arr' ∧ VRels c r arr'.toList ∧ ∀ x ∈ r, x.one = true := by
  intro ps
  induction ps with
  | nil =>
    intro qs hq cs r arr hv hb ho
    cases hq
    simp [buildL] at hb; subst hb
    exact ⟨arr, rfl, hv, ho⟩
  | cons p ps ih =>
    intro qs hq cs r arr hv hb ho
    cases hq with
    | cons h hr =>
      rename_i q qs
      obtain ⟨hp, hx⟩ := h
      obtain ⟨off, n, d⟩ := q
      simp only [buildL] at hb
      split at hb
      · rename_i hc
        have hs := hx.cells_size
        simp only [List.map_cons, Instr.fill, hp]
        have hl := hv.length_eq
        have h1 : (ρ p.2).cells.size = n := by rw [hs]; exact hc.1
        have hn : ¬ (((ρ p.2).cells.size ≠ n || decide (off + (ρ p.2).cells.size > arr.size)) = true) := by
          simp at hl ⊢
          exact ⟨h1, by omega⟩
        rw [if_neg hn]
        refine ih qs hr _ r _ ?_ hb ?_
        case refine_2 =>
          intro y hy
          simp only [overwrite, List.mem_append] at hy
          rcases hy with (h1 | h1) | h1
          · exact ho y (List.mem_of_mem_take h1)
          · exact hx.okv_one hc.2.2 y h1
          · exact ho y (List.mem_of_mem_drop h1)
        have := foldl_set_array (ρ p.2).cells arr off (by simp at hl; omega)
        rw [this]
        exact VRels.ovl hv hx.cells off
      · simp at hb
theorem partsS_rel {P : Program} {D : DProg} {fr : Fr} {a : Act} {c : Cor} {fs : Array Field} (hg : GlobOk D c) (hf : VRels c fr.tmps a.tmps.toList)
    {places : Array (Nat × Nat)} (hpl : ∀ (i : Nat) (f : Field), fs[i]? = some f → ∃ n, sizeOfT P f.type = some n ∧ places[i]? = some (f.offset, n)) :
    ∀ (ps : List (Nat × Operand)) (qs : List (Nat × Nat × Opd)), partsS P fs ps = some qs →
    All2 (fun (p : Nat × Operand) (q : Nat × Nat × DV) => places[p.1]? = some (q.1, q.2.1) ∧ VRel c q.2.2 (a.eval p.2)) ps (qs.map fun q => (q.1, q.2.1, ev D fr q.2.2)) := by
  intro ps
  induction ps with
  | nil => intro qs h; simp [partsS] at h; subst h; exact .nil
  | cons p ps ih =>
    intro qs h
    obtain ⟨i, x⟩ := p
    simp only [partsS] at h
    split at h <;> simp at h
    rename_i f y ys h1 h2 h3
    obtain ⟨n, hn, rfl⟩ := h
    obtain ⟨m, hm, hp⟩ := hpl i f h1
    rw [hn] at hm
    simp at hm; subst hm
    exact .cons ⟨hp, opd_rel hg hf h2⟩ (ih ys h3)
end Go.Dm
