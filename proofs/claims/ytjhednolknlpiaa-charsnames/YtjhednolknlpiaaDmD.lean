/- The D-machine (4): each operation that leaves the heap alone does in the model what it does in ours. -/
import Derived.Test.YtjhednolknlpiaaDmC
namespace Go.Dm
set_option linter.unusedSimpArgs false
set_option linter.unusedVariables false
set_option linter.unnecessarySimpa false

theorem ofVal1_rel {c : Cor} {v : Value} {d : DV} (h : ofVal1 v = some d) : VRel c d v := by
  unfold ofVal1 at h
  split at h <;> simp at h <;> subst h
  · exact .bool _
  · exact .int _ _
  · rename_i s
    have := VRel.str (c := c) s.data.toList
    simpa using this
  · exact .nilp
  · have := VRel.lst (c := c) (t := 0) (xs := []) (a := none) (cap := 0) (vs := []) (sz := 0) (by simp) (by simp) .nil (by simp [flat]) (by simp) (by simp) (by simp) (by simp) (by simp)
    simpa using this
  · exact .nilfn
theorem ofVal1_one {v : Value} {d : DV} (h : ofVal1 v = some d) : d.one = true := by
  unfold ofVal1 at h
  split at h <;> simp at h <;> subst h <;> rfl
theorem ofVals_one : ∀ {vs : List Value} {ds : List DV}, ofVals vs = some ds → ∀ x ∈ ds, x.one = true
  | [], ds, h => by simp [ofVals] at h; subst h; simp
  | v :: vs, ds, h => by
    simp only [ofVals] at h
    split at h <;> simp at h
    subst h
    rename_i h1 h2
    intro x hx
    cases List.mem_cons.1 hx with
    | inl e => subst e; exact ofVal1_one h1
    | inr e => exact ofVals_one h2 x e
theorem ofVals_rel {c : Cor} : ∀ {vs : List Value} {ds : List DV}, ofVals vs = some ds → VRels c ds vs
  | [], ds, h => by simp [ofVals] at h; subst h; exact .nil
  | v :: vs, ds, h => by
    simp only [ofVals] at h
    split at h <;> simp at h
    subst h
    rename_i h1 h2
    exact .cons (ofVal1_rel h1) (ofVals_rel h2)
theorem ofVal_rel {c : Cor} {v : Value} {d : DV} (h : ofVal v = some d) : VRel c d v := by
  unfold ofVal at h
  split at h
  · rename_i cs
    simp at h
    obtain ⟨ds, h1, rfl⟩ := h
    have := VRel.agg (ofVals_rel (c := c) h1) (ofVals_one h1)
    simpa using this
  · exact ofVal1_rel h

/-- The program's variables hold what ours say. -/
def GlobOk (D : DProg) (c : Cor) : Prop := (∀ g cs, D.glob g = some cs → ∀ x ∈ cs, x.one = true) ∧ ∀ g cs, D.glob g = some cs → ∃ vs, VRels c cs vs ∧ ∀ j x, vs[j]? = some x → c.kp g j = some x
theorem GlobOk.mono {D : DProg} {c d : Cor} (h : GlobOk D c) (hle : c.le d) : GlobOk D d := ⟨h.1, fun g cs hg =>
  let ⟨vs, h1, h2⟩ := h.2 g cs hg; ⟨vs, h1.mono hle, fun j x hj => hle.kp _ _ _ (h2 j x hj)⟩⟩

section
variable {D : DProg} {c : Cor} {fr : Fr} {a : Act}
theorem opd_rel (hg : GlobOk D c) (hf : VRels c fr.tmps a.tmps.toList) {x : Operand} {y : Opd} (h : opd x = some y) : VRel c (ev D fr y) (a.eval x) := by
  unfold opd at h
  split at h
  · simp at h; subst h
    rename_i t
    have := hf.getD t
    simpa [ev, Act.eval] using this
  · simp at h
    obtain ⟨d, h1, rfl⟩ := h
    exact ofVal_rel h1
  · simp at h; subst h
    rename_i g
    simp only [ev, Act.eval]
    cases hd : D.glob g with
    | some cs =>
      obtain ⟨vs, h1, h2⟩ := hg.2 g cs hd
      exact .elt h1 (hg.1 g cs hd) (fun j x hj => by simpa using h2 j x hj)
    | none => exact .elt .nil (by simp) (by simp)
  · simp at h; subst h
    rename_i f
    have := VRel.fn (c := c) (.func f) .nil .nil
    simpa [ev, Act.eval] using this
theorem opds_rel (hg : GlobOk D c) (hf : VRels c fr.tmps a.tmps.toList) : ∀ {xs : List Operand} {ys : List Opd}, opds xs = some ys → VRels c (evs D fr ys) (xs.map a.eval)
  | [], ys, h => by simp [opds] at h; subst h; exact .nil
  | x :: xs, ys, h => by
    simp only [opds] at h
    split at h <;> simp at h
    subst h
    rename_i h1 h2
    exact .cons (opd_rel hg hf h1) (opds_rel hg hf h2)
theorem opdO_rel (hg : GlobOk D c) (hf : VRels c fr.tmps a.tmps.toList) {x : Option Operand} {y : Option Opd} (h : opdO x = some y) :
    (y = none ∧ x = none) ∨ ∃ d v, evO D fr y = some d ∧ x.map a.eval = some v ∧ VRel c d v := by
  unfold opdO at h
  split at h
  · simp at h; subst h; exact .inl ⟨rfl, rfl⟩
  · simp at h
    obtain ⟨d, h1, rfl⟩ := h
    exact .inr ⟨_, _, rfl, rfl, opd_rel hg hf h1⟩
end

/-! ### inversions -/
section
variable {c : Cor} {v : Value}
theorem VRel.int_inv {k : IntKind} {n : Int} (h : VRel c (.int k n) v) : v = .int k n := by cases h; rfl
theorem VRel.bool_inv {b : Bool} (h : VRel c (.bool b) v) : v = .bool b := by cases h; rfl
theorem VRel.str_inv {s : List UInt8} (h : VRel c (.str s) v) : v = .string ⟨s.toArray⟩ := by cases h; rfl
theorem VRel.ptr_inv {id off : Nat} (h : VRel c (.ptr id off) v) : ∃ b o lim sz, c.φ id = some (b, o, lim, sz) ∧ v = .pointer (some ⟨b, o + off, none⟩) := by cases h; exact ⟨_, _, _, _, ‹_›, rfl⟩
theorem VRel.elt_inv {cs : List DV} (h : VRel c (.elt cs) v) : ∃ vs b o, VRels c cs vs ∧ (∀ x ∈ cs, x.one = true) ∧ (∀ j x, vs[j]? = some x → c.kp b (o + j) = some x) ∧ v = .pointer (some ⟨b, o, none⟩) := by cases h; exact ⟨_, _, _, ‹_›, ‹_›, ‹_›, rfl⟩
theorem VRel.agg_inv {cs : List DV} (h : VRel c (.agg cs) v) : ∃ vs, VRels c cs vs ∧ (∀ x ∈ cs, x.one = true) ∧ v = .agg vs.toArray := by cases h; exact ⟨_, ‹_›, ‹_›, rfl⟩
theorem VRel.tup_inv {cs : List DV} (h : VRel c (.tup cs) v) : ∃ vs, VRels c cs vs ∧ v = .tuple vs.toArray := by cases h; exact ⟨_, ‹_›, rfl⟩
theorem VRel.arr_inv {id sz off len : Nat} (h : VRel c (.arr id sz off len) v) : ∃ cap b o lim ab ao, c.φ id = some (b, o, lim, sz) ∧ len ≤ cap ∧ (cap = 0 ∨ (ab = b ∧ ao = o + off ∧ o + off + cap * sz ≤ lim)) ∧ v = .slice (some ⟨ab, ao, none⟩) len cap := by
  cases h; exact ⟨_, _, _, _, _, _, ‹_›, ‹_›, ‹_›, rfl⟩
theorem VRel.lst_inv {t sz : Nat} {xs : List DV} (h : VRel c (.lst t sz xs) v) : ∃ a cap vs, (t ≠ 0 → 0 < sz) ∧ (∀ x ∈ xs, x.cells.length = sz) ∧ VRels c (Dm.flat xs) vs ∧ (∀ x ∈ Dm.flat xs, x.one = true) ∧
      (xs ≠ [] → ∃ b o, a = some ⟨b, o, none⟩ ∧ ∀ j x, vs[j]? = some x → c.kp b (o + j) = some x) ∧ xs.length ≤ cap ∧ (t = 0 → a = none ∧ cap = 0) ∧ (t ≠ 0 → ∃ b o sp, a = some ⟨b, o, sp⟩ ∧ (sp = none ∨ cap = 0)) ∧
      (2 ≤ t → ∃ b o e lim, a = some ⟨b, o, none⟩ ∧ c.τ t = some (b, e, lim, sz) ∧ (cap = 0 ∨ (e = o + xs.length * sz ∧ o + cap * sz ≤ lim))) ∧ v = .slice a xs.length cap := by
  cases h; exact ⟨_, _, _, ‹_›, ‹_›, ‹_›, ‹_›, ‹_›, ‹_›, ‹_›, ‹_›, ‹_›, rfl⟩
theorem VRel.fn_inv {f : Fn} {x y : List DV} (h : VRel c (.fn f x y) v) : ∃ g a b, FRel c f g ∧ VRels c x a ∧ VRels c y b ∧ v = .func g a.toArray b.toArray := by cases h; exact ⟨_, _, _, ‹_›, ‹_›, ‹_›, rfl⟩
end

section
variable {P : Program} {c : Cor} (w : World)
theorem run_und {t : TypeId} {d : TypeDesc} (h : P.underlying t = some d) : (underlying t).run P w = .ok d w := run_underlying h w
theorem mkv_rel {sh : Shape} {cs : List DV} {vs : List Value} {v : DV} (hs : VRels c cs vs) (ho : ∀ x ∈ cs, x.one = true) (h : mkv sh cs = some v) (hl : cs.length = sh.size) :
    (∃ n, sh = some n ∧ VRel c v (.agg vs.toArray)) ∨ (sh = none ∧ ∃ x, vs = [x] ∧ VRel c v x) := by
  unfold mkv at h
  split at h
  · rename_i n
    simp at h; subst h
    exact .inl ⟨n, rfl, .agg hs ho⟩
  · simp [Shape.size] at hl
    match cs, hs with
    | [d], .cons (v := x) h1 .nil =>
      simp at h; subst h
      exact .inr ⟨rfl, x, rfl, h1⟩
theorem cut_some {cs r : List DV} {off n : Nat} (h : cut cs off n = some r) : off + n ≤ cs.length ∧ r = (cs.drop off).take n := by
  unfold cut at h
  split at h <;> simp at h
  exact ⟨‹_›, h.symm⟩
theorem cut_length {cs r : List DV} {off n : Nat} (h : cut cs off n = some r) : r.length = n := by
  obtain ⟨h1, rfl⟩ := cut_some h
  simp; omega
theorem shapeOf_some {t : TypeId} {n : Nat} (h : shapeOf P t = some (some n)) : (∃ i, P.info? t = some i ∧ i.size = n) ∧ ((∃ fs, P.underlying t = some (.struct fs)) ∨ ∃ k e, P.underlying t = some (.array k e)) ∧ 0 < n := by
  unfold shapeOf at h
  split at h
  · rename_i i fs hi hu
    split at h <;> simp at h
    exact ⟨⟨i, hi, h⟩, .inl ⟨fs, hu⟩, by omega⟩
  · rename_i i k e hi hu
    split at h <;> simp at h
    exact ⟨⟨i, hi, h⟩, .inr ⟨k, e, hu⟩, by omega⟩
  · split at h <;> simp at h
  · simp at h
theorem shapeOf_none {t : TypeId} (h : shapeOf P t = some none) : (∃ i, P.info? t = some i ∧ i.size = 1) ∧ ∃ d, P.underlying t = some d ∧ (∀ fs, d ≠ .struct fs) ∧ ∀ k e, d ≠ .array k e := by
  unfold shapeOf at h
  split at h
  · split at h <;> simp at h
  · split at h <;> simp at h
  · rename_i i d h1 h2 hi hu
    split at h <;> simp at h
    exact ⟨⟨i, hi, ‹_›⟩, d, hu, fun fs e => h1 fs e, fun k e e' => h2 k e e'⟩
  · simp at h
theorem shapeOf_size {t : TypeId} {sh : Shape} (h : shapeOf P t = some sh) : (∃ i, P.info? t = some i ∧ i.size = sh.size) ∧ 0 < sh.size := by
  cases sh with
  | some n => obtain ⟨h1, _, h2⟩ := shapeOf_some h; exact ⟨h1, h2⟩
  | none => exact ⟨(shapeOf_none h).1, by simp [Shape.size]⟩
theorem run_isAgg_some {t : TypeId} {n : Nat} (h : shapeOf P t = some (some n)) : (isAgg t).run P w = .ok true w := by
  rcases (shapeOf_some h).2.1 with ⟨fs, hu⟩ | ⟨k, e, hu⟩ <;> simp [isAgg, run_underlying hu]
theorem run_isAgg_none {t : TypeId} (h : shapeOf P t = some none) : (isAgg t).run P w = .ok false w := by
  obtain ⟨_, d, hu, h1, h2⟩ := shapeOf_none h
  cases d <;> simp_all [isAgg, run_underlying hu]
theorem run_sizeOf_shape {t : TypeId} {sh : Shape} (h : shapeOf P t = some sh) : (sizeOf t).run P w = .ok sh.size w := by
  obtain ⟨⟨i, hi, he⟩, _⟩ := shapeOf_size h
  simp [sizeOf, typeInfo, hi, he]
theorem run_sizeOfT {t : TypeId} {n : Nat} (h : sizeOfT P t = some n) : (sizeOf t).run P w = .ok n w := by
  simp [sizeOfT] at h
  obtain ⟨i, hi, he⟩ := h
  simp [sizeOf, typeInfo, hi, he]
end
end Go.Dm
