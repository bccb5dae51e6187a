/- The D-machine (8): every operation that gives a value and leaves the heap alone. -/
import Derived.Test.YtjhednolknlpiaaDmG
namespace Go.Dm
set_option linter.unusedSimpArgs false
set_option linter.unusedVariables false
set_option linter.unnecessarySimpa false

/-- A world that a computation leaves: the same, but that a cell behind a block of ours may have been marked. -/
inductive Quiet (c : Cor) (w : World) : World → Prop where
  | same : Quiet c w w
  | mark {t b e lim sz : Nat} {vs : Array Value} {ty : TypeId} {f : Nat × Nat} (h : c.τ t = some (b, e, lim, sz)) (hb : w.heap[b]? = some (.cells vs ty f)) : Quiet c w (w.freeze ⟨b, vs.size, none⟩ 1)

section
variable {P : Program} {c : Cor} (w : World)
theorem loadCells_of {b o : Nat} {vs : List Value} (h : ∀ j x, vs[j]? = some x → w.cell? ⟨b, o + j, none⟩ = some x) : (loadCells ⟨b, o, none⟩ vs.length).run P w = .ok vs.toArray w :=
  run_loadCells_list w ⟨b, o, none⟩ vs fun j x hj => by rw [add_plain]; exact h j x hj
theorem loadVar_rel {t : TypeId} {sh : Shape} (hs : shapeOf P t = some sh) {b o : Nat} {ds : List DV} {vs : List Value} (hv : VRels c ds vs) (ho : ∀ x ∈ ds, x.one = true) (hl : ds.length = sh.size) (h : ∀ j x, vs[j]? = some x → w.cell? ⟨b, o + j, none⟩ = some x)
    {v : DV} (hm : mkv sh ds = some v) : ∃ v', (loadVar t ⟨b, o, none⟩).run P w = .ok v' w ∧ VRel c v v' := by
  rcases mkv_rel hv ho hm hl with ⟨n, rfl, hr⟩ | ⟨rfl, x, rfl, hr⟩
  · have h1 := loadCells_of (P := P) w h
    have hlen : vs.length = n := by rw [← hv.length_eq, hl]; rfl
    rw [hlen] at h1
    have h2 := run_sizeOf_shape (P := P) w hs
    simp only [Shape.size, Option.getD_some] at h2
    refine ⟨_, ?_, hr⟩
    simp [loadVar, run_isAgg_some w hs, h2, h1]
  · refine ⟨x, ?_, hr⟩
    have := h 0 x rfl
    simp only [Nat.add_zero] at this
    simp [loadVar, run_isAgg_none w hs, this]
theorem part_rel {t : TypeId} {sh : Shape} (hs : shapeOf P t = some sh) {cs : List DV} {vs : List Value} (hv : VRels c cs vs) (ho : ∀ x ∈ cs, x.one = true) {off : Nat} {r : List DV} {v : DV} (hc : cut cs off sh.size = some r) (hm : mkv sh r = some v) :
    ∃ v', (part t vs.toArray off).run P w = .ok v' w ∧ VRel c v v' := by
  obtain ⟨h1, rfl⟩ := cut_some hc
  have hr := (hv.drop off).take sh.size
  have hl := cut_length hc
  have hvl := hv.length_eq
  rcases mkv_rel hr (fun x hx => ho x (List.mem_of_mem_drop (List.mem_of_mem_take hx))) hm hl with ⟨n, rfl, hr'⟩ | ⟨rfl, x, hx, hr'⟩
  · refine ⟨_, ?_, hr'⟩
    have h2 := run_sizeOf_shape (P := P) w hs
    simp only [Shape.size, Option.getD_some] at h2
    have e : (vs.toArray.extract off (off + n)) = ((vs.drop off).take n).toArray := by
      simp [List.take_drop, Nat.add_comm]
    simp only [part, Sem.run_bind, run_isAgg_some w hs, Result.andThen_ok, if_true, h2, Sem.run_pure, Shape.size, Option.getD_some, e]
  · refine ⟨x, ?_, hr'⟩
    have : vs[off]? = some x := by
      have h3 : ((vs.drop off).take 1)[0]? = some x := by
        have : Shape.size none = 1 := rfl
        rw [this] at hx
        rw [hx]; rfl
      simpa using h3
    simp [part, run_isAgg_none w hs, this]

/-- A load at an address of ours. -/
theorem load_rel {CC : Code → DC → Prop} {base : Nat} {h : Heap} (hS : Sim CC base c h w.heap) {t : TypeId} {sh : Shape} (hs : shapeOf P t = some sh) {x v : DV} {vx : Value} (hx : VRel c x vx) (hl : loadD h sh x = some v) :
    ∃ v', (Instr.loadAt t vx).run P w = .ok v' w ∧ VRel c v v' := by
  cases x <;> simp only [loadD] at hl <;> try (cases hl; done)
  case ptr id off =>
    obtain ⟨b, o, lim, sz, hφ, rfl⟩ := hx.ptr_inv
    split at hl
    · rename_i cs sh' hob
      obtain ⟨r, hr, hm⟩ := Option.bind_eq_some_iff.1 hl
      obtain ⟨_, _, hlen, vs, e, f, hb, hsz, hf, hone, hcell⟩ := hS.objs id _ b o lim sz hob hφ
      obtain ⟨h1, rfl⟩ := cut_some hr
      have hx' : ∀ j x, cs[j]? = some x → ∃ v, vs[o + j]? = some v ∧ VRel c x v := hcell
      -- the cells that are read
      have : ∃ ws : List Value, VRels c ((cs.drop off).take sh.size) ws ∧ ∀ j x, ws[j]? = some x → vs[o + off + j]? = some x := by
        refine ⟨((vs.toList.drop (o + off)).take sh.size), VRels.of_get ?_ ?_, ?_⟩
        · simp; omega
        · intro i x v hi hv
          have hi1 : cs[off + i]? = some x := by
            have hlt : i < sh.size := by
              have := (List.getElem?_eq_some_iff.1 hi).1; simp at this; omega
            simpa [List.getElem?_take, hlt] using hi
          obtain ⟨u, hu, hr⟩ := hx' _ _ hi1
          have hv1 : vs[o + off + i]? = some v := by
            have hlt : i < sh.size := by
              have := (List.getElem?_eq_some_iff.1 hv).1; simp at this; omega
            simpa [List.getElem?_take, hlt] using hv
          rw [show o + (off + i) = o + off + i by omega, hv1] at hu
          cases hu; exact hr
        · intro j x hj
          have hlt : j < sh.size := by
            have := (List.getElem?_eq_some_iff.1 hj).1; simp at this; omega
          simpa [List.getElem?_take, hlt] using hj
      obtain ⟨ws, hw, hwc⟩ := this
      obtain ⟨v', h2, h3⟩ := loadVar_rel (P := P) w hs (b := b) (o := o + off) hw (fun x hx => hone x (List.mem_of_mem_drop (List.mem_of_mem_take hx))) (by simpa using cut_length hr) (fun j x hj => by
        have := hwc j x hj
        simp [World.cell?, hb, this]) hm
      exact ⟨v', by simpa [Instr.loadAt, Instr.sureAddr] using h2, h3⟩
    · simp at hl
  case elt cs =>
    obtain ⟨vs, b, o, hv, hone, hp, rfl⟩ := hx.elt_inv
    obtain ⟨r, hr, hm⟩ := Option.bind_eq_some_iff.1 hl
    obtain ⟨h1, rfl⟩ := cut_some hr
    have hw : VRels c ((cs.drop 0).take sh.size) (vs.take sh.size) := by simpa using hv.take sh.size
    obtain ⟨v', h2, h3⟩ := loadVar_rel (P := P) w hs (b := b) (o := o) hw (fun x hx => hone x (List.mem_of_mem_drop (List.mem_of_mem_take hx))) (by simpa using cut_length hr) (fun j x hj => by
      have hlt : j < sh.size := by
        have := (List.getElem?_eq_some_iff.1 hj).1; simp at this; omega
      have hj' : vs[j]? = some x := by simpa [List.getElem?_take, hlt] using hj
      obtain ⟨ws, e, f, hb, hc⟩ := hS.prot _ _ _ (hp j x hj')
      simp [World.cell?, hb, hc]) hm
    exact ⟨v', by simpa [Instr.loadAt, Instr.sureAddr] using h2, h3⟩
end
end Go.Dm
