/- The D-machine (13): what is laid anew. -/
import Derived.Test.YtjhednolknlpiaaDmL
import Derived.Deep.AppendSrc
import Derived.Deep.Upon
namespace Go.Dm
set_option linter.unusedSimpArgs false
set_option linter.unusedVariables false
set_option linter.unnecessarySimpa false

theorem flat_length {sz : Nat} : ∀ (xs : List DV), (∀ x ∈ xs, x.cells.length = sz) → (flat xs).length = xs.length * sz
  | [], _ => by simp [flat]
  | x :: xs, h => by
    have := flat_length xs fun y hy => h y (by simp [hy])
    simp only [flat, List.flatMap_cons, List.length_append, h x (by simp), List.length_cons] at this ⊢
    rw [this, Nat.succ_mul]; omega
theorem flat_append (xs ys : List DV) : flat (xs ++ ys) = flat xs ++ flat ys := by simp [flat]

def NewOk (P : Program) (CC : Code → DC → Prop) (base : Nat) (c : Cor) (G : Heap) (w : World) (id : Nat) (s : Sem Next) (v : DV) : Prop :=
  ∃ v' w' c', s.run P w = .ok (.value v') w' ∧ c.le c' ∧ Sim CC base c' G w'.heap ∧ VRel c' v v' ∧ Keeps base w w' ∧ ∀ i, i ≠ id → c'.φ i = c.φ i ∧ c'.τ i = c.τ i

section
variable {P : Program} {CC : Code → DC → Prop} {base : Nat} {c : Cor} {G : Heap} (w : World) {id : Nat}

theorem Keeps.alloc' (hs : base ≤ w.heap.size) (x : Obj) (n : Nat) (w' : World) (h : w'.heap = w.heap.push x) (h1 : w'.os = w.os) (h2 : w'.output = w.output) (h3 : w'.tape = w.tape) : Keeps base w w' :=
  ⟨by rw [h]; simp, fun b hb => by rw [h]; exact getElem?_push_lt' (by omega), h1, h2, h3⟩

/-- A new row of ours that is written into. -/
theorem new_cells (hS : Sim CC base c G w.heap) (hn : c.φ id = none) (hi : id < G.next) {ds : List DV} {sh : Shape} (hg : G.objs.get id = some (.cells ds sh)) {cs : Array Value} {ty : TypeId} {f : Nat × Nat} (hf : FOk cs.size f)
    (hlen : ds.length ≤ cs.size) (hv : ∀ (j : Nat) x, ds[j]? = some x → ∃ v, cs[j]? = some v ∧ VRel c x v) (ho : ∀ x ∈ ds, x.one = true) :
    let c' := c.obj id w.heap.size 0 cs.size sh.size
    c.le c' ∧ Sim CC base c' G (w.heap.push (.cells cs ty f)) ∧ c'.φ id = some (w.heap.size, 0, cs.size, sh.size) ∧ ∀ i, i ≠ id → c'.φ i = c.φ i ∧ c'.τ i = c.τ i := by
  intro c'
  have hle := Cor.le_obj hn w.heap.size 0 cs.size sh.size
  refine ⟨hle, hS.obj hn hi hg ?_, upd_same _ _ _, fun i hne => ⟨upd_ne _ _ hne, rfl⟩⟩
  refine ⟨rfl, by omega, cs, ty, f, by simp, rfl, hf, ho, fun j x hj => ?_⟩
  obtain ⟨v, h1, h2⟩ := hv j x hj
  exact ⟨v, by simpa using h1, h2.mono hle⟩

/-- A new list. -/
theorem new_list (hS : Sim CC base c G w.heap) (hn : c.τ id = none) (hi : id < G.next) (h2 : 2 ≤ id) {sz : Nat} (hsz : 0 < sz) (hg : G.tags.get id = some sz) {xs : List DV} {vs : List Value} {cs : Array Value} {ty : TypeId} {f : Nat × Nat} {cap : Nat} (hf : FOk cs.size f)
    (hs : ∀ x ∈ xs, x.cells.length = sz) (hv : VRels c (flat xs) vs) (ho : ∀ x ∈ flat xs, x.one = true) (hcs : ∀ (j : Nat) (v : Value), vs[j]? = some v → cs[j]? = some v) (hcap : xs.length ≤ cap) (hlim : cap * sz ≤ cs.size) :
    let c' := c.tag id w.heap.size vs.length cs.size sz (keep c.kp w.heap.size 0 vs)
    c.le c' ∧ Sim CC base c' G (w.heap.push (.cells cs ty f)) ∧ VRel c' (.lst id sz xs) (.slice (some ⟨w.heap.size, 0, none⟩) xs.length cap) ∧ ∀ i, i ≠ id → c'.φ i = c.φ i ∧ c'.τ i = c.τ i := by
  intro c'
  obtain ⟨hle, hS'⟩ := hS.tag hn hi hg (vs := vs) (cs := cs) (ty := ty) (f := f) hf hcs
  have hl : vs.length = xs.length * sz := by rw [← hv.length_eq, flat_length xs hs]
  refine ⟨hle, hS', ?_, fun i hne => ⟨rfl, upd_ne _ _ hne⟩⟩
  refine .lst (vs := vs) (fun _ => hsz) hs (hv.mono hle) ho (fun _ => ⟨_, _, rfl, fun j x hj => keep_in _ _ _ _ hj⟩) hcap (by omega) (fun _ => ⟨_, _, _, rfl, .inl rfl⟩) fun _ => ?_
  exact ⟨_, _, _, _, rfl, upd_same _ _ _, .inr ⟨by omega, by omega⟩⟩

/-! ### rows of zeros -/
theorem flat_replicate_get {z : DV} {sz : Nat} (hz : z.cells.length = sz) (hsz : 0 < sz) : ∀ (n j : Nat), j < n * sz → (flat (List.replicate n z))[j]? = z.cells[j % sz]?
  | 0, j, h => by simp at h
  | n + 1, j, h => by
    simp only [List.replicate_succ, flat, List.flatMap_cons]
    by_cases hj : j < sz
    · rw [List.getElem?_append_left (by omega), Nat.mod_eq_of_lt hj]
    · rw [List.getElem?_append_right (by omega), hz]
      have := flat_replicate_get hz hsz n (j - sz) (by rw [Nat.succ_mul] at h; omega)
      simp only [flat] at this
      rw [this]
      rw [Nat.mod_eq_sub_mod (by omega : j ≥ sz)]
theorem zeros_rel {z : DV} {vz : Value} {sz : Nat} (hz : z.cells.length = sz) (hsz : 0 < sz) (hr : VRel c z vz) (n : Nat) :
    VRels c (flat (List.replicate n z)) ((Array.range (n * sz)).map (vz.cells[· % vz.cells.size]!)).toList := by
  have hvs : vz.cells.size = sz := by rw [hr.cells_size, hz]
  refine VRels.of_get ?_ fun i x v hx hv => ?_
  · rw [flat_length (sz := sz) _ (by intro x hx; rw [List.eq_of_mem_replicate hx]; exact hz)]; simp
  · have hi : i < n * sz := by
      have := (List.getElem?_eq_some_iff.1 hv).1; simpa using this
    rw [flat_replicate_get hz hsz n i hi] at hx
    have hm : i % sz < sz := Nat.mod_lt _ hsz
    obtain ⟨u, h1, h2⟩ := hr.cells.get _ hx
    have h3 : v = u := by
      simp [List.getElem?_eq_some_iff] at hv
      obtain ⟨_, ⟨_, rfl⟩, rfl⟩ := hv
      have h4 : vz.cells[i % sz]? = some u := by simpa using h1
      rw [hvs, getElem!_def, h4]
    rw [h3]; exact h2

theorem VRels.append_right_of {xs ys : List DV} {vs : List Value} (h : VRels c (xs ++ ys) vs) : ∃ a b, vs = a ++ b ∧ VRels c xs a ∧ VRels c ys b := by
  refine ⟨vs.take xs.length, vs.drop xs.length, (List.take_append_drop _ _).symm, ?_, ?_⟩
  · have := h.take xs.length; simpa using this
  · have := h.drop xs.length; simpa using this
end
end Go.Dm
