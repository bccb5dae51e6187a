/- The D-machine (11): what keeps the two heaps together. -/
import Derived.Test.YtjhednolknlpiaaDmJ
namespace Go.Dm
set_option linter.unusedSimpArgs false
set_option linter.unusedVariables false
set_option linter.unnecessarySimpa false

def upd {α : Type} (f : Nat → Option α) (i : Nat) (x : α) : Nat → Option α := fun j => if j = i then some x else f j
theorem upd_same {α : Type} (f : Nat → Option α) (i : Nat) (x : α) : upd f i x i = some x := by simp [upd]
theorem upd_ne {α : Type} (f : Nat → Option α) {i j : Nat} (x : α) (h : j ≠ i) : upd f i x j = f j := by simp [upd, h]
theorem upd_some {α : Type} {f : Nat → Option α} {i j : Nat} {x y : α} (h : upd f i x j = some y) : (j = i ∧ y = x) ∨ (j ≠ i ∧ f j = some y) := by
  unfold upd at h
  split at h
  · cases h; exact .inl ⟨‹_›, rfl⟩
  · exact .inr ⟨‹_›, h⟩

/-- What lay below stays, and nothing is seen outside. -/
structure Keeps (base : Nat) (w w' : World) : Prop where
  size : w.heap.size ≤ w'.heap.size
  old : ∀ b, b < base → w'.heap[b]? = w.heap[b]?
  os : w'.os = w.os
  output : w'.output = w.output
  tape : w'.tape = w.tape
theorem Keeps.refl {base : Nat} (w : World) : Keeps base w w := ⟨Nat.le_refl _, fun _ _ => rfl, rfl, rfl, rfl⟩
theorem Keeps.trans {base : Nat} {a b c : World} (h : Keeps base a b) (k : Keeps base b c) : Keeps base a c :=
  ⟨Nat.le_trans h.size k.size, fun i hi => (k.old i hi).trans (h.old i hi), k.os.trans h.os, k.output.trans h.output, k.tape.trans h.tape⟩
theorem Keeps.drew {base : Nat} (w : World) (n : Nat) : Keeps base w { w with drawn := n } := ⟨Nat.le_refl _, fun _ _ => rfl, rfl, rfl, rfl⟩

theorem LoopRel.mono {CC : Code → DC → Prop} {c d : Cor} {r : LRec} {l : Loop} (h : LoopRel CC c r l) (hle : c.le d) : LoopRel CC d r l :=
  ⟨h.tmps.mono hle, h.ps, h.asg, h.body, h.st, h.pend, h.pn⟩
theorem ORel.mono {CC : Code → DC → Prop} {c d : Cor} {H H' : Array Obj} {b o lim sz : Nat} {ob : HObj} (h : ORel CC c H b o lim sz ob) (hle : c.le d) (hb : H'[b]? = H[b]?) : ORel CC d H' b o lim sz ob := by
  cases ob with
  | cells cs sh =>
    obtain ⟨h1, h2, vs, e, f, h3, h4, h5, h6, h7⟩ := h
    exact ⟨h1, h2, vs, e, f, hb.trans h3, h4, h5, h6, fun j x hj => let ⟨v, p, q⟩ := h7 j x hj; ⟨v, p, q.mono hle⟩⟩
  | siter s p => exact ⟨h.1, hb.trans h.2⟩
  | loop r =>
    obtain ⟨l, h1, h2⟩ := h
    exact ⟨l, hb.trans h1, h2.mono hle⟩
  | mark => exact hb.trans h
theorem ORel.lt {CC : Code → DC → Prop} {c : Cor} {H : Array Obj} {b o lim sz : Nat} {ob : HObj} (h : ORel CC c H b o lim sz ob) : b < H.size := by
  have : ∃ x, H[b]? = some x := by
    cases ob with
    | cells cs sh => obtain ⟨h1, h2, vs, e, f, h3, _⟩ := h; exact ⟨_, h3⟩
    | siter s p => exact ⟨_, h.2⟩
    | loop r => obtain ⟨l, h1, h2⟩ := h; exact ⟨_, h1⟩
    | mark => exact ⟨_, h⟩
  obtain ⟨x, hx⟩ := this
  exact (Array.getElem?_eq_some_iff.1 hx).1

section
variable {CC : Code → DC → Prop} {base : Nat} {c : Cor} {h : Heap} {H : Array Obj}

theorem Sim.kp_lt (hS : Sim CC base c h H) {b o : Nat} {v : Value} (hk : c.kp b o = some v) : b < H.size := by
  obtain ⟨vs, e, f, h1, _⟩ := hS.prot b o v hk
  exact (Array.getElem?_eq_some_iff.1 h1).1
theorem Sim.tag_lt (hS : Sim CC base c h H) {t sz b e lim sz' : Nat} (h1 : h.tags.get t = some sz) (h2 : c.τ t = some (b, e, lim, sz')) : b < H.size := by
  obtain ⟨_, _, ⟨vs, ty, f, h3, _⟩, _⟩ := hS.tags t sz b e lim sz' h1 h2
  exact (Array.getElem?_eq_some_iff.1 h3).1
theorem Sim.obj_lt (hS : Sim CC base c h H) {id b o lim sz : Nat} {ob : HObj} (h1 : h.objs.get id = some ob) (h2 : c.φ id = some (b, o, lim, sz)) : b < H.size := (hS.objs id ob b o lim sz h1 h2).2.lt
theorem Sim.φnext (hS : Sim CC base c h H) : c.φ h.next = none := by
  cases hx : c.φ h.next with
  | none => rfl
  | some x => exact absurd (hS.dφ _ _ hx) (Nat.lt_irrefl _)
theorem Sim.τnext (hS : Sim CC base c h H) : c.τ h.next = none := by
  cases hx : c.τ h.next with
  | none => rfl
  | some x => exact absurd (hS.dτ _ _ hx) (Nat.lt_irrefl _)

/-- An object that the model does not hold yet. -/
theorem Sim.add (hS : Sim CC base c h H) (ob : HObj) : Sim CC base c (h.add ob) H := by
  have hg : ∀ id x, c.φ id = some x → (h.add ob).objs.get id = h.objs.get id := fun id x hx => by
    have := hS.dφ id x hx
    simp only [Heap.add]
    exact Tr.get_set_ne _ _ (by omega)
  have ht : ∀ t, (h.add ob).tags.get t = h.tags.get t := fun t => rfl
  refine ⟨?_, ?_, hS.prot, ?_, ?_, ?_, ?_, ?_, ?_, hS.bτ, Nat.le_succ_of_le hS.next, hS.size, ?_⟩
  · intro id ob' b o lim sz h1 h2; rw [hg _ _ h2] at h1; exact hS.objs id ob' b o lim sz h1 h2
  · intro id id' ob1 ob2 b o lim sz o' lim' sz' h1 h2 h3 h4
    rw [hg _ _ h3] at h1; rw [hg _ _ h4] at h2
    exact hS.uniq _ _ _ _ _ _ _ _ _ _ _ h1 h2 h3 h4
  · intro id ob' b o lim sz h1 h2; rw [hg _ _ h2] at h1; exact hS.sep id ob' b o lim sz h1 h2
  · exact hS.tags
  · intro t sz b e lim sz' id ob' b' o' lim' sz'' h1 h2 h3 h4; rw [hg _ _ h4] at h3; exact hS.tagobj _ _ _ _ _ _ _ _ _ _ _ _ h1 h2 h3 h4
  · exact hS.tagtag
  · intro id x hx; exact Nat.lt_succ_of_lt (hS.dφ id x hx)
  · intro id x hx; exact Nat.lt_succ_of_lt (hS.dτ id x hx)
  · intro id hid
    have hid' : h.next + 1 ≤ id := hid
    obtain ⟨h1, h2⟩ := hS.fresh id (by omega)
    exact ⟨by simp only [Heap.add]; rw [Tr.get_set_ne _ _ (by omega)]; exact h1, h2⟩
theorem Sim.addTag (hS : Sim CC base c h H) (sz : Nat) : Sim CC base c (h.addTag sz) H := by
  have hg : ∀ id x, c.τ id = some x → (h.addTag sz).tags.get id = h.tags.get id := fun id x hx => by
    have := hS.dτ id x hx
    simp only [Heap.addTag]
    exact Tr.get_set_ne _ _ (by omega)
  refine ⟨hS.objs, hS.uniq, hS.prot, hS.sep, ?_, ?_, ?_, ?_, ?_, hS.bτ, Nat.le_succ_of_le hS.next, hS.size, ?_⟩
  · intro t sz b e lim sz' h1 h2; rw [hg _ _ h2] at h1; exact hS.tags _ _ _ _ _ _ h1 h2
  · intro t sz b e lim sz' id ob' b' o' lim' sz'' h1 h2 h3 h4; rw [hg _ _ h2] at h1; exact hS.tagobj _ _ _ _ _ _ _ _ _ _ _ _ h1 h2 h3 h4
  · intro t sz b e lim sz' u sz2 e' lim' sz'' h1 h2 h3 h4; rw [hg _ _ h2] at h1; rw [hg _ _ h4] at h3; exact hS.tagtag _ _ _ _ _ _ _ _ _ _ _ h1 h2 h3 h4
  · intro id x hx; exact Nat.lt_succ_of_lt (hS.dφ id x hx)
  · intro id x hx; exact Nat.lt_succ_of_lt (hS.dτ id x hx)
  · intro id hid
    have hid' : h.next + 1 ≤ id := hid
    obtain ⟨h1, h2⟩ := hS.fresh id (by omega)
    exact ⟨h1, by simp only [Heap.addTag]; rw [Tr.get_set_ne _ _ (by omega)]; exact h2⟩
theorem Sim.drop (hS : Sim CC base c h H) (id : Nat) : Sim CC base c (h.drop id) H := by
  have hg : ∀ i ob, (h.drop id).objs.get i = some ob → h.objs.get i = some ob := fun i ob hi => by
    simp only [Heap.drop, Tr.get_set] at hi
    split at hi
    · cases hi
    · exact hi
  refine ⟨?_, ?_, hS.prot, ?_, hS.tags, ?_, hS.tagtag, hS.dφ, hS.dτ, hS.bτ, hS.next, hS.size, ?_⟩
  · intro id ob' b o lim sz h1 h2; exact hS.objs id ob' b o lim sz (hg _ _ h1) h2
  · intro id id' ob1 ob2 b o lim sz o' lim' sz' h1 h2 h3 h4
    exact hS.uniq _ _ _ _ _ _ _ _ _ _ _ (hg _ _ h1) (hg _ _ h2) h3 h4
  · intro id ob' b o lim sz h1 h2; exact hS.sep id ob' b o lim sz (hg _ _ h1) h2
  · intro t sz b e lim sz' id ob' b' o' lim' sz'' h1 h2 h3 h4; exact hS.tagobj _ _ _ _ _ _ _ _ _ _ _ _ h1 h2 (hg _ _ h3) h4
  · intro i hi
    obtain ⟨h1, h2⟩ := hS.fresh i hi
    refine ⟨?_, h2⟩
    simp only [Heap.drop, Tr.get_set]
    split
    · rfl
    · exact h1
theorem Sim.spend (hS : Sim CC base c h H) (t : Nat) : Sim CC base c (h.spend t) H := by
  have hg : ∀ i sz, (h.spend t).tags.get i = some sz → h.tags.get i = some sz := fun i ob hi => by
    simp only [Heap.spend, Tr.get_set] at hi
    split at hi
    · cases hi
    · exact hi
  refine ⟨hS.objs, hS.uniq, hS.prot, hS.sep, ?_, ?_, ?_, hS.dφ, hS.dτ, hS.bτ, hS.next, hS.size, ?_⟩
  · intro t sz b e lim sz' h1 h2; exact hS.tags _ _ _ _ _ _ (hg _ _ h1) h2
  · intro t sz b e lim sz' id ob' b' o' lim' sz'' h1 h2 h3 h4; exact hS.tagobj _ _ _ _ _ _ _ _ _ _ _ _ (hg _ _ h1) h2 h3 h4
  · intro t sz b e lim sz' u sz2 e' lim' sz'' h1 h2 h3 h4; exact hS.tagtag _ _ _ _ _ _ _ _ _ _ _ (hg _ _ h1) h2 (hg _ _ h3) h4
  · intro i hi
    obtain ⟨h1, h2⟩ := hS.fresh i hi
    refine ⟨h1, ?_⟩
    simp only [Heap.spend, Tr.get_set]
    split
    · rfl
    · exact h2

theorem getElem?_push_lt' {H : Array Obj} {x : Obj} {b : Nat} (hb : b < H.size) : (H.push x)[b]? = H[b]? := by
  rw [Array.getElem?_push]; simp [Nat.ne_of_lt hb]
theorem getElem?_push_self {H : Array Obj} {x : Obj} : (H.push x)[H.size]? = some x := by simp

def Cor.obj (c : Cor) (id b o lim sz : Nat) : Cor := { c with φ := upd c.φ id (b, o, lim, sz) }
theorem Cor.le_obj {c : Cor} {id : Nat} (hn : c.φ id = none) (b o lim sz : Nat) : c.le (c.obj id b o lim sz) :=
  ⟨fun i x hx => by
    have : i ≠ id := fun e => by subst e; rw [hn] at hx; cases hx
    simpa [Cor.obj, upd, this] using hx, fun _ _ h => h, fun _ _ _ h => h⟩

/-- Something else is laid in the model's heap. -/
theorem Sim.push (hS : Sim CC base c h H) (x : Obj) : Sim CC base c h (H.push x) := by
  refine ⟨?_, hS.uniq, ?_, hS.sep, ?_, hS.tagobj, hS.tagtag, hS.dφ, hS.dτ, hS.bτ, hS.next, ?_, hS.fresh⟩
  · intro id ob b o lim sz h1 h2
    obtain ⟨h3, h4⟩ := hS.objs id ob b o lim sz h1 h2
    exact ⟨h3, h4.mono (Cor.le.refl c) (getElem?_push_lt' h4.lt)⟩
  · intro b o v hk
    obtain ⟨vs, e, f, h1, h2⟩ := hS.prot b o v hk
    exact ⟨vs, e, f, by rw [getElem?_push_lt' (hS.kp_lt hk)]; exact h1, h2⟩
  · intro t sz b e lim sz' h1 h2
    obtain ⟨h3, h4, ⟨vs, ty, f, h5, h6⟩, h7⟩ := hS.tags t sz b e lim sz' h1 h2
    exact ⟨h3, h4, ⟨vs, ty, f, by rw [getElem?_push_lt' (hS.tag_lt h1 h2)]; exact h5, h6⟩, h7⟩
  · have := hS.size; simp; omega

theorem Sim.obj (hS : Sim CC base c h H) {id : Nat} {ob : HObj} (hn : c.φ id = none) (hi : id < h.next) (hg : h.objs.get id = some ob) {x : Obj} {lim sz : Nat}
    (ho : ORel CC (c.obj id H.size 0 lim sz) (H.push x) H.size 0 lim sz ob) : Sim CC base (c.obj id H.size 0 lim sz) h (H.push x) := by
  have hP := hS.push x
  have hle := Cor.le_obj hn H.size 0 lim sz
  have hφ : ∀ i y, (c.obj id H.size 0 lim sz).φ i = some y → (i = id ∧ y = (H.size, 0, lim, sz)) ∨ (i ≠ id ∧ c.φ i = some y) := fun i y hy => upd_some hy
  refine ⟨?_, ?_, hP.prot, ?_, hP.tags, ?_, hS.tagtag, ?_, hS.dτ, hS.bτ, hS.next, hP.size, hS.fresh⟩
  · intro i ob' b o lim' sz' h1 h2
    rcases hφ _ _ h2 with ⟨rfl, e⟩ | ⟨_, e⟩
    · cases e
      rw [hg] at h1; cases h1
      exact ⟨hS.size, ho⟩
    · obtain ⟨h3, h4⟩ := hP.objs i ob' b o lim' sz' h1 e
      exact ⟨h3, h4.mono hle rfl⟩
  · intro i j ob1 ob2 b o lim1 sz1 o' lim' sz' h1 h2 h3 h4
    rcases hφ _ _ h3 with ⟨rfl, e3⟩ | ⟨n3, e3⟩ <;> rcases hφ _ _ h4 with ⟨rfl, e4⟩ | ⟨n4, e4⟩
    · rfl
    · cases e3
      have := hS.obj_lt h2 e4
      omega
    · cases e4
      have := hS.obj_lt h1 e3
      omega
    · exact hS.uniq _ _ _ _ _ _ _ _ _ _ _ h1 h2 e3 e4
  · intro i ob' b o lim' sz' h1 h2 j
    rcases hφ _ _ h2 with ⟨rfl, e⟩ | ⟨_, e⟩
    · cases e
      cases hk : (c.obj i H.size 0 lim sz).kp H.size j with
      | none => rfl
      | some v => have := hS.kp_lt (b := H.size) (o := j) (v := v) hk; omega
    · exact hS.sep i ob' b o lim' sz' h1 e j
  · intro t sz1 b e lim1 sz' i ob' b' o' lim' sz'' h1 h2 h3 h4
    rcases hφ _ _ h4 with ⟨rfl, e'⟩ | ⟨_, e'⟩
    · cases e'
      have := hS.tag_lt h1 h2
      omega
    · exact hS.tagobj _ _ _ _ _ _ _ _ _ _ _ _ h1 h2 h3 e'
  · intro i y hy
    rcases hφ _ _ hy with ⟨rfl, e⟩ | ⟨_, e⟩
    · exact hi
    · exact hS.dφ _ _ e

def Cor.tag (c : Cor) (t b e lim sz : Nat) (k : Nat → Nat → Option Value) : Cor := { c with τ := upd c.τ t (b, e, lim, sz), kp := k }
/-- Cells that stay: those of a list, at a block's place. -/
def keep (k : Nat → Nat → Option Value) (b o : Nat) (vs : List Value) : Nat → Nat → Option Value := fun b' j => if b' = b ∧ o ≤ j ∧ j < o + vs.length then vs[j - o]? else k b' j
theorem keep_in (k : Nat → Nat → Option Value) (b o : Nat) (vs : List Value) {j : Nat} {v : Value} (h : vs[j]? = some v) : keep k b o vs b (o + j) = some v := by
  have := (List.getElem?_eq_some_iff.1 h).1
  unfold keep
  rw [if_pos ⟨rfl, by omega, by omega⟩, show o + j - o = j by omega, h]
theorem keep_out (k : Nat → Nat → Option Value) (b o : Nat) (vs : List Value) {b' j : Nat} (h : b' ≠ b ∨ j < o ∨ o + vs.length ≤ j) : keep k b o vs b' j = k b' j := by
  unfold keep
  rw [if_neg (by omega)]
theorem keep_some {k : Nat → Nat → Option Value} {b o : Nat} {vs : List Value} {b' j : Nat} {v : Value} (h : keep k b o vs b' j = some v) : (b' = b ∧ o ≤ j ∧ vs[j - o]? = some v) ∨ k b' j = some v := by
  unfold keep at h
  split at h
  · rename_i hc; exact .inl ⟨hc.1, hc.2.1, h⟩
  · exact .inr h

theorem Sim.tag (hS : Sim CC base c h H) {t sz : Nat} (hn : c.τ t = none) (hi : t < h.next) (hg : h.tags.get t = some sz) {vs : List Value} {cs : Array Value} {ty : TypeId} {f : Nat × Nat} (hf : FOk cs.size f)
    (hv : ∀ (j : Nat) (v : Value), vs[j]? = some v → cs[j]? = some v) :
    let c' := c.tag t H.size vs.length cs.size sz (keep c.kp H.size 0 vs)
    c.le c' ∧ Sim CC base c' h (H.push (.cells cs ty f)) := by
  intro c'
  have hP := hS.push (.cells cs ty f)
  have hle : c.le c' := ⟨fun _ _ h => h, fun i x hx => by
    have : i ≠ t := fun e => by subst e; rw [hn] at hx; cases hx
    simpa [c', Cor.tag, upd, this] using hx, fun b o x hx => by
    have := hS.kp_lt hx
    simp only [c', Cor.tag]
    rw [keep_out _ _ _ _ (.inl (by omega))]; exact hx⟩
  have hτ : ∀ i y, c'.τ i = some y → (i = t ∧ y = (H.size, vs.length, cs.size, sz)) ∨ (i ≠ t ∧ c.τ i = some y) := fun i y hy => upd_some hy
  refine ⟨hle, ?_, hS.uniq, ?_, ?_, ?_, ?_, ?_, hS.dφ, ?_, ?_, hS.next, hP.size, hS.fresh⟩
  · intro i ob' b o lim' sz' h1 h2
    obtain ⟨h3, h4⟩ := hP.objs i ob' b o lim' sz' h1 h2
    exact ⟨h3, h4.mono hle rfl⟩
  · intro b o v hk
    rcases keep_some hk with ⟨rfl, _, h2⟩ | h2
    · exact ⟨cs, ty, f, by simp, by simpa using hv _ _ h2⟩
    · exact hP.prot b o v h2
  · intro i ob' b o lim' sz' h1 h2 j
    have := hS.obj_lt h1 h2
    simp only [c', Cor.tag]
    rw [keep_out _ _ _ _ (.inl (by omega))]
    exact hS.sep i ob' b o lim' sz' h1 h2 j
  · intro u sz1 b e lim sz' h1 h2
    rcases hτ _ _ h2 with ⟨rfl, e'⟩ | ⟨_, e'⟩
    · cases e'
      rw [hg] at h1; cases h1
      refine ⟨rfl, hS.size, ⟨cs, ty, f, by simp, rfl, hf⟩, fun j hj => ?_⟩
      simp only [c', Cor.tag]
      rw [keep_out _ _ _ _ (.inr (.inr (by omega)))]
      cases hk : c.kp H.size j with
      | none => rfl
      | some v => have := hS.kp_lt hk; omega
    · obtain ⟨h3, h4, h5, h6⟩ := hP.tags u sz1 b e lim sz' h1 e'
      refine ⟨h3, h4, h5, fun j hj => ?_⟩
      have := hS.tag_lt h1 e'
      simp only [c', Cor.tag]
      rw [keep_out _ _ _ _ (.inl (by omega))]
      exact h6 j hj
  · intro u sz1 b e lim sz' id ob' b' o' lim' sz'' h1 h2 h3 h4
    rcases hτ _ _ h2 with ⟨rfl, e'⟩ | ⟨_, e'⟩
    · cases e'
      have := hS.obj_lt h3 h4
      omega
    · exact hS.tagobj _ _ _ _ _ _ _ _ _ _ _ _ h1 e' h3 h4
  · intro u sz1 b e lim sz' u' sz2 e' lim' sz'' h1 h2 h3 h4
    rcases hτ _ _ h2 with ⟨rfl, e2⟩ | ⟨_, e2⟩ <;> rcases hτ _ _ h4 with ⟨rfl, e4⟩ | ⟨_, e4⟩
    · rfl
    · cases e2
      have := hS.tag_lt h3 e4
      omega
    · cases e4
      have := hS.tag_lt h1 e2
      omega
    · exact hS.tagtag _ _ _ _ _ _ _ _ _ _ _ h1 e2 h3 e4
  · intro i y hy
    rcases hτ _ _ hy with ⟨rfl, e⟩ | ⟨_, e⟩
    · exact hi
    · exact hS.dτ _ _ e
  · intro i b e lim sz' hy
    rcases hτ _ _ hy with ⟨rfl, e⟩ | ⟨_, e⟩
    · cases e; exact hS.size
    · exact hS.bτ _ _ _ _ _ e

/-- An object of ours is turned into another, in its own block. -/
theorem Sim.put (hS : Sim CC base c h H) {id b o lim sz : Nat} {ob ob' : HObj} {H' : Array Obj} (hg : h.objs.get id = some ob) (hφ : c.φ id = some (b, o, lim, sz)) (ho : ORel CC c H' b o lim sz ob')
    (hH : ∀ i, i ≠ b → H'[i]? = H[i]?) (hs : H'.size = H.size) : Sim CC base c (h.put id ob') H' := by
  have hp : ∀ i ob1, (h.put id ob').objs.get i = some ob1 → (i = id ∧ ob1 = ob') ∨ (i ≠ id ∧ h.objs.get i = some ob1) := fun i ob1 hi => by
    simp only [Heap.put, Tr.get_set] at hi
    split at hi
    · cases hi; exact .inl ⟨‹_›, rfl⟩
    · exact .inr ⟨‹_›, hi⟩
  have hlive : ∀ i ob1, (h.put id ob').objs.get i = some ob1 → ∃ ob2, h.objs.get i = some ob2 := fun i ob1 hi => by
    rcases hp _ _ hi with ⟨rfl, _⟩ | ⟨_, e⟩
    · exact ⟨_, hg⟩
    · exact ⟨_, e⟩
  refine ⟨?_, ?_, ?_, ?_, ?_, ?_, hS.tagtag, hS.dφ, hS.dτ, hS.bτ, hS.next, by rw [hs]; exact hS.size, ?_⟩
  · intro i ob1 b1 o1 lim1 sz1 h1 h2
    rcases hp _ _ h1 with ⟨rfl, rfl⟩ | ⟨n, e⟩
    · rw [hφ] at h2; cases h2
      exact ⟨(hS.objs _ _ _ _ _ _ hg hφ).1, ho⟩
    · obtain ⟨h3, h4⟩ := hS.objs i ob1 b1 o1 lim1 sz1 e h2
      refine ⟨h3, h4.mono (Cor.le.refl c) (hH _ fun eb => n ?_)⟩
      subst eb
      exact hS.uniq _ _ _ _ _ _ _ _ _ _ _ e hg h2 hφ
  · intro i j ob1 ob2 b o lim1 sz1 o' lim' sz' h1 h2 h3 h4
    obtain ⟨_, h1'⟩ := hlive _ _ h1
    obtain ⟨_, h2'⟩ := hlive _ _ h2
    exact hS.uniq _ _ _ _ _ _ _ _ _ _ _ h1' h2' h3 h4
  · intro b1 o1 v hk
    obtain ⟨vs, e, f, h1, h2⟩ := hS.prot b1 o1 v hk
    refine ⟨vs, e, f, ?_, h2⟩
    rw [hH _ fun eb => ?_]; exact h1
    subst eb
    have := hS.sep id ob _ o lim sz hg hφ o1
    rw [this] at hk; cases hk
  · intro i ob1 b o lim1 sz1 h1 h2
    obtain ⟨_, h1'⟩ := hlive _ _ h1
    exact hS.sep _ _ _ _ _ _ h1' h2
  · intro t sz1 b1 e lim1 sz' h1 h2
    obtain ⟨h3, h4, ⟨vs, ty, f, h5, h6⟩, h7⟩ := hS.tags t sz1 b1 e lim1 sz' h1 h2
    refine ⟨h3, h4, ⟨vs, ty, f, ?_, h6⟩, h7⟩
    rw [hH _ fun eb => ?_]; exact h5
    exact hS.tagobj _ _ _ _ _ _ _ _ _ _ _ _ h1 h2 hg hφ eb
  · intro t sz1 b1 e lim1 sz' i ob1 b' o' lim' sz'' h1 h2 h3 h4
    obtain ⟨_, h3'⟩ := hlive _ _ h3
    exact hS.tagobj _ _ _ _ _ _ _ _ _ _ _ _ h1 h2 h3' h4
  · intro i hi
    obtain ⟨h1, h2⟩ := hS.fresh i hi
    refine ⟨?_, h2⟩
    simp only [Heap.put, Tr.get_set]
    split
    · rename_i e; subst e; rw [hg] at h1; cases h1
    · exact h1
end
end Go.Dm
