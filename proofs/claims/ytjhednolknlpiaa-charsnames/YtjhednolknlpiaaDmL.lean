/- The D-machine (12): blocks that are turned, taken over, kept. -/
import Derived.Test.YtjhednolknlpiaaDmK
namespace Go.Dm
set_option linter.unusedSimpArgs false
set_option linter.unusedVariables false
set_option linter.unnecessarySimpa false

section
variable {CC : Code → DC → Prop} {base : Nat} {c : Cor} {h : Heap} {H H' : Array Obj}

/-- No live object of ours lies in the block. -/
def NoObj (c : Cor) (h : Heap) (b : Nat) : Prop := ∀ id ob b' o lim sz, h.objs.get id = some ob → c.φ id = some (b', o, lim, sz) → b' ≠ b
def NoTag (c : Cor) (h : Heap) (b : Nat) : Prop := ∀ t sz b' e lim sz', h.tags.get t = some sz → c.τ t = some (b', e, lim, sz') → b' ≠ b

theorem Sim.frost (hS : Sim CC base c h H) {b : Nat} {vs : Array Value} {ty : TypeId} {f f' : Nat × Nat} (hb : H[b]? = some (.cells vs ty f)) (hf : FOk vs.size f → FOk vs.size f') (hb' : H'[b]? = some (.cells vs ty f'))
    (hH : ∀ i, i ≠ b → H'[i]? = H[i]?) (hs : H'.size = H.size) : Sim CC base c h H' := by
  refine ⟨?_, hS.uniq, ?_, hS.sep, ?_, hS.tagobj, hS.tagtag, hS.dφ, hS.dτ, hS.bτ, hS.next, by rw [hs]; exact hS.size, hS.fresh⟩
  · intro id ob b1 o lim sz h1 h2
    obtain ⟨h3, h4⟩ := hS.objs id ob b1 o lim sz h1 h2
    refine ⟨h3, ?_⟩
    by_cases e : b1 = b
    · subst e
      cases ob with
      | cells cs sh =>
        obtain ⟨q1, q2, vs1, e1, f1, q3, q4, q5, q6, q7⟩ := h4
        rw [hb] at q3
        cases q3
        subst q4
        exact ⟨q1, q2, vs, ty, f', hb', rfl, hf q5, q6, q7⟩
      | siter s p => have := h4.2; rw [hb] at this; cases this
      | loop r => obtain ⟨l, q1, q2⟩ := h4; rw [hb] at q1; cases q1
      | mark => have h5 : H[b1]? = some (.deferred (some [])) := h4; rw [hb] at h5; cases h5
    · exact h4.mono (Cor.le.refl c) (hH _ e)
  · intro b1 o v hk
    obtain ⟨vs1, e, f1, h1, h2⟩ := hS.prot b1 o v hk
    by_cases eb : b1 = b
    · subst eb
      rw [hb] at h1; cases h1
      exact ⟨_, _, _, hb', h2⟩
    · exact ⟨vs1, e, f1, by rw [hH _ eb]; exact h1, h2⟩
  · intro t sz b1 e lim sz' h1 h2
    obtain ⟨h3, h4, ⟨vs1, ty1, f1, h5, h6, h8⟩, h7⟩ := hS.tags t sz b1 e lim sz' h1 h2
    refine ⟨h3, h4, ?_, h7⟩
    by_cases eb : b1 = b
    · subst eb
      rw [hb] at h5; cases h5
      subst h6
      exact ⟨_, _, _, hb', rfl, hf h8⟩
    · exact ⟨vs1, ty1, f1, by rw [hH _ eb]; exact h5, h6, h8⟩

theorem Sim.quiet {w w' : World} (hS : Sim CC base c h w.heap) (hq : Quiet c w w') : Sim CC base c h w'.heap ∧ Keeps base w w' := by
  cases hq with
  | same => exact ⟨hS, Keeps.refl w⟩
  | mark hτ hb =>
    rename_i t b e lim sz vs ty f
    have hlt := (Array.getElem?_eq_some_iff.1 hb).1
    have hbase := hS.bτ _ _ _ _ _ hτ
    have hself : (w.freeze ⟨b, vs.size, none⟩ 1).heap[b]? = some (.cells vs ty (if f.1 == f.2 then (vs.size, vs.size + 1) else (min f.1 vs.size, max f.2 (vs.size + 1)))) := by
      simp only [World.freeze, Nat.one_ne_zero, if_false]
      rw [Array.getElem?_modify, if_pos rfl, hb]
      rfl
    have hoth : ∀ i, i ≠ b → (w.freeze ⟨b, vs.size, none⟩ 1).heap[i]? = w.heap[i]? := fun i hi => by
      simp only [World.freeze, Nat.one_ne_zero, if_false]
      rw [Array.getElem?_modify, if_neg (Ne.symm hi)]
    have hsz : (w.freeze ⟨b, vs.size, none⟩ 1).heap.size = w.heap.size := by
      simp [World.freeze]
    refine ⟨hS.frost hb ?_ hself hoth hsz, by omega, fun i hi => hoth i (by omega), rfl, rfl, rfl⟩
    intro hf
    unfold FOk at hf ⊢
    split
    · right; exact Nat.le_refl _
    · rename_i hne
      have hne' : f.1 ≠ f.2 := by simpa using hne
      right
      rcases hf with h1 | h1
      · exact absurd h1 hne'
      · simp; omega

theorem Sim.alter (hS : Sim CC base c h H) {b : Nat} (hH : ∀ i, i ≠ b → H'[i]? = H[i]?) (hs : H'.size = H.size) (ho : NoObj c h b) (ht : NoTag c h b)
    (hk : ∀ j v, c.kp b j = some v → ∃ vs e f, H'[b]? = some (.cells vs e f) ∧ vs[j]? = some v) : Sim CC base c h H' := by
  refine ⟨?_, hS.uniq, ?_, hS.sep, ?_, hS.tagobj, hS.tagtag, hS.dφ, hS.dτ, hS.bτ, hS.next, by rw [hs]; exact hS.size, hS.fresh⟩
  · intro id ob b1 o lim sz h1 h2
    obtain ⟨h3, h4⟩ := hS.objs id ob b1 o lim sz h1 h2
    exact ⟨h3, h4.mono (Cor.le.refl c) (hH _ (ho _ _ _ _ _ _ h1 h2))⟩
  · intro b1 o v hk1
    by_cases eb : b1 = b
    · subst eb; exact hk _ _ hk1
    · obtain ⟨vs1, e, f1, h1, h2⟩ := hS.prot b1 o v hk1
      exact ⟨vs1, e, f1, by rw [hH _ eb]; exact h1, h2⟩
  · intro t sz b1 e lim sz' h1 h2
    obtain ⟨h3, h4, ⟨vs1, ty1, f1, h5, h6, h8⟩, h7⟩ := hS.tags t sz b1 e lim sz' h1 h2
    exact ⟨h3, h4, ⟨vs1, ty1, f1, by rw [hH _ (ht _ _ _ _ _ _ h1 h2)]; exact h5, h6, h8⟩, h7⟩

theorem Sim.objAt (hS : Sim CC base c h H) {id b o lim sz : Nat} {ob : HObj} (hn : c.φ id = none) (hi : id < h.next) (hg : h.objs.get id = some ob) (hb : base ≤ b) (h1' : NoObj c h b) (h2' : NoTag c h b) (h3' : ∀ j, c.kp b j = none)
    (ho : ORel CC (c.obj id b o lim sz) H b o lim sz ob) : Sim CC base (c.obj id b o lim sz) h H := by
  have hle := Cor.le_obj hn b o lim sz
  have hφ : ∀ i y, (c.obj id b o lim sz).φ i = some y → (i = id ∧ y = (b, o, lim, sz)) ∨ (i ≠ id ∧ c.φ i = some y) := fun i y hy => upd_some hy
  refine ⟨?_, ?_, hS.prot, ?_, hS.tags, ?_, hS.tagtag, ?_, hS.dτ, hS.bτ, hS.next, hS.size, hS.fresh⟩
  · intro i ob' b1 o1 lim' sz' h1 h2
    rcases hφ _ _ h2 with ⟨rfl, e⟩ | ⟨_, e⟩
    · cases e
      rw [hg] at h1; cases h1
      exact ⟨hb, ho⟩
    · obtain ⟨h3, h4⟩ := hS.objs i ob' b1 o1 lim' sz' h1 e
      exact ⟨h3, h4.mono hle rfl⟩
  · intro i j ob1 ob2 b1 o1 lim1 sz1 o' lim' sz' h1 h2 h3 h4
    rcases hφ _ _ h3 with ⟨rfl, e3⟩ | ⟨n3, e3⟩ <;> rcases hφ _ _ h4 with ⟨rfl, e4⟩ | ⟨n4, e4⟩
    · rfl
    · cases e3
      exact absurd rfl (h1' _ _ _ _ _ _ h2 e4)
    · cases e4
      exact absurd rfl (h1' _ _ _ _ _ _ h1 e3)
    · exact hS.uniq _ _ _ _ _ _ _ _ _ _ _ h1 h2 e3 e4
  · intro i ob' b1 o1 lim' sz' h1 h2 j
    rcases hφ _ _ h2 with ⟨rfl, e⟩ | ⟨_, e⟩
    · cases e
      exact h3' j
    · exact hS.sep i ob' b1 o1 lim' sz' h1 e j
  · intro t sz1 b1 e lim1 sz' i ob' b' o' lim' sz'' h1 h2 h3 h4
    rcases hφ _ _ h4 with ⟨rfl, e'⟩ | ⟨_, e'⟩
    · cases e'
      exact h2' _ _ _ _ _ _ h1 h2
    · exact hS.tagobj _ _ _ _ _ _ _ _ _ _ _ _ h1 h2 h3 e'
  · intro i y hy
    rcases hφ _ _ hy with ⟨rfl, e⟩ | ⟨_, e⟩
    · exact hi
    · exact hS.dφ _ _ e

theorem Sim.tagAt (hS : Sim CC base c h H) {t sz b e0 : Nat} (hn : c.τ t = none) (hi : t < h.next) (hg : h.tags.get t = some sz) (hbase : base ≤ b) {vs : List Value} {cs : Array Value} {ty : TypeId} {f : Nat × Nat} (hb : H[b]? = some (.cells cs ty f)) (hf : FOk cs.size f)
    (h1' : NoObj c h b) (h2' : NoTag c h b) (h3' : ∀ j, e0 ≤ j → c.kp b j = none) (hv : ∀ (j : Nat) (v : Value), vs[j]? = some v → cs[e0 + j]? = some v) :
    let c' := c.tag t b (e0 + vs.length) cs.size sz (keep c.kp b e0 vs)
    c.le c' ∧ Sim CC base c' h H := by
  intro c'
  have hkk : ∀ b1 o x, c.kp b1 o = some x → c'.kp b1 o = some x := fun b1 o x hx => by
    simp only [c', Cor.tag]
    rw [keep_out]; exact hx
    by_cases eb : b1 = b
    · subst eb
      right; left
      by_cases hlt : o < e0
      · exact hlt
      · rw [h3' o (by omega)] at hx; cases hx
    · exact .inl eb
  have hle : c.le c' := ⟨fun _ _ h => h, fun i x hx => by
    have : i ≠ t := fun e => by subst e; rw [hn] at hx; cases hx
    simpa [c', Cor.tag, upd, this] using hx, hkk⟩
  have hτ : ∀ i y, c'.τ i = some y → (i = t ∧ y = (b, e0 + vs.length, cs.size, sz)) ∨ (i ≠ t ∧ c.τ i = some y) := fun i y hy => upd_some hy
  refine ⟨hle, ?_, hS.uniq, ?_, ?_, ?_, ?_, ?_, hS.dφ, ?_, ?_, hS.next, hS.size, hS.fresh⟩
  · intro i ob' b1 o lim' sz' h1 h2
    obtain ⟨h3, h4⟩ := hS.objs i ob' b1 o lim' sz' h1 h2
    exact ⟨h3, h4.mono hle rfl⟩
  · intro b1 o v hk
    rcases keep_some hk with ⟨rfl, ho, h2⟩ | h2
    · refine ⟨cs, ty, f, hb, ?_⟩
      have := hv _ _ h2
      rwa [show e0 + (o - e0) = o by omega] at this
    · exact hS.prot b1 o v h2
  · intro i ob' b1 o lim' sz' h1 h2 j
    simp only [c', Cor.tag]
    rw [keep_out _ _ _ _ (.inl (h1' _ _ _ _ _ _ h1 h2))]
    exact hS.sep i ob' b1 o lim' sz' h1 h2 j
  · intro u sz1 b1 e lim sz' h1 h2
    rcases hτ _ _ h2 with ⟨rfl, e'⟩ | ⟨_, e'⟩
    · cases e'
      rw [hg] at h1; cases h1
      refine ⟨rfl, hbase, ⟨cs, ty, f, hb, rfl, hf⟩, fun j hj => ?_⟩
      simp only [c', Cor.tag]
      rw [keep_out _ _ _ _ (.inr (.inr (by omega)))]
      exact h3' j (by omega)
    · obtain ⟨h3, h4, h5, h6⟩ := hS.tags u sz1 b1 e lim sz' h1 e'
      refine ⟨h3, h4, h5, fun j hj => ?_⟩
      simp only [c', Cor.tag]
      rw [keep_out _ _ _ _ (.inl (h2' _ _ _ _ _ _ h1 e'))]
      exact h6 j hj
  · intro u sz1 b1 e lim sz' id ob' b' o' lim' sz'' h1 h2 h3 h4
    rcases hτ _ _ h2 with ⟨rfl, e'⟩ | ⟨_, e'⟩
    · cases e'
      exact Ne.symm (h1' _ _ _ _ _ _ h3 h4)
    · exact hS.tagobj _ _ _ _ _ _ _ _ _ _ _ _ h1 e' h3 h4
  · intro u sz1 b1 e lim sz' u' sz2 e' lim' sz'' h1 h2 h3 h4
    rcases hτ _ _ h2 with ⟨rfl, e2⟩ | ⟨_, e2⟩ <;> rcases hτ _ _ h4 with ⟨rfl, e4⟩ | ⟨_, e4⟩
    · rfl
    · cases e2
      exact absurd rfl (h2' _ _ _ _ _ _ h3 e4)
    · cases e4
      exact absurd rfl (h2' _ _ _ _ _ _ h1 e2)
    · exact hS.tagtag _ _ _ _ _ _ _ _ _ _ _ h1 e2 h3 e4
  · intro i y hy
    rcases hτ _ _ hy with ⟨rfl, e⟩ | ⟨_, e⟩
    · exact hi
    · exact hS.dτ _ _ e
  · intro i b1 e lim sz' hy
    rcases hτ _ _ hy with ⟨rfl, e⟩ | ⟨_, e⟩
    · cases e; exact hbase
    · exact hS.bτ _ _ _ _ _ e

theorem Sim.protect (hS : Sim CC base c h H) {b : Nat} {cs : Array Value} {ty : TypeId} {f : Nat × Nat} (hb : H[b]? = some (.cells cs ty f)) (h1' : NoObj c h b) (h2' : NoTag c h b) (h3' : ∀ j, c.kp b j = none) :
    let c' : Cor := { c with kp := keep c.kp b 0 cs.toList }
    c.le c' ∧ Sim CC base c' h H := by
  intro c'
  have hle : c.le c' := ⟨fun _ _ h => h, fun _ _ h => h, fun b1 o x hx => by
    simp only [c']
    rw [keep_out]; exact hx
    by_cases eb : b1 = b
    · subst eb; rw [h3'] at hx; cases hx
    · exact .inl eb⟩
  refine ⟨hle, ?_, hS.uniq, ?_, ?_, ?_, hS.tagobj, hS.tagtag, hS.dφ, hS.dτ, hS.bτ, hS.next, hS.size, hS.fresh⟩
  · intro i ob' b1 o lim' sz' h1 h2
    obtain ⟨h3, h4⟩ := hS.objs i ob' b1 o lim' sz' h1 h2
    exact ⟨h3, h4.mono hle rfl⟩
  · intro b1 o v hk
    rcases keep_some hk with ⟨rfl, ho, h2⟩ | h2
    · exact ⟨cs, ty, f, hb, by simpa using h2⟩
    · exact hS.prot b1 o v h2
  · intro i ob' b1 o lim' sz' h1 h2 j
    simp only [c']
    rw [keep_out _ _ _ _ (.inl (h1' _ _ _ _ _ _ h1 h2))]
    exact hS.sep i ob' b1 o lim' sz' h1 h2 j
  · intro u sz1 b1 e lim sz' h1 h2
    obtain ⟨h3, h4, h5, h6⟩ := hS.tags u sz1 b1 e lim sz' h1 h2
    refine ⟨h3, h4, h5, fun j hj => ?_⟩
    simp only [c']
    rw [keep_out _ _ _ _ (.inl (h2' _ _ _ _ _ _ h1 h2))]
    exact h6 j hj

/-- When an object is dropped its block is free; and likewise for what was spent. -/
theorem Sim.noObj_drop (hS : Sim CC base c h H) {id b o lim sz : Nat} {ob : HObj} (hg : h.objs.get id = some ob) (hφ : c.φ id = some (b, o, lim, sz)) : NoObj c (h.drop id) b := by
  intro i ob1 b1 o1 lim1 sz1 h1 h2 e
  subst e
  simp only [Heap.drop, Tr.get_set] at h1
  split at h1
  · cases h1
  · rename_i hne
    exact hne (hS.uniq _ _ _ _ _ _ _ _ _ _ _ h1 hg h2 hφ)
theorem Sim.noTag_obj (hS : Sim CC base c h H) {id b o lim sz : Nat} {ob : HObj} (hg : h.objs.get id = some ob) (hφ : c.φ id = some (b, o, lim, sz)) : NoTag c h b := fun t sz1 b1 e lim1 sz' h1 h2 =>
  hS.tagobj _ _ _ _ _ _ _ _ _ _ _ _ h1 h2 hg hφ
theorem Sim.noTag_spend (hS : Sim CC base c h H) {t sz b e lim sz' : Nat} (hg : h.tags.get t = some sz) (hτ : c.τ t = some (b, e, lim, sz')) : NoTag c (h.spend t) b := by
  intro u sz1 b1 e1 lim1 sz1' h1 h2 eb
  subst eb
  simp only [Heap.spend, Tr.get_set] at h1
  split at h1
  · cases h1
  · rename_i hne
    exact hne (hS.tagtag _ _ _ _ _ _ _ _ _ _ _ h1 h2 hg hτ)
theorem Sim.noObj_tag (hS : Sim CC base c h H) {t sz b e lim sz' : Nat} (hg : h.tags.get t = some sz) (hτ : c.τ t = some (b, e, lim, sz')) : NoObj c h b := fun i ob1 b1 o1 lim1 sz1 h1 h2 =>
  Ne.symm (hS.tagobj _ _ _ _ _ _ _ _ _ _ _ _ hg hτ h1 h2)
end
end Go.Dm
