/- The D-machine (16): effects. -/
import Derived.Test.YtjhednolknlpiaaDmO
namespace Go.Dm
set_option linter.unusedSimpArgs false
set_option linter.unusedVariables false
set_option linter.unnecessarySimpa false

/-- What a run of ours and the model's have come to, from where they stood. -/
structure Out (CC : Code → DC → Prop) (base : Nat) (c : Cor) (h : Heap) (w : World) (c' : Cor) (h' : Heap) (w' : World) : Prop where
  le : c.le c'
  sim : Sim CC base c' h' w'.heap
  keeps : Keeps base w w'
  next : h.next ≤ h'.next
  extφ : ∀ id, id < h.next → c.φ id = none → c'.φ id = none ∧ h'.objs.get id = h.objs.get id
  extτ : ∀ t, t < h.next → c.τ t = none → c'.τ t = none ∧ h'.tags.get t = h.tags.get t
section
variable {CC : Code → DC → Prop} {base : Nat} {c c1 c2 : Cor} {h h1 h2 : Heap} {w w1 w2 : World}
theorem Out.refl (hS : Sim CC base c h w.heap) : Out CC base c h w c h w := ⟨Cor.le.refl c, hS, Keeps.refl w, Nat.le_refl _, fun _ _ h => ⟨h, rfl⟩, fun _ _ h => ⟨h, rfl⟩⟩
theorem Out.trans (p : Out CC base c h w c1 h1 w1) (q : Out CC base c1 h1 w1 c2 h2 w2) : Out CC base c h w c2 h2 w2 :=
  ⟨p.le.trans q.le, q.sim, p.keeps.trans q.keeps, Nat.le_trans p.next q.next,
   fun id hi hn => let ⟨a1, a2⟩ := p.extφ id hi hn; let ⟨b1, b2⟩ := q.extφ id (Nat.lt_of_lt_of_le hi p.next) a1; ⟨b1, b2.trans a2⟩,
   fun id hi hn => let ⟨a1, a2⟩ := p.extτ id hi hn; let ⟨b1, b2⟩ := q.extτ id (Nat.lt_of_lt_of_le hi p.next) a1; ⟨b1, b2.trans a2⟩⟩
theorem Out.quiet (hS : Sim CC base c h w.heap) (hq : Quiet c w w1) : Out CC base c h w c h w1 :=
  let ⟨h1, h2⟩ := hS.quiet hq; ⟨Cor.le.refl c, h1, h2, Nat.le_refl _, fun _ _ h => ⟨h, rfl⟩, fun _ _ h => ⟨h, rfl⟩⟩
theorem Out.drew (hS : Sim CC base c h w.heap) (n : Nat) : Out CC base c h w c h { w with drawn := n } :=
  ⟨Cor.le.refl c, hS, Keeps.drew w n, Nat.le_refl _, fun _ _ h => ⟨h, rfl⟩, fun _ _ h => ⟨h, rfl⟩⟩
/-- One object of ours, that the model holds, is turned. -/
theorem Out.put {id : Nat} {ob : HObj} {x : Nat × Nat × Nat × Nat} (hφ : c.φ id = some x) (hS' : Sim CC base c (h.put id ob) w1.heap) (hk : Keeps base w w1) : Out CC base c h w c (h.put id ob) w1 :=
  ⟨Cor.le.refl c, hS', hk, Nat.le_refl _, fun i _ hn => ⟨hn, by
    simp only [Heap.put]
    exact Tr.get_set_ne _ _ (fun e => by subst e; rw [hφ] at hn; cases hn)⟩, fun _ _ h => ⟨h, rfl⟩⟩

def EffOk (P : Program) (CC : Code → DC → Prop) (base : Nat) (c : Cor) (h : Heap) (w : World) (s : Sem Next) (v : DV) (h' : Heap) : Prop :=
  ∃ n w' c' v', s.run P w = .ok n w' ∧ (n = .value v' ∨ (n = .skip ∧ v' = undef)) ∧ Out CC base c h w c' h' w' ∧ VRel c' v v'

variable {P : Program}
theorem EffOk.ofVal {s : Sem Next} {v : DV} (hS : Sim CC base c h w.heap) (hv : ValOk P c w s v) : EffOk P CC base c h w s v h :=
  let ⟨v', w', h1, h2, h3⟩ := hv; ⟨_, w', c, v', h1, .inl rfl, Out.quiet hS h3, h2⟩
theorem EffOk.ofNewO {s : Sem Next} {v : DV} {ob : HObj} (hv : NewOk P CC base c (h.add ob) w h.next s v) : EffOk P CC base c h w s v (h.add ob) :=
  let ⟨v', w', c', q1, q2, q3, q4, q5, q6⟩ := hv
  ⟨_, w', c', v', q1, .inl rfl, ⟨q2, q3, q5, Nat.le_succ _, fun i hi hn => ⟨by rw [(q6 i (by omega)).1]; exact hn, by simp only [Heap.add]; exact Tr.get_set_ne _ _ (by omega)⟩,
    fun i hi hn => ⟨by rw [(q6 i (by omega)).2]; exact hn, rfl⟩⟩, q4⟩
theorem EffOk.ofNewT {s : Sem Next} {v : DV} {sz : Nat} (hv : NewOk P CC base c (h.addTag sz) w h.next s v) : EffOk P CC base c h w s v (h.addTag sz) :=
  let ⟨v', w', c', q1, q2, q3, q4, q5, q6⟩ := hv
  ⟨_, w', c', v', q1, .inl rfl, ⟨q2, q3, q5, Nat.le_succ _, fun i hi hn => ⟨by rw [(q6 i (by omega)).1]; exact hn, rfl⟩,
    fun i hi hn => ⟨by rw [(q6 i (by omega)).2]; exact hn, by simp only [Heap.addTag]; exact Tr.get_set_ne _ _ (by omega)⟩⟩, q4⟩

theorem not_frozen {b : Nat} {vs : Array Value} {e : TypeId} {f : Nat × Nat} (hb : w.heap[b]? = some (.cells vs e f)) (hf : FOk vs.size f) {j : Nat} (hj : j < vs.size) : w.frozen? ⟨b, j, none⟩ = false := by
  simp only [World.frozen?, hb]
  rcases hf with h | h
  · simp; omega
  · simp; omega
theorem cell_is {b : Nat} {vs : Array Value} {e : TypeId} {f : Nat × Nat} (hb : w.heap[b]? = some (.cells vs e f)) {j : Nat} : w.cell? ⟨b, j, none⟩ = vs[j]? := by
  simp [World.cell?, hb]

/-- Cells of a live object are written. -/
theorem write_obj (hS : Sim CC base c h w.heap) {id b o lim sz : Nat} {cs xs : List DV} {sh : Shape} {vs : List Value} {off : Nat} (hg : h.objs.get id = some (.cells cs sh)) (hφ : c.φ id = some (b, o, lim, sz))
    (hv : VRels c xs vs) (ho : ∀ x ∈ xs, x.one = true) (hl : off + xs.length ≤ cs.length) :
    (∀ i, (storeCells ⟨b, o + off, none⟩ vs i).run P w = (storeCells ⟨b, o + off, none⟩ vs i).run P w) ∧
    (storeCells ⟨b, o + off, none⟩ vs).run P w = .ok () (w.setCells b (o + off) vs) ∧ Out CC base c h w c (h.put id (.cells (overwrite cs off xs) sh)) (w.setCells b (o + off) vs) := by
  obtain ⟨hb0, q1, q2, ws, e, f, q3, q4, q5, q6, q7⟩ := hS.objs id _ b o lim sz hg hφ
  have hlen := hv.length_eq
  have hfit : o + off + vs.length ≤ ws.size := by omega
  obtain ⟨s1, s2, s3, s4, s5, s6⟩ := setCells_heap vs (o + off) w ws e f q3 hfit
  refine ⟨fun _ => rfl, ?_, ?_⟩
  · have := run_storeCells_cells (P := P) b (o + off) vs 0 w (fun j hj => by
      rw [cell_is q3]
      simp; omega) (fun j hj => not_frozen q3 (by rw [q4]; exact q5) (by omega)) (hv.all_one ho)
    simpa using this
  · refine Out.put hφ (hS.put hg hφ ?_ s2 s3) ⟨by omega, fun i hi => s2 i (by omega), s4, s5, s6⟩
    have hol : (overwrite cs off xs).length = cs.length := ovl_length _ _ _ hl
    have hwl : (ovl ws.toList (o + off) vs).length = ws.size := by rw [ovl_length _ _ _ (by simpa using hfit)]; simp
    refine ⟨q1, by rw [hol]; exact q2, _, e, f, s1, by simpa [hwl] using q4, q5, fun y hy => ?_, fun j x hj => ?_⟩
    · simp only [overwrite, List.mem_append] at hy
      rcases hy with (h1 | h1) | h1
      · exact q6 y (List.mem_of_mem_take h1)
      · exact ho y h1
      · exact q6 y (List.mem_of_mem_drop h1)
    · simp only [List.getElem?_toArray]
      by_cases hin : off ≤ j ∧ j < off + xs.length
      · have e1 : j = off + (j - off) := by omega
        rw [e1, overwrite_eq, ovl_get_in hl (by omega)] at hj
        obtain ⟨v, h1, h2⟩ := hv.get _ hj
        refine ⟨v, ?_, h2⟩
        have e2 : o + j = o + off + (j - off) := by omega
        rw [e2, ovl_get_in (by simpa using hfit) (by omega)]; exact h1
      · rw [overwrite_eq, ovl_get_out hl (by omega)] at hj
        obtain ⟨v, h1, h2⟩ := q7 j x hj
        refine ⟨v, ?_, h2⟩
        rw [ovl_get_out (by simpa using hfit) (by omega)]
        simpa using h1

theorem eff_store (hS : Sim CC base c h w.heap) {t : TypeId} {sh : Shape} (hs : shapeOf P t = some sh) {x y : DV} {vx vy : Value} (hx : VRel c x vx) (hy : VRel c y vy) {h' : Heap} (he : storeD h sh.size x y = some h') :
    EffOk P CC base c h w (do Instr.storeAt t vx vy; pure .skip) .undef h' := by
  unfold storeD at he
  split at he
  · rename_i id off
    split at he
    · rename_i cs sh' hob
      split at he
      · rename_i hcond
        cases he
        obtain ⟨b, o, lim, sz, hφ, rfl⟩ := hx.ptr_inv
        obtain ⟨_, h1, h2⟩ := write_obj (P := P) hS hob hφ (off := off) hy.cells (hy.okv_one hcond.2.2) (by rw [hcond.1]; exact hcond.2.1)
        refine ⟨.skip, _, c, undef, ?_, .inr ⟨rfl, rfl⟩, h2, .undef⟩
        have hsz : vy.cells.size = sh.size := by rw [hy.cells_size]; exact hcond.1
        simp only [Instr.storeAt, Instr.sureAddr, storeVar, Sem.run_bind, Sem.run_pure, Result.andThen_ok, run_sizeOf_shape w hs, hsz, ne_eq, not_true_eq_false, if_false, h1]
      · cases he
    · cases he
  · cases he

theorem eff_next (hS : Sim CC base c h w.heap) {ty : TypeId} {x : DV} {vx : Value} (hx : VRel c x vx) {D : DProg} {fr : Fr} {X : Opd} (hX : ev D fr X = x) {v : DV} {h' : Heap} (he : evalOp D fr h (.next X) = some (.eff v h')) :
    EffOk P CC base c h w (do pure (.value (← Instr.next vx true ty))) v h' := by
  simp only [evalOp, hX] at he
  split at he <;> try (cases he; done)
  rename_i i
  split at he <;> try (cases he; done)
  rename_i s pos hob
  obtain ⟨b, o, lim, sz, hφ, rfl⟩ := hx.ptr_inv
  obtain ⟨hb0, ho, hb⟩ := hS.objs i _ b o lim sz hob hφ
  subst ho
  have hsize : (⟨s.toArray⟩ : ByteArray).size = s.length := by simp [bytes_size]
  have hget : (getObj b).run P w = .ok (.stringIter ⟨s.toArray⟩ pos) w := by simp [getObj, Sem.run, hb]
  split at he
  · rename_i hlt
    simp only [Option.some.injEq, EvR.eff.injEq] at he
    obtain ⟨rfl, rfl⟩ := he
    generalize hdec : Utf8.decode ⟨s.toArray⟩ pos = d at *
    obtain ⟨ch, wd⟩ := d
    have hset : (setObj b (.stringIter ⟨s.toArray⟩ (pos + wd))).run P w = .ok () { w with heap := w.heap.setIfInBounds b (.stringIter ⟨s.toArray⟩ (pos + wd)) } := by
      simp [setObj, Sem.run, hb]
    have hlt' := (Array.getElem?_eq_some_iff.1 hb).1
    refine ⟨_, { w with heap := w.heap.setIfInBounds b (.stringIter ⟨s.toArray⟩ (pos + wd)) }, c, .tuple #[.bool true, goInt pos, .int .i32 ch], ?_, .inl rfl, Out.put hφ (hS.put hob hφ ⟨rfl, by simp [hlt']⟩ (fun j hj => by simp [Ne.symm hj]) (by simp)) ⟨by simp, fun j hj => by simp [show ¬ b = j by omega], rfl, rfl, rfl⟩, ?_⟩
    · simp only [Nat.add_zero, Instr.next, Sem.run_bind, hget, Result.andThen_ok, hsize, hlt, if_true, hdec, hset, Sem.run_pure]
    · exact .tup (.cons (.bool _) (.cons (.int _ _) (.cons (.int _ _) .nil)))
  · rename_i hlt
    simp only [Option.some.injEq, EvR.eff.injEq] at he
    obtain ⟨rfl, rfl⟩ := he
    refine ⟨_, w, c, .tuple #[.bool false], ?_, .inl rfl, Out.refl hS, .tup (.cons (.bool _) .nil)⟩
    simp only [Nat.add_zero, Instr.next, Sem.run_bind, hget, Result.andThen_ok, hsize, hlt, if_false, Sem.run_pure]
end
end Go.Dm
