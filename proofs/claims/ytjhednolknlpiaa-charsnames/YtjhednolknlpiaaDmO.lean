/- The D-machine (15): what lays something anew, together; what the effects read. -/
import Derived.Test.YtjhednolknlpiaaDmN
namespace Go.Dm
set_option linter.unusedSimpArgs false
set_option linter.unusedVariables false
set_option linter.unnecessarySimpa false

theorem setCells_heap {b : Nat} : ∀ (vs : List Value) (o : Nat) (w : World) (cur : Array Value) (e : TypeId) (f : Nat × Nat), w.heap[b]? = some (.cells cur e f) → o + vs.length ≤ cur.size →
    (w.setCells b o vs).heap[b]? = some (.cells (ovl cur.toList o vs).toArray e f) ∧ (∀ i, i ≠ b → (w.setCells b o vs).heap[i]? = w.heap[i]?) ∧ (w.setCells b o vs).heap.size = w.heap.size ∧
      (w.setCells b o vs).os = w.os ∧ (w.setCells b o vs).output = w.output ∧ (w.setCells b o vs).tape = w.tape
  | [], o, w, cur, e, f, h, _ => by
    refine ⟨?_, fun _ _ => rfl, rfl, rfl, rfl, rfl⟩
    simpa [World.setCells, ovl] using h
  | v :: vs, o, w, cur, e, f, h, hl => by
    have h1 : (w.setCell ⟨b, o, none⟩ v).heap[b]? = some (.cells (cur.setIfInBounds o v) e f) := by
      simp only [World.setCell]
      rw [Array.getElem?_modify, if_pos rfl, h]
      rfl
    have h2 : ∀ i, i ≠ b → (w.setCell ⟨b, o, none⟩ v).heap[i]? = w.heap[i]? := fun i hi => by
      simp only [World.setCell]
      rw [Array.getElem?_modify, if_neg (Ne.symm hi)]
    have h3 : (w.setCell ⟨b, o, none⟩ v).heap.size = w.heap.size := by simp [World.setCell]
    obtain ⟨q1, q2, q3, q4, q5, q6⟩ := setCells_heap vs (o + 1) _ _ e f h1 (by simp at hl ⊢; omega)
    refine ⟨?_, fun i hi => (q2 i hi).trans (h2 i hi), q3.trans h3, q4, q5, q6⟩
    rw [World.setCells, q1]
    have hlt : o < cur.toList.length := by simp at hl ⊢; omega
    congr 3
    simp only [ovl, Array.toList_setIfInBounds, List.length_cons]
    rw [List.take_set, List.drop_set_of_lt (by omega), List.take_add_one, List.getElem?_eq_getElem hlt]
    simp only [Option.toList_some]
    rw [List.set_append_right _ _ (by simp; omega)]
    have hl2 : (List.take o cur.toList).length = o := by simp; simp at hlt; omega
    simp [hl2]
    rw [show o + 1 + vs.length = o + (vs.length + 1) by omega]
theorem ovl_get_out {α : Type} {cs xs : List α} {off j : Nat} (hl : off + xs.length ≤ cs.length) (h : j < off ∨ off + xs.length ≤ j) : (ovl cs off xs)[j]? = cs[j]? := by
  unfold ovl
  rcases h with h | h
  · rw [List.append_assoc, List.getElem?_append_left (by simp; omega), List.getElem?_take, if_pos h]
  · rw [List.getElem?_append_right (by simp; omega), List.getElem?_drop]
    congr 1
    simp; omega
theorem ovl_get_in {α : Type} {cs xs : List α} {off j : Nat} (hl : off + xs.length ≤ cs.length) (h : j < xs.length) : (ovl cs off xs)[off + j]? = xs[j]? := by
  unfold ovl
  have h1 : (List.take off cs).length = off := by simp; omega
  rw [List.append_assoc, List.getElem?_append_right (by omega), h1, List.getElem?_append_left (by omega)]
  congr 1; omega

section
variable {P : Program} {cfg : Cfg} {mf : Bool} {D : DProg} {CC : Code → DC → Prop} {base : Nat} {c : Cor} {fr : Fr} {a : Act} {h G : Heap} (w : World) {id : Nat}

/-- Whatever lays something and turns nothing else. -/
theorem new_sound {o : Oper} {d : DOp} {v : DV} {r : EvR} (hc : compOp P cfg mf o.op = some d) (hg : GlobOk D c) (hf : VRels c fr.tmps a.tmps.toList) (hS : Sim CC base c G w.heap) (hne : d.effect = false)
    (he : evalOp D fr h d = some r) (hi : id < G.next) (h2 : 2 ≤ id) (hl : Lays c G id r v) : NewOk P CC base c G w id (execOp a.eval o) v := by
  obtain ⟨dst, op, ty, pos, after, guard⟩ := o
  have O : ∀ {x : Operand} {y : Opd}, opd x = some y → VRel c (ev D fr y) (a.eval x) := fun h => opd_rel hg hf h
  have noVal : ∀ {x : DV}, r = .val x → False := fun e => by subst e; exact hl
  have noMap : ∀ {x : Option DV}, x.map EvR.val = some r → False := fun e => by
    obtain ⟨y, _, h2⟩ := Option.map_eq_some_iff.1 e
    exact noVal h2.symm
  cases op <;> simp only [compOp] at hc <;> try (cases hc; done)
  case move x => obtain ⟨y, hy, rfl⟩ := Option.map_eq_some_iff.1 hc; simp only [evalOp] at he; cases he; exact (noVal rfl).elim
  case assign x => obtain ⟨y, hy, rfl⟩ := Option.map_eq_some_iff.1 hc; simp only [evalOp] at he; cases he; exact (noVal rfl).elim
  case pick cc x y =>
    split at hc <;> try (cases hc; done)
    cases hc
    simp only [evalOp] at he
    split at he <;> cases he <;> exact (noVal rfl).elim
  case alloc t =>
    obtain ⟨z, hz, hz2⟩ := Option.bind_eq_some_iff.1 hc
    split at hz2 <;> cases hz2
    rename_i hok
    simp only [evalOp] at he; cases he
    exact new_alloc w hS hi hz hok hl
  case box t x =>
    split at hc <;> try (cases hc; done)
    cases hc
    rename_i hx hn
    simp only [evalOp] at he
    split at he <;> cases he
    rename_i hcond
    exact new_box w hS hi (O hx) hcond.2 hl
  case build t parts =>
    split at hc <;> try (cases hc; done)
    split at hc <;> try (cases hc; done)
    split at hc <;> try (cases hc; done)
    cases hc
    simp only [evalOp] at he
    obtain ⟨r', _, hv⟩ := Option.map_eq_some_iff.1 he
    exact (noVal hv.symm).elim
  case buildSlice t len parts =>
    split at hc <;> try (cases hc; done)
    split at hc <;> try (cases hc; done)
    split at hc <;> try (cases hc; done)
    cases hc
    rename_i e hu _ _ _ sh z ps hsh hz hps hcond
    exact new_buildSlice w hS hi h2 hg hf hu hsh hz hps hcond.1 hcond.2 he hl
  case load t x =>
    split at hc <;> try (cases hc; done)
    cases hc
    simp only [evalOp] at he
    exact (noMap he).elim
  case store t x y =>
    split at hc <;> try (cases hc; done)
    cases hc
    simp [DOp.effect] at hne
  case nilCheck x =>
    obtain ⟨y, hy, rfl⟩ := Option.map_eq_some_iff.1 hc
    simp only [evalOp] at he
    split at he <;> cases he <;> exact (noVal rfl).elim
  case binOp bop t x y yt =>
    split at hc <;> try (cases hc; done)
    rename_i x' y' hx hy
    obtain ⟨k, rfl⟩ : ∃ k, d = .bin bop k x' y' := by
      split at hc
      · simp at hc; obtain ⟨k, h1, rfl⟩ := hc
        exact ⟨k, rfl⟩
      · simp at hc; obtain ⟨k, h1, rfl⟩ := hc
        exact ⟨k, rfl⟩
      · simp at hc; subst hc
        exact ⟨.any, rfl⟩
    simp only [evalOp] at he
    exact (noMap he).elim
  case unOp uop t x =>
    obtain ⟨y, hy, rfl⟩ := Option.map_eq_some_iff.1 hc
    simp only [evalOp] at he
    exact (noMap he).elim
  case convert s t x =>
    split at hc <;> try (cases hc; done)
    · cases hc
      simp only [evalOp] at he
      generalize ev D fr _ = X at he
      cases X <;> simp [convD] at he
      exact (noVal he.symm).elim
    · cases hc
      simp only [evalOp] at he
      generalize ev D fr _ = X at he
      cases X <;> simp [convD] at he
      exact (noVal he.symm).elim
    · split at hc <;> try (cases hc; done)
      cases hc
      rename_i e x' hus hud hx _ _ _ hue hie
      have hr := O hx
      simp only [evalOp] at he
      generalize ev D fr x' = X at he hr
      cases X <;> simp only [convD] at he <;> try (cases he; done)
      split at he <;> cases he
      exact new_strBytes w hS hi h2 hus hud hue hr hl
    · split at hc <;> try (cases hc; done)
      · cases hc
        simp [DOp.effect] at hne
        simp only [evalOp] at he
        generalize ev D fr _ = X at he
        cases X <;> simp [convD, hne] at he
        obtain ⟨_, _, he⟩ := he
        exact (noVal he.symm).elim
      · cases hc
        simp only [evalOp] at he
        generalize ev D fr _ = X at he
        cases X <;> simp [convD] at he
        obtain ⟨_, _, he⟩ := he
        exact (noVal he.symm).elim
    · cases hc
      simp only [evalOp] at he
      generalize ev D fr _ = X at he
      cases X <;> simp [convD] at he
      exact (noVal he.symm).elim
    · split at hc <;> try (cases hc; done)
      split at hc <;> try (cases hc; done)
      cases hc
      simp only [evalOp] at he
      generalize ev D fr _ = X at he
      cases X <;> simp [convD] at he
      exact (noVal he.2.symm).elim
  case makeFunc fn first caps =>
    split at hc <;> try (cases hc; done)
    cases hc
    simp only [evalOp] at he; cases he
    exact (noVal rfl).elim
  case makeSlice t l cp =>
    split at hc <;> try (cases hc; done)
    split at hc <;> try (cases hc; done)
    split at hc <;> try (cases hc; done)
    cases hc
    rename_i e x' y' hu hx hy _ _ _ sh z i hsh hz hie hcond
    simp only [evalOp] at he
    split at he <;> try (cases he; done)
    rename_i ex ey
    split at he <;> try (cases he; done)
    rename_i hb
    cases he
    exact new_makeSlice w hS hi h2 (O hx) (O hy) hu hsh hz hie hcond.1 hcond.2 ex ey hb hl
  case slice t x lo hi mx =>
    split at hc <;> try (cases hc; done)
    · cases hc
      simp only [evalOp] at he
      split at he <;> try (cases he; done)
      obtain ⟨_, _, hv⟩ := Option.map_eq_some_iff.1 he
      exact (noVal hv.symm).elim
    · obtain ⟨n, hn, rfl⟩ := Option.map_eq_some_iff.1 hc
      simp only [evalOp, sliceD] at he
      split at he <;> try (cases he; done)
      · split at he <;> try (cases he; done)
        obtain ⟨_, _, hv⟩ := Option.map_eq_some_iff.1 he
        exact (noVal hv.symm).elim
      · split at he <;> try (cases he; done)
        obtain ⟨_, _, hv⟩ := Option.map_eq_some_iff.1 he
        exact (noVal hv.symm).elim
  case fieldAddr s x f =>
    split at hc <;> try (cases hc; done)
    split at hc <;> try (cases hc; done)
    split at hc <;> try (cases hc; done)
    cases hc
    simp only [evalOp] at he
    split at he <;> cases he <;> exact (noVal rfl).elim
  case field s x f =>
    split at hc <;> try (cases hc; done)
    split at hc <;> try (cases hc; done)
    obtain ⟨sh, hsh, rfl⟩ := Option.map_eq_some_iff.1 hc
    simp only [evalOp] at he
    split at he <;> try (cases he; done)
    exact (noMap he).elim
  case indexAddr t x i =>
    split at hc <;> try (cases hc; done)
    · obtain ⟨n, hn, rfl⟩ := Option.map_eq_some_iff.1 hc
      simp only [evalOp] at he
      split at he <;> try (cases he; done)
      · split at he <;> try (cases he; done)
        obtain ⟨_, _, hv⟩ := Option.map_eq_some_iff.1 he
        exact (noVal hv.symm).elim
      · split at he <;> cases he
        exact (noVal rfl).elim
    · obtain ⟨n, hn, rfl⟩ := Option.map_eq_some_iff.1 hc
      simp only [evalOp] at he
      split at he <;> try (cases he; done)
      · split at he <;> cases he
        exact (noVal rfl).elim
      · split at he <;> cases he
        exact (noVal rfl).elim
  case index t x i =>
    split at hc <;> try (cases hc; done)
    · cases hc
      simp only [evalOp] at he
      split at he <;> try (cases he; done)
      split at he <;> try (cases he; done)
      obtain ⟨_, _, hv⟩ := Option.map_eq_some_iff.1 he
      exact (noVal hv.symm).elim
    · obtain ⟨sh, hsh, rfl⟩ := Option.map_eq_some_iff.1 hc
      simp only [evalOp] at he
      split at he <;> try (cases he; done)
      split at he <;> try (cases he; done)
      exact (noMap he).elim
  case extract x i =>
    obtain ⟨y, hy, rfl⟩ := Option.map_eq_some_iff.1 hc
    simp only [evalOp] at he
    split at he <;> try (cases he; done)
    exact (noMap he).elim
  case range t x =>
    split at hc <;> try (cases hc; done)
    cases hc
    rename_i x' hu hx
    have hr := O hx
    simp only [evalOp] at he
    split at he <;> try (cases he; done)
    rename_i s hs
    rw [hs] at hr
    cases he
    exact new_range w hS hi hu hr hl
  case next x s =>
    cases s <;> simp only [compOp] at hc
    · cases hc
    · obtain ⟨y, hy, rfl⟩ := Option.map_eq_some_iff.1 hc
      simp [DOp.effect] at hne
  case call cl =>
    obtain ⟨callee, args, argTypes⟩ := cl
    simp only [compCall] at hc
    split at hc <;> try (cases hc; done)
    · split at hc <;> try (cases hc; done)
      cases hc
      simp [DOp.effect] at hne
    · split at hc <;> try (cases hc; done)
      · split at hc <;> try (cases hc; done)
        · obtain ⟨y, hy, rfl⟩ := Option.map_eq_some_iff.1 hc
          simp only [evalOp] at he
          split at he <;> cases he <;> exact (noVal rfl).elim
        · obtain ⟨y, hy, rfl⟩ := Option.map_eq_some_iff.1 hc
          simp only [evalOp] at he
          split at he <;> cases he <;> exact (noVal rfl).elim
        · cases hc
          simp only [evalOp] at he; cases he; exact (noVal rfl).elim
      · split at hc <;> try (cases hc; done)
        split at hc <;> try (cases hc; done)
        · split at hc <;> try (cases hc; done)
          cases hc; simp [DOp.effect] at hne
        · split at hc <;> try (cases hc; done)
          cases hc; simp [DOp.effect] at hne
      · split at hc <;> try (cases hc; done)
        split at hc <;> try (cases hc; done)
        split at hc <;> try (cases hc; done)
        cases hc; simp [DOp.effect] at hne
      · split at hc <;> try (cases hc; done)
        cases hc
        simp only [evalOp] at he
        split at he <;> cases he
        exact (noVal rfl).elim
      · split at hc <;> try (cases hc; done)
        cases hc
        simp only [evalOp] at he
        split at he <;> cases he
        exact (noVal rfl).elim
      · split at hc <;> try (cases hc; done)
        split at hc <;> try (cases hc; done)
        split at hc <;> try (cases hc; done)
        cases hc; simp [DOp.effect] at hne
  case defer cl =>
    split at hc <;> try (cases hc; done)
    split at hc <;> try (cases hc; done)
    cases hc
    simp [DOp.effect] at hne
end
end Go.Dm
