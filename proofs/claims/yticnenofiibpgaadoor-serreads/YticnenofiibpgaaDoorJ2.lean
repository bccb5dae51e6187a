/- SerReads returns true for every input: part 2 of the proof (several texts joined). -/
import Derived.Room.Entries
import Derived.RangeFuncRecord
import Derived.RangeFuncNested
import Derived.OrdersIn
import Derived.Sort.LoopGhostIn
import Derived.Test.YticnenofiibpgaaDoorJ1
/- The D-machine (16): effects. -/
namespace Go.Dm
set_option linter.unusedSimpArgs false
set_option linter.unusedVariables false
set_option linter.unnecessarySimpa false

/-- What a run of ours and the model's have come to, from where they stood. -/
structure Out (CC : Code → DC → Prop) (base : Nat) (c : Cor) (h : Heap) (w : World) (c' : Cor) (h' : Heap) (w' : World) : Prop where
  le : c.le c'
  sim : Sim CC base c' h' w'.heap
  keeps : Keeps base w w'
  next : h.next ≤ h'.next
  extφ : ∀ id, id < h.next → c.φ id = none → c'.φ id = none ∧ h'.objs.get id = h.objs.get id
  extτ : ∀ t, t < h.next → c.τ t = none → c'.τ t = none ∧ h'.tags.get t = h.tags.get t
section
variable {CC : Code → DC → Prop} {base : Nat} {c c1 c2 : Cor} {h h1 h2 : Heap} {w w1 w2 : World}
theorem Out.refl (hS : Sim CC base c h w.heap) : Out CC base c h w c h w := ⟨Cor.le.refl c, hS, Keeps.refl w, Nat.le_refl _, fun _ _ h => ⟨h, rfl⟩, fun _ _ h => ⟨h, rfl⟩⟩
theorem Out.trans (p : Out CC base c h w c1 h1 w1) (q : Out CC base c1 h1 w1 c2 h2 w2) : Out CC base c h w c2 h2 w2 :=
  ⟨p.le.trans q.le, q.sim, p.keeps.trans q.keeps, Nat.le_trans p.next q.next,
   fun id hi hn => let ⟨a1, a2⟩ := p.extφ id hi hn; let ⟨b1, b2⟩ := q.extφ id (Nat.lt_of_lt_of_le hi p.next) a1; ⟨b1, b2.trans a2⟩,
   fun id hi hn => let ⟨a1, a2⟩ := p.extτ id hi hn; let ⟨b1, b2⟩ := q.extτ id (Nat.lt_of_lt_of_le hi p.next) a1; ⟨b1, b2.trans a2⟩⟩
theorem Out.quiet (hS : Sim CC base c h w.heap) (hq : Quiet c w w1) : Out CC base c h w c h w1 :=
  let ⟨h1, h2⟩ := hS.quiet hq; ⟨Cor.le.refl c, h1, h2, Nat.le_refl _, fun _ _ h => ⟨h, rfl⟩, fun _ _ h => ⟨h, rfl⟩⟩
theorem Out.drew (hS : Sim CC base c h w.heap) (n : Nat) : Out CC base c h w c h { w with drawn := n } :=
  ⟨Cor.le.refl c, hS, Keeps.drew w n, Nat.le_refl _, fun _ _ h => ⟨h, rfl⟩, fun _ _ h => ⟨h, rfl⟩⟩
/-- One object of ours, that the model holds, is turned. -/
theorem Out.put {id : Nat} {ob : HObj} {x : Nat × Nat × Nat × Nat} (hφ : c.φ id = some x) (hS' : Sim CC base c (h.put id ob) w1.heap) (hk : Keeps base w w1) : Out CC base c h w c (h.put id ob) w1 :=
  ⟨Cor.le.refl c, hS', hk, Nat.le_refl _, fun i _ hn => ⟨hn, by
    simp only [Heap.put]
    exact Tr.get_set_ne _ _ (fun e => by subst e; rw [hφ] at hn; cases hn)⟩, fun _ _ h => ⟨h, rfl⟩⟩

def EffOk (P : Program) (CC : Code → DC → Prop) (base : Nat) (c : Cor) (h : Heap) (w : World) (s : Sem Next) (v : DV) (h' : Heap) : Prop :=
  ∃ n w' c' v', s.run P w = .ok n w' ∧ (n = .value v' ∨ (n = .skip ∧ v' = undef)) ∧ Out CC base c h w c' h' w' ∧ VRel c' v v'

variable {P : Program}
theorem EffOk.ofVal {s : Sem Next} {v : DV} (hS : Sim CC base c h w.heap) (hv : ValOk P c w s v) : EffOk P CC base c h w s v h :=
  let ⟨v', w', h1, h2, h3⟩ := hv; ⟨_, w', c, v', h1, .inl rfl, Out.quiet hS h3, h2⟩
theorem EffOk.ofNewO {s : Sem Next} {v : DV} {ob : HObj} (hv : NewOk P CC base c (h.add ob) w h.next s v) : EffOk P CC base c h w s v (h.add ob) :=
  let ⟨v', w', c', q1, q2, q3, q4, q5, q6⟩ := hv
  ⟨_, w', c', v', q1, .inl rfl, ⟨q2, q3, q5, Nat.le_succ _, fun i hi hn => ⟨by rw [(q6 i (by omega)).1]; exact hn, by simp only [Heap.add]; exact Tr.get_set_ne _ _ (by omega)⟩,
    fun i hi hn => ⟨by rw [(q6 i (by omega)).2]; exact hn, rfl⟩⟩, q4⟩
theorem EffOk.ofNewT {s : Sem Next} {v : DV} {sz : Nat} (hv : NewOk P CC base c (h.addTag sz) w h.next s v) : EffOk P CC base c h w s v (h.addTag sz) :=
  let ⟨v', w', c', q1, q2, q3, q4, q5, q6⟩ := hv
  ⟨_, w', c', v', q1, .inl rfl, ⟨q2, q3, q5, Nat.le_succ _, fun i hi hn => ⟨by rw [(q6 i (by omega)).1]; exact hn, rfl⟩,
    fun i hi hn => ⟨by rw [(q6 i (by omega)).2]; exact hn, by simp only [Heap.addTag]; exact Tr.get_set_ne _ _ (by omega)⟩⟩, q4⟩

theorem not_frozen {b : Nat} {vs : Array Value} {e : TypeId} {f : Nat × Nat} (hb : w.heap[b]? = some (.cells vs e f)) (hf : FOk vs.size f) {j : Nat} (hj : j < vs.size) : w.frozen? ⟨b, j, none⟩ = false := by
  simp only [World.frozen?, hb]
  rcases hf with h | h
  · simp; omega
  · simp; omega
theorem cell_is {b : Nat} {vs : Array Value} {e : TypeId} {f : Nat × Nat} (hb : w.heap[b]? = some (.cells vs e f)) {j : Nat} : w.cell? ⟨b, j, none⟩ = vs[j]? := by
  simp [World.cell?, hb]

/-- Cells of a live object are written. -/
theorem write_obj (hS : Sim CC base c h w.heap) {id b o lim sz : Nat} {cs xs : List DV} {sh : Shape} {vs : List Value} {off : Nat} (hg : h.objs.get id = some (.cells cs sh)) (hφ : c.φ id = some (b, o, lim, sz))
    (hv : VRels c xs vs) (ho : ∀ x ∈ xs, x.one = true) (hl : off + xs.length ≤ cs.length) :
    (∀ i, (storeCells ⟨b, o + off, none⟩ vs i).run P w = (storeCells ⟨b, o + off, none⟩ vs i).run P w) ∧
    (storeCells ⟨b, o + off, none⟩ vs).run P w = .ok () (w.setCells b (o + off) vs) ∧ Out CC base c h w c (h.put id (.cells (overwrite cs off xs) sh)) (w.setCells b (o + off) vs) := by
  obtain ⟨hb0, q1, q2, ws, e, f, q3, q4, q5, q6, q7⟩ := hS.objs id _ b o lim sz hg hφ
  have hlen := hv.length_eq
  have hfit : o + off + vs.length ≤ ws.size := by omega
  obtain ⟨s1, s2, s3, s4, s5, s6⟩ := setCells_heap vs (o + off) w ws e f q3 hfit
  refine ⟨fun _ => rfl, ?_, ?_⟩
  · have := run_storeCells_cells (P := P) b (o + off) vs 0 w (fun j hj => by
      rw [cell_is q3]
      simp; omega) (fun j hj => not_frozen q3 (by rw [q4]; exact q5) (by omega)) (hv.all_one ho)
    simpa using this
  · refine Out.put hφ (hS.put hg hφ ?_ s2 s3) ⟨by omega, fun i hi => s2 i (by omega), s4, s5, s6⟩
    have hol : (overwrite cs off xs).length = cs.length := ovl_length _ _ _ hl
    have hwl : (ovl ws.toList (o + off) vs).length = ws.size := by rw [ovl_length _ _ _ (by simpa using hfit)]; simp
    refine ⟨q1, by rw [hol]; exact q2, _, e, f, s1, by simpa [hwl] using q4, q5, fun y hy => ?_, fun j x hj => ?_⟩
    · simp only [overwrite, List.mem_append] at hy
      rcases hy with (h1 | h1) | h1
      · exact q6 y (List.mem_of_mem_take h1)
      · exact ho y h1
      · exact q6 y (List.mem_of_mem_drop h1)
    · simp only [List.getElem?_toArray]
      by_cases hin : off ≤ j ∧ j < off + xs.length
      · have e1 : j = off + (j - off) := by omega
        rw [e1, overwrite_eq, ovl_get_in hl (by omega)] at hj
        obtain ⟨v, h1, h2⟩ := hv.get _ hj
        refine ⟨v, ?_, h2⟩
        have e2 : o + j = o + off + (j - off) := by omega
        rw [e2, ovl_get_in (by simpa using hfit) (by omega)]; exact h1
      · rw [overwrite_eq, ovl_get_out hl (by omega)] at hj
        obtain ⟨v, h1, h2⟩ := q7 j x hj
        refine ⟨v, ?_, h2⟩
        rw [ovl_get_out (by simpa using hfit) (by omega)]
        simpa using h1

theorem eff_store (hS : Sim CC base c h w.heap) {t : TypeId} {sh : Shape} (hs : shapeOf P t = some sh) {x y : DV} {vx vy : Value} (hx : VRel c x vx) (hy : VRel c y vy) {h' : Heap} (he : storeD h sh.size x y = some h') :
    EffOk P CC base c h w (do Instr.storeAt t vx vy; pure .skip) .undef h' := by
  unfold storeD at he
  split at he
  · rename_i id off
    split at he
    · rename_i cs sh' hob
      split at he
      · rename_i hcond
        cases he
        obtain ⟨b, o, lim, sz, hφ, rfl⟩ := hx.ptr_inv
        obtain ⟨_, h1, h2⟩ := write_obj (P := P) hS hob hφ (off := off) hy.cells (hy.okv_one hcond.2.2) (by rw [hcond.1]; exact hcond.2.1)
        refine ⟨.skip, _, c, undef, ?_, .inr ⟨rfl, rfl⟩, h2, .undef⟩
        have hsz : vy.cells.size = sh.size := by rw [hy.cells_size]; exact hcond.1
        simp only [Instr.storeAt, Instr.sureAddr, storeVar, Sem.run_bind, Sem.run_pure, Result.andThen_ok, run_sizeOf_shape w hs, hsz, ne_eq, not_true_eq_false, if_false, h1]
      · cases he
    · cases he
  · cases he

theorem eff_next (hS : Sim CC base c h w.heap) {ty : TypeId} {x : DV} {vx : Value} (hx : VRel c x vx) {D : DProg} {fr : Fr} {X : Opd} (hX : ev D fr X = x) {v : DV} {h' : Heap} (he : evalOp D fr h (.next X) = some (.eff v h')) :
    EffOk P CC base c h w (do pure (.value (← Instr.next vx true ty))) v h' := by
  simp only [evalOp, hX] at he
  split at he <;> try (cases he; done)
  rename_i i
  split at he <;> try (cases he; done)
  rename_i s pos hob
  obtain ⟨b, o, lim, sz, hφ, rfl⟩ := hx.ptr_inv
  obtain ⟨hb0, ho, hb⟩ := hS.objs i _ b o lim sz hob hφ
  subst ho
  have hsize : (⟨s.toArray⟩ : ByteArray).size = s.length := by simp [bytes_size]
  have hget : (getObj b).run P w = .ok (.stringIter ⟨s.toArray⟩ pos) w := by simp [getObj, Sem.run, hb]
  split at he
  · rename_i hlt
    simp only [Option.some.injEq, EvR.eff.injEq] at he
    obtain ⟨rfl, rfl⟩ := he
    generalize hdec : Utf8.decode ⟨s.toArray⟩ pos = d at *
    obtain ⟨ch, wd⟩ := d
    have hset : (setObj b (.stringIter ⟨s.toArray⟩ (pos + wd))).run P w = .ok () { w with heap := w.heap.setIfInBounds b (.stringIter ⟨s.toArray⟩ (pos + wd)) } := by
      simp [setObj, Sem.run, hb]
    have hlt' := (Array.getElem?_eq_some_iff.1 hb).1
    refine ⟨_, { w with heap := w.heap.setIfInBounds b (.stringIter ⟨s.toArray⟩ (pos + wd)) }, c, .tuple #[.bool true, goInt pos, .int .i32 ch], ?_, .inl rfl, Out.put hφ (hS.put hob hφ ⟨rfl, by simp [hlt']⟩ (fun j hj => by simp [Ne.symm hj]) (by simp)) ⟨by simp, fun j hj => by simp [show ¬ b = j by omega], rfl, rfl, rfl⟩, ?_⟩
    · simp only [Nat.add_zero, Instr.next, Sem.run_bind, hget, Result.andThen_ok, hsize, hlt, if_true, hdec, hset, Sem.run_pure]
    · exact .tup (.cons (.bool _) (.cons (.int _ _) (.cons (.int _ _) .nil)))
  · rename_i hlt
    simp only [Option.some.injEq, EvR.eff.injEq] at he
    obtain ⟨rfl, rfl⟩ := he
    refine ⟨_, w, c, .tuple #[.bool false], ?_, .inl rfl, Out.refl hS, .tup (.cons (.bool _) .nil)⟩
    simp only [Nat.add_zero, Instr.next, Sem.run_bind, hget, Result.andThen_ok, hsize, hlt, if_false, Sem.run_pure]
end
end Go.Dm
/- The D-machine (17): append, copy, clear. -/
namespace Go.Dm
set_option linter.unusedSimpArgs false
set_option linter.unusedVariables false
set_option linter.unnecessarySimpa false

theorem group_spec {sh : Shape} (hpos : 0 < sh.size) : ∀ (n : Nat) (cs : List DV), cs.length = n * sh.size → (∀ x ∈ cs, x.one = true) → flat (group sh n cs) = cs ∧ (∀ x ∈ group sh n cs, x.cells.length = sh.size) ∧ (group sh n cs).length = n ∧ ∀ x ∈ group sh n cs, x.okv = true
  | 0, cs, hl, _ => by
    have : cs = [] := List.eq_nil_of_length_eq_zero (by simpa using hl)
    subst this; simp [group, flat]
  | n + 1, cs, hl, ho => by
    have hl' : cs.length = n * sh.size + sh.size := by rw [hl, Nat.succ_mul]
    obtain ⟨h1, h2, h3, h4⟩ := group_spec hpos n (cs.drop sh.size) (by simp; omega) (fun x hx => ho x (List.mem_of_mem_drop hx))
    have hhead : ∃ d, mkv sh (cs.take sh.size) = some d ∧ d.cells = cs.take sh.size ∧ d.okv = true := by
      cases sh with
      | some k => exact ⟨.agg (cs.take k), rfl, rfl, rfl⟩
      | none =>
        have : Shape.size none = 1 := rfl
        rw [this] at hl' ⊢
        cases cs with
        | nil => simp at hl'
        | cons x cs =>
          have hx := ho x (by simp)
          refine ⟨x, rfl, ?_, ?_⟩
          · cases x <;> simp_all [DV.cells, DV.one]
          · cases x <;> simp_all [DV.okv, DV.one]
    obtain ⟨d, hd1, hd2, hd3⟩ := hhead
    simp only [group, hd1, Option.getD_some]
    refine ⟨?_, ?_, by simp [h3], ?_⟩
    · simp only [flat, List.flatMap_cons, hd2] at h1 ⊢
      rw [h1, List.take_append_drop]
    · intro x hx
      rcases List.mem_cons.1 hx with rfl | hx
      · rw [hd2]; simp; omega
      · exact h2 x hx
    · intro x hx
      rcases List.mem_cons.1 hx with rfl | hx
      · exact hd3
      · exact h4 x hx

section
variable {P : Program} {CC : Code → DC → Prop} {base : Nat} {c : Cor} {h : Heap} {w : World}

/-- What an operand yields, read az elements. -/
structure Reads (P : Program) (c : Cor) (w : World) (size : Nat) (vy : Value) (ys : List DV) (news : List Value) : Prop where
  sz : ∀ x ∈ ys, x.cells.length = size
  rel : VRels c (flat ys) news
  one : ∀ x ∈ flat ys, x.one = true
  len : ∀ w' : World, (Builtin.lenOf vy).run P w' = .ok ys.length w'
  cells : ∀ w' : World, w'.heap = w.heap → ∀ m, m ≤ ys.length → (Builtin.firstCells size m vy).run P w' = .ok (news.take (m * size)).toArray w'
theorem Reads.news_len {size : Nat} {vy : Value} {ys : List DV} {news : List Value} (r : Reads P c w size vy ys news) : news.length = ys.length * size := by rw [← r.rel.length_eq, flat_length _ r.sz]
theorem Reads.src {size : Nat} {vy : Value} {ys : List DV} {news : List Value} (r : Reads P c w size vy ys news) {tx : TypeId} (hk : (∃ e', P.underlying tx = some (.slice e')) ∨ P.underlying tx = some .string) : Src P size tx vy ys.length news w := by
  have hn := r.news_len
  refine ⟨hk, r.len, ?_, ?_, hn, r.rel.all_one r.one⟩
  · have := r.cells w rfl ys.length (Nat.le_refl _)
    rwa [← hn, List.take_length] at this
  · have := r.cells w.drew rfl ys.length (Nat.le_refl _)
    rwa [← hn, List.take_length] at this

theorem cells_take {a : Addr} {vs : List Value} {w' : World} (hb : a.spot = none) (h : ∀ (j : Nat) (x : Value), vs[j]? = some x → w'.cell? ⟨a.block, a.off + j, none⟩ = some x) (m : Nat) (len cap size : Nat) (hm : m * size ≤ vs.length) :
    (Builtin.firstCells size m (.slice (some a) len cap)).run P w' = .ok (vs.take (m * size)).toArray w' := by
  obtain ⟨b, o, s⟩ := a
  simp only at hb h
  subst hb
  exact run_firstCells_some w' size m ⟨b, o, none⟩ len cap _ (by simp; omega) fun j v hj => by
    rw [add_plain]
    refine h j v ?_
    rw [List.getElem?_take] at hj
    split at hj
    · exact hj
    · cases hj

theorem elems_rel (hS : Sim CC base c h w.heap) {sh : Shape} (hpos : 0 < sh.size) {y : DV} {vy : Value} (hy : VRel c y vy) {ys : List DV} (he : elems h sh y = some ys) : ∃ news, Reads P c w sh.size vy ys news := by
  cases y <;> simp only [elems] at he <;> try (cases he; done)
  case lst t sz xs =>
    split at he
    case isFalse => cases he
    rename_i hz
    obtain rfl : xs = ys := by simpa using he
    obtain ⟨a, cap, vs, q1, q2, q3, qo, q4, q5, q6, q7, q8, rfl⟩ := hy.lst_inv
    have hxs : ∀ y ∈ xs, y.cells.length = sh.size := by
      rcases hz with h0 | h0
      · obtain ⟨_, hc0⟩ := q6 h0
        have : xs = [] := List.eq_nil_of_length_eq_zero (by omega)
        subst this; simp
      · subst h0; exact q2
    have hvl : vs.length = xs.length * sh.size := by rw [← q3.length_eq, flat_length _ hxs]
    refine ⟨vs, hxs, q3, qo, fun _ => rfl, fun w' hw m hm => ?_⟩
    cases a with
    | none =>
      have : xs = [] := by
        cases hxs' : xs with
        | nil => rfl
        | cons x xs1 => obtain ⟨b, o, e, _⟩ := q4 (by simp [hxs']); cases e
      subst this
      have hvs : vs = [] := List.eq_nil_of_length_eq_zero (by simpa using hvl)
      subst hvs
      simp [Builtin.firstCells]
    | some a =>
      by_cases hne : xs = []
      · subst hne
        have hvs : vs = [] := List.eq_nil_of_length_eq_zero (by simpa using hvl)
        subst hvs
        have : m = 0 := by simpa using hm
        subst this
        simp [Builtin.firstCells, loadCells, loadCellsFrom]
      · obtain ⟨b, o, e, hp⟩ := q4 hne
        cases e
        refine cells_take rfl (fun j x hj => ?_) m _ _ _ (by rw [hvl]; exact Nat.mul_le_mul_right _ hm)
        obtain ⟨ws, ty, f, hb, hc⟩ := hS.prot _ _ _ (hp j x hj)
        simp [World.cell?, hw, hb, hc]
  case str s =>
    split at he
    case isFalse => cases he
    rename_i h1
    cases he
    have := hy.str_inv
    subst this
    have hlen : (bytesV s).length = s.length := by simp [bytesV]
    refine ⟨s.map fun b => Value.int .u8 b.toNat, by rw [h1]; exact bytesV_cells s, by rw [bytesV_flat]; exact bytesV_rel s, by rw [bytesV_flat]; exact bytesV_one s, fun w' => ?_, fun w' hw m hm => ?_⟩
    · simp [Builtin.lenOf, bytes_size, hlen]
    · rw [hlen] at hm
      simp only [Builtin.firstCells, h1, Nat.mul_one, Sem.run_pure]
      congr 1
      apply Array.ext'
      simp
  case arr id sz off n =>
    split at he <;> try (cases he; done)
    rename_i cs sh' hob
    split at he
    case isFalse => cases he
    rename_i hcond
    obtain ⟨r, hr, rfl⟩ := Option.map_eq_some_iff.1 he
    obtain ⟨cap, b, o, lim, ab, ao, hφ, hlc, hcap, rfl⟩ := hy.arr_inv
    obtain ⟨hb0, q1, q2, ws, e, f, q3, q4, q5, q6, q7⟩ := hS.objs id _ b o lim sz hob hφ
    obtain ⟨hcut, rfl⟩ := cut_some hr
    have hone : ∀ x ∈ (cs.drop off).take (n * sh.size), x.one = true := fun x hx => q6 x (List.mem_of_mem_drop (List.mem_of_mem_take hx))
    have hrl : ((cs.drop off).take (n * sh.size)).length = n * sh.size := cut_length hr
    obtain ⟨g1, g2, g3, g4⟩ := group_spec hpos n _ hrl hone
    let news : List Value := (ws.toList.drop (o + off)).take (n * sh.size)
    have hnl : news.length = n * sh.size := by simp [news]; omega
    have hnw : ∀ (j : Nat) (x : Value), news[j]? = some x → ws[o + off + j]? = some x := fun j x hj => by
      have hlt := (List.getElem?_eq_some_iff.1 hj).1
      rw [hnl] at hlt
      simp only [news, List.getElem?_take, hlt, if_true, List.getElem?_drop] at hj
      simpa using hj
    refine ⟨news, g2, ?_, by rw [g1]; exact hone, fun _ => by rw [g3]; rfl, fun w' hw m hm => ?_⟩
    · rw [g1]
      refine VRels.of_get (by rw [hrl, hnl]) fun j x v hj hv => ?_
      have hlt := (List.getElem?_eq_some_iff.1 hj).1
      rw [hrl] at hlt
      rw [List.getElem?_take, if_pos hlt, List.getElem?_drop] at hj
      obtain ⟨u, hu, hru⟩ := q7 _ _ hj
      have h2 := hnw j v hv
      rw [show o + (off + j) = o + off + j by omega] at hu
      rw [hu] at h2; cases h2
      exact hru
    · rw [g3] at hm
      by_cases h0 : cap = 0
      · have : m = 0 := by omega
        subst this
        simp [Builtin.firstCells, loadCells, loadCellsFrom]
      · rcases hcap with hcap | ⟨rfl, rfl, hfit⟩
        · exact absurd hcap h0
        · refine cells_take rfl (fun j x hj => ?_) m _ _ _ (by rw [hnl]; exact Nat.mul_le_mul_right _ hm)
          have := hnw j x hj
          simp [World.cell?, hw, q3, this]

theorem cap_fits {need old bytes : Nat} (h : old < need) (hb : need * bytes ≤ 140737488355328) : Builtin.nextslicecap need old * bytes ≤ 281474976710656 := by
  have := Nat.mul_le_mul_right bytes (Room.nextslicecap_le' h)
  rw [Nat.mul_assoc] at this
  omega

/-- An append that must lay a new row. -/
theorem append_new {t tx ty e : TypeId} {i : TypeInfo} {z : Value} {sh : Shape} (ht : P.underlying t = some (.slice e)) (hi : P.info? e = some i) (hz : i.zero = some z) (hsz : i.size = sh.size) {base0 : Option Addr} {sLen sCap : Nat} {olds : List Value}
    (hold : (Builtin.firstCells sh.size sLen (.slice base0 sLen sCap)).run P w.drew = .ok olds.toArray w.drew) {x : Value} {n : Nat} {news : List Value} (hs : Src P sh.size tx x n news w)
    (hg : sCap < sLen + n) (h63 : sLen + n ≤ 9223372036854775807) (hb : (sLen + n) * i.bytes ≤ 140737488355328) (hzs : 0 < z.cells.size → z.cells.size = sh.size) (hz0 : 0 < z.cells.size) (hol : olds.length = sLen * sh.size) :
    ∃ cap cs, (Builtin.append_ #[t, tx] ty #[.slice base0 sLen sCap, x]).run P w = .ok (.slice (some ⟨w.heap.size, 0, none⟩) (sLen + n) cap) (w.drew.alloc (.cells cs e)) ∧ sLen + n ≤ cap ∧ cs.size = cap * sh.size ∧ ∀ (j : Nat) (v : Value), (olds ++ news)[j]? = some v → cs[j]? = some v := by
  rw [← hsz] at hold hs
  have := run_append_grow_src (P := P) w t tx ty e i z ht hi hz base0 sLen sCap olds hold x n news hs hg (by omega) (cap_fits hg hb)
  refine ⟨_, _, this, grownCap_ge _ _ _ _, ?_, fun j v hj => ?_⟩
  · have hge := grownCap_ge w (sLen + n) sCap e
    have hnl := hs.newsLen
    have hz' := hzs hz0
    simp [Builtin.zeroCells, hol, hnl, hz', hsz]
    rw [← Nat.add_mul, ← Nat.add_mul]
    congr 1; omega
  · have hlt := (List.getElem?_eq_some_iff.1 hj).1
    rw [Array.getElem?_append_left (by simpa using hlt)]
    simpa using hj
end
end Go.Dm
/- The D-machine (18): append. -/
namespace Go.Dm
set_option linter.unusedSimpArgs false
set_option linter.unusedVariables false
set_option linter.unnecessarySimpa false

def stepEv (h : Heap) : EvR → Option (DV × Heap)
  | .val v => some (v, h)
  | .newO b mk => some (mk h.next, h.add b)
  | .newT sz mk => some (mk h.next, h.addTag sz)
  | .eff v h' => some (v, h')
  | _ => none

section
variable {P : Program} {CC : Code → DC → Prop} {base : Nat} {c : Cor} {h : Heap} {w : World}

theorem Out.tagStep {c' : Cor} {w' : World} {t sz : Nat} {x : Nat × Nat × Nat × Nat} (hτ : c.τ t = some x) (hle : c.le c') (hS : Sim CC base c' ((h.spend t).addTag sz) w'.heap) (hk : Keeps base w w')
    (hφ' : ∀ i, c'.φ i = c.φ i) (hτ' : ∀ i, i ≠ h.next → c'.τ i = c.τ i) : Out CC base c h w c' ((h.spend t).addTag sz) w' :=
  ⟨hle, hS, hk, Nat.le_succ _, fun i _ hn => ⟨by rw [hφ']; exact hn, rfl⟩, fun i hi hn => ⟨by rw [hτ' i (by omega)]; exact hn, by
    simp only [Heap.addTag, Heap.spend]
    rw [Tr.get_set_ne _ _ (by omega), Tr.get_set_ne _ _ (fun e => by subst e; rw [hτ] at hn; cases hn)]⟩⟩
theorem Out.objStep {c' : Cor} {w' : World} {t : Nat} {ob : HObj} {x : Nat × Nat × Nat × Nat} (hφ : c.φ t = some x) (hle : c.le c') (hS : Sim CC base c' ((h.drop t).add ob) w'.heap) (hk : Keeps base w w')
    (hτ' : ∀ i, c'.τ i = c.τ i) (hφ' : ∀ i, i ≠ h.next → c'.φ i = c.φ i) : Out CC base c h w c' ((h.drop t).add ob) w' :=
  ⟨hle, hS, hk, Nat.le_succ _, fun i hi hn => ⟨by rw [hφ' i (by omega)]; exact hn, by
    simp only [Heap.add, Heap.drop]
    rw [Tr.get_set_ne _ _ (by omega), Tr.get_set_ne _ _ (fun e => by subst e; rw [hφ] at hn; cases hn)]⟩, fun i _ hn => ⟨by rw [hτ']; exact hn, rfl⟩⟩

theorem append_nothing {t u ty e : TypeId} {sh : Shape} (ht : P.underlying t = some (.slice e)) (hku : (∃ e', P.underlying u = some (.slice e')) ∨ P.underlying u = some .string) (hsh : shapeOf P e = some sh) {a : Option Addr} {len cap : Nat} (hl : len ≤ cap) {vy : Value} {ys : List DV} {news : List Value}
    (hr : Reads P c w sh.size vy ys news) (hy : ys = []) : (Builtin.append_ #[t, u] ty #[.slice a len cap, vy]).run P w = .ok (.slice a len cap) w := by
  subst hy
  obtain ⟨⟨i, hi, hsz⟩, _⟩ := shapeOf_size hsh
  have hs := hr.src hku
  have hn : news = [] := List.eq_nil_of_length_eq_zero (by simpa using hr.news_len)
  subst hn
  rw [← hsz] at hs
  exact run_append_nothing w t u ty e i ht hi a len cap hl vy hs

theorem eff_append (hS : Sim CC base c h w.heap) {t u ty e : TypeId} {i : TypeInfo} {sh : Shape} {z : DV} {mu : Bool} (ht : P.underlying t = some (.slice e)) (hku : (∃ e', P.underlying u = some (.slice e')) ∨ P.underlying u = some .string)
    (hsh : shapeOf P e = some sh) (hi : P.info? e = some i) (hz : zeroOf P e = some z) (hzc : z.cells.length = sh.size) {x y : DV} {vx vy : Value} (hx : VRel c x vx) (hy : VRel c y vy) {r : EvR} (he : appendD h mu sh i.bytes x y = some r) {v : DV} {h' : Heap} (hr : stepEv h r = some (v, h')) :
    EffOk P CC base c h w (do pure (.value (← Builtin.append_ #[t, u] ty #[vx, vy]))) v h' := by
  obtain ⟨⟨i', hi', hsz⟩, hpos⟩ := shapeOf_size hsh
  rw [hi] at hi'; cases hi'
  obtain ⟨i', zv, hi', hizv, hov, _⟩ := zeroOf_some w hz
  rw [hi] at hi'; cases hi'
  have hzr : VRel c z zv := ofVal_rel hov
  have hzs : zv.cells.size = sh.size := by rw [hzr.cells_size, hzc]
  unfold appendD at he
  split at he
  · -- a list
    rename_i t0 sz xs ys hys
    obtain ⟨news, hrd⟩ := elems_rel (P := P) hS hpos hy hys
    have hsrc := hrd.src hku
    have hnl := hrd.news_len
    obtain ⟨a, cap, vs, q1, q2, q3, qo, q4, q5, q6, q7, q8, hvx⟩ := hx.lst_inv
    by_cases hemp : ys = []
    · rw [if_pos hemp] at he
      cases he
      cases hr
      subst hvx
      have := append_nothing (ty := ty) (a := a) ht hku hsh q5 hrd hemp
      exact EffOk.ofVal hS (ValOk.of w ⟨_, this, hx⟩)
    rw [if_neg hemp] at he
    have hyp : 0 < ys.length := List.length_pos_iff.2 hemp
    split at he
    case isFalse => cases he
    rename_i hcond
    obtain ⟨hzsz, hroom1, hroom2⟩ := hcond
    by_cases h0 : t0 = 0
    · -- onto nil
      obtain ⟨ha, hc0⟩ := q6 h0
      subst ha; subst hc0; subst hvx
      have hxs : xs = [] := List.eq_nil_of_length_eq_zero (by omega)
      subst hxs
      obtain ⟨cap', cs, hrun, hcap', hcs, hget⟩ := append_new (P := P) (ty := ty) ht hi hizv hsz (base0 := none) (sLen := 0) (sCap := 0) (olds := []) (by simp [Builtin.firstCells]) hsrc (by omega) (by simpa using hroom2) (by simpa using hroom1) (fun _ => hzs) (by omega) (by simp)
      simp only [Nat.zero_add, List.nil_append] at hrun hcap' hget
      simp only [List.length_nil] at hrun ⊢
      simp only [h0, if_true] at he
      have hle : ys.length * sh.size ≤ cap' * sh.size := Nat.mul_le_mul_right _ hcap'
      by_cases hmu : mu = true
      · simp only [hmu, if_true] at he
        cases he; cases hr
        refine EffOk.ofNewO (exec_valN w ?_)
        have hadd := hS.add (.cells (flat ys) sh)
        obtain ⟨p1, p2, p3, p4⟩ := new_cells w hadd hS.φnext (Nat.lt_succ_self _) (by simp only [Heap.add]; exact Tr.get_set_same _ _ _) (cs := cs) (ty := e) (f := (0, 0)) (.inl rfl) (by rw [flat_length _ hrd.sz]; omega) (fun j x hj => by
          obtain ⟨u, h3, h4⟩ := hrd.rel.get j hj
          exact ⟨u, hget _ _ h3, h4⟩) hrd.one
        exact ⟨_, _, _, hrun, p1, p2, .arr p3 hcap' (.inr ⟨rfl, rfl, by omega⟩), Keeps.drewAlloc w hS.size _, p4⟩
      · simp only [hmu, Bool.false_eq_true, if_false] at he
        cases he; cases hr
        refine EffOk.ofNewT (exec_valN w ?_)
        have hadd := hS.addTag sh.size
        obtain ⟨p1, p2, p3, p4⟩ := new_list w hadd hS.τnext (Nat.lt_succ_self _) hS.next hpos (by simp only [Heap.addTag]; exact Tr.get_set_same _ _ _) (xs := ys) (vs := news) (cs := cs) (ty := e) (f := (0, 0)) (cap := cap') (.inl rfl) hrd.sz hrd.rel hrd.one hget hcap' (by omega)
        exact ⟨_, _, _, hrun, p1, p2, p3, Keeps.drewAlloc w hS.size _, p4⟩
    · -- behind what is there
      have hzsz' : sz = sh.size := hzsz.resolve_left h0
      subst hzsz'
      by_cases hmu : mu = true
      · simp [hmu, h0] at he
      simp only [hmu, h0, Bool.false_eq_true, if_false] at he
      split at he
      case isFalse => cases he
      rename_i htag
      obtain ⟨ht2, htag⟩ := htag
      cases he; cases hr
      obtain ⟨b, o, e0, lim, ha, hτ, hcase⟩ := q8 ht2
      subst ha; subst hvx
      obtain ⟨_, hb0, ⟨ws, ty0, f0, hb, hwl, hfok⟩, hkp⟩ := hS.tags _ _ _ _ _ _ htag hτ
      have hvl : vs.length = xs.length * sh.size := by rw [← q3.length_eq, flat_length _ q2]
      have hall : ∀ x ∈ xs ++ ys, x.cells.length = sh.size := fun x hx => by
        rcases List.mem_append.1 hx with h | h
        · exact q2 x h
        · exact hrd.sz x h
      have hone : ∀ x ∈ flat (xs ++ ys), x.one = true := fun x hx => by
        rw [flat_append] at hx
        rcases List.mem_append.1 hx with h | h
        · exact qo x h
        · exact hrd.one x h
      by_cases hfit : xs.length + ys.length ≤ cap
      · -- there is room
        rcases hcase with hcase | ⟨he0, hlim⟩
        · omega
        subst he0
        have hmul : (xs.length + ys.length) * sh.size ≤ cap * sh.size := Nat.mul_le_mul_right _ hfit
        rw [Nat.add_mul] at hmul
        have hwfit : o + xs.length * sh.size + news.length ≤ ws.size := by omega
        have hsrc' := hsrc
        rw [← hsz] at hsrc'
        have hrun := run_append_room_src (P := P) w t u ty e i ht hi b o xs.length cap vy ys.length news hsrc' hfit (fun j hj => by
          rw [cell_is hb, hsz]; simp; omega) (fun j hj => not_frozen hb (by rw [hwl]; exact hfok) (by rw [hsz]; omega))
        rw [hsz] at hrun
        obtain ⟨s1, s2, s3, s4, s5, s6⟩ := setCells_heap news (o + xs.length * sh.size) w ws ty0 f0 hb hwfit
        have hovl : (ovl ws.toList (o + xs.length * sh.size) news).length = ws.size := by rw [ovl_length _ _ _ (by simpa using hwfit)]; simp
        have hSp := hS.spend t0
        have hno : NoObj c (h.spend t0) b := hS.noObj_tag htag hτ
        have hnt := hS.noTag_spend htag hτ
        have hA := hSp.alter s2 s3 hno hnt (fun j v hk => by
          have hj : j < o + xs.length * sh.size := by
            by_cases hlt : j < o + xs.length * sh.size
            · exact hlt
            · rw [hkp j (by omega)] at hk; cases hk
          obtain ⟨ws', _, _, h1, h2⟩ := hS.prot _ _ _ hk
          rw [hb] at h1; cases h1
          refine ⟨_, _, _, s1, ?_⟩
          rw [List.getElem?_toArray, ovl_get_out (by simpa using hwfit) (.inl hj)]
          simpa using h2)
        have hB := hA.addTag sh.size
        obtain ⟨hle, hC⟩ := hB.tagAt (t := h.next) (sz := sh.size) (b := b) (e0 := o + xs.length * sh.size) hS.τnext (Nat.lt_succ_self _) (by simp only [Heap.addTag, Heap.spend]; exact Tr.get_set_same _ _ _) hb0 (vs := news) s1 (by rw [List.size_toArray, hovl, hwl]; exact hfok)
          hno (fun t1 sz1 b1 e1 lim1 sz1' h1 h2 => by
            simp only [Heap.addTag, Heap.spend, Tr.get_set] at h1
            split at h1
            · rename_i e2; subst e2; rw [hS.τnext] at h2; cases h2
            · refine hnt t1 sz1 b1 e1 lim1 sz1' ?_ h2
              simpa only [Heap.spend, Tr.get_set] using h1)
          hkp (fun j v hj => by
            rw [List.getElem?_toArray, ovl_get_in (by simpa using hwfit) (List.getElem?_eq_some_iff.1 hj).1]; exact hj)
        refine ⟨_, _, _, _, exec_val w hrun, .inl rfl, Out.tagStep hτ hle hC ⟨by omega, fun j hj => s2 j (by omega), s4, s5, s6⟩ (fun _ => rfl) (fun j hj => upd_ne _ _ hj), ?_⟩
        have hv' := VRel.lst (c := c.tag h.next b (o + xs.length * sh.size + news.length) (ovl ws.toList (o + xs.length * sh.size) news).toArray.size sh.size (keep c.kp b (o + xs.length * sh.size) news)) (t := h.next) (sz := sh.size) (xs := xs ++ ys) (a := some ⟨b, o, none⟩) (cap := cap) (vs := vs ++ news)
          (fun _ => hpos) hall (by rw [flat_append]; exact (q3.mono hle).append (hrd.rel.mono hle)) hone
          (fun _ => ⟨b, o, rfl, fun j x hj => by
            by_cases hlt : j < vs.length
            · rw [List.getElem?_append_left hlt] at hj
              refine hle.kp _ _ _ ?_
              have hne : xs ≠ [] := by
                intro e; rw [e] at hvl; simp only [List.length_nil, Nat.zero_mul] at hvl; omega
              obtain ⟨b', o', e', hp⟩ := q4 hne
              cases e'
              exact hp j x hj
            · rw [List.getElem?_append_right (by omega)] at hj
              have := keep_in c.kp b (o + xs.length * sh.size) news hj
              rwa [show o + xs.length * sh.size + (j - vs.length) = o + j by omega] at this⟩)
          (by simp; exact hfit) (fun e => by have := hS.next; omega) (fun _ => ⟨_, _, _, rfl, .inl rfl⟩)
          (fun _ => ⟨b, o, _, _, rfl, upd_same _ _ _, .inr ⟨by rw [List.length_append, Nat.add_mul]; omega, by rw [List.size_toArray, hovl, hwl]; exact hlim⟩⟩)
        rw [List.length_append] at hv'
        exact hv'
      · -- there is none
        have hold : (Builtin.firstCells sh.size xs.length (.slice (some ⟨b, o, none⟩) xs.length cap)).run P w.drew = .ok vs.toArray w.drew := by
          by_cases hne : xs = []
          · subst hne
            have : vs = [] := List.eq_nil_of_length_eq_zero (by simpa using hvl)
            subst this
            simp [Builtin.firstCells, loadCells, loadCellsFrom]
          · obtain ⟨b', o', e', hp⟩ := q4 hne
            cases e'
            have := cells_take (P := P) (a := ⟨b, o, none⟩) (vs := vs) (w' := w.drew) rfl (fun j x hj => by
              obtain ⟨ws', ty', f', h1, h2⟩ := hS.prot _ _ _ (hp j x hj)
              show w.cell? _ = _
              simp [World.cell?, h1, h2]) xs.length xs.length cap sh.size (by omega)
            rwa [← hvl, List.take_length] at this
        obtain ⟨cap', cs, hrun, hcap', hcs, hget⟩ := append_new (P := P) (ty := ty) ht hi hizv hsz hold hsrc (by omega) hroom2 hroom1 (fun _ => hzs) (by omega) hvl
        have hle' : (xs.length + ys.length) * sh.size ≤ cap' * sh.size := Nat.mul_le_mul_right _ hcap'
        have hB := (hS.spend t0).addTag sh.size
        obtain ⟨p1, p2, p3, p4⟩ := new_list w hB hS.τnext (Nat.lt_succ_self _) hS.next hpos (by simp only [Heap.addTag, Heap.spend]; exact Tr.get_set_same _ _ _) (xs := xs ++ ys) (vs := vs ++ news) (cs := cs) (ty := e) (f := (0, 0)) (cap := cap') (.inl rfl) hall (by rw [flat_append]; exact q3.append hrd.rel) hone hget (by simpa using hcap') (by omega)
        refine ⟨_, _, _, _, exec_val w hrun, .inl rfl, Out.tagStep hτ p1 p2 (Keeps.drewAlloc w hS.size _) (fun _ => rfl) (fun j hj => upd_ne _ _ hj), ?_⟩
        rw [@List.length_append _ xs ys] at p3
        exact p3
  · -- a row that is written into
    rename_i i0 sz off n ys hys
    obtain ⟨news, hrd⟩ := elems_rel (P := P) hS hpos hy hys
    have hsrc := hrd.src hku
    have hnl := hrd.news_len
    obtain ⟨cap, b, o, lim, ab, ao, hφ, hlc, hcap, hvx⟩ := hx.arr_inv
    by_cases hemp : ys = []
    · rw [if_pos hemp] at he
      cases he
      cases hr
      subst hvx
      have := append_nothing (ty := ty) (a := some ⟨ab, ao, none⟩) ht hku hsh hlc hrd hemp
      exact EffOk.ofVal hS (ValOk.of w ⟨_, this, hx⟩)
    rw [if_neg hemp] at he
    have hyp : 0 < ys.length := List.length_pos_iff.2 hemp
    split at he <;> try (cases he; done)
    rename_i cs sh' hob
    split at he <;> try (cases he; done)
    rename_i old hcut
    split at he
    case isFalse => cases he
    rename_i hcond
    obtain ⟨hshe, hzz, _, hroom1, hroom2⟩ := hcond
    subst hshe
    cases he; cases hr
    subst hvx
    obtain ⟨hb0, w1, w2, ws, e1, f1, w3, w4, w5, w6, w7⟩ := hS.objs i0 _ b o lim sz hob hφ
    obtain ⟨hcl, hold0⟩ := cut_some hcut
    have holdl := cut_length hcut
    have hone : ∀ x ∈ old ++ flat ys, x.one = true := fun x hx => by
      rcases List.mem_append.1 hx with h | h
      · subst hold0; exact w6 x (List.mem_of_mem_drop (List.mem_of_mem_take h))
      · exact hrd.one x h
    have holdv : ∀ (j : Nat) (x : DV), old[j]? = some x → ∃ v, ws[o + off + j]? = some v ∧ VRel c x v := fun j x hj => by
      have hlt := (List.getElem?_eq_some_iff.1 hj).1
      rw [hold0, List.getElem?_take, if_pos (by omega), List.getElem?_drop] at hj
      obtain ⟨v, h1, h2⟩ := w7 _ _ hj
      exact ⟨v, by rw [← h1]; congr 1; omega, h2⟩
    have hSd := hS.drop i0
    have hno := hS.noObj_drop hob hφ
    have hnt : NoTag c (h.drop i0) b := hS.noTag_obj hob hφ
    have hnk := hS.sep i0 _ b o lim sz hob hφ
    by_cases hfit : n + ys.length ≤ cap
    · rcases hcap with hcap | ⟨rfl, rfl, hlim⟩
      · omega
      have hmul : (n + ys.length) * sh'.size ≤ cap * sh'.size := Nat.mul_le_mul_right _ hfit
      rw [Nat.add_mul] at hmul
      have hlim' : o + off + cap * sh'.size ≤ lim := by rw [← hzz]; exact hlim
      have hwfit : o + off + n * sh'.size + news.length ≤ ws.size := by omega
      have hsrc' := hsrc
      rw [← hsz] at hsrc'
      have hrun := run_append_room_src (P := P) w t u ty e i ht hi ab (o + off) n cap vy ys.length news hsrc' hfit (fun j hj => by
        rw [cell_is w3, hsz]; simp; omega) (fun j hj => not_frozen w3 (by rw [w4]; exact w5) (by rw [hsz]; omega))
      rw [hsz] at hrun
      obtain ⟨s1, s2, s3, s4, s5, s6⟩ := setCells_heap news (o + off + n * sh'.size) w ws e1 f1 w3 hwfit
      have hovl : (ovl ws.toList (o + off + n * sh'.size) news).length = ws.size := by rw [ovl_length _ _ _ (by simpa using hwfit)]; simp
      have hA := hSd.alter s2 s3 hno hnt (fun j v hk => by rw [hnk] at hk; cases hk)
      have hB := hA.add (.cells (old ++ flat ys) sh')
      have hC := hB.objAt (id := h.next) (b := ab) (o := o + off) (lim := lim) (sz := sh'.size) (ob := .cells (old ++ flat ys) sh') hS.φnext (Nat.lt_succ_self _) (by simp only [Heap.add, Heap.drop]; exact Tr.get_set_same _ _ _) hb0
        (fun id1 ob1 b1 o1 lim1 sz1 h1 h2 => by
          simp only [Heap.add, Heap.drop, Tr.get_set] at h1
          split at h1
          · rename_i e2; subst e2; rw [hS.φnext] at h2; cases h2
          · refine hno id1 ob1 b1 o1 lim1 sz1 ?_ h2
            simpa only [Heap.drop, Tr.get_set] using h1)
        hnt hnk
        (by
          refine ⟨rfl, by rw [List.length_append, flat_length _ hrd.sz]; omega, _, e1, f1, s1, by rw [List.size_toArray, hovl, w4], w5, hone, fun j x hj => ?_⟩
          simp only [List.getElem?_toArray]
          by_cases hlt : j < old.length
          · rw [List.getElem?_append_left hlt] at hj
            obtain ⟨v, h1, h2⟩ := holdv j x hj
            refine ⟨v, ?_, h2.mono (Cor.le_obj hS.φnext _ _ _ _)⟩
            rw [ovl_get_out (by simpa using hwfit) (.inl (by omega))]
            simpa using h1
          · rw [List.getElem?_append_right (by omega)] at hj
            obtain ⟨v, h1, h2⟩ := hrd.rel.get _ hj
            refine ⟨v, ?_, h2.mono (Cor.le_obj hS.φnext _ _ _ _)⟩
            rw [show o + off + j = o + off + n * sh'.size + (j - old.length) by omega, ovl_get_in (by simpa using hwfit) (List.getElem?_eq_some_iff.1 h1).1]
            exact h1)
      refine ⟨_, _, _, _, exec_val w hrun, .inl rfl, Out.objStep hφ (Cor.le_obj hS.φnext _ _ _ _) hC ⟨by omega, fun j hj => s2 j (by omega), s4, s5, s6⟩ (fun _ => rfl) (fun j hj => upd_ne _ _ hj), ?_⟩
      exact .arr (upd_same _ _ _) hfit (.inr ⟨rfl, rfl, by omega⟩)
    · have hold : ∃ olds : List Value, olds.length = n * sh'.size ∧ (Builtin.firstCells sh'.size n (.slice (some ⟨ab, ao, none⟩) n cap)).run P w.drew = .ok olds.toArray w.drew ∧ VRels c old olds := by
        refine ⟨(ws.toList.drop (o + off)).take (n * sh'.size), by simp; omega, ?_, ?_⟩
        · by_cases h0 : cap = 0
          · have : n = 0 := by omega
            subst this
            simp [Builtin.firstCells, loadCells, loadCellsFrom]
          · rcases hcap with hcap | ⟨rfl, rfl, _⟩
            · exact absurd hcap h0
            · have := cells_take (P := P) (a := ⟨ab, o + off, none⟩) (vs := (ws.toList.drop (o + off)).take (n * sh'.size)) (w' := w.drew) rfl (fun j x hj => by
                have hlt := (List.getElem?_eq_some_iff.1 hj).1
                simp at hlt
                rw [List.getElem?_take, if_pos (by omega), List.getElem?_drop] at hj
                have : ws[o + off + j]? = some x := by simpa using hj
                show w.cell? _ = _
                simp [World.cell?, w3, this]) n n cap sh'.size (by simp; omega)
              rw [this]
              congr 2
              rw [List.take_of_length_le (by simp; omega)]
        · refine VRels.of_get (by rw [holdl]; simp; omega) fun j x v hj hv => ?_
          obtain ⟨u, h1, h2⟩ := holdv j x hj
          have hlt := (List.getElem?_eq_some_iff.1 hv).1
          simp at hlt
          rw [List.getElem?_take, if_pos (by omega), List.getElem?_drop] at hv
          have : ws[o + off + j]? = some v := by simpa using hv
          rw [h1] at this; cases this
          exact h2
      obtain ⟨olds, hol, hold, holr⟩ := hold
      obtain ⟨cap', cs', hrun, hcap', hcs, hget⟩ := append_new (P := P) (ty := ty) ht hi hizv hsz hold hsrc (by omega) hroom2 hroom1 (fun _ => hzs) (by omega) hol
      have hle' : (n + ys.length) * sh'.size ≤ cap' * sh'.size := Nat.mul_le_mul_right _ hcap'
      have hB := hSd.add (.cells (old ++ flat ys) sh')
      obtain ⟨p1, p2, p3, p4⟩ := new_cells w hB hS.φnext (Nat.lt_succ_self _) (by simp only [Heap.add, Heap.drop]; exact Tr.get_set_same _ _ _) (cs := cs') (ty := e) (f := (0, 0)) (.inl rfl) (by rw [List.length_append, flat_length _ hrd.sz, hcs]; rw [Nat.add_mul] at hle'; omega) (fun j x hj => by
          obtain ⟨u, h3, h4⟩ := (holr.append hrd.rel).get j hj
          exact ⟨u, hget _ _ h3, h4⟩) hone
      refine ⟨_, _, _, _, exec_val w hrun, .inl rfl, Out.objStep hφ p1 p2 (Keeps.drewAlloc w hS.size _) (fun _ => rfl) (fun j hj => upd_ne _ _ hj), ?_⟩
      exact .arr p3 hcap' (.inr ⟨rfl, rfl, by omega⟩)
  · cases he
end
end Go.Dm
/- The D-machine (19): the other effects; every operation that is no call. -/
namespace Go.Dm
set_option linter.unusedSimpArgs false
set_option linter.unusedVariables false
set_option linter.unnecessarySimpa false

section
variable {P : Program} {CC : Code → DC → Prop} {base : Nat} {c : Cor} {h : Heap} {w : World}

theorem flat_take {sz : Nat} : ∀ (n : Nat) (xs : List DV), (∀ x ∈ xs, x.cells.length = sz) → flat (xs.take n) = (flat xs).take (n * sz)
  | 0, xs, _ => by simp [flat]
  | n + 1, [], _ => by simp [flat]
  | n + 1, x :: xs, h => by
    have hx := h x (by simp)
    have ih := flat_take n xs fun y hy => h y (by simp [hy])
    simp only [List.take_succ_cons, flat, List.flatMap_cons] at ih ⊢
    rw [ih, Nat.succ_mul, Nat.add_comm, ← hx, List.take_length_add_append]

theorem eff_copy (hS : Sim CC base c h w.heap) {t u ty e : TypeId} {sh : Shape} (ht : P.underlying t = some (.slice e)) (hsh : shapeOf P e = some sh) {x y : DV} {vx vy : Value} (hx : VRel c x vx) (hy : VRel c y vy) {r : EvR} (he : copyD h sh x y = some r)
    {v : DV} {h' : Heap} (hr : stepEv h r = some (v, h')) : EffOk P CC base c h w (do pure (.value (← Builtin.copy_ #[t, u] ty #[vx, vy]))) v h' := by
  obtain ⟨_, hpos⟩ := shapeOf_size hsh
  unfold copyD at he
  split at he
  · rename_i i z o1 n
    split at he
    · rename_i cs sh' ys hob hys
      obtain ⟨news, hrd⟩ := elems_rel (P := P) hS hpos hy hys
      have hnl := hrd.news_len
      obtain ⟨cap, b, o, lim, ab, ao, hφ, hlc, hcap, hvx⟩ := hx.arr_inv
      simp only at he
      split at he
      case isFalse => cases he
      rename_i hcond
      obtain ⟨hshe, hz, hfit⟩ := hcond
      subst hshe
      cases he; cases hr
      subst hvx
      let m := min ys.length n
      have hm1 : m ≤ ys.length := Nat.min_le_left _ _
      have hfc := hrd.cells w rfl m hm1
      have hsz := run_sizeOf_shape w hsh
      have hmle : m * sh'.size ≤ n * sh'.size := Nat.mul_le_mul_right _ (Nat.min_le_right _ _)
      have hmle2 : m * sh'.size ≤ ys.length * sh'.size := Nat.mul_le_mul_right _ hm1
      have htk : flat (ys.take n) = (flat ys).take (m * sh'.size) := by
        rw [show ys.take n = ys.take m by simp [m, List.take_eq_take_iff, Nat.min_comm], flat_take _ _ hrd.sz]
      have hvr : VRels c (flat (ys.take n)) (news.take (m * sh'.size)) := by rw [htk]; exact hrd.rel.take _
      have hvl : (flat (ys.take n)).length = m * sh'.size := by rw [hvr.length_eq]; simp; omega
      have hone : ∀ x ∈ flat (ys.take n), x.one = true := fun x hx => by rw [htk] at hx; exact hrd.one x (List.mem_of_mem_take hx)
      obtain ⟨_, h1, h2⟩ := write_obj (P := P) hS hob hφ (off := o1) hvr hone (by omega)
      by_cases h0 : cap = 0
      · have hm0 : m = 0 := by have := Nat.min_le_right ys.length n; omega
        have hnil : flat (ys.take n) = [] := List.eq_nil_of_length_eq_zero (by rw [hvl, hm0]; simp)
        have hnil2 : news.take (m * sh'.size) = [] := by rw [hm0]; simp
        rw [hnil2] at h2 hfc
        refine ⟨_, w, c, goInt (m : Nat), exec_val w ?_, .inl rfl, h2, .int _ _⟩
        simp only [Builtin.copy_, List.getElem?_toArray, List.getElem?_cons_zero, List.getElem?_cons_succ, Sem.run_bind, run_underlying ht, Result.andThen_ok, hrd.len, hsz]
        change ((Builtin.firstCells sh'.size m vy).run P w).andThen _ = _
        rw [hfc]
        rfl
      · rcases hcap with hcap | ⟨rfl, rfl, _⟩
        · exact absurd hcap h0
        refine ⟨_, _, c, goInt (m : Nat), exec_val w ?_, .inl rfl, h2, .int _ _⟩
        simp only [Builtin.copy_, List.getElem?_toArray, List.getElem?_cons_zero, List.getElem?_cons_succ, Sem.run_bind, run_underlying ht, Result.andThen_ok, hrd.len, hsz]
        change ((Builtin.firstCells sh'.size m vy).run P w).andThen _ = _
        rw [hfc]
        simp only [Result.andThen_ok, Sem.run_bind, h1]
        rfl
    · cases he
  · cases he

theorem eff_clear (hS : Sim CC base c h w.heap) {D : DProg} {fr : Fr} {t ty e : TypeId} {sh : Shape} {z : DV} (ht : P.underlying t = some (.slice e)) (hsh : shapeOf P e = some sh) (hz : zeroOf P e = some z) (hzc : z.cells.length = sh.size) (hzo : z.okv = true)
    {x : DV} {X : Opd} (hX : ev D fr X = x) {vx : Value} (hx : VRel c x vx) {r : EvR} (he : evalOp D fr h (.clear z.cells X) = some r)
    {v : DV} {h' : Heap} (hr : stepEv h r = some (v, h')) : EffOk P CC base c h w (do pure (.value (← Builtin.clear_ #[t] ty #[vx]))) v h' := by
  obtain ⟨_, hpos⟩ := shapeOf_size hsh
  obtain ⟨i', zv, hi', hizv, hov, hzrun⟩ := zeroOf_some w hz
  have hzr : VRel c z zv := ofVal_rel hov
  simp only [evalOp, hX] at he
  split at he
  · cases he; cases hr
    obtain ⟨a, cap, vs, _, _, _, _, _, _, _, _, _, hvx⟩ := hx.lst_inv
    subst hvx
    refine EffOk.ofVal hS (ValOk.of w ⟨.tuple #[], ?_, .tup .nil⟩)
    cases a <;> simp [Builtin.clear_, run_underlying ht]
  · rename_i i z' o1 n
    obtain ⟨cap, b, o, lim, ab, ao, hφ, hlc, hcap, hvx⟩ := hx.arr_inv
    by_cases hn0 : n = 0
    · rw [if_pos hn0] at he
      cases he; cases hr
      subst hvx
      subst hn0
      exact EffOk.ofVal hS (ValOk.of w ⟨.tuple #[], by simp [Builtin.clear_, run_underlying ht], .tup .nil⟩)
    · rw [if_neg hn0] at he
      split at he <;> try (cases he; done)
      rename_i cs sh' hob
      split at he
      case isFalse => cases he
      rename_i hcond
      cases he; cases hr
      subst hvx
      rcases hcap with hcap | ⟨rfl, rfl, _⟩
      · omega
      have hzz := zeros_rel (n := n) hzc hpos hzr
      have hfl : (List.replicate n z.cells).flatten = flat (List.replicate n z) := by
        simp [flat, List.flatMap, List.map_replicate]
      have hall : ∀ x ∈ List.replicate n z, x.cells.length = sh.size := fun x hx => by rw [List.eq_of_mem_replicate hx]; exact hzc
      have hone : ∀ x ∈ flat (List.replicate n z), x.one = true := fun x hx => by
        simp only [flat, List.mem_flatMap] at hx
        obtain ⟨y, hy, hxy⟩ := hx
        rw [List.eq_of_mem_replicate hy] at hxy
        exact hzr.okv_one hzo x hxy
      obtain ⟨_, h1, h2⟩ := write_obj (P := P) hS hob hφ (off := o1) hzz hone (by rw [flat_length _ hall]; simp; rw [← hzc]; exact hcond.1)
      rw [hfl]
      refine ⟨_, _, c, .tuple #[], exec_val w ?_, .inl rfl, h2, .tup .nil⟩
      have hzc2 : (Builtin.zeroCells zv.cells n).toList = ((Array.range (n * sh.size)).map (zv.cells[· % zv.cells.size]!)).toList := by
        have : zv.cells.size = sh.size := by rw [hzr.cells_size, hzc]
        simp only [Builtin.zeroCells, this]
      match n, hn0 with
      | n + 1, _ =>
        simp only [Builtin.clear_, List.getElem?_toArray, List.getElem?_cons_zero, Sem.run_bind, run_underlying ht, Result.andThen_ok, hzrun, hzc2, h1, Sem.run_pure]
  · cases he

theorem eff_bytesStr (hS : Sim CC base c h w.heap) {s t e : TypeId} (hus : P.underlying s = some (.slice e)) (hut : P.underlying t = some .string) (hue : P.underlying e = some (.int .u8)) {x : DV} {vx : Value} (hx : VRel c x vx) {r : EvR} (he : convD h .bytesStr true x = some r)
    {v : DV} {h' : Heap} (hr : stepEv h r = some (v, h')) : EffOk P CC base c h w (do pure (.value (← convert s t vx))) v h' := by
  cases x <;> simp only [convD] at he <;> try (cases he; done)
  case arr id sz off n =>
    simp only [if_true] at he
    obtain ⟨str, hs, rfl⟩ := Option.map_eq_some_iff.1 he
    obtain ⟨ys, hys, hstr⟩ := Option.bind_eq_some_iff.1 hs
    cases hr
    obtain ⟨news, hrd⟩ := elems_rel (P := P) hS (sh := none) (by simp [Shape.size]) hx hys
    obtain ⟨ns, rfl, rfl⟩ := toStr?_some hstr
    obtain ⟨cap, b, o, lim, ab, ao, hφ, hlc, hcap, hvx⟩ := hx.arr_inv
    have hv := hrd.rel
    rw [nums_flat] at hv
    have hnews := nums_rel hv
    have hfc := hrd.cells w rfl (nums .u8 ns).length (Nat.le_refl _)
    have hl := hrd.len w
    subst hvx
    have hln : n = (nums .u8 ns).length := by
      simp only [Builtin.lenOf, Sem.run_pure, Result.ok.injEq] at hl
      exact hl.1
    have hsize : Shape.size none = 1 := rfl
    rw [hsize, Nat.mul_one, hnews, List.take_of_length_le (by simp [nums])] at hfc
    have hload : (loadCells ⟨ab, ao, none⟩ n).run P w = .ok (ns.map (Value.int .u8)).toArray w := by
      rw [← hln] at hfc
      simpa [Builtin.firstCells] using hfc
    have hrun := run_bytesToString (P := P) w (⟨ab, ao, none⟩ : Addr) n cap ns hload
    refine EffOk.ofVal hS (ValOk.of w ⟨.string ⟨(ns.map fun n => UInt8.ofNat n.toNat).toArray⟩, ?_, ?_⟩)
    · simp only [convert, Sem.run_bind, run_underlying hus, run_underlying hut, run_underlying hue, Result.andThen_ok]
      rw [hrun, foldl_push]
      simp
    · exact .str _
end

section
variable {P : Program} {cfg : Cfg} {mf : Bool} {D : DProg} {CC : Code → DC → Prop} {base : Nat} {c : Cor} {fr : Fr} {a : Act} {h : Heap} {w : World}

/-- **Every operation that is neither a call nor a defer.** -/
theorem eff_sound {o : Oper} {d : DOp} {r : EvR} {v : DV} {h' : Heap} (hc : compOp P cfg mf o.op = some d) (hg : GlobOk D c) (hf : VRels c fr.tmps a.tmps.toList) (hS : Sim CC base c h w.heap)
    (he : evalOp D fr h d = some r) (hr : stepEv h r = some (v, h')) : EffOk P CC base c h w (execOp a.eval o) v h' := by
  by_cases hne : d.effect = false
  · cases r with
    | val v' =>
      cases hr
      refine EffOk.ofVal hS (val_sound w hc hg hf hS hne he fun sh x e => ?_)
      subst e
      simp only [evalOp] at he
      obtain ⟨y, h1, h2⟩ := Option.map_eq_some_iff.1 he
      cases h2; exact h1
    | newO ob mk =>
      cases hr
      exact EffOk.ofNewO (new_sound w hc hg hf (hS.add ob) hne he (Nat.lt_succ_self _) hS.next ⟨rfl, hS.φnext, by simp only [Heap.add]; exact Tr.get_set_same _ _ _⟩)
    | newT sz mk =>
      cases hr
      exact EffOk.ofNewT (new_sound w hc hg hf (hS.addTag sz) hne he (Nat.lt_succ_self _) hS.next ⟨rfl, hS.τnext, by simp only [Heap.addTag]; exact Tr.get_set_same _ _ _⟩)
    | eff v' h1 =>
      exfalso
      cases d <;> simp [DOp.effect] at hne <;> simp only [evalOp] at he
      all_goals first
        | (cases he; done)
        | (obtain ⟨_, _, h2⟩ := Option.map_eq_some_iff.1 he; cases h2; done)
        | (split at he <;> first | (cases he; done) | (obtain ⟨_, _, h2⟩ := Option.map_eq_some_iff.1 he; cases h2; done) | (split at he <;> first | (cases he; done) | (obtain ⟨_, _, h2⟩ := Option.map_eq_some_iff.1 he; cases h2; done) | (split at he <;> cases he; done)); done)
        | skip
      case conv k mu x =>
        unfold convD at he
        split at he <;> try (cases he; done)
        all_goals first
          | (obtain ⟨_, _, h2⟩ := Option.map_eq_some_iff.1 he; cases h2; done)
          | (split at he <;> first | (cases he; done) | (obtain ⟨_, _, h2⟩ := Option.map_eq_some_iff.1 he; cases h2; done) | (simp at he; split at he <;> cases he; done))
          | skip
        all_goals simp at hne
        all_goals simp [hne] at he
      case slice sz x lo hi mx =>
        unfold sliceD at he
        split at he <;> try (cases he; done)
        all_goals (split at he <;> first | (cases he; done) | (obtain ⟨_, _, h2⟩ := Option.map_eq_some_iff.1 he; cases h2; done))
    | call _ _ _ => cases hr
    | yield _ _ => cases hr
    | defr _ _ => cases hr
  · obtain ⟨dst, op, ty, pos, after, guard⟩ := o
    have O : ∀ {x : Operand} {y : Opd}, opd x = some y → VRel c (ev D fr y) (a.eval x) := fun h => opd_rel hg hf h
    cases op <;> simp only [compOp] at hc <;> try (cases hc; done)
    case store t x y =>
      split at hc <;> try (cases hc; done)
      cases hc
      rename_i sh x' y' hsh hx hy
      simp only [evalOp] at he
      obtain ⟨h1, he1, he2⟩ := Option.map_eq_some_iff.1 he
      subst he2
      cases hr
      exact eff_store hS hsh (O hx) (O hy) he1
    case next x s =>
      cases s <;> simp only [compOp] at hc
      · cases hc
      · obtain ⟨y, hy, rfl⟩ := Option.map_eq_some_iff.1 hc
        have : r = .eff v h' := by
          simp only [evalOp] at he
          split at he <;> try (cases he; done)
          split at he <;> try (cases he; done)
          split at he <;> (cases he; cases hr; rfl)
        subst this
        exact eff_next hS (O hy) rfl he
    case convert s t x =>
      split at hc <;> try (cases hc; done)
      · cases hc; simp [DOp.effect] at hne
      · cases hc; simp [DOp.effect] at hne
      · split at hc <;> try (cases hc; done)
        cases hc; simp [DOp.effect] at hne
      · split at hc <;> try (cases hc; done)
        · cases hc
          rename_i e x' hus hud hx _ hue
          have hmu : (mf || cfg.mutTy e) = true := by
            cases hm : (mf || cfg.mutTy e) with
            | true => rfl
            | false => exact absurd hm hne
          simp only [evalOp, hmu] at he
          exact eff_bytesStr hS hus hud hue (O hx) he hr
        · cases hc; simp [DOp.effect] at hne
      · cases hc; simp [DOp.effect] at hne
      · split at hc <;> try (cases hc; done)
        split at hc <;> try (cases hc; done)
        cases hc; simp [DOp.effect] at hne
    case call cl =>
      obtain ⟨callee, args, argTypes⟩ := cl
      simp only [compCall] at hc
      split at hc <;> try (cases hc; done)
      · split at hc <;> try (cases hc; done)
        cases hc
        simp only [evalOp, callV] at he
        split at he <;> cases he <;> cases hr
      · rw [run_builtin]
        split at hc <;> try (cases hc; done)
        · split at hc <;> try (cases hc; done)
          · obtain ⟨y, hy, rfl⟩ := Option.map_eq_some_iff.1 hc; simp [DOp.effect] at hne
          · obtain ⟨y, hy, rfl⟩ := Option.map_eq_some_iff.1 hc; simp [DOp.effect] at hne
          · cases hc; simp [DOp.effect] at hne
        · rename_i x y t u hA hT
          have hA' : args = #[x, y] := by rw [← Array.toArray_toList (xs := args), hA]
          have hT' : argTypes = #[t, u] := by rw [← Array.toArray_toList (xs := argTypes), hT]
          subst hA'; subst hT'
          rw [show Array.map a.eval #[x, y] = #[a.eval x, a.eval y] by simp]
          split at hc <;> try (cases hc; done)
          rename_i e x' y' hu hx hy
          split at hc <;> try (cases hc; done)
          · split at hc <;> try (cases hc; done)
            rename_i sh i z e' hsh hi hz hu2 hcond
            cases hc
            simp only [evalOp] at he
            exact eff_append hS hu (.inl ⟨_, hu2⟩) hsh hi hz hcond.2 (O hx) (O hy) he hr
          · split at hc <;> try (cases hc; done)
            rename_i i z hsh hi hz hu2 hcond
            cases hc
            simp only [evalOp] at he
            exact eff_append hS hu (.inr hu2) hsh hi hz hcond (O hx) (O hy) he hr
        · rename_i x y t u hA hT
          have hA' : args = #[x, y] := by rw [← Array.toArray_toList (xs := args), hA]
          have hT' : argTypes = #[t, u] := by rw [← Array.toArray_toList (xs := argTypes), hT]
          subst hA'; subst hT'
          rw [show Array.map a.eval #[x, y] = #[a.eval x, a.eval y] by simp]
          split at hc <;> try (cases hc; done)
          rename_i e x' y' hu hx hy
          split at hc <;> try (cases hc; done)
          split at hc <;> try (cases hc; done)
          rename_i sh e' hsh hu2 hcond
          cases hc
          simp only [evalOp] at he
          exact eff_copy hS hu hsh (O hx) (O hy) he hr
        · split at hc <;> try (cases hc; done)
          cases hc; simp [DOp.effect] at hne
        · split at hc <;> try (cases hc; done)
          cases hc; simp [DOp.effect] at hne
        · rename_i x t hA hT
          have hA' : args = #[x] := by rw [← Array.toArray_toList (xs := args), hA]
          have hT' : argTypes = #[t] := by rw [← Array.toArray_toList (xs := argTypes), hT]
          subst hA'; subst hT'
          rw [show Array.map a.eval #[x] = #[a.eval x] by simp]
          split at hc <;> try (cases hc; done)
          rename_i e x' hu hx
          split at hc <;> try (cases hc; done)
          rename_i sh z hsh hz
          split at hc <;> try (cases hc; done)
          rename_i hcond
          cases hc
          exact eff_clear hS hu hsh hz hcond.1 hcond.2 rfl (O hx) he hr
    case defer cl =>
      split at hc <;> try (cases hc; done)
      split at hc <;> try (cases hc; done)
      cases hc
      simp only [evalOp] at he
      split at he <;> try (cases he; done)
      split at he <;> cases he
      cases hr
    all_goals
      exfalso
      apply hne
      first
        | (split at hc <;> cases hc; rfl)
        | (obtain ⟨_, _, rfl⟩ := Option.map_eq_some_iff.1 hc; rfl)
        | (split at hc <;> try (cases hc; done)
           split at hc <;> first | (cases hc; rfl) | (cases hc; done) | (obtain ⟨_, _, rfl⟩ := Option.map_eq_some_iff.1 hc; rfl) | (split at hc <;> cases hc; rfl))
        | skip
    all_goals first
      | (obtain ⟨_, _, h2⟩ := Option.bind_eq_some_iff.1 hc; split at h2 <;> cases h2; rfl)
      | (repeat' first | (cases hc; done) | (cases hc; rfl) | (obtain ⟨_, _, rfl⟩ := Option.map_eq_some_iff.1 hc; rfl) | split at hc)
end
end Go.Dm
/- The D-machine (20): frames, calls, rounds. -/
namespace Go.Dm
set_option linter.unusedSimpArgs false
set_option linter.unusedVariables false
set_option linter.unnecessarySimpa false

def FF (r : Option Nat) : Fence := { Fence.wide with round := r }
def DX.exitOf : DX → Exit
  | .normal => .normal
  | .exit id => .exit id
  | .ret => .ret

inductive DefRel (c : Cor) : List DDef → List Deferred → Prop where
  | nil : DefRel c [] []
  | mark {id b o lim sz : Nat} {ds : List DDef} {vs : List Deferred} (h : c.φ id = some (b, o, lim, sz)) (hs : DefRel c ds vs) : DefRel c (.mark id :: ds) ({ target := .collected b, args := #[] } :: vs)
  | call {f : Nat} {args : List DV} {az cap : Array Value} {ds : List DDef} {vs : List Deferred} (h : VRels c args (az.toList ++ cap.toList)) (hs : DefRel c ds vs) : DefRel c (.call f args :: ds) ({ target := .fn (.func f) cap, args := az } :: vs)
theorem DefRel.mono {c d : Cor} (hle : c.le d) : ∀ {ds : List DDef} {vs : List Deferred}, DefRel c ds vs → DefRel d ds vs
  | _, _, .nil => .nil
  | _, _, .mark h hs => .mark (hle.φ _ _ h) (mono hle hs)
  | _, _, .call h hs => .call (h.mono hle) (mono hle hs)

def InrRel (c : Cor) : Option Nat → Option Nat → Prop
  | none, none => True
  | some l, some b => ∃ o lim sz, c.φ l = some (b, o, lim, sz)
  | _, _ => False
structure FrRel (c : Cor) (r : Option Nat) (fr : Fr) (a : Act) : Prop where
  tmps : VRels c fr.tmps a.tmps.toList
  defers : DefRel c fr.defers a.defers
  inr : InrRel c fr.inr r
theorem InrRel.mono {c d : Cor} (hle : c.le d) {x y : Option Nat} (h : InrRel c x y) : InrRel d x y := by
  cases x <;> cases y <;> simp only [InrRel] at h ⊢
  obtain ⟨o, lim, sz, h⟩ := h
  exact ⟨o, lim, sz, hle.φ _ _ h⟩
theorem FrRel.mono {c d : Cor} (hle : c.le d) {r : Option Nat} {fr : Fr} {a : Act} (h : FrRel c r fr a) : FrRel d r fr a := ⟨h.tmps.mono hle, h.defers.mono hle, h.inr.mono hle⟩
theorem FrRel.put {c : Cor} {r : Option Nat} {fr : Fr} {a : Act} (h : FrRel c r fr a) (dst : Option Nat) {v : DV} {v' : Value} (hv : VRel c v v') : FrRel c r (fr.put dst v) (a.put dst v') := by
  cases dst with
  | none => exact h
  | some d => exact ⟨by simpa [Fr.put, Act.put] using h.tmps.set d hv, h.defers, h.inr⟩
theorem FrRel.defer {c : Cor} {r : Option Nat} {fr : Fr} {a : Act} (h : FrRel c r fr a) {x : DDef} {y : Deferred} (hd : DefRel c [x] [y]) : FrRel c r { fr with defers := x :: fr.defers } { a with defers := y :: a.defers } := by
  refine ⟨h.tmps, ?_, h.inr⟩
  cases hd with
  | mark h1 _ => exact .mark h1 h.defers
  | call h1 _ => exact .call h1 h.defers

section
variable {P : Program} {cfg : Cfg} {CC : Code → DC → Prop} {base : Nat} {D : DProg} {c : Cor} {h : Heap} {w : World}

def RetOk (CC : Code → DC → Prop) (base : Nat) (c : Cor) (h : Heap) (w : World) (v : DV) (h' : Heap) : Ending → World → Prop := fun e w' => ∃ v' c', e = .returned v' ∧ Out CC base c h w c' h' w' ∧ VRel c' v v'
def CallOk (P : Program) (CC : Code → DC → Prop) (base : Nat) (D : DProg) (C : Nat → List DV → Heap → Option (DV × Heap)) : Prop :=
  ∀ f args h v h', C f args h = some (v, h') → ∀ (k : Nat) c w vargs, GlobOk D c → VRels c args vargs → Sim CC base c h w.heap →
    ∃ fn, P.funcs[f]? = some fn ∧ (fn.name == "runtime.NumGoroutine") = false ∧ fn.body.isNone = false ∧ CallsIn Fence.wide k P f vargs.toArray w (RetOk CC base c h w v h')
def CodeOk (P : Program) (CC : Code → DC → Prop) (base : Nat) (D : DProg) (E : Ex) : Prop :=
  ∀ code dc, CC code dc → ∀ fr h x fr' h', E dc fr h = some (x, fr', h') → ∀ r (k : Nat) c a w, GlobOk D c → FrRel c r fr a → Sim CC base c h w.heap →
    code.wpIn (FF r) k P (fun e a' w' => e = x.exitOf ∧ ∃ c', Out CC base c h w c' h' w' ∧ FrRel c' r fr' a') a w

theorem frz_sound (hS : Sim CC base c h w.heap) {v v2 : DV} {vv : Value} {h2 : Heap} (hv : VRel c v vv) (he : frzV h v = some (v2, h2)) : ∃ c', Out CC base c h w c' h2 w ∧ VRel c' v2 vv := by
  unfold frzV at he
  split at he
  · rename_i i z o1 n
    split at he <;> try (cases he; done)
    rename_i cs sh hob
    split at he
    case isFalse => cases he
    rename_i hz
    obtain ⟨hz, hpos⟩ := hz
    obtain ⟨r, hr, hv2⟩ := Option.map_eq_some_iff.1 he
    cases hv2
    obtain ⟨cap, b, o, lim, ab, ao, hφ, hlc, hcap, hvx⟩ := hv.arr_inv
    obtain ⟨hb0, q1, q2, ws, e, f, q3, q4, q5, q6, q7⟩ := hS.objs i _ b o lim z hob hφ
    obtain ⟨hcut, rfl⟩ := cut_some hr
    have hSd := hS.drop i
    have hno := hS.noObj_drop hob hφ
    have hnt : NoTag c (h.drop i) b := hS.noTag_obj hob hφ
    have hnk := hS.sep i _ b o lim z hob hφ
    obtain ⟨hle, hP⟩ := hSd.protect q3 hno hnt hnk
    refine ⟨{ c with kp := keep c.kp b 0 ws.toList }, ⟨hle, hP, Keeps.refl w, Nat.le_refl _, fun id _ hn => ⟨hn, by simp only [Heap.drop]; exact Tr.get_set_ne _ _ (fun e => by subst e; rw [hφ] at hn; cases hn)⟩, fun _ _ hn => ⟨hn, rfl⟩⟩, ?_⟩
    subst hvx
    have hone : ∀ x ∈ (cs.drop o1).take (n * sh.size), x.one = true := fun x hx => q6 x (List.mem_of_mem_drop (List.mem_of_mem_take hx))
    have hrl := cut_length hr
    · obtain ⟨g1, g2, g3, g4⟩ := group_spec hpos n _ hrl hone
      let news : List Value := (ws.toList.drop (o + o1)).take (n * sh.size)
      have hnl : news.length = n * sh.size := by simp [news]; omega
      have hnw : ∀ (j : Nat) (x : Value), news[j]? = some x → ws[o + o1 + j]? = some x := fun j x hj => by
        have hlt := (List.getElem?_eq_some_iff.1 hj).1
        rw [hnl] at hlt
        simp only [news, List.getElem?_take, hlt, if_true, List.getElem?_drop] at hj
        simpa using hj
      have hrel : VRels c ((cs.drop o1).take (n * sh.size)) news := by
        refine VRels.of_get (by rw [hrl, hnl]) fun j x v hj hv => ?_
        have hlt := (List.getElem?_eq_some_iff.1 hj).1
        rw [hrl] at hlt
        rw [List.getElem?_take, if_pos hlt, List.getElem?_drop] at hj
        obtain ⟨u, hu, hru⟩ := q7 _ _ hj
        have h2 := hnw j v hv
        rw [show o + (o1 + j) = o + o1 + j by omega] at hu
        rw [hu] at h2; cases h2
        exact hru
      have := VRel.lst (c := { c with kp := keep c.kp b 0 ws.toList }) (t := 1) (sz := sh.size) (xs := group sh n ((cs.drop o1).take (n * sh.size))) (a := some ⟨ab, ao, none⟩) (cap := cap) (vs := news)
        (fun _ => hpos) g2 (by rw [g1]; exact hrel.mono hle) (by rw [g1]; exact hone) (fun hne => by
          have hn0 : n ≠ 0 := fun e => hne (by subst e; rfl)
          rcases hcap with hcap | ⟨rfl, rfl, _⟩
          · omega
          · refine ⟨ab, o + o1, rfl, fun j x hj => ?_⟩
            have h3 := hnw j x hj
            have := keep_in c.kp ab 0 ws.toList (j := o + o1 + j) (v := x) (by simpa using h3)
            simpa using this)
        (by rw [g3]; exact hlc) (by omega) (fun _ => ⟨_, _, _, rfl, .inl rfl⟩) (by omega)
      rw [g3] at this
      exact this
  · cases he
    exact ⟨c, Out.refl hS, hv⟩

theorem FF_fn (r : Option Nat) (f : FuncId) : (FF r).fn f := trivial
theorem FF_calls {r : Option Nat} {k : Nat} {f : FuncId} {args : Array Value} {w : World} {R : Ending → World → Prop} (h : CallsIn Fence.wide k P f args w R) : CallsIn (FF r) k P f args w R := h

theorem run_callFunc {f : FuncId} {fn : Func} (args : Array Value) (w : World) (hf : P.funcs[f]? = some fn) (hn : (fn.name == "runtime.NumGoroutine") = false) (hb : fn.body.isNone = false) : (callFunc f args).run P w = .ok (.enter f args) w := by
  have hb' : ¬ fn.body.isNone = true := by rw [hb]; simp
  have hn' : ¬ (fn.name == "runtime.NumGoroutine") = true := by rw [hn]; simp
  simp only [callFunc, Sem.run_bind, run_program, Result.andThen_ok, hf, hn, hb, Bool.false_eq_true, if_false, Sem.run_pure]

theorem zip_fold {c : Cor} : ∀ (ps : List Nat) (az : List DV) (vs : List Value) (ts : List DV) (us : Array Value), VRels c az vs → VRels c ts us.toList →
    VRels c ((ps.zip az).foldl (fun ts (x : Nat × DV) => ts.set x.1 x.2) ts) ((ps.zip vs).foldl (fun (us : Array Value) (x : Nat × Value) => us.setIfInBounds x.1 x.2) us).toList
  | [], _, _, ts, us, _, h => by simpa using h
  | p :: ps, [], [], ts, us, _, h => by simpa using h
  | p :: ps, _ :: _, _ :: _, ts, us, .cons h1 hs, h => by
    simp only [List.zip_cons_cons, List.foldl_cons]
    exact zip_fold ps _ _ _ _ hs (by simpa using h.set p h1)
theorem array_zip_fold (ps : Array Nat) (vs us : Array Value) : (ps.zip vs).foldl (fun (us : Array Value) (x : Nat × Value) => us.setIfInBounds x.1 x.2) us = (ps.toList.zip vs.toList).foldl (fun (us : Array Value) (x : Nat × Value) => us.setIfInBounds x.1 x.2) us := by
  rw [← Array.foldl_toList, Array.toList_zip]

/-- An object of ours is turned, and the model's likewise. -/
theorem put_loop (hS : Sim CC base c h w.heap) {l b o lim sz : Nat} {ob : HObj} {r : LRec} {y : Loop} (hg : h.objs.get l = some ob) (hφ : c.φ l = some (b, o, lim, sz)) (hr : LoopRel CC c r y) : Out CC base c h w c (h.put l (.loop r)) (w.putObj b (.loop y)) := by
  obtain ⟨hb0, ho⟩ := hS.objs l ob b o lim sz hg hφ
  have hlt := ho.lt
  exact Out.put hφ (hS.put hg hφ ⟨y, World.putObj_heap_same hlt, hr⟩ (fun i hi => World.putObj_heap_other hi) World.putObj_size) ⟨by simp, fun i hi => World.putObj_heap_other (by omega), rfl, rfl, rfl⟩

/-- **A round.** -/
theorem yield_sound {E : Ex} (hE : CodeOk P CC base D E) {l : Nat} {args : List DV} {h' : Heap} {v : DV} (he : yieldD E l args h = some (v, h')) {b o lim sz : Nat} {vargs : List Value} (hφ : c.φ l = some (b, o, lim, sz)) (hg : GlobOk D c) (ha : VRels c args vargs) (hS : Sim CC base c h w.heap) (r : Option Nat) (k : Nat) :
    ∃ y : Loop, (Instr.yield b vargs.toArray).run P w = .ok (.round b y.fn ((y.params.zip vargs.toArray).foldl (fun tmps (t, a) => tmps.setIfInBounds t a) y.tmps) y.assign y.body) w ∧
      RoundIn (FF r) k P b y.fn ((y.params.zip vargs.toArray).foldl (fun tmps (t, a) => tmps.setIfInBounds t a) y.tmps) y.assign y.body w (RetOk CC base c h w v h') := by
  unfold yieldD at he
  split at he <;> try (cases he; done)
  rename_i rec hob
  split at he
  case isFalse => cases he
  rename_i hcond
  obtain ⟨hst, hlen⟩ := hcond
  split at he <;> try (cases he; done)
  rename_i fr1 h1 hasg
  split at he <;> try (cases he; done)
  rename_i rec1 hob1
  split at he
  case isFalse => cases he
  rename_i hst1
  split at he <;> try (cases he; done)
  rename_i x fr2 h2 hbody
  split at he <;> try (cases he; done)
  rename_i rec2 hd2 hob2
  obtain ⟨hb0, y, hy, hyr⟩ := hS.objs l _ b o lim sz hob hφ
  have hsz : vargs.toArray.size = y.params.size := by
    have := ha.length_eq
    have h2 : y.params.size = rec.ps.length := by rw [← hyr.ps]; simp
    simp; omega
  refine ⟨y, run_yield hy hsz, roundIn_of_wpIn (FF_fn _ _) ?_⟩
  have hfr : FrRel c (some b) { tmps := (rec.ps.zip args).foldl (fun ts (t, a) => ts.set t a) rec.tmps, defers := [], inr := some l } { tmps := (y.params.zip vargs.toArray).foldl (fun tmps (t, a) => tmps.setIfInBounds t a) y.tmps, defers := [] } := by
    refine ⟨?_, .nil, ⟨o, lim, sz, hφ⟩⟩
    have := zip_fold rec.ps args vargs rec.tmps y.tmps ha hyr.tmps
    rw [← hyr.ps] at this ⊢
    have h3 := array_zip_fold y.params vargs.toArray y.tmps
    simp only at h3 ⊢
    rw [h3]
    exact this
  have W1 := hE _ _ hyr.asg _ _ _ _ _ hasg (some b) k c _ w hg hfr hS
  refine wpIn_mono (F := (FF r).inRound b) W1 ?_
  rintro e a1 w1 ⟨rfl, c1, o1, f1⟩
  obtain ⟨_, y1, hy1, hyr1⟩ := o1.sim.objs l _ b o lim sz hob1 (o1.le.φ _ _ hφ)
  have hready : y1.state = .ready := by rw [hyr1.st, hst1]; rfl
  refine ⟨_, run_beginRound hy1 hready, ?_⟩
  have hbusy : LoopRel CC c1 { rec1 with st := .busy } { y1 with state := .busy } := ⟨hyr1.tmps, hyr1.ps, hyr1.asg, hyr1.body, rfl, hyr1.pend, hyr1.pn⟩
  have o2 := o1.trans (put_loop o1.sim hob1 (o1.le.φ _ _ hφ) hbusy)
  have W2 := hE _ _ hyr.body _ _ _ _ _ hbody (some b) k c1 a1 _ (hg.mono o2.le) f1 o2.sim
  refine wpIn_mono (F := (FF r).inRound b) W2 ?_
  rintro e a2 w2 ⟨rfl, c2, o3, f2⟩
  have o4 := o2.trans o3
  have hφ2 := o4.le.φ _ _ hφ
  obtain ⟨_, y2, hy2, hyr2⟩ := o4.sim.objs l _ b o lim sz hob2 hφ2
  split at he
  · cases he
    have hr : LoopRel CC c2 { rec2 with st := .ready, pend := none } { y2 with state := .ready, pending := none } := ⟨hyr2.tmps, hyr2.ps, hyr2.asg, hyr2.body, rfl, rfl, by simp⟩
    exact ⟨_, _, run_endRound none hy2, _, _, rfl, o4.trans (put_loop o4.sim hob2 hφ2 hr), .bool _⟩
  · rename_i hx
    cases he
    cases x with
    | normal => exact absurd rfl hx
    | exit id =>
      have hr : LoopRel CC c2 { rec2 with st := .done, pend := some (.exit id) } { y2 with state := .done, pending := some (.exit id) } := ⟨hyr2.tmps, hyr2.ps, hyr2.asg, hyr2.body, rfl, rfl, by simp⟩
      exact ⟨_, _, run_endRound (some (.exit id)) hy2, _, _, rfl, o4.trans (put_loop o4.sim hob2 hφ2 hr), .bool _⟩
    | ret =>
      have hr : LoopRel CC c2 { rec2 with st := .done, pend := some .ret } { y2 with state := .done, pending := some .ret } := ⟨hyr2.tmps, hyr2.ps, hyr2.asg, hyr2.body, rfl, rfl, by simp⟩
      exact ⟨_, _, run_endRound (some .ret) hy2, _, _, rfl, o4.trans (put_loop o4.sim hob2 hφ2 hr), .bool _⟩

/-- **A range over a function.** -/
theorem range_sound {E : Ex} (hCall : CallOk P CC base D (callD D E)) {f : Operand} {df : Opd} (hf : opd f = some df) {ps : Array Nat} {asg body : Code} {dasg dbody : DC} (hasg : CC asg dasg) (hbody : CC body dbody) {fr fr' : Fr} {x : DX} {h' : Heap}
    (he : rangeD D E df ps.toList dasg dbody fr h = some (x, fr', h')) {r : Option Nat} {k : Nat} {a : Act} (hg : GlobOk D c) (hfr : FrRel c r fr a) (hS : Sim CC base c h w.heap) :
    (Code.rangeFunc f ps asg body).wpIn (FF r) k P (fun e a' w' => e = x.exitOf ∧ ∃ c', Out CC base c h w c' h' w' ∧ FrRel c' r fr' a') a w := by
  unfold rangeD at he
  split at he <;> try (cases he; done)
  rename_i g first caps hev
  have hfv := opd_rel hg hfr.tmps hf
  rw [hev] at hfv
  obtain ⟨g', first', caps', hgr, hfirst, hcaps, hval⟩ := hfv.fn_inv
  cases hgr
  simp only at he
  -- the record is laid
  refine wpIn_rangeFunc fun fn _ => ?_
  have start : ∃ (fr1 : Fr) (h1 : Heap) (c1 : Cor) (w1 : World) (mark : List Deferred) (dfs : Nat), startD fr h = some (fr1, h1) ∧ Out CC base c h w c1 h1 w1 ∧ FrRel c1 r fr1 { a with defers := mark ++ a.defers } ∧
        (Instr.enterLoop fn a.tmps ps asg body r).run P w = .ok (w1.heap.size, mark) (w1.alloc (.loop { state := .ready, pending := none, fn, tmps := a.tmps, params := ps, assign := asg, body := body, defers := dfs })) := by
    have hinr := hfr.inr
    cases hi : fr.inr with
    | none =>
      rw [hi] at hinr
      cases r with
      | some b => exact hinr.elim
      | none =>
        have q := (hS.add .mark).obj (id := h.next) (ob := .mark) hS.φnext (Nat.lt_succ_self _) (by simp only [Heap.add]; exact Tr.get_set_same _ _ _) (x := .deferred (some [])) (lim := 0) (sz := 0) (by show (w.heap.push _)[w.heap.size]? = _; simp)
        have hle := Cor.le_obj hS.φnext w.heap.size 0 0 0
        refine ⟨{ fr with defers := .mark h.next :: fr.defers }, h.add .mark, c.obj h.next w.heap.size 0 0 0, w.alloc (.deferred (some [])), [{ target := .collected w.heap.size, args := #[] }], w.heap.size, by simp only [startD, hi], ⟨hle, q, Keeps.alloc w hS.size _, Nat.le_succ _, fun i hi2 hn => ⟨by simp only [Cor.obj]; rw [upd_ne _ _ (by omega)]; exact hn, by simp only [Heap.add]; exact Tr.get_set_ne _ _ (by omega)⟩, fun i _ hn => ⟨hn, rfl⟩⟩, ?_, ?_⟩
        · have := (hfr.mono hle).defer (.mark (upd_same _ _ _) .nil)
          exact this
        · have := run_enterLoop_outer (P := P) (w := w) fn a.tmps ps asg body
          rw [this]
          have hsz : (w.alloc (.deferred (some []))).heap.size = w.heap.size + 1 := by simp
          rw [hsz]
    | some l0 =>
      rw [hi] at hinr
      cases r with
      | none => exact hinr.elim
      | some b =>
        simp only [startD, hi] at he
        obtain ⟨o, lim, sz, hφ⟩ := hinr
        cases hl : h.objs.get l0 with
        | none => simp [hl] at he
        | some ob =>
          cases ob with
          | loop rc =>
            obtain ⟨_, y, hy, _⟩ := hS.objs l0 _ b o lim sz hl hφ
            refine ⟨fr, h, c, w, [], y.defers, by simp only [startD, hi, hl], Out.refl hS, hfr, ?_⟩
            simp only [Instr.enterLoop, Sem.run_bind, run_getLoop hy, Result.andThen_ok, Sem.run_pure, run_newObj_alloc]
          | cells _ _ => simp [hl] at he
          | siter _ _ => simp [hl] at he
          | mark => simp [hl] at he
  obtain ⟨fr1, h1, c1, w1, mark, dfs, hstart, o1, f1, hrun⟩ := start
  rw [hstart] at he
  simp only at he
  split at he <;> try (cases he; done)
  rename_i v2 h2 hcall
  split at he <;> try (cases he; done)
  rename_i rc hob
  split at he
  case isTrue => cases he
  rename_i hnb
  let y : Loop := { state := .ready, pending := none, fn, tmps := a.tmps, params := ps, assign := asg, body := body, defers := dfs }
  have hS1 := o1.sim
  have hrel : LoopRel CC (c1.obj h1.next w1.heap.size 0 0 0) { tmps := fr.tmps, ps := ps.toList, asg := dasg, body := dbody, st := .ready, pend := none } y :=
    ⟨(hfr.tmps.mono o1.le).mono (Cor.le_obj hS1.φnext _ _ _ _), rfl, hasg, hbody, rfl, rfl, by simp⟩
  have hle1 := Cor.le_obj hS1.φnext w1.heap.size 0 0 0
  have hS2 := (hS1.add (.loop { tmps := fr.tmps, ps := ps.toList, asg := dasg, body := dbody, st := .ready, pend := none })).obj (id := h1.next) (ob := .loop { tmps := fr.tmps, ps := ps.toList, asg := dasg, body := dbody, st := .ready, pend := none }) hS1.φnext (Nat.lt_succ_self _) (by simp only [Heap.add]; exact Tr.get_set_same _ _ _) (x := .loop y) (lim := 0) (sz := 0) ⟨y, by simp, hrel⟩
  have o2 : Out CC base c h w (c1.obj h1.next w1.heap.size 0 0 0) (h1.add (.loop { tmps := fr.tmps, ps := ps.toList, asg := dasg, body := dbody, st := .ready, pend := none })) (w1.alloc (.loop y)) :=
    o1.trans ⟨hle1, hS2, Keeps.alloc w1 hS1.size _, Nat.le_succ _, fun i hi2 hn => ⟨by simp only [Cor.obj]; rw [upd_ne _ _ (by omega)]; exact hn, by simp only [Heap.add]; exact Tr.get_set_ne _ _ (by omega)⟩, fun i _ hn => ⟨hn, rfl⟩⟩
  have hvargs : VRels (c1.obj h1.next w1.heap.size 0 0 0) (first ++ [.fn (.yield h1.next) [] []] ++ caps) (first' ++ [.func (.yield w1.heap.size) #[] #[]] ++ caps') :=
    ((hfirst.mono o2.le).append (.cons (.fn (.yield (upd_same _ _ _)) .nil .nil) .nil)).append (hcaps.mono o2.le)
  obtain ⟨gfn, hg1, hg2, hg3, hcalls⟩ := hCall _ _ _ _ _ hcall (k - 1) _ _ _ (hg.mono o2.le) hvargs o2.sim
  refine ⟨w1.heap.size, mark, w1.alloc (.loop y), { target := .fn (.func g) caps'.toArray, args := first'.toArray ++ #[.func (.yield w1.heap.size) #[] #[]] }, w1.alloc (.loop y), g, first'.toArray ++ #[.func (.yield w1.heap.size) #[] #[]] ++ caps'.toArray, w1.alloc (.loop y), hrun, ?_, fun _ _ => trivial, ?_, fun e => (by cases e), ?_⟩
  · have e1 : resolve a.eval (rangeCall f w1.heap.size) 0 = Deferred.ofValue (a.eval f) (#[Operand.const (.func (.yield w1.heap.size) #[] #[])].map a.eval) := rfl
    have e2 : #[Operand.const (.func (.yield w1.heap.size) #[] #[])].map a.eval = #[.func (.yield w1.heap.size) #[] #[]] := by
      rw [List.map_toArray]; rfl
    rw [e1, e2, hval]
    rfl
  · simp only [invoke]
    exact run_callFunc _ _ hg1 hg2 hg3
  · have hconv : (first' ++ [Value.func (.yield w1.heap.size) #[] #[]] ++ caps').toArray = first'.toArray ++ #[Value.func (.yield w1.heap.size) #[] #[]] ++ caps'.toArray := by simp
    rw [hconv] at hcalls
    refine CallsIn.mono (FF_calls hcalls) ?_
    rintro e w3 ⟨v', c3, rfl, o3, hv3⟩
    have o4 := o2.trans o3
    have hφl : c3.φ h1.next = some (w1.heap.size, 0, 0, 0) := o3.le.φ _ _ (upd_same _ _ _)
    obtain ⟨_, y3, hy3, hyr3⟩ := o4.sim.objs h1.next _ w1.heap.size 0 0 0 hob hφl
    have hnb' : y3.state ≠ .busy := by
      rw [hyr3.st]
      intro e
      apply hnb
      cases hst : rc.st <;> rw [hst] at e <;> first | rfl | cases e
    have hover : LoopRel CC c3 { rc with st := .over } { y3 with state := .exhausted } := ⟨hyr3.tmps, hyr3.ps, hyr3.asg, hyr3.body, rfl, hyr3.pend, hyr3.pn⟩
    have hend : ∃ w4, (Instr.endLoop w1.heap.size).run P w3 = .ok (rc.pend.map DX.jump) w4 ∧ Out CC base c h w c3 (h2.put h1.next (.loop { rc with st := .over })) w4 :=
      ⟨_, by rw [← hyr3.pend]; exact run_endLoop hy3 hnb', o4.trans (put_loop o4.sim hob hφl hover)⟩
    obtain ⟨w4, he4, o5⟩ := hend
    refine ⟨_, w4, he4, ?_⟩
    have f5 : FrRel c3 r fr1 { a with defers := mark ++ a.defers } := f1.mono (hle1.trans o3.le)
    have hpn := hyr3.pn
    generalize rc.pend = pd at he o5 hpn
    cases pd with
    | none =>
      cases he
      exact ⟨rfl, c3, o5, f5⟩
    | some xx =>
      cases he
      cases x with
      | normal => exact absurd rfl hpn
      | exit id => exact wpIn_exit ⟨rfl, c3, o5, f5⟩
      | ret => exact wpIn_ret ⟨rfl, c3, o5, f5⟩
end
end Go.Dm
/- The D-machine (21): every operation; calls. -/
namespace Go.Dm
set_option linter.unusedSimpArgs false
set_option linter.unusedVariables false
set_option linter.unnecessarySimpa false

section
variable {P : Program} {cfg : Cfg} {mf : Bool} {CC : Code → DC → Prop} {base : Nat} {D : DProg} {c : Cor} {h : Heap} {w : World} {fr : Fr}

theorem call_inv {op : Op} {f : Opd} {az : List Opd} {z : Bool} (hc : compOp P cfg mf op = some (.call f az z)) : ∃ cl f', op = .call cl ∧ cl.callee = .value f' ∧ opd f' = some f ∧ opds cl.args.toList = some az := by
  cases op <;> simp only [compOp] at hc <;> try (cases hc; done)
  case call cl =>
    obtain ⟨callee, args, argTypes⟩ := cl
    simp only [compCall] at hc
    split at hc <;> try (cases hc; done)
    · split at hc <;> try (cases hc; done)
      cases hc
      exact ⟨_, _, rfl, rfl, ‹_›, ‹_›⟩
    · exfalso
      repeat' first | (cases hc; done) | (obtain ⟨_, _, h2⟩ := Option.map_eq_some_iff.1 hc; cases h2; done) | split at hc
  all_goals exfalso
  case alloc => obtain ⟨_, _, h2⟩ := Option.bind_eq_some_iff.1 hc; split at h2 <;> cases h2
  case next x s => cases s <;> simp only [compOp] at hc <;> first | (cases hc; done) | (obtain ⟨_, _, h2⟩ := Option.map_eq_some_iff.1 hc; cases h2)
  all_goals (repeat' first | (cases hc; done) | (obtain ⟨_, _, h2⟩ := Option.map_eq_some_iff.1 hc; cases h2; done) | split at hc)
theorem defr_inv {op : Op} {f : Opd} {az : List Opd} (hc : compOp P cfg mf op = some (.defr f az)) : ∃ cl f', op = .defer cl ∧ cl.callee = .value f' ∧ opd f' = some f ∧ opds cl.args.toList = some az := by
  cases op <;> simp only [compOp] at hc <;> try (cases hc; done)
  case defer cl =>
    obtain ⟨callee, args, argTypes⟩ := cl
    simp only at hc
    split at hc <;> try (cases hc; done)
    split at hc <;> try (cases hc; done)
    cases hc
    exact ⟨_, _, rfl, rfl, ‹_›, ‹_›⟩
  all_goals exfalso
  case call cl =>
    obtain ⟨callee, args, argTypes⟩ := cl
    simp only [compCall] at hc
    repeat' first | (cases hc; done) | (obtain ⟨_, _, h2⟩ := Option.map_eq_some_iff.1 hc; cases h2; done) | split at hc
  case alloc => obtain ⟨_, _, h2⟩ := Option.bind_eq_some_iff.1 hc; split at h2 <;> cases h2
  case next x s => cases s <;> simp only [compOp] at hc <;> first | (cases hc; done) | (obtain ⟨_, _, h2⟩ := Option.map_eq_some_iff.1 hc; cases h2)
  all_goals (repeat' first | (cases hc; done) | (obtain ⟨_, _, h2⟩ := Option.map_eq_some_iff.1 hc; cases h2; done) | split at hc)

/-- What an operation may come to. -/
theorem evalOp_cases {d : DOp} {r : EvR} (he : evalOp D fr h d = some r) : (∃ v h', stepEv h r = some (v, h')) ∨ (∃ g az z f xs, r = .call g az z ∧ d = .call f xs z ∧ callV (ev D fr f) (evs D fr xs) z = some r) ∨
    (∃ l az z f xs, r = .yield l az ∧ d = .call f xs z ∧ callV (ev D fr f) (evs D fr xs) z = some r) ∨ ∃ g az f xs, r = .defr g az ∧ d = .defr f xs := by
  cases r with
  | val v => exact .inl ⟨_, _, rfl⟩
  | newO b mk => exact .inl ⟨_, _, rfl⟩
  | newT sz mk => exact .inl ⟨_, _, rfl⟩
  | eff v h' => exact .inl ⟨_, _, rfl⟩
  | call g az z =>
    right; left
    cases d <;> simp only [evalOp, convD, sliceD, appendD, copyD] at he
    case call f xs z' =>
      have : z = z' := by
        unfold callV at he
        split at he <;> cases he
        rfl
      subst this
      exact ⟨_, _, _, _, _, rfl, rfl, he⟩
    all_goals exfalso
    all_goals (repeat' first | (cases he; done) | (obtain ⟨_, _, h2⟩ := Option.map_eq_some_iff.1 he; cases h2; done) | split at he)
  | yield l az =>
    right; right; left
    cases d <;> simp only [evalOp, convD, sliceD, appendD, copyD] at he
    case call f xs z => exact ⟨_, _, _, _, _, rfl, rfl, he⟩
    all_goals exfalso
    all_goals (repeat' first | (cases he; done) | (obtain ⟨_, _, h2⟩ := Option.map_eq_some_iff.1 he; cases h2; done) | split at he)
  | defr g az =>
    right; right; right
    cases d <;> simp only [evalOp, convD, sliceD, appendD, copyD] at he
    case defr f xs => exact ⟨_, _, _, _, rfl, rfl⟩
    all_goals exfalso
    case call f xs z => unfold callV at he; split at he <;> cases he
    all_goals (repeat' first | (cases he; done) | (obtain ⟨_, _, h2⟩ := Option.map_eq_some_iff.1 he; cases h2; done) | split at he)

theorem semAt_of {r : Option Nat} {a : Act} {o : Oper} (h : ∀ cl, o.op = .defer cl → r = none) : o.semAt (FF r).round a.eval = execOp a.eval o := by
  cases r with
  | none => rfl
  | some l => exact Oper.semAt_eq _ _ _ fun cl e => by cases h cl e

theorem op_sound {E : Ex} (hCall : CallOk P CC base D (callD D E)) (hCode : CodeOk P CC base D E) {o : Oper} {ro : ROp} (hc : compOp P cfg mf o.op = some ro.op) (hd : ro.dst = o.dst) {fr' : Fr} {h' : Heap} (he : runOp D E ro fr h = some (fr', h'))
    {r : Option Nat} {k : Nat} {a : Act} (hg : GlobOk D c) (hfr : FrRel c r fr a) (hS : Sim CC base c h w.heap) {K : Act → World → Prop} {Q : Exit → Act → World → Prop}
    (hK : ∀ a' w' c', Out CC base c h w c' h' w' → FrRel c' r fr' a' → K a' w') : o.wpIn (FF r) k P a w K Q := by
  refine ⟨fun _ _ => trivial, ?_⟩
  unfold runOp at he
  cases hev : evalOp D fr h ro.op with
  | none => rw [hev] at he; cases he
  | some r0 =>
    rw [hev] at he
    rcases evalOp_cases hev with ⟨v, h1, hst⟩ | ⟨g, az, z, f, xs, rfl, hop, hcv⟩ | ⟨l, az, z, f, xs, rfl, hop, hcv⟩ | ⟨g, az, f, xs, rfl, hop⟩
    · -- no call
      have hstep : fr' = fr.put ro.dst v ∧ h' = h1 := by
        cases r0 <;> simp only [stepEv] at hst <;> cases hst <;> cases he <;> exact ⟨rfl, rfl⟩
      obtain ⟨rfl, rfl⟩ := hstep
      rw [semAt_of (fun cl e => by
        exfalso
        rw [e] at hc
        simp only [compOp] at hc
        split at hc <;> try (cases hc; done)
        split at hc <;> try (cases hc; done)
        have hop := Option.some.inj hc
        rw [← hop] at hev
        simp only [evalOp] at hev
        split at hev <;> try (cases hev; done)
        split at hev <;> cases hev
        cases hst)]
      obtain ⟨n, w', c', v', hrun, hn, ho, hv⟩ := eff_sound hc hg hfr.tmps hS hev hst
      rw [hrun]
      rcases hn with rfl | ⟨rfl, rfl⟩
      · rw [Oper.uponIn_value, ← hd]
        exact hK _ _ _ ho ((hfr.mono ho.le).put _ hv)
      · rw [Oper.uponIn_skip, ← hd]
        exact hK _ _ _ ho ((hfr.mono ho.le).put _ hv)
    · -- a call
      rw [hop] at hc
      obtain ⟨cl, f', hcl1, hcl2, hf', hxs⟩ := call_inv hc
      rw [semAt_of (fun cl' e => by rw [hcl1] at e; cases e)]
      have hfv := opd_rel hg hfr.tmps hf'
      have hav := opds_rel hg hfr.tmps hxs
      unfold callV at hcv
      split at hcv <;> try (cases hcv; done)
      rename_i g0 first caps hef
      cases hcv
      rw [hef] at hfv
      obtain ⟨g', first', caps', hgr, hfirst, hcaps, hval⟩ := hfv.fn_inv
      cases hgr
      simp only at he
      split at he <;> try (cases he; done)
      rename_i v h1 hcall
      have hvargs := (hfirst.append hav).append hcaps
      obtain ⟨gfn, hg1, hg2, hg3, hcalls⟩ := hCall _ _ _ _ _ hcall (k - 1) _ _ _ hg hvargs hS
      have hrun : (execOp a.eval o).run P w = .ok (.enter g (first' ++ cl.args.toList.map a.eval ++ caps').toArray) w := by
        have e1 : execOp a.eval o = (do let d ← resolve a.eval cl o.type; invoke d.target d.args) := by
          unfold execOp; rw [hcl1]
        have e2 : resolve a.eval cl o.type = Deferred.ofValue (a.eval f') (cl.args.map a.eval) := by
          unfold resolve; rw [hcl2]
        rw [e1, e2, hval]
        simp only [Deferred.ofValue, Sem.run_bind, Sem.run_pure, Result.andThen_ok, invoke]
        have e3 : first'.toArray ++ Array.map a.eval cl.args ++ caps'.toArray = (first' ++ cl.args.toList.map a.eval ++ caps').toArray := by
          apply Array.ext'; simp
        rw [e3]
        exact run_callFunc _ _ hg1 hg2 hg3
      rw [hrun, Oper.uponIn_enter]
      refine ⟨fun e => (by cases e), CallsIn.mono (FF_calls hcalls) ?_⟩
      rintro e w3 ⟨v', c3, rfl, o3, hv3⟩
      show K (a.put o.dst v') w3
      rw [← hd]
      split at he
      · obtain ⟨⟨v2, h2⟩, hfz, he2⟩ := Option.map_eq_some_iff.1 he
        cases he2
        obtain ⟨c4, o4, hv4⟩ := frz_sound o3.sim hv3 hfz
        exact hK _ _ _ (o3.trans o4) ((hfr.mono (o3.trans o4).le).put _ hv4)
      · cases he
        exact hK _ _ _ o3 ((hfr.mono o3.le).put _ hv3)
    · -- yield
      rw [hop] at hc
      obtain ⟨cl, f', hcl1, hcl2, hf', hxs⟩ := call_inv hc
      rw [semAt_of (fun cl' e => by rw [hcl1] at e; cases e)]
      have hfv := opd_rel hg hfr.tmps hf'
      have hav := opds_rel hg hfr.tmps hxs
      unfold callV at hcv
      split at hcv <;> try (cases hcv; done)
      rename_i l0 hef
      cases hcv
      rw [hef] at hfv
      obtain ⟨g', first', caps', hgr, hfirst, hcaps, hval⟩ := hfv.fn_inv
      cases hfirst; cases hcaps
      cases hgr with
      | yield hφ =>
        rename_i b o1 lim sz
        simp only at he
        obtain ⟨⟨v, h1⟩, hy, he2⟩ := Option.map_eq_some_iff.1 he
        cases he2
        obtain ⟨y, hrun1, hround⟩ := yield_sound hCode hy hφ hg hav hS r (k - 1)
        have hrun : (execOp a.eval o).run P w = .ok (.round b y.fn ((y.params.zip (cl.args.toList.map a.eval).toArray).foldl (fun tmps (t, a) => tmps.setIfInBounds t a) y.tmps) y.assign y.body) w := by
          have e1 : execOp a.eval o = (do let d ← resolve a.eval cl o.type; invoke d.target d.args) := by
            unfold execOp; rw [hcl1]
          have e2 : resolve a.eval cl o.type = Deferred.ofValue (a.eval f') (cl.args.map a.eval) := by
            unfold resolve; rw [hcl2]
          rw [e1, e2, hval]
          simp only [Deferred.ofValue, Sem.run_bind, Sem.run_pure, Result.andThen_ok, invoke]
          have e3 : ([] : List Value).toArray ++ Array.map a.eval cl.args = (cl.args.toList.map a.eval).toArray := by
            apply Array.ext'; simp
          rw [e3]
          exact hrun1
        rw [hrun, Oper.uponIn_round]
        refine ⟨fun e => (by cases e), RoundIn.mono hround ?_⟩
        rintro e w3 ⟨v', c3, rfl, o3, hv3⟩
        show K (a.put o.dst v') w3
        rw [← hd]
        exact hK _ _ _ o3 ((hfr.mono o3.le).put _ hv3)
    · -- defer
      rw [hop] at hc
      obtain ⟨cl, f', hcl1, hcl2, hf', hxs⟩ := defr_inv hc
      rw [hop] at hev
      simp only [evalOp] at hev
      split at hev
      case isTrue => cases hev
      rename_i hnr
      split at hev <;> try (cases hev; done)
      rename_i g0 first caps hef
      cases hev
      cases he
      have hr : r = none := by
        have := hfr.inr
        cases hi : fr.inr with
        | some l => rw [hi] at hnr; simp at hnr
        | none =>
          rw [hi] at this
          cases r with
          | none => rfl
          | some b => exact this.elim
      subst hr
      have hfv := opd_rel hg hfr.tmps hf'
      have hav := opds_rel hg hfr.tmps hxs
      rw [hef] at hfv
      obtain ⟨g', first', caps', hgr, hfirst, hcaps, hval⟩ := hfv.fn_inv
      cases hgr
      have hrun : ((o.semAt (FF none).round a.eval)).run P w = .ok (.defer { target := .fn (.func g) caps'.toArray, args := first'.toArray ++ cl.args.map a.eval }) w := by
        have e1 : o.semAt (FF none).round a.eval = (do pure (.defer (← resolve a.eval cl o.type))) := by
          show execOp a.eval o = _
          unfold execOp; rw [hcl1]
        have e2 : resolve a.eval cl o.type = Deferred.ofValue (a.eval f') (cl.args.map a.eval) := by
          unfold resolve; rw [hcl2]
        rw [e1, e2, hval]
        rfl
      rw [hrun, Oper.uponIn_defer, ← hd]
      refine hK _ _ _ (Out.refl hS) ((hfr.defer (.call ?_ .nil)).put _ .undef)
      have := (hfirst.append hav).append hcaps
      simpa using this

/-! ### a function -/
theorem results_rel (hS : Sim CC base c h w.heap) {ts : List DV} {us : Array Value} (ht : VRels c ts us.toList) {fr : Fr} (hfr : fr.tmps = ts) {g : ResultVar → Sem Value} (hg1 : ∀ t, g (.tmp t) = pure (us.getD t undef)) (hg2 : ∀ a t, g (.cell a t) = do loadVar t (← asAddr (us.getD a undef))) :
    ∀ (rs : List ResultVar) (ds : List DRes) (vs : List DV), compRes P rs = some ds → resD fr h ds = some vs → ∃ us', (rs.mapM (m := Sem) g).run P w = .ok us' w ∧ VRels c vs us' := by
  subst hfr
  intro rs
  induction rs with
  | nil => intro ds vs h1 h2; simp [compRes] at h1; subst h1; simp [resD] at h2; subst h2; exact ⟨[], by simp, .nil⟩
  | cons r rs ih =>
    intro ds vs h1 h2
    cases r with
    | tmp t =>
      simp only [compRes] at h1
      obtain ⟨ds', h3, rfl⟩ := Option.map_eq_some_iff.1 h1
      simp only [resD] at h2
      obtain ⟨vs', h4, rfl⟩ := Option.map_eq_some_iff.1 h2
      obtain ⟨us', h5, h6⟩ := ih _ _ h3 h4
      refine ⟨us.getD t undef :: us', ?_, .cons (by simpa using ht.getD t) h6⟩
      rw [List.mapM_cons]
      simp only [Sem.run_bind, hg1, Sem.run_pure, Result.andThen_ok, h5]
    | cell t ty =>
      simp only [compRes] at h1
      split at h1 <;> try (cases h1; done)
      rename_i sh ds' hsh h3
      cases h1
      simp only [resD] at h2
      split at h2 <;> try (cases h2; done)
      rename_i v vs' hv h4
      cases h2
      obtain ⟨us', h5, h6⟩ := ih _ _ h3 h4
      obtain ⟨u, h7, h8⟩ := load_rel (P := P) w hS hsh (ht.getD t) hv
      refine ⟨u :: us', ?_, .cons h8 h6⟩
      have h9 : ((do loadVar ty (← asAddr (us.getD t undef)) : Sem Value)).run P w = .ok u w := by
        have hval : ∃ a, us.getD t undef = .pointer (some a) := by
          have hr := ht.getD t
          generalize fr.tmps.getD t .undef = X at hr hv
          have e : us.toList.getD t undef = us.getD t undef := by simp
          rw [e] at hr
          cases X <;> simp only [loadD] at hv <;> try (cases hv; done)
          · obtain ⟨b, o, _, _, _, hv'⟩ := hr.ptr_inv; exact ⟨_, hv'⟩
          · obtain ⟨_, b, o, _, _, _, hv'⟩ := hr.elt_inv; exact ⟨_, hv'⟩
        obtain ⟨a, ha⟩ := hval
        rw [ha]
        have e : us.toList.getD t undef = us.getD t undef := by simp
        rw [e, ha] at h7
        simpa [Instr.loadAt, Instr.sureAddr, asAddr] using h7
      rw [List.mapM_cons, hg2]
      simp only [Sem.run_bind]
      simp only [Sem.run_bind] at h9
      simp only [h9, Result.andThen_ok, h5, Sem.run_pure]
theorem tup_rel {vs : List DV} {us : List Value} (hv : VRels c vs us) : VRel c (tupD vs) (if h : us.toArray.size = 1 then us.toArray[0] else .tuple us.toArray) := by
  cases hv with
  | nil => simpa [tupD] using VRel.tup .nil
  | cons h1 hs =>
    cases hs with
    | nil => simpa [tupD] using h1
    | cons h2 hs' =>
      have := VRel.tup (.cons h1 (.cons h2 hs'))
      simpa [tupD] using this
theorem results_sound (hS : Sim CC base c h w.heap) {fn : Func} {fr : Fr} {us : Array Value} (ht : VRels c fr.tmps us.toList) {ds : List DRes} {vs : List DV} (h1 : compRes P fn.results.toList = some ds) (h2 : resD fr h ds = some vs) :
    ∃ u, (results fn us).run P w = .ok u w ∧ VRel c (tupD vs) u := by
  obtain ⟨us', h3, h4⟩ := results_rel (P := P) hS ht rfl (g := fun
      | .tmp t => pure (us.getD t undef)
      | .cell a t => do loadVar t (← asAddr (us.getD a undef))) (fun _ => rfl) (fun _ _ => rfl) _ _ _ h1 h2
  refine ⟨_, ?_, tup_rel h4⟩
  simp only [results, Sem.run_bind]
  rw [Array.mapM_eq_mapM_toList]
  simp only [Sem.run_map]
  refine (congrArg (fun x => (Result.andThen x fun a w' => Result.ok a.toArray w').andThen fun a w' => Sem.run P (pure (if h : a.size = 1 then a[0] else Value.tuple a)) w') h3).trans ?_
  rfl
end
end Go.Dm
/- The D-machine (22): functions. -/
namespace Go.Dm
set_option linter.unusedSimpArgs false
set_option linter.unusedVariables false
set_option linter.unnecessarySimpa false

section
variable {P : Program} {cfg : Cfg} {CC : Code → DC → Prop} {base : Nat} {D : DProg} {c : Cor} {h : Heap} {w : World}

/-- The body of a function, entered. -/
theorem body_sound {E : Ex} (hE : CodeOk P CC base D E) (hCC : ∀ mf code dc, compC P cfg mf code = some dc → CC code dc) (hD : ∀ f df, D.fn f = some df → compF P cfg f = some df) {f : Nat} {args : List DV} {d : DFunc} {fr : Fr} {h' : Heap}
    (he : bodyD D E f args h = some (d, fr, h')) {vargs : List Value} (hg : GlobOk D c) (ha : VRels c args vargs) (hS : Sim CC base c h w.heap) (k : Nat) :
    ∃ fn code, P.funcs[f]? = some fn ∧ (fn.name == "runtime.NumGoroutine") = false ∧ fn.body = some code ∧ compRes P fn.results.toList = some d.res ∧
      code.wpIn Fence.wide k P (fun e a' w' => (e = .normal ∨ e = .ret) ∧ ∃ c', Out CC base c h w c' h' w' ∧ FrRel c' none fr a') { tmps := vargs.toArray ++ Array.replicate (fn.ntmps - vargs.toArray.size) undef, defers := [] } w := by
  unfold bodyD at he
  split at he <;> try (cases he; done)
  rename_i d0 hd
  have hcf := hD f d0 hd
  unfold compF at hcf
  split at hcf <;> try (cases hcf; done)
  rename_i fn hfn
  split at hcf <;> try (cases hcf; done)
  rename_i hname
  split at hcf <;> try (cases hcf; done)
  rename_i code hcode
  split at hcf <;> try (cases hcf; done)
  rename_i b rs hb hrs
  cases hcf
  have hname' : (fn.name == "runtime.NumGoroutine") = false := by simpa using hname
  have hfr : FrRel c none { tmps := args ++ List.replicate (fn.ntmps - args.length) .undef, defers := [], inr := none } { tmps := vargs.toArray ++ Array.replicate (fn.ntmps - vargs.toArray.size) undef, defers := [] } := by
    refine ⟨?_, .nil, trivial⟩
    have hl := ha.length_eq
    have := ha.append (VRels.replicate (c := c) (x := .undef) (v := undef) .undef (fn.ntmps - args.length))
    rw [hl] at this
    simpa [hl] using this
  have main : ∀ x fr1 h1, E b { tmps := args ++ List.replicate (fn.ntmps - args.length) .undef, defers := [], inr := none } h = some (x, fr1, h1) → (x = .normal ∨ x = .ret) →
      code.wpIn Fence.wide k P (fun e a' w' => (e = .normal ∨ e = .ret) ∧ ∃ c', Out CC base c h w c' h1 w' ∧ FrRel c' none fr1 a') { tmps := vargs.toArray ++ Array.replicate (fn.ntmps - vargs.toArray.size) undef, defers := [] } w := by
    intro x fr1 h1 hex hx
    refine wpIn_mono (hE _ _ (hCC _ _ _ hb) _ _ _ _ _ hex none k c _ w hg hfr hS) ?_
    rintro e a' w' ⟨rfl, hrest⟩
    exact ⟨by rcases hx with rfl | rfl <;> simp [DX.exitOf], hrest⟩
  simp only at he
  split at he
  · rename_i fr1 h1 hex
    cases he
    exact ⟨fn, code, hfn, hname', hcode, hrs, main _ _ _ hex (.inl rfl)⟩
  · rename_i fr1 h1 hex
    cases he
    exact ⟨fn, code, hfn, hname', hcode, hrs, main _ _ _ hex (.inr rfl)⟩
  · cases he

theorem leaves_sound {E : Ex} (hE : CodeOk P CC base D E) (hCC : ∀ mf code dc, compC P cfg mf code = some dc → CC code dc) (hD : ∀ f df, D.fn f = some df → compF P cfg f = some df) {fn : Func} {tmps : Array Value} {R : Ending → World → Prop} (k : Nat) :
    ∀ (ds : List DDef) (vs : List Deferred) (c : Cor) (h h' : Heap) (w : World), leaveD ds h (callDef D E) = some h' → DefRel c ds vs → GlobOk D c → Sim CC base c h w.heap →
      (∀ c' w', Out CC base c h w c' h' w' → ∃ v, (results fn tmps).run P w' = .ok v w' ∧ R (.returned v) w') → LeavesInM Fence.wide k P fn tmps R vs .returning w := by
  intro ds
  induction ds with
  | nil =>
    intro vs c h h' w he hd hg hS hR
    cases hd
    simp only [leaveD] at he
    cases he
    exact hR c w (Out.refl hS)
  | cons d ds ih =>
    intro vs c h h' w he hd hg hS hR
    cases hd with
    | mark hφ hs =>
      rename_i id b o lim sz vs
      simp only [leaveD] at he
      split at he <;> try (cases he; done)
      rename_i hob
      obtain ⟨hb0, hob'⟩ := hS.objs id _ b o lim sz hob hφ
      have hblk : w.heap[b]? = some (.deferred (some [])) := hob'
      have hA := (hS.drop id).alter (H' := (w.putObj b (.deferred none)).heap) (b := b) (fun i hi => World.putObj_heap_other hi) World.putObj_size (hS.noObj_drop hob hφ) (hS.noTag_obj hob hφ) (fun j v hk => by rw [hS.sep id _ b o lim sz hob hφ] at hk; cases hk)
      have o1 : Out CC base c h w c (h.drop id) (w.putObj b (.deferred none)) := ⟨Cor.le.refl c, hA, ⟨by simp, fun i hi => World.putObj_heap_other (by omega), rfl, rfl, rfl⟩, Nat.le_refl _, fun i _ hn => ⟨hn, by simp only [Heap.drop]; exact Tr.get_set_ne _ _ (fun e => by subst e; rw [hφ] at hn; cases hn)⟩, fun _ _ hn => ⟨hn, rfl⟩⟩
      refine ⟨by simp, .inl ⟨b, _, rfl, run_takeDeferred hblk, ?_⟩⟩
      exact ih _ c _ _ _ he hs hg o1.sim fun c' w' o2 => hR c' w' (o1.trans o2)
    | call ha hs =>
      rename_i f args az cap vs
      simp only [leaveD] at he
      obtain ⟨h1, hdef, hrest⟩ := Option.bind_eq_some_iff.1 he
      unfold callDef at hdef
      split at hdef <;> try (cases hdef; done)
      rename_i d fr h2 hbody
      split at hdef <;> try (cases hdef; done)
      rename_i hdf
      split at hdef <;> try (cases hdef; done)
      rename_i rv hres
      cases hdef
      obtain ⟨gfn, code, g1, g2, g3, g4, hwp⟩ := body_sound (cfg := cfg) hE hCC hD hbody hg ha hS (k - 1)
      have hargs : (az.toList ++ cap.toList).toArray = az ++ cap := by apply Array.ext'; simp
      rw [hargs] at hwp
      refine ⟨by simp, .inr ⟨fun e => (by cases e), .func f, cap, f, az ++ cap, rfl, ?_, fun _ _ => trivial, ?_⟩⟩
      · simp only [invoke]
        exact run_callFunc _ _ g1 g2 (by rw [g3]; rfl)
      · have hcd := callsDIn_of_wp (F := Fence.wide) (n := k - 1) (P := P) (f := f) (fn := gfn) (c := code) (args := az ++ cap) (u := .returning) (w := w) (R := fun e w' => ∃ v c', e = .returned v ∧ Out CC base c h w c' h1 w') g1 g3 trivial (wpIn_mono hwp fun e a' w' hq => by
          obtain ⟨hx, c', o1, f1⟩ := hq
          have hds : a'.defers = [] := by
            have := f1.defers
            rw [hdf] at this
            generalize a'.defers = vs' at this
            cases this; rfl
          obtain ⟨u, hu, hur⟩ := results_sound (P := P) o1.sim f1.tmps g4 hres
          rcases hx with rfl | rfl
          · exact ⟨hds, u, hu, u, c', rfl, o1⟩
          · exact ⟨hds, u, hu, u, c', rfl, o1⟩)
        refine ⟨hcd.1, fun c0 cs hm hroom => ?_⟩
        obtain ⟨e, u', w', fr', ⟨rfl, v, c', rfl, o1⟩, hrest2⟩ := hcd.2 c0 cs hm hroom
        exact ⟨_, _, w', fr', ih _ c' _ _ _ hrest (hs.mono o1.le) (hg.mono o1.le) o1.sim fun c2 w2 o2 => hR c2 w2 (o1.trans o2), hrest2⟩

theorem call_sound {E : Ex} (hE : CodeOk P CC base D E) (hCC : ∀ mf code dc, compC P cfg mf code = some dc → CC code dc) (hD : ∀ f df, D.fn f = some df → compF P cfg f = some df)
    (hprim : CallOk P CC base D (fun f args h => (D.prim f).bind fun p => p args h)) : CallOk P CC base D (callD D E) := by
  intro f args h v h' he k c w vargs hg ha hS
  unfold callD at he
  split at he
  · rename_i p hp
    exact hprim f args h v h' (by simp [hp, he]) k c w vargs hg ha hS
  · split at he <;> try (cases he; done)
    rename_i d fr h1 hbody
    split at he <;> try (cases he; done)
    rename_i h'' hleave
    obtain ⟨vs, hvs, hv⟩ := Option.map_eq_some_iff.1 he
    cases hv
    obtain ⟨fn, code, g1, g2, g3, g4, hwp⟩ := body_sound (cfg := cfg) hE hCC hD hbody hg ha hS k
    refine ⟨fn, g1, g2, by rw [g3]; rfl, callsIn_of_wp_marks (F := Fence.wide) g1 g3 trivial (wpIn_mono hwp fun e a' w' hq => ?_)⟩
    obtain ⟨hx, c', o1, f1⟩ := hq
    have hl : LeavesInM Fence.wide k P fn a'.tmps (RetOk CC base c h w (tupD vs) h') a'.defers .returning w' := by
      refine leaves_sound (cfg := cfg) hE hCC hD k _ _ c' _ _ _ hleave f1.defers (hg.mono o1.le) o1.sim fun c2 w2 o2 => ?_
      obtain ⟨u, hu, hur⟩ := results_sound (P := P) o2.sim (f1.tmps.mono o2.le) g4 hvs
      exact ⟨u, hu, u, c2, rfl, o1.trans o2, hur⟩
    rcases hx with rfl | rfl
    · exact hl
    · exact hl
end
end Go.Dm
/- The D-machine (23): regions: the list of their operations, in order or in our order. -/
namespace Go.Dm
set_option linter.unusedSimpArgs false
set_option linter.unusedVariables false
set_option linter.unnecessarySimpa false

section
variable {P : Program} {cfg : Cfg} {mf : Bool} {CC : Code → DC → Prop} {base : Nat} {D : DProg} {c : Cor} {h : Heap} {w : World}

theorem rop_some {ops : Array Oper} {o : Oper} {ro : ROp} (hc : compRop P cfg mf ops o = some ro) : compOp P cfg mf o.op = some ro.op ∧ ro.dst = o.dst ∧ ro.chk = [] ∧
    ((o.guard = none ∧ ro.guard = none) ∨ ∃ j b d, o.guard = some (j, b) ∧ ro.guard = some (d, b) ∧ (ops[j]?).bind (·.dst) = some d) := by
  unfold compRop at hc
  split at hc <;> try (cases hc; done)
  rename_i op hop
  split at hc
  · rename_i hg
    cases hc
    exact ⟨hop, rfl, rfl, .inl ⟨hg, rfl⟩⟩
  · rename_i j b hg
    split at hc <;> try (cases hc; done)
    rename_i d hd
    cases hc
    exact ⟨hop, rfl, rfl, .inr ⟨j, b, d, hg, rfl, hd⟩⟩
theorem wanted_rel {ops : Array Oper} {o : Oper} {ro : ROp} (hc : compRop P cfg mf ops o = some ro) {fr : Fr} {a : Act} (hf : VRels c fr.tmps a.tmps.toList) : Region.wanted o (yielded ops a.tmps) = wantedG ro.guard fr := by
  rcases (rop_some hc).2.2.2 with ⟨h1, h2⟩ | ⟨j, b, d, h1, h2, h3⟩
  · simp [Region.wanted, wantedG, h1, h2]
  · simp only [Region.wanted, wantedG, h1, h2, yielded, h3, Option.bind_some]
    cases hx : fr.tmps[d]? with
    | none =>
      have : a.tmps[d]? = none := by
        have h4 := hf.length_eq
        simp at hx h4 ⊢; omega
      rw [this, List.getD_eq_getElem?_getD, hx]
      simp
    | some x =>
      obtain ⟨v, h4, h5⟩ := hf.get d hx
      have h6 : a.tmps[d]? = some v := by simpa using h4
      rw [h6, List.getD_eq_getElem?_getD, hx]
      simp only [Option.getD_some]
      cases h5 <;> simp

/-- **A region in the order of its text.** -/
theorem seq_sound {E : Ex} (hCall : CallOk P CC base D (callD D E)) (hCode : CodeOk P CC base D E) {ops : Array Oper} {r : Option Nat} {k : Nat} {fr' : Fr} {h' : Heap} {Q : Exit → Act → World → Prop} :
    ∀ (l : List Oper) (rs : List ROp) (c : Cor) (fr : Fr) (h : Heap) (a : Act) (w : World), compRops P cfg mf ops l = some rs → runOps D E rs fr h = some (fr', h') → GlobOk D c → FrRel c r fr a → Sim CC base c h w.heap →
      (∀ a' w' c', Out CC base c h w c' h' w' → FrRel c' r fr' a' → Q .normal a' w') → wpListIn (FF r) k P ops Q l a w := by
  intro l
  induction l with
  | nil =>
    intro rs c fr h a w hc he hg hfr hS hQ
    simp [compRops] at hc; subst hc
    simp [runOps] at he
    obtain ⟨rfl, rfl⟩ := he
    exact hQ a w c (Out.refl hS) hfr
  | cons o l ih =>
    intro rs c fr h a w hc he hg hfr hS hQ
    simp only [compRops] at hc
    split at hc <;> try (cases hc; done)
    rename_i ro ros h1 h2
    cases hc
    obtain ⟨q1, q2, q3, _⟩ := rop_some h1
    simp only [wpListIn]
    rw [wanted_rel h1 hfr.tmps, show wantedG ro.guard fr = wantedD ro fr from rfl]
    simp only [runOps] at he
    split at he
    · rename_i hw
      rw [if_pos hw]
      split at he <;> try (cases he; done)
      rename_i fr1 hh1 hop
      split at he
      case isFalse => cases he
      exact op_sound hCall hCode q1 q2 hop hg hfr hS fun a' w' c' o1 f1 => ih ros c' fr1 hh1 a' w' h2 he (hg.mono o1.le) f1 o1.sim fun a2 w2 c2 o2 f2 => hQ a2 w2 c2 (o1.trans o2) f2
    · rename_i hw
      rw [if_neg hw, ← q2]
      exact ⟨fun _ _ => trivial, ih ros c _ h _ w h2 he hg (hfr.put _ .undef) hS hQ⟩

/-! ### an operation looks at its operands alone -/
theorem evs_congr {fr fr2 : Fr} : ∀ {xs : List Opd}, (∀ x ∈ xs, ev D fr x = ev D fr2 x) → evs D fr xs = evs D fr2 xs
  | [], _ => rfl
  | x :: xs, h => by
    simp only [evs, List.map_cons]
    rw [h x (by simp)]
    have := evs_congr (xs := xs) fun y hy => h y (by simp [hy])
    simp only [evs] at this
    rw [this]
theorem evO_congr {fr fr2 : Fr} {x : Option Opd} (h : ∀ y ∈ x.toList, ev D fr y = ev D fr2 y) : evO D fr x = evO D fr2 x := by
  cases x with
  | none => rfl
  | some y => simp [evO, h y (by simp)]
theorem evalOp_congr {fr fr2 : Fr} (d : DOp) (h1 : ∀ x ∈ d.opds, ev D fr x = ev D fr2 x) (h2 : fr.inr = fr2.inr) : evalOp D fr h d = evalOp D fr2 h d := by
  cases d
  case build zero ps =>
    have e : ps.map (fun p => (p.1, p.2.1, ev D fr p.2.2)) = ps.map fun p => (p.1, p.2.1, ev D fr2 p.2.2) := List.map_congr_left fun p hp => by
      rw [h1 p.2.2 (by simp only [DOp.opds, List.mem_map]; exact ⟨p, hp, rfl⟩)]
    simp only [evalOp, e]
  case mks mu sh zero len ps =>
    have e1 : ∀ p ∈ ps, ev D fr p.2 = ev D fr2 p.2 := fun p hp => h1 p.2 (by simp only [DOp.opds, List.mem_map]; exact ⟨p, hp, rfl⟩)
    have e : ps.map (fun p => (p.1, ev D fr p.2)) = ps.map fun p => (p.1, ev D fr2 p.2) := List.map_congr_left fun p hp => by rw [e1 p hp]
    have e2 : (∀ p ∈ ps, p.1 < len ∧ (ev D fr p.2).cells.length = sh.size ∧ (ev D fr p.2).okv = true) ↔ ∀ p ∈ ps, p.1 < len ∧ (ev D fr2 p.2).cells.length = sh.size ∧ (ev D fr2 p.2).okv = true := by
      constructor <;> intro hh p hp <;> have := hh p hp
      · rwa [e1 p hp] at this
      · rwa [← e1 p hp] at this
    simp only [evalOp, e, e2]
  case call f xs z =>
    have e1 := h1 f (by simp [DOp.opds])
    have e2 := evs_congr (D := D) (xs := xs) fun x hx => h1 x (by simp [DOp.opds, hx])
    simp only [evalOp, e1, e2]
  case defr f xs =>
    have e1 := h1 f (by simp [DOp.opds])
    have e2 := evs_congr (D := D) (xs := xs) fun x hx => h1 x (by simp [DOp.opds, hx])
    simp only [evalOp, e1, e2, h2]
  case mkfn f a b =>
    have e1 := evs_congr (D := D) (xs := a) fun x hx => h1 x (by simp [DOp.opds, hx])
    have e2 := evs_congr (D := D) (xs := b) fun x hx => h1 x (by simp [DOp.opds, hx])
    simp only [evalOp, e1, e2]
  case sliceStr x lo hi =>
    have e1 := h1 x (by simp [DOp.opds])
    have e2 := evO_congr (D := D) (x := lo) fun y hy => h1 y (by simp only [DOp.opds, List.mem_append, List.mem_cons]; exact .inl (.inr hy))
    have e3 := evO_congr (D := D) (x := hi) fun y hy => h1 y (by simp only [DOp.opds, List.mem_append, List.mem_cons]; exact .inr hy)
    simp only [evalOp, e1, e2, e3]
  case slice sz x lo hi mx =>
    have e1 := h1 x (by simp [DOp.opds])
    have e2 := evO_congr (D := D) (x := lo) fun y hy => h1 y (by simp only [DOp.opds, List.mem_append, List.mem_cons]; exact .inl (.inl (.inr hy)))
    have e3 := evO_congr (D := D) (x := hi) fun y hy => h1 y (by simp only [DOp.opds, List.mem_append, List.mem_cons]; exact .inl (.inr hy))
    have e4 := evO_congr (D := D) (x := mx) fun y hy => h1 y (by simp only [DOp.opds, List.mem_append, List.mem_cons]; exact .inr hy)
    simp only [evalOp, e1, e2, e3, e4]
  all_goals simp only [DOp.opds, List.mem_cons, List.not_mem_nil, or_false, forall_eq_or_imp, forall_eq] at h1
  all_goals simp only [evalOp]
  all_goals simp only [h1]
theorem ev_congr {fr fr2 : Fr} {x : Opd} (h1 : ∀ t, x.slot? = some t → fr.tmps.getD t .undef = fr2.tmps.getD t .undef) : ev D fr x = ev D fr2 x := by
  cases x <;> simp only [ev]
  exact h1 _ rfl
/-- Two frames alike where an operation looks. -/
def Alike (ro : ROp) (fr fr2 : Fr) : Prop := ∀ t ∈ ro.slots, fr.tmps.getD t .undef = fr2.tmps.getD t .undef
theorem Alike.opds {ro : ROp} {fr fr2 : Fr} (ha : Alike ro fr fr2) : ∀ x ∈ ro.op.opds, ev D fr x = ev D fr2 x := fun x hx => ev_congr fun t ht => ha t (by
  simp only [ROp.slots, List.mem_append, List.mem_filterMap]
  exact .inl (.inr ⟨x, hx, ht⟩))
theorem Alike.evalOp {ro : ROp} {fr fr2 : Fr} (ha : Alike ro fr fr2) (hi : fr.inr = fr2.inr) : evalOp D fr h ro.op = Dm.evalOp D fr2 h ro.op := evalOp_congr _ ha.opds hi
theorem Alike.wanted {ro : ROp} {fr fr2 : Fr} (ha : Alike ro fr fr2) : wantedG ro.guard fr = wantedG ro.guard fr2 := by
  cases hg : ro.guard with
  | none => rfl
  | some g =>
    obtain ⟨t, b⟩ := g
    have := ha t (by simp [ROp.slots, hg])
    simp only [wantedG, this]
theorem isDefr_not {ro : ROp} (hnd : isDefr ro = false) : ∀ f az, ro.op ≠ .defr f az := fun f az e => by simp [isDefr, e] at hnd
theorem runOp_congr {E : Ex} {ro : ROp} {fr fr2 fr' : Fr} {h' : Heap} (ha : Alike ro fr fr2) (hi : fr.inr = fr2.inr) (hnd : isDefr ro = false) (he : runOp D E ro fr h = some (fr', h')) :
    ∃ v, fr' = fr.put ro.dst v ∧ runOp D E ro fr2 h = some (fr2.put ro.dst v, h') := by
  unfold runOp at he ⊢
  rw [← ha.evalOp (D := D) (h := h) hi]
  cases hev : Dm.evalOp D fr h ro.op with
  | none => rw [hev] at he; cases he
  | some r0 =>
    rw [hev] at he
    rcases evalOp_cases hev with ⟨v, h1, hst⟩ | ⟨g, az, z, f, xs, rfl, hop, hcv⟩ | ⟨l, az, z, f, xs, rfl, hop, hcv⟩ | ⟨g, az, f, xs, rfl, hop⟩
    · cases r0 <;> simp only [stepEv] at hst <;> cases hst <;> cases he <;> exact ⟨_, rfl, rfl⟩
    · simp only at he ⊢
      split at he <;> try (cases he; done)
      rename_i v h1 hcall
      split at he
      · rename_i hz
        obtain ⟨⟨v2, h2⟩, hfz, he2⟩ := Option.map_eq_some_iff.1 he
        cases he2
        rw [if_pos hz, hfz]
        exact ⟨v2, rfl, rfl⟩
      · rename_i hz
        cases he
        rw [if_neg hz]
        exact ⟨v, rfl, rfl⟩
    · simp only at he ⊢
      obtain ⟨⟨v, h1⟩, hy, he2⟩ := Option.map_eq_some_iff.1 he
      cases he2
      rw [hy]
      exact ⟨v, rfl, rfl⟩
    · exact absurd hop (isDefr_not hnd f xs)

/-! ### a run, step by step -/
def StepAt (D : DProg) (E : Ex) (ro : ROp) (fr : Fr) (h : Heap) (fr' : Fr) (h' : Heap) : Prop :=
  (wantedG ro.guard fr = true ∧ runOp D E ro fr h = some (fr', h') ∧ chkOk D fr' h' ro.chk = true) ∨ (wantedG ro.guard fr = false ∧ fr' = fr.put ro.dst .undef ∧ h' = h)
theorem trace_of {E : Ex} : ∀ (rs : List ROp) (fr : Fr) (h : Heap) (fr' : Fr) (h' : Heap), runOps D E rs fr h = some (fr', h') →
    ∃ (F : Nat → Fr) (H : Nat → Heap), F 0 = fr ∧ H 0 = h ∧ F rs.length = fr' ∧ H rs.length = h' ∧ ∀ k ro, rs[k]? = some ro → StepAt D E ro (F k) (H k) (F (k + 1)) (H (k + 1))
  | [], fr, h, fr', h', he => by
    simp [runOps] at he
    obtain ⟨rfl, rfl⟩ := he
    exact ⟨fun _ => fr, fun _ => h, rfl, rfl, rfl, rfl, by simp⟩
  | o :: rs, fr, h, fr', h', he => by
    simp only [runOps] at he
    have key : ∀ fr1 h1, StepAt D E o fr h fr1 h1 → runOps D E rs fr1 h1 = some (fr', h') → ∃ (F : Nat → Fr) (H : Nat → Heap), F 0 = fr ∧ H 0 = h ∧ F (o :: rs).length = fr' ∧ H (o :: rs).length = h' ∧ ∀ k ro, (o :: rs)[k]? = some ro → StepAt D E ro (F k) (H k) (F (k + 1)) (H (k + 1)) := by
      intro fr1 h1 hst hrest
      obtain ⟨F, H, f0, h0, fm, hm, hs⟩ := trace_of rs fr1 h1 fr' h' hrest
      refine ⟨fun | 0 => fr | k + 1 => F k, fun | 0 => h | k + 1 => H k, rfl, rfl, fm, hm, fun k ro hk => ?_⟩
      cases k with
      | zero =>
        simp at hk; subst hk
        simp only [f0, h0]
        exact hst
      | succ k => exact hs k ro (by simpa using hk)
    split at he
    · rename_i hw
      split at he <;> try (cases he; done)
      rename_i fr1 h1 hop
      split at he
      case isFalse => cases he
      rename_i hck
      exact key fr1 h1 (.inl ⟨hw, hop, hck⟩) he
    · rename_i hw
      exact key _ h (.inr ⟨by simpa [wantedD] using hw, rfl, rfl⟩) he
end
end Go.Dm
/- The D-machine (24): what is known of a region in our order. -/
namespace Go.Dm
set_option linter.unusedSimpArgs false
set_option linter.unusedVariables false
set_option linter.unnecessarySimpa false

section
variable {P : Program} {cfg : Cfg} {mf : Bool}

theorem compRops_spec {ops : Array Oper} : ∀ (l : List Oper) (rs : List ROp), compRops P cfg mf ops l = some rs → rs.length = l.length ∧ ∀ (j : Nat) (ro : ROp), rs[j]? = some ro → ∃ o, l[j]? = some o ∧ compRop P cfg mf ops o = some ro
  | [], rs, h => by simp [compRops] at h; subst h; simp
  | o :: l, rs, h => by
    simp only [compRops] at h
    split at h <;> try (cases h; done)
    rename_i ro ros h1 h2
    cases h
    obtain ⟨h3, h4⟩ := compRops_spec l ros h2
    refine ⟨by simp [h3], fun j r hj => ?_⟩
    cases j with
    | zero => simp at hj; subst hj; exact ⟨o, rfl, h1⟩
    | succ j => simpa using h4 j r (by simpa using hj)

/-! ### the program's order, closed -/
def befG (acc : Array Nat) (o : Oper) : Nat := o.after.foldl (fun s e => if Region.binds .any e then s ||| 2 ^ e.on ||| acc.getD e.on 0 else s) 0
theorem befG_bit (acc : Array Nat) (i : Nat) : ∀ (es : List Edge) (s : Nat), (es.foldl (fun s e => if Region.binds .any e then s ||| 2 ^ e.on ||| acc.getD e.on 0 else s) s).testBit i = true →
    s.testBit i = true ∨ ∃ e ∈ es, Region.binds .any e = true ∧ (i = e.on ∨ (acc.getD e.on 0).testBit i = true)
  | [], s, h => .inl h
  | e :: es, s, h => by
    simp only [List.foldl_cons] at h
    rcases befG_bit acc i es _ h with h1 | ⟨e', he', h2⟩
    · split at h1
      · rename_i hb
        simp only [Nat.testBit_or, Bool.or_eq_true, Nat.testBit_two_pow, decide_eq_true_eq] at h1
        rcases h1 with (h1 | h1) | h1
        · exact .inl h1
        · exact .inr ⟨e, by simp, hb, .inl h1.symm⟩
        · exact .inr ⟨e, by simp, hb, .inr h1⟩
      · exact .inl h1
    · exact .inr ⟨e', by simp [he'], h2⟩
theorem befFold (l : List Oper) : ∀ (acc : Array Nat), (∀ j, j < acc.size → True) → (l.foldl (fun acc o => acc.push (befG acc o)) acc).size = acc.size + l.length ∧ (∀ j, j < acc.size → (l.foldl (fun acc o => acc.push (befG acc o)) acc)[j]? = acc[j]?) ∧
    ∀ (j : Nat) (o : Oper), l[j]? = some o → ∃ pre : Array Nat, pre.size = acc.size + j ∧ (∀ i, i < pre.size → (l.foldl (fun acc o => acc.push (befG acc o)) acc)[i]? = pre[i]?) ∧ (l.foldl (fun acc o => acc.push (befG acc o)) acc)[acc.size + j]? = some (befG pre o) := by
  induction l with
  | nil => intro acc _; simp
  | cons o l ih =>
    intro acc hacc
    obtain ⟨h1, h2, h3⟩ := ih (acc.push (befG acc o)) fun _ _ => trivial
    simp only [List.foldl_cons]
    refine ⟨by rw [h1]; simp; omega, fun j hj => ?_, fun j o' hj => ?_⟩
    · rw [h2 j (by simp; omega), Array.getElem?_push]
      simp [Nat.ne_of_lt hj]
    · cases j with
      | zero =>
        simp at hj; subst hj
        refine ⟨acc, rfl, fun i hi => ?_, ?_⟩
        · rw [h2 i (by simp; omega), Array.getElem?_push]
          simp [Nat.ne_of_lt hi]
        · rw [Nat.add_zero, h2 acc.size (by simp)]
          simp
      | succ j =>
        obtain ⟨pre, p1, p2, p3⟩ := h3 j o' (by simpa using hj)
        refine ⟨pre, by rw [p1]; simp; omega, p2, ?_⟩
        rw [show acc.size + (j + 1) = (acc.push (befG acc o)).size + j by simp; omega]
        exact p3
theorem before_spec (ops : Array Oper) (j : Nat) (o : Oper) (hj : ops[j]? = some o) (hed : ∀ e ∈ o.after, Region.binds .any e = true → e.on < j) (i : Nat) (hi : ordered (Region.before ops) i j = true) :
    ∃ e ∈ o.after, Region.binds .any e = true ∧ (i = e.on ∨ ordered (Region.before ops) i e.on = true) := by
  have hB : Region.before ops = ops.toList.foldl (fun acc o => acc.push (befG acc o)) #[] := by
    unfold Region.before
    rw [← Array.foldl_toList]
    rfl
  obtain ⟨_, _, h3⟩ := befFold ops.toList #[] fun _ _ => trivial
  obtain ⟨pre, p1, p2, p3⟩ := h3 j o (by simpa using hj)
  rw [← hB] at p2 p3
  simp only [Array.size_empty, Nat.zero_add] at p1 p3
  have hbit : (befG pre o).testBit i = true := by
    unfold ordered at hi
    rw [Array.getD_eq_getD_getElem?, p3] at hi
    exact hi
  unfold befG at hbit
  rw [← Array.foldl_toList] at hbit
  rcases befG_bit pre i _ _ hbit with h | ⟨e, he, hb, h⟩
  · simp at h
  · refine ⟨e, by simpa using he, hb, ?_⟩
    rcases h with h | h
    · exact .inl h
    · right
      have hlt := hed e (by simpa using he) hb
      unfold ordered
      rw [Array.getD_eq_getD_getElem?, p2 e.on (by omega), ← Array.getD_eq_getD_getElem?]
      exact h
theorem edgesOk_spec {ops : Array Oper} (h : edgesOk ops = true) (j : Nat) (o : Oper) (hj : ops[j]? = some o) (e : Edge) (he : e ∈ o.after) (hb : Region.binds .any e = true) : e.on < j := by
  unfold edgesOk at h
  rw [List.all_eq_true] at h
  have := h (o, j) (by
    rw [List.mem_zipIdx_iff_getElem?]
    simpa using hj)
  simp only [Array.all_eq_true_iff_forall_mem] at this
  have := this e he
  simpa [hb] using this

/-! ### what is laid -/
theorem lay_spec {ra : Array ROp} {bef : Array Nat} : ∀ (κ done : List Nat) (rops : List ROp), lay ra bef done κ = some rops → rops.length = κ.length ∧
    ∀ (k j : Nat), κ[k]? = some j → ∃ ro x, ra[j]? = some ro ∧ rops[k]? = some { ro with chk := x } ∧ (ro.op.effect = true → chkOf ra bef j ro.dst.toList ((κ.take k).reverse ++ done) = some x)
  | [], done, rops, h => by simp [lay] at h; subst h; simp
  | i :: κ, done, rops, h => by
    simp only [lay] at h
    split at h <;> try (cases h; done)
    rename_i ro hro
    split at h <;> try (cases h; done)
    rename_i x os hx hos
    cases h
    obtain ⟨h1, h2⟩ := lay_spec κ (i :: done) os hos
    refine ⟨by simp [h1], fun k j hk => ?_⟩
    cases k with
    | zero =>
      simp at hk; subst hk
      refine ⟨ro, x, hro, rfl, fun heff => ?_⟩
      rw [if_pos heff] at hx
      simpa using hx
    | succ k =>
      obtain ⟨ro', x', a1, a2, a3⟩ := h2 k j (by simpa using hk)
      exact ⟨ro', x', a1, by simpa using a2, fun heff => by simpa using a3 heff⟩
theorem chkOf_spec {ra : Array ROp} {bef : Array Nat} {j : Nat} : ∀ (l ws : List Nat) (x : List (Opd × Shape × Nat × Option (Nat × Bool))), chkOf ra bef j ws l = some x → ∀ (n i : Nat) (a : ROp) (e : Opd × Shape × Nat × Option (Nat × Bool)), l[n]? = some i → ra[i]? = some a → a.load? = some e →
    ordered bef i j = true ∨ (e ∈ x ∧ (∀ t ∈ ws, t ∉ a.slots) ∧ ∀ (n' i' : Nat) (a' : ROp), n' < n → l[n']? = some i' → ra[i']? = some a' → ∀ t, a'.dst = some t → t ∉ a.slots)
  | [], ws, x, h, n, i, a, e, hn, _, _ => by simp at hn
  | i0 :: l, ws, x, h, n, i, a, e, hn, ha, he => by
    simp only [chkOf] at h
    split at h <;> try (cases h; done)
    rename_i a0 ha0
    split at h <;> try (cases h; done)
    rename_i x0 hx0
    have hsub : ∀ y ∈ x0, y ∈ x := by
      split at h
      · split at h
        · cases h; exact fun y hy => hy
        · split at h <;> cases h
          exact fun y hy => by simp [hy]
      · cases h; exact fun y hy => hy
    cases n with
    | zero =>
      simp at hn; subst hn
      rw [ha0] at ha; cases ha
      rw [he] at h
      simp only at h
      split at h
      · exact .inl ‹_›
      · split at h
        · cases h
        · rename_i hno
          cases h
          right
          refine ⟨by simp, fun t ht hts => ?_, fun n' _ _ hn' => absurd hn' (Nat.not_lt_zero _)⟩
          apply hno
          rw [List.any_eq_true]
          exact ⟨t, ht, by simpa using hts⟩
    | succ n =>
      rcases chkOf_spec l _ x0 hx0 n i a e (by simpa using hn) ha he with h1 | ⟨h1, h2, h3⟩
      · exact .inl h1
      · right
        refine ⟨hsub _ h1, fun t ht => h2 t (by simp [ht]), fun n' i' a' hn' hi' ha' t ht => ?_⟩
        cases n' with
        | zero =>
          simp at hi'; subst hi'
          rw [ha0] at ha'; cases ha'
          exact h2 t (by simp [ht])
        | succ n' => exact h3 n' i' a' (by omega) (by simpa using hi') ha' t ht
theorem pairsOk_spec {ra : Array ROp} {bef : Array Nat} : ∀ (κ : List Nat), pairsOk ra bef κ = true → ∀ (i k a b : Nat), i < k → κ[i]? = some a → κ[k]? = some b → pairOk ra bef a b = true
  | [], _, i, k, a, b, _, h1, _ => by simp at h1
  | x :: κ, h, i, k, a, b, hik, h1, h2 => by
    simp only [pairsOk, Bool.and_eq_true, List.all_eq_true] at h
    cases k with
    | zero => omega
    | succ k =>
      cases i with
      | zero =>
        simp at h1; subst h1
        exact h.1 b (List.mem_of_getElem? (by simpa using h2))
      | succ i => exact pairsOk_spec κ h.2 i k a b (by omega) (by simpa using h1) (by simpa using h2)

variable {D : DProg} {E : Ex}
/-- All that is known of a region's operations in our order, and of their run. -/
structure Plan (P : Program) (cfg : Cfg) (mf : Bool) (D : DProg) (E : Ex) (ops : Array Oper) (bef : Array Nat) (κ : List Nat) (rops : List ROp) (F : Nat → Fr) (H : Nat → Heap) : Prop where
  κl : κ.length = ops.size
  κs : ∀ (k j : Nat), κ[k]? = some j → j < ops.size
  κi : ∀ (k k' j : Nat), κ[k]? = some j → κ[k']? = some j → k = k'
  κe : ∀ (j : Nat), j < ops.size → ∃ k : Nat, κ[k]? = some j
  rl : rops.length = κ.length
  op : ∀ (k j : Nat), κ[k]? = some j → ∃ ro o, rops[k]? = some ro ∧ ops[j]? = some o ∧ compOp P cfg mf o.op = some ro.op ∧ ro.dst = o.dst ∧ isDefr ro = false ∧ loadOk ro = true ∧
    ∀ (c : Cor) (fr : Fr) (a : Act), VRels c fr.tmps a.tmps.toList → Region.wanted o (yielded ops a.tmps) = wantedG ro.guard fr
  /-- what must come ahead -/
  ord : ∀ (i k a b : Nat) (ri rk : ROp), i < k → κ[i]? = some a → κ[k]? = some b → rops[i]? = some ri → rops[k]? = some rk → ordered bef b a = false ∧ ((ri.op.effect = true ∨ (∃ t, ri.dst = some t ∧ t ∈ rk.slots) ∨ ∃ t, rk.dst = some t ∧ t ∈ ri.slots) → ordered bef a b = true)
  ready : ∀ (j : Nat) (o : Oper) (i : Nat), ops[j]? = some o → ordered bef i j = true → ∃ e ∈ o.after, Region.binds .any e = true ∧ (i = e.on ∨ ordered bef i e.on = true)
  edge : ∀ (j : Nat) (o : Oper) (e : Edge), ops[j]? = some o → e ∈ o.after → Region.binds .any e = true → e.on < j
  chk : ∀ (i k a b : Nat) (ri rk : ROp) (e : Opd × Shape × Nat × Option (Nat × Bool)), i < k → κ[i]? = some a → κ[k]? = some b → rops[i]? = some ri → rops[k]? = some rk → rk.op.effect = true → ri.load? = some e →
    ordered bef a b = true ∨ (e ∈ rk.chk ∧ ∀ (l : Nat) (rl : ROp) (t : Nat), i < l → l ≤ k → rops[l]? = some rl → rl.dst = some t → t ∉ ri.slots)
  step : ∀ (k : Nat) (ro : ROp), rops[k]? = some ro → StepAt D E ro (F k) (H k) (F (k + 1)) (H (k + 1))

theorem plan_of {ops : Array Oper} {rops : List ROp} (hc : compRegion P cfg mf ops true = some rops) {fr fr' : Fr} {h h' : Heap} (he : runOps D E rops fr h = some (fr', h')) :
    ∃ (κ : List Nat) (F : Nat → Fr) (H : Nat → Heap), F 0 = fr ∧ H 0 = h ∧ F ops.size = fr' ∧ H ops.size = h' ∧ Plan P cfg mf D E ops (Region.before ops) κ rops F H := by
  unfold compRegion at hc
  split at hc <;> try (cases hc; done)
  rename_i rs hrs
  simp only [Bool.true_eq_false, if_false] at hc
  split at hc
  case isFalse => cases hc
  rename_i hcond
  obtain ⟨c1, c2, c3, c4, c5, c6, c7⟩ := hcond
  obtain ⟨s1, s2⟩ := compRops_spec _ _ hrs
  obtain ⟨l1, l2⟩ := lay_spec _ _ _ hc
  generalize canonGo ops (effAt rs.toArray) ops.size [] = κ at *
  obtain ⟨F, H, f0, h0, fm, hm, hstep⟩ := trace_of rops fr h fr' h' he
  rw [List.all_eq_true] at c2 c3 c7
  have hκ : ∀ (k j : Nat), κ[k]? = some j → ∃ ro0 x o, rs[j]? = some ro0 ∧ rops[k]? = some { ro0 with chk := x } ∧ ops[j]? = some o ∧ compRop P cfg mf ops o = some ro0 ∧ (ro0.op.effect = true → chkOf rs.toArray (Region.before ops) j ro0.dst.toList (κ.take k).reverse = some x) := by
    intro k j hk
    obtain ⟨ro0, x, a1, a2, a3⟩ := l2 k j hk
    have a1' : rs[j]? = some ro0 := by simpa using a1
    obtain ⟨o, b1, b2⟩ := s2 j ro0 a1'
    exact ⟨ro0, x, o, a1', a2, by simpa using b1, b2, fun heff => by simpa using a3 heff⟩
  refine ⟨κ, F, H, f0, h0, by rw [← fm, l1, c1], by rw [← hm, l1, c1], ?_⟩
  refine { κl := c1, κs := ?_, κi := ?_, κe := ?_, rl := l1, op := ?_, ord := ?_, ready := ?_, edge := ?_, chk := ?_, step := hstep }
  · intro k j hk
    simpa using c2 j (List.mem_of_getElem? hk)
  · intro k k' j hk hk'
    obtain ⟨q1, q2⟩ := List.getElem?_eq_some_iff.1 hk
    obtain ⟨q3, q4⟩ := List.getElem?_eq_some_iff.1 hk'
    have hp := List.pairwise_iff_getElem.1 c4
    rcases Nat.lt_trichotomy k k' with hlt | heq | hgt
    · exact absurd (q2.trans q4.symm) (hp k k' q1 q3 hlt)
    · exact heq
    · exact absurd (q4.trans q2.symm) (hp k' k q3 q1 hgt)
  · intro j hj
    have := c3 j (by simpa using hj)
    simp only [List.contains_eq_mem, decide_eq_true_eq] at this
    obtain ⟨k, hk⟩ := List.mem_iff_getElem?.1 this
    exact ⟨k, hk⟩
  · intro k j hk
    obtain ⟨ro0, x, o, a1, a2, a3, a4, a5⟩ := hκ k j hk
    obtain ⟨q1, q2, q3, q4⟩ := rop_some a4
    have hcl := c7 ro0 (List.mem_of_getElem? a1)
    simp only [Bool.and_eq_true, Bool.not_eq_true'] at hcl
    exact ⟨_, o, a2, a3, q1, q2, hcl.1, hcl.2, fun c fr a hv => wanted_rel a4 hv⟩
  · intro i k a b ri rk hik hi hk hri hrk
    obtain ⟨ro1, x1, o1, a1, a2, a3, a4, a5⟩ := hκ i a hi
    obtain ⟨ro2, x2, o2, b1, b2, b3, b4, b5⟩ := hκ k b hk
    rw [hri] at a2; cases a2
    rw [hrk] at b2; cases b2
    have hp := pairsOk_spec _ c5 i k a b hik hi hk
    have a1' : rs.toArray[a]? = some ro1 := by simpa using a1
    have b1' : rs.toArray[b]? = some ro2 := by simpa using b1
    simp only [pairOk, a1', b1', Bool.and_eq_true, Bool.not_eq_true', Bool.or_eq_true] at hp
    refine ⟨hp.1, fun hh => ?_⟩
    rcases hp.2 with h1 | h1
    · exfalso
      have h1' : (ro1.op.effect || slotConf ro1 ro2) = false := h1
      simp only [Bool.or_eq_false_iff, slotConf] at h1'
      obtain ⟨h2, h3, h4⟩ := h1'
      rcases hh with hh | ⟨t, ht, hts⟩ | ⟨t, ht, hts⟩
      · have : ro1.op.effect = true := hh
        rw [h2] at this; cases this
      · have ht' : ro1.dst = some t := ht
        rw [ht'] at h3
        simp only [writesIn, List.contains_eq_mem, decide_eq_false_iff_not] at h3
        exact h3 hts
      · have ht' : ro2.dst = some t := ht
        rw [ht'] at h4
        simp only [writesIn, List.contains_eq_mem, decide_eq_false_iff_not] at h4
        exact h4 hts
    · exact h1
  · intro j o i hj hi
    exact before_spec ops j o hj (fun e he hb => edgesOk_spec c6 j o hj e he hb) i hi
  · intro j o e hj he hb
    exact edgesOk_spec c6 j o hj e he hb
  · intro i k a b ri rk e hik hi hk hri hrk heff hload
    obtain ⟨ro1, x1, o1, a1, a2, a3, a4, a5⟩ := hκ i a hi
    obtain ⟨ro2, x2, o2, b1, b2, b3, b4, b5⟩ := hκ k b hk
    rw [hri] at a2; cases a2
    rw [hrk] at b2; cases b2
    have hki := (List.getElem?_eq_some_iff.1 hi).1
    have hkl := (List.getElem?_eq_some_iff.1 hk).1
    have hrev : ∀ l : Nat, l < k → (κ.take k).reverse[k - 1 - l]? = κ[l]? := fun l hl => by
      rw [List.getElem?_reverse (by simp; omega)]
      have : (κ.take k).length - 1 - (k - 1 - l) = l := by simp; omega
      rw [this, List.getElem?_take, if_pos hl]
    rcases chkOf_spec _ _ _ (b5 heff) (k - 1 - i) a ro1 e (by rw [hrev i hik]; exact hi) (by simpa using a1) hload with h1 | ⟨h1, h2, h3⟩
    · exact .inl h1
    · refine .inr ⟨h1, fun l rl t hil hlk hrl ht => ?_⟩
      by_cases hlk' : l = k
      · subst hlk'
        rw [hrk] at hrl; cases hrl
        have ht' : ro2.dst = some t := ht
        exact h2 t (by simp [ht'])
      · have hll : l < κ.length := by omega
        obtain ⟨ro3, x3, o3, d1, d2, d3, d4, d5⟩ := hκ l κ[l] (List.getElem?_eq_getElem hll)
        rw [hrl] at d2; cases d2
        exact h3 (k - 1 - l) κ[l] ro3 (by omega) (by rw [hrev l (by omega)]; exact List.getElem?_eq_getElem hll) (by simpa using d1) t ht
end
end Go.Dm
/- The D-machine (25): a region that draws its order. -/
namespace Go.Dm
set_option linter.unusedSimpArgs false
set_option linter.unusedVariables false
set_option linter.unnecessarySimpa false

def und : List Bool → Nat
  | [] => 0
  | b :: l => (if b then 0 else 1) + und l
theorem und_set : ∀ (l : List Bool) (j : Nat), l[j]? = some false → und (l.set j true) + 1 = und l
  | [], j, h => by simp at h
  | b :: l, 0, h => by simp at h; subst h; simp [und]; omega
  | b :: l, j + 1, h => by
    have := und_set l j (by simpa using h)
    simp only [List.set_cons_succ, und]; omega
theorem und_zero : ∀ (l : List Bool), und l = 0 → ∀ j : Nat, j < l.length → l[j]? = some true
  | b :: l, h, 0, _ => by cases b <;> simp_all [und]
  | b :: l, h, j + 1, hj => by
    have := und_zero l (by simp only [und] at h; omega) j (by simpa using hj)
    simpa using this
theorem und_replicate : ∀ n, und (List.replicate n false) = n
  | 0 => rfl
  | n + 1 => by simp [List.replicate_succ, und, und_replicate n]; omega

section
variable {P : Program} {cfg : Cfg} {mf : Bool} {CC : Code → DC → Prop} {base : Nat} {D : DProg} {E : Ex}

theorem Fr.put_get (fr : Fr) (dst : Option Nat) (v : DV) (t : Nat) (h : dst ≠ some t) : (fr.put dst v).tmps.getD t .undef = fr.tmps.getD t .undef := by
  cases dst with
  | none => rfl
  | some d =>
    have : d ≠ t := fun e => h (by rw [e])
    simp [Fr.put, List.getD_eq_getElem?_getD, List.getElem?_set, this]
theorem Fr.put_len (fr : Fr) (dst : Option Nat) (v : DV) : (fr.put dst v).tmps.length = fr.tmps.length := by
  cases dst <;> simp [Fr.put]
theorem Fr.put_inr (fr : Fr) (dst : Option Nat) (v : DV) : (fr.put dst v).inr = fr.inr := by cases dst <;> rfl
theorem Fr.put_defers (fr : Fr) (dst : Option Nat) (v : DV) : (fr.put dst v).defers = fr.defers := by cases dst <;> rfl
theorem Fr.put_same (fr : Fr) (d : Nat) (v : DV) (h : d < fr.tmps.length) : (fr.put (some d) v).tmps[d]? = some v := by
  simp [Fr.put, h]

theorem loadD_add {h : Heap} (hf : h.objs.get h.next = none) {sh : Shape} {x v : DV} (ob : HObj) (hl : loadD h sh x = some v) : loadD (h.add ob) sh x = some v := by
  cases x <;> simp only [loadD] at hl ⊢ <;> try (cases hl; done)
  case ptr id off =>
    cases hg : h.objs.get id with
    | none => rw [hg] at hl; cases hl
    | some o =>
      have hne : id ≠ h.next := fun e => by subst e; rw [hf] at hg; cases hg
      have : (h.add ob).objs.get id = h.objs.get id := by simp only [Heap.add]; exact Tr.get_set_ne _ _ hne
      rw [this]; rw [hg] at hl ⊢; exact hl
  case elt => exact hl

/-- An operation that is no effect. -/
theorem pure_cases {d : DOp} (hne : d.effect = false) {fr : Fr} {h : Heap} {r : EvR} (he : evalOp D fr h d = some r) : (∃ v, r = .val v) ∨ (∃ b mk, r = .newO b mk) ∨ ∃ sz mk, r = .newT sz mk := by
  cases r with
  | val v => exact .inl ⟨v, rfl⟩
  | newO b mk => exact .inr (.inl ⟨b, mk, rfl⟩)
  | newT sz mk => exact .inr (.inr ⟨sz, mk, rfl⟩)
  | eff v' h1 =>
    exfalso
    cases d <;> simp [DOp.effect] at hne <;> simp only [evalOp] at he
    all_goals first
      | (cases he; done)
      | (obtain ⟨_, _, h2⟩ := Option.map_eq_some_iff.1 he; cases h2; done)
      | (split at he <;> first | (cases he; done) | (obtain ⟨_, _, h2⟩ := Option.map_eq_some_iff.1 he; cases h2; done) | (split at he <;> first | (cases he; done) | (obtain ⟨_, _, h2⟩ := Option.map_eq_some_iff.1 he; cases h2; done) | (split at he <;> cases he; done)); done)
      | skip
    case conv k mu x =>
      unfold convD at he
      split at he <;> try (cases he; done)
      all_goals first
        | (obtain ⟨_, _, h2⟩ := Option.map_eq_some_iff.1 he; cases h2; done)
        | (split at he <;> first | (cases he; done) | (obtain ⟨_, _, h2⟩ := Option.map_eq_some_iff.1 he; cases h2; done) | (simp at he; split at he <;> cases he; done))
        | skip
      all_goals simp at hne
      all_goals simp [hne] at he
    case slice sz x lo hi mx =>
      unfold sliceD at he
      split at he <;> try (cases he; done)
      all_goals (split at he <;> first | (cases he; done) | (obtain ⟨_, _, h2⟩ := Option.map_eq_some_iff.1 he; cases h2; done))
  | call g az z =>
    rcases evalOp_cases he with ⟨v, h1, hst⟩ | ⟨_, _, _, f, xs, _, hop, _⟩ | ⟨_, _, _, _, _, h, _⟩ | ⟨_, _, _, _, h, _⟩
    · cases hst
    · subst hop; simp [DOp.effect] at hne
    · cases h
    · cases h
  | yield l az =>
    rcases evalOp_cases he with ⟨v, h1, hst⟩ | ⟨_, _, _, _, _, h, _⟩ | ⟨_, _, _, f, xs, _, hop, _⟩ | ⟨_, _, _, _, h, _⟩
    · cases hst
    · cases h
    · subst hop; simp [DOp.effect] at hne
    · cases h
  | defr g az =>
    rcases evalOp_cases he with ⟨v, h1, hst⟩ | ⟨_, _, _, _, _, h, _⟩ | ⟨_, _, _, _, _, h, _⟩ | ⟨_, _, _, _, _, hop⟩
    · cases hst
    · cases h
    · cases h
    · subst hop; simp [DOp.effect] at hne

def don (κ : List Nat) (listed : Array Bool) (k : Nat) : Bool := match κ[k]? with
  | some j => listed.getD j false
  | none => false

/-- What an operation that has not come yet, though ours has passed it, still finds. -/
def Owed (D : DProg) (c : Cor) (G : Heap) (ro : ROp) (fr : Fr) (h : Heap) : Prop := ∀ r, evalOp D fr h ro.op = some r →
  match r with
  | .newO b _ => c.φ h.next = none ∧ G.objs.get h.next = some b ∧ h.next < G.next
  | .newT sz _ => c.τ h.next = none ∧ G.tags.get h.next = some sz ∧ h.next < G.next
  | .val v => ∀ sh x, ro.op = .load sh x → loadD G sh (ev D fr x) = some v
  | _ => True

variable {ops : Array Oper} {bef : Array Nat} {κ : List Nat} {rops : List ROp} {F : Nat → Fr} {H : Nat → Heap}

structure Inv (CC : Code → DC → Prop) (base : Nat) (D : DProg) (ops : Array Oper) (bef : Array Nat) (κ : List Nat) (rops : List ROp) (F : Nat → Fr) (H : Nat → Heap) (r : Option Nat) (c0 : Cor) (w0 : World) (listed : Array Bool) (T : Nat) (c : Cor) (fv : Fr) (a : Act) (w : World) : Prop where
  size : listed.size = ops.size
  Tm : T ≤ ops.size
  effT : ∀ (k : Nat) (ro : ROp), rops[k]? = some ro → ro.op.effect = true → (don κ listed k = true ↔ k < T)
  ahead : ∀ k, T ≤ k → don κ listed k = false
  down : ∀ (i j a b : Nat), κ[i]? = some a → κ[j]? = some b → don κ listed j = true → ordered bef a b = true → don κ listed i = true
  out : Out CC base c0 (H 0) w0 c (H T) w
  fr : FrRel c r fv a
  inr : fv.inr = (F 0).inr
  defers : fv.defers = (F 0).defers
  len : fv.tmps.length = (F 0).tmps.length
  slots : ∀ t, ∃ p, p ≤ ops.size ∧ fv.tmps.getD t .undef = (F p).tmps.getD t .undef ∧ ∀ (k : Nat) (ro : ROp), rops[k]? = some ro → ro.dst = some t → (don κ listed k = true ↔ k < p)
  mono : ∀ i j, i ≤ j → j ≤ T → (H i).next ≤ (H j).next
  owed : ∀ (k : Nat) (ro : ROp), k < T → rops[k]? = some ro → don κ listed k = false → wantedG ro.guard (F k) = true → Owed D c (H T) ro (F k) (H k)

section
variable (hP : Plan P cfg mf D E ops bef κ rops F H)
include hP
theorem Plan.rget {k : Nat} {ro : ROp} (h : rops[k]? = some ro) : ∃ (j : Nat) (o : Oper), κ[k]? = some j ∧ ops[j]? = some o ∧ compOp P cfg mf o.op = some ro.op ∧ ro.dst = o.dst ∧ isDefr ro = false ∧ loadOk ro = true ∧
    ∀ (c : Cor) (fr : Fr) (a : Act), VRels c fr.tmps a.tmps.toList → Region.wanted o (yielded ops a.tmps) = wantedG ro.guard fr := by
  have hk := (List.getElem?_eq_some_iff.1 h).1
  rw [hP.rl] at hk
  have hj : κ[k]? = some κ[k] := List.getElem?_eq_getElem hk
  obtain ⟨ro', o, h1, h2, h3⟩ := hP.op k _ hj
  rw [h] at h1; cases h1
  exact ⟨_, o, hj, h2, h3⟩
theorem Plan.fstep {k : Nat} {ro : ROp} (h : rops[k]? = some ro) : ∃ v, F (k + 1) = (F k).put ro.dst v := by
  rcases hP.step k ro h with ⟨_, hr, _⟩ | ⟨_, hf, _⟩
  · obtain ⟨_, _, _, _, _, _, hnd, _⟩ := hP.rget h
    obtain ⟨v, hv, _⟩ := runOp_congr (fr2 := F k) (fun _ _ => rfl) rfl hnd hr
    exact ⟨v, hv⟩
  · exact ⟨_, hf⟩
theorem Plan.fkeep {t i j : Nat} (hij : i ≤ j) (hj : j ≤ ops.size) (hw : ∀ (k : Nat) (ro : ROp), i ≤ k → k < j → rops[k]? = some ro → ro.dst ≠ some t) : (F j).tmps.getD t .undef = (F i).tmps.getD t .undef := by
  induction j with
  | zero => have : i = 0 := by omega
            subst this; rfl
  | succ j ih =>
    by_cases e : i = j + 1
    · subst e; rfl
    · have hlt : j < rops.length := by rw [hP.rl, hP.κl]; omega
      obtain ⟨v, hv⟩ := hP.fstep (List.getElem?_eq_getElem hlt)
      rw [hv, Fr.put_get _ _ _ _ (hw j _ (by omega) (by omega) (List.getElem?_eq_getElem hlt))]
      exact ih (by omega) (by omega) fun k ro h1 h2 h3 => hw k ro h1 (by omega) h3
theorem Plan.fconst (j : Nat) (hj : j ≤ ops.size) : (F j).inr = (F 0).inr ∧ (F j).defers = (F 0).defers ∧ (F j).tmps.length = (F 0).tmps.length := by
  induction j with
  | zero => exact ⟨rfl, rfl, rfl⟩
  | succ j ih =>
    have hlt : j < rops.length := by rw [hP.rl, hP.κl]; omega
    obtain ⟨v, hv⟩ := hP.fstep (List.getElem?_eq_getElem hlt)
    obtain ⟨h1, h2, h3⟩ := ih (by omega)
    rw [hv, Fr.put_inr, Fr.put_defers, Fr.put_len]
    exact ⟨h1, h2, h3⟩
/-- What an operation that may come now finds in its slots. -/
theorem Plan.alike {r : Option Nat} {c0 c : Cor} {w0 w : World} {listed : Array Bool} {T : Nat} {fv : Fr} {a : Act} (hI : Inv CC base D ops bef κ rops F H r c0 w0 listed T c fv a w) {k j : Nat} {ro : ROp} (hk : κ[k]? = some j) (hro : rops[k]? = some ro)
    (hnd : don κ listed k = false) (hready : ∀ i a, κ[i]? = some a → ordered bef a j = true → don κ listed i = true) : Alike ro fv (F k) := by
  intro t ht
  obtain ⟨p, hp1, hp2, hp3⟩ := hI.slots t
  rw [hp2]
  have hkl : k < ops.size := by have := (List.getElem?_eq_some_iff.1 hk).1; rw [hP.κl] at this; exact this
  -- who writes t ahead of k has come; who writes it behind has not
  have before : ∀ (i : Nat) (ri : ROp), i < k → rops[i]? = some ri → ri.dst = some t → don κ listed i = true := fun i ri hik hri hd => by
    obtain ⟨b, o, hb, _⟩ := hP.rget hri
    exact hready i b hb ((hP.ord i k b j ri ro hik hb hk hri hro).2 (.inr (.inl ⟨t, hd, ht⟩)))
  have behind : ∀ (i : Nat) (ri : ROp), k < i → rops[i]? = some ri → ri.dst = some t → don κ listed i = false := fun i ri hki hri hd => by
    obtain ⟨b, o, hb, _⟩ := hP.rget hri
    have ho := (hP.ord k i j b ro ri hki hk hb hro hri).2 (.inr (.inr ⟨t, hd, ht⟩))
    cases hdon : don κ listed i with
    | false => rfl
    | true => have := hI.down k i j b hk hb hdon ho; rw [hnd] at this; cases this
  rcases Nat.le_total p k with h | h
  · refine (hP.fkeep h (by omega) fun i ri h1 h2 h3 h4 => ?_).symm
    have := before i ri h2 h3 h4
    have := (hp3 i ri h3 h4).1 this
    omega
  · refine hP.fkeep h hp1 fun i ri h1 h2 h3 h4 => ?_
    have hd := (hp3 i ri h3 h4).2 h2
    by_cases e : i = k
    · subst e; rw [hnd] at hd; cases hd
    · have := behind i ri (by omega) h3 h4
      rw [this] at hd; cases hd

theorem don_set {listed : Array Bool} (hs : listed.size = ops.size) {k j : Nat} (hk : κ[k]? = some j) (i : Nat) : don κ (listed.setIfInBounds j true) i = (don κ listed i || decide (i = k)) := by
  unfold don
  cases hi : κ[i]? with
  | none =>
    have : i ≠ k := fun e => by subst e; rw [hk] at hi; cases hi
    simp [this]
  | some b =>
    have hjs := hP.κs k j hk
    by_cases e : i = k
    · subst e; rw [hk] at hi; cases hi
      simp [Array.getD_eq_getD_getElem?, hs, hjs]
    · have hne : b ≠ j := fun e2 => by subst e2; exact e (hP.κi i k b hi hk)
      simp [Array.getD_eq_getD_getElem?, Array.getElem?_setIfInBounds_ne (Ne.symm hne), e]
end
end
end Go.Dm
/- The D-machine (26): a region that draws its order: whatever the order. -/
namespace Go.Dm
set_option linter.unusedSimpArgs false
set_option linter.unusedVariables false
set_option linter.unnecessarySimpa false

section
variable {P : Program} {cfg : Cfg} {mf : Bool} {CC : Code → DC → Prop} {base : Nat} {D : DProg} {E : Ex}
variable {ops : Array Oper} {bef : Array Nat} {κ : List Nat} {rops : List ROp} {F : Nat → Fr} {H : Nat → Heap}
variable {r : Option Nat} {c0 : Cor} {w0 : World}

theorem Out.add {c : Cor} {h : Heap} {w : World} (hS : Sim CC base c h w.heap) (ob : HObj) : Out CC base c h w c (h.add ob) w :=
  ⟨Cor.le.refl c, hS.add ob, Keeps.refl w, Nat.le_succ _, fun i hi hn => ⟨hn, by simp only [Heap.add]; exact Tr.get_set_ne _ _ (by omega)⟩, fun _ _ hn => ⟨hn, rfl⟩⟩
theorem Out.addTag {c : Cor} {h : Heap} {w : World} (hS : Sim CC base c h w.heap) (sz : Nat) : Out CC base c h w c (h.addTag sz) w :=
  ⟨Cor.le.refl c, hS.addTag sz, Keeps.refl w, Nat.le_succ _, fun _ _ hn => ⟨hn, rfl⟩, fun i hi hn => ⟨hn, by simp only [Heap.addTag]; exact Tr.get_set_ne _ _ (by omega)⟩⟩
theorem Owed.add {c : Cor} {G h : Heap} {ro : ROp} {fr : Fr} (ho : Owed D c G ro fr h) (hf : G.objs.get G.next = none) (ob : HObj) : Owed D c (G.add ob) ro fr h := by
  intro r hr
  have := ho r hr
  cases r with
  | val v => exact fun sh x e => loadD_add hf ob (this sh x e)
  | newO b mk => exact ⟨this.1, by simp only [Heap.add]; rw [Tr.get_set_ne _ _ (by omega)]; exact this.2.1, Nat.lt_succ_of_lt this.2.2⟩
  | newT sz mk => exact ⟨this.1, this.2.1, Nat.lt_succ_of_lt this.2.2⟩
  | eff _ _ => trivial
  | call _ _ _ => trivial
  | yield _ _ => trivial
  | defr _ _ => trivial
theorem Owed.addTag {c : Cor} {G h : Heap} {ro : ROp} {fr : Fr} (ho : Owed D c G ro fr h) (n : Nat) : Owed D c (G.addTag n) ro fr h := by
  intro r hr
  have := ho r hr
  cases r with
  | val v => exact this
  | newO b mk => exact ⟨this.1, this.2.1, Nat.lt_succ_of_lt this.2.2⟩
  | newT sz mk => exact ⟨this.1, by simp only [Heap.addTag]; rw [Tr.get_set_ne _ _ (by omega)]; exact this.2.1, Nat.lt_succ_of_lt this.2.2⟩
  | eff _ _ => trivial
  | call _ _ _ => trivial
  | yield _ _ => trivial
  | defr _ _ => trivial

theorem advance (hP : Plan P cfg mf D E ops bef κ rops F H) {listed : Array Bool} {c : Cor} {fv : Fr} {a : Act} {w : World} : ∀ (n T : Nat), ops.size - T = n → Inv CC base D ops bef κ rops F H r c0 w0 listed T c fv a w →
    ∃ T', T ≤ T' ∧ Inv CC base D ops bef κ rops F H r c0 w0 listed T' c fv a w ∧ ∀ ro, rops[T']? = some ro → ro.op.effect = true := by
  intro n
  induction n with
  | zero =>
    intro T hn hI
    refine ⟨T, Nat.le_refl _, hI, fun ro hro => ?_⟩
    have := (List.getElem?_eq_some_iff.1 hro).1
    rw [hP.rl, hP.κl] at this
    omega
  | succ n ih =>
    intro T hn hI
    have hlt : T < rops.length := by rw [hP.rl, hP.κl]; omega
    have hro : rops[T]? = some rops[T] := List.getElem?_eq_getElem hlt
    generalize rops[T] = ro at hro
    cases heff : ro.op.effect with
    | true => exact ⟨T, Nat.le_refl _, hI, fun ro' h' => by rw [hro] at h'; cases h'; exact heff⟩
    | false =>
      have hS := hI.out.sim
      -- what the step lays
      have key : Out CC base c (H T) w c (H (T + 1)) w ∧ (∀ (k : Nat) (rk : ROp), Owed D c (H T) rk (F k) (H k) → Owed D c (H (T + 1)) rk (F k) (H k)) ∧ (wantedG ro.guard (F T) = true → Owed D c (H (T + 1)) ro (F T) (H T)) := by
        rcases hP.step T ro hro with ⟨hw, hrun, _⟩ | ⟨hw, _, hH⟩
        · unfold runOp at hrun
          cases hev : evalOp D (F T) (H T) ro.op with
          | none => rw [hev] at hrun; cases hrun
          | some r0 =>
            rw [hev] at hrun
            rcases pure_cases heff hev with ⟨v, rfl⟩ | ⟨b, mk, rfl⟩ | ⟨sz, mk, rfl⟩
            · simp only [Option.some.injEq, Prod.mk.injEq] at hrun
              obtain ⟨_, hH⟩ := hrun
              rw [← hH]
              refine ⟨Out.refl hS, fun _ _ h => h, fun _ r1 hr1 => ?_⟩
              rw [hev] at hr1; cases hr1
              intro sh x e
              rw [e] at hev
              simp only [evalOp] at hev
              obtain ⟨y, h1, h2⟩ := Option.map_eq_some_iff.1 hev
              cases h2; exact h1
            · simp only [Option.some.injEq, Prod.mk.injEq] at hrun
              obtain ⟨_, hH⟩ := hrun
              rw [← hH]
              refine ⟨Out.add hS b, fun _ _ h => h.add (hS.fresh _ (Nat.le_refl _)).1 b, fun _ r1 hr1 => ?_⟩
              rw [hev] at hr1; cases hr1
              exact ⟨hS.φnext, by simp only [Heap.add]; exact Tr.get_set_same _ _ _, Nat.lt_succ_self _⟩
            · simp only [Option.some.injEq, Prod.mk.injEq] at hrun
              obtain ⟨_, hH⟩ := hrun
              rw [← hH]
              refine ⟨Out.addTag hS sz, fun _ _ h => h.addTag sz, fun _ r1 hr1 => ?_⟩
              rw [hev] at hr1; cases hr1
              exact ⟨hS.τnext, by simp only [Heap.addTag]; exact Tr.get_set_same _ _ _, Nat.lt_succ_self _⟩
        · rw [hH]
          exact ⟨Out.refl hS, fun _ _ h => h, fun hw' => by rw [hw] at hw'; cases hw'⟩
      obtain ⟨k1, k2, k3⟩ := key
      have hI' : Inv CC base D ops bef κ rops F H r c0 w0 listed (T + 1) c fv a w := by
        refine { size := hI.size, Tm := by omega, effT := fun k rk hk he => ?_, ahead := fun k hk => hI.ahead k (by omega), down := hI.down, out := hI.out.trans k1, fr := hI.fr, inr := hI.inr, defers := hI.defers, len := hI.len, slots := hI.slots, mono := fun i j hij hj => ?_, owed := fun k rk hk hrk hd hw => ?_ }
        · have hne : k ≠ T := fun e => by subst e; rw [hro] at hk; cases hk; rw [heff] at he; cases he
          rw [hI.effT k rk hk he]
          omega
        · by_cases e : j = T + 1
          · subst e
            by_cases e2 : i = T + 1
            · subst e2; exact Nat.le_refl _
            · exact Nat.le_trans (hI.mono i T (by omega) (Nat.le_refl _)) k1.next
          · exact hI.mono i j hij (by omega)
        · by_cases e : k = T
          · subst e; rw [hro] at hrk; cases hrk; exact k3 hw
          · exact k2 k rk (hI.owed k rk (by omega) hrk hd hw)
      obtain ⟨T', h1, h2, h3⟩ := ih (T + 1) (by omega) hI'
      exact ⟨T', by omega, h2, h3⟩

/-- One operation has come: what of the invariant turns by itself. -/
theorem inv_step (hP : Plan P cfg mf D E ops bef κ rops F H) {listed : Array Bool} {T : Nat} {c : Cor} {fv : Fr} {a : Act} {w : World} (hI : Inv CC base D ops bef κ rops F H r c0 w0 listed T c fv a w)
    {k j : Nat} {ro : ROp} (hk : κ[k]? = some j) (hro : rops[k]? = some ro) (hnd : don κ listed k = false) (hready : ∀ i a, κ[i]? = some a → ordered bef a j = true → don κ listed i = true) {v : DV} (hF : F (k + 1) = (F k).put ro.dst v)
    {T' : Nat} (hT : (k < T ∧ T' = T ∧ ro.op.effect = false) ∨ (k = T ∧ T' = T + 1)) {c' : Cor} {a' : Act} {w' : World} (hout : Out CC base c0 (H 0) w0 c' (H T') w') (hfr : FrRel c' r (fv.put ro.dst v) a')
    (hmono : ∀ i j, i ≤ j → j ≤ T' → (H i).next ≤ (H j).next)
    (howed : ∀ (k' : Nat) (rk : ROp), k' < T' → k' ≠ k → rops[k']? = some rk → don κ listed k' = false → wantedG rk.guard (F k') = true → Owed D c' (H T') rk (F k') (H k')) :
    Inv CC base D ops bef κ rops F H r c0 w0 (listed.setIfInBounds j true) T' c' (fv.put ro.dst v) a' w' := by
  have hset := don_set hP hI.size hk
  have hkl : k < ops.size := by have := (List.getElem?_eq_some_iff.1 hk).1; rw [hP.κl] at this; exact this
  have hslots := hP.alike hI hk hro hnd hready
  refine { size := by simp [hI.size], Tm := by have := hI.Tm; omega, effT := fun k' rk hrk he => ?_, ahead := fun k' hk' => ?_, down := fun i j' x y hi hj' hd ho => ?_, out := hout, fr := hfr, inr := by rw [Fr.put_inr]; exact hI.inr, defers := by rw [Fr.put_defers]; exact hI.defers,
           len := by rw [Fr.put_len]; exact hI.len, slots := fun t => ?_, mono := hmono, owed := fun k' rk hk' hrk hd hw => ?_ }
  · rw [hset, Bool.or_eq_true, hI.effT k' rk hrk he, decide_eq_true_eq]
    rcases hT with ⟨h1, rfl, h2⟩ | ⟨h1, rfl⟩
    · constructor
      · rintro (h | rfl)
        · exact h
        · exact h1
      · exact .inl
    · omega
  · rw [hset, hI.ahead k' (by omega)]
    simp; omega
  · rw [hset, Bool.or_eq_true, decide_eq_true_eq] at hd ⊢
    rcases hd with hd | rfl
    · exact .inl (hI.down i j' x y hi hj' hd ho)
    · rw [hk] at hj'; cases hj'
      exact .inl (hready i x hi ho)
  · by_cases ht : ro.dst = some t
    · refine ⟨k + 1, by omega, ?_, fun k' rk hrk hd => ?_⟩
      · rw [hF, ht]
        have hl1 := hI.len
        have hl2 := (hP.fconst k (by omega)).2.2
        by_cases hlt : t < fv.tmps.length
        · rw [List.getD_eq_getElem?_getD, List.getD_eq_getElem?_getD, Fr.put_same _ _ _ hlt, Fr.put_same _ _ _ (by omega)]
        · rw [List.getD_eq_getElem?_getD, List.getD_eq_getElem?_getD, List.getElem?_eq_none (by rw [Fr.put_len]; omega), List.getElem?_eq_none (by rw [Fr.put_len]; omega)]
      · rw [hset, Bool.or_eq_true, decide_eq_true_eq]
        obtain ⟨b, o, hb, _⟩ := hP.rget hrk
        have hts : t ∈ ro.slots := by simp [ROp.slots, ht]
        rcases Nat.lt_trichotomy k' k with hlt | heq | hgt
        · have := hready k' b hb ((hP.ord k' k b j rk ro hlt hb hk hrk hro).2 (.inr (.inl ⟨t, hd, hts⟩)))
          simp [this]; omega
        · subst heq; simp
        · have ho := (hP.ord k k' j b ro rk hgt hk hb hro hrk).2 (.inr (.inr ⟨t, hd, hts⟩))
          have : don κ listed k' = false := by
            cases hdon : don κ listed k' with
            | false => rfl
            | true => have := hI.down k k' j b hk hb hdon ho; rw [hnd] at this; cases this
          simp [this]; omega
    · obtain ⟨p, p1, p2, p3⟩ := hI.slots t
      refine ⟨p, p1, by rw [Fr.put_get _ _ _ _ ht]; exact p2, fun k' rk hrk hd => ?_⟩
      have hne : k' ≠ k := fun e => by subst e; rw [hro] at hrk; cases hrk; exact ht hd
      rw [hset, p3 k' rk hrk hd |> Bool.eq_iff_iff.2 ∘ fun h => (by simpa using h : don κ listed k' = true ↔ decide (k' < p) = true)]
      simp [hne]
  · rw [hset, Bool.or_eq_false_iff] at hd
    exact howed k' rk hk' (by simpa using hd.2) hrk hd.1 hw
end
end Go.Dm
/- The D-machine (27): every region; every code. -/
namespace Go.Dm
set_option linter.unusedSimpArgs false
set_option linter.unusedVariables false
set_option linter.unnecessarySimpa false

section
variable {P : Program} {cfg : Cfg} {mf : Bool} {CC : Code → DC → Prop} {base : Nat} {D : DProg} {E : Ex}
variable {ops : Array Oper} {bef : Array Nat} {κ : List Nat} {rops : List ROp} {F : Nat → Fr} {H : Nat → Heap}
variable {r : Option Nat} {c0 : Cor} {w0 : World}

theorem list_ext_getD {x y : List DV} (hl : x.length = y.length) (h : ∀ t, x.getD t .undef = y.getD t .undef) : x = y := by
  apply List.ext_getElem hl
  intro i h1 h2
  have := h i
  rw [List.getD_eq_getElem?_getD, List.getD_eq_getElem?_getD, List.getElem?_eq_getElem h1, List.getElem?_eq_getElem h2] at this
  exact this

theorem owed_chk (hP : Plan P cfg mf D E ops bef κ rops F H) {listed : Array Bool} {T : Nat} {c : Cor} {fv : Fr} {a : Act} {w : World} (hI : Inv CC base D ops bef κ rops F H r c0 w0 listed T c fv a w) {j : Nat} {ro : ROp} (hk : κ[T]? = some j) (hro : rops[T]? = some ro) (heff : ro.op.effect = true)
    (hck : chkOk D (F (T + 1)) (H (T + 1)) ro.chk = true) (hready : ∀ i a, κ[i]? = some a → ordered bef a j = true → don κ listed i = true) {k' : Nat} {rk : ROp} (hk' : k' < T) (hrk : rops[k']? = some rk) (hd : don κ listed k' = false) (hw : wantedG rk.guard (F k') = true)
    {sh : Shape} {x : Opd} {v : DV} (hop : rk.op = .load sh x) (hev : evalOp D (F k') (H k') rk.op = some (.val v)) : loadD (H (T + 1)) sh (ev D (F k') x) = some v := by
  obtain ⟨b, o, hb, _, _, _, hnd, hld, _⟩ := hP.rget hrk
  have hTl : T < ops.size := by have := (List.getElem?_eq_some_iff.1 hk).1; rw [hP.κl] at this; exact this
  have hld2 : ∃ d, rk.dst = some d ∧ x.slot? ≠ some d ∧ rk.guard.map (·.1) ≠ some d := by
    unfold loadOk at hld
    rw [hop] at hld
    simp only at hld
    split at hld
    · rename_i d hd
      simp only [Bool.and_eq_true, decide_eq_true_eq] at hld
      exact ⟨d, hd, hld.1, hld.2⟩
    · cases hld
  obtain ⟨d, hdst, hdx1, hdx2⟩ := hld2
  have hload : rk.load? = some (x, sh, d, rk.guard) := by simp [ROp.load?, hop, hdst]
  rcases hP.chk k' T b j rk ro _ hk' hb hk hrk hro heff hload with h | ⟨hmem, hno⟩
  · have := hready k' b hb h
    rw [hd] at this; cases this
  · -- its slots are az they were
    have hkeep : ∀ t ∈ rk.slots, ∀ i, k' + 1 ≤ i → i ≤ T + 1 → (F i).tmps.getD t .undef = (F (k' + 1)).tmps.getD t .undef := fun t ht i h1 h2 =>
      hP.fkeep h1 (by omega) fun l rl hl1 hl2 hrl hld => hno l rl t (by omega) (by omega) hrl hld ht
    have hstep := hP.step k' rk hrk
    rcases hstep with ⟨_, hrun, _⟩ | ⟨hw', _, _⟩
    case inr => rw [hw] at hw'; cases hw'
    have hF : F (k' + 1) = (F k').put rk.dst v := by
      unfold runOp at hrun
      rw [hev] at hrun
      simp only [Option.some.injEq, Prod.mk.injEq] at hrun
      exact hrun.1.symm
    have hmem2 := hck
    unfold chkOk at hmem2
    rw [List.all_eq_true] at hmem2
    have hent := hmem2 _ hmem
    simp only at hent
    have hdm : d ∈ rk.slots := by simp [ROp.slots, hdst]
    have hx : ev D (F (T + 1)) x = ev D (F k') x := ev_congr fun t ht => by
      have hne : t ≠ d := fun e => hdx1 (by rw [ht, e])
      rw [hkeep t (by simp only [ROp.slots, List.mem_append, List.mem_filterMap]; exact .inl (.inr ⟨x, by simp [hop, DOp.opds], ht⟩)) (T + 1) (by omega) (by omega), hF, hdst, Fr.put_get _ _ _ _ (by simpa using Ne.symm hne)]
    have hg : wantedG rk.guard (F (T + 1)) = wantedG rk.guard (F k') := by
      cases hgd : rk.guard with
      | none => rfl
      | some g =>
        obtain ⟨t, bb⟩ := g
        have hne : t ≠ d := fun e => hdx2 (by simp [hgd, e])
        have := hkeep t (by simp [ROp.slots, hgd]) (T + 1) (by omega) (by omega)
        rw [hF, hdst, Fr.put_get _ _ _ _ (by simpa using Ne.symm hne)] at this
        simp only [wantedG, this]
    rw [hg, hw] at hent
    simp only [Bool.not_true, Bool.false_or] at hent
    rw [hx] at hent
    split at hent
    · rename_i v1 u1 hv1 hu1
      have hbe := DV.eq_of_beq _ _ hent
      subst hbe
      rw [hv1]
      have h3 := hkeep d hdm (T + 1) (by omega) (by omega)
      rw [List.getD_eq_getElem?_getD, hu1, hF, hdst] at h3
      have hlt : d < (F k').tmps.length := by
        have h4 := (List.getElem?_eq_some_iff.1 hu1).1
        rw [(hP.fconst (T + 1) (by omega)).2.2] at h4
        rw [(hP.fconst k' (by omega)).2.2]
        exact h4
      rw [List.getD_eq_getElem?_getD, Fr.put_same _ _ _ hlt] at h3
      simpa using h3
    · cases hent

/-- What one operation lays is no other's. -/
theorem owed_other (hP : Plan P cfg mf D E ops bef κ rops F H) {listed : Array Bool} {T : Nat} {c c' : Cor} {fv : Fr} {a : Act} {w : World} (hI : Inv CC base D ops bef κ rops F H r c0 w0 listed T c fv a w) {k k' : Nat} {rk : ROp} {hk1 : Heap}
    (q6 : ∀ i, i ≠ (H k).next → c'.φ i = c.φ i ∧ c'.τ i = c.τ i) (hnext : hk1 = H (k + 1)) (h1 : k' < T) (hkT : k < T) (h2 : k' ≠ k) (h3 : rops[k']? = some rk) (h4 : don κ listed k' = false) (h5 : wantedG rk.guard (F k') = true) (hlt : (H k).next < hk1.next) : Owed D c' (H T) rk (F k') (H k') := by
  subst hnext
  have hold := hI.owed k' rk h1 h3 h4 h5
  intro r1 hr1
  have := hold r1 hr1
  -- if it lays something, it lays it elsewhere
  have hne : (∃ b mk, r1 = .newO b mk) ∨ (∃ sz mk, r1 = .newT sz mk) → (H k').next ≠ (H k).next := fun hl => by
    rcases Nat.lt_or_gt_of_ne h2 with hlt' | hgt
    · have hstep : (H k').next < (H (k' + 1)).next := by
        rcases hP.step k' rk h3 with ⟨_, hrun, _⟩ | ⟨hw', _, _⟩
        · unfold runOp at hrun
          rw [hr1] at hrun
          rcases hl with ⟨b, mk, rfl⟩ | ⟨sz, mk, rfl⟩
          · simp only [Option.some.injEq, Prod.mk.injEq] at hrun
            rw [← hrun.2]; exact Nat.lt_succ_self _
          · simp only [Option.some.injEq, Prod.mk.injEq] at hrun
            rw [← hrun.2]; exact Nat.lt_succ_self _
        · rw [h5] at hw'; cases hw'
      have := hI.mono (k' + 1) k (by omega) (by omega)
      omega
    · have := hI.mono (k + 1) k' (by omega) (by omega)
      omega
  cases r1 with
  | val v => exact this
  | newO b mk => exact ⟨by rw [(q6 _ (hne (.inl ⟨b, mk, rfl⟩))).1]; exact this.1, this.2⟩
  | newT sz mk => exact ⟨by rw [(q6 _ (hne (.inr ⟨sz, mk, rfl⟩))).2]; exact this.1, this.2⟩
  | eff _ _ => trivial
  | call _ _ _ => trivial
  | yield _ _ => trivial
  | defr _ _ => trivial

theorem any_sound (hP : Plan P cfg mf D E ops bef κ rops F H) (hCall : CallOk P CC base D (callD D E)) (hCode : CodeOk P CC base D E) (hg : GlobOk D c0) (hS0 : Sim CC base c0 (H 0) w0.heap) {n : Nat} {Q : Exit → Act → World → Prop}
    (hQ : ∀ a' w' c', Out CC base c0 (H 0) w0 c' (H ops.size) w' → FrRel c' r (F ops.size) a' → Q .normal a' w') :
    ∀ (fuel : Nat) (listed : Array Bool) (T : Nat) (c : Cor) (fv : Fr) (a : Act) (w : World), und listed.toList ≤ fuel → Inv CC base D ops bef κ rops F H r c0 w0 listed T c fv a w → (∀ ro, rops[T]? = some ro → ro.op.effect = true) →
      wpAnyIn (FF r) n P .any ops Q fuel listed a w := by
  -- all have come
  have last : ∀ (listed : Array Bool) (T : Nat) (c : Cor) (fv : Fr) (a : Act) (w : World), Inv CC base D ops bef κ rops F H r c0 w0 listed T c fv a w → (∀ ro, rops[T]? = some ro → ro.op.effect = true) → (∀ j, j < ops.size → listed.getD j false = true) → Q .normal a w := by
    intro listed T c fv a w hI hT hall
    have hdon : ∀ k, k < ops.size → don κ listed k = true := fun k hk => by
      have hk' : k < κ.length := by rw [hP.κl]; exact hk
      have := List.getElem?_eq_getElem hk'
      unfold don
      rw [this]
      exact hall _ (hP.κs k _ this)
    have hTm : T = ops.size := by
      by_cases h : T < ops.size
      · have := hI.ahead T (Nat.le_refl _)
        rw [hdon T h] at this; cases this
      · have := hI.Tm; omega
    subst hTm
    have hc := hP.fconst ops.size (Nat.le_refl _)
    have hfv : fv = F ops.size := by
      have ht : fv.tmps = (F ops.size).tmps := by
        refine list_ext_getD (by rw [hI.len, hc.2.2]) fun t => ?_
        obtain ⟨p, p1, p2, p3⟩ := hI.slots t
        rw [p2]
        refine (hP.fkeep p1 (Nat.le_refl _) fun k ro h1 h2 h3 h4 => ?_).symm
        have := (p3 k ro h3 h4).1 (hdon k h2)
        omega
      have h1 : fv.inr = (F ops.size).inr := hI.inr.trans hc.1.symm
      have h2 : fv.defers = (F ops.size).defers := hI.defers.trans hc.2.1.symm
      cases fv with
      | mk t d i =>
        cases hF : F ops.size with
        | mk t' d' i' =>
          rw [hF] at ht h1 h2
          simp only at ht h1 h2
          rw [ht, h1, h2]
    rw [hfv] at hI
    exact hQ a w c hI.out hI.fr
  -- nothing may come: all have
  have over : ∀ (listed : Array Bool), listed.size = ops.size → Region.ready .any ops listed = [] → ∀ j, j < ops.size → listed.getD j false = true := by
    intro listed hsz hnil j
    induction j using Nat.strongRecOn with
    | ind j ih =>
      intro hj
      cases hd : listed.getD j false with
      | true => rfl
      | false =>
        exfalso
        have hjm : j ∈ Region.ready .any ops listed := by
          rw [mem_ready]
          refine ⟨?_, ops[j], Array.getElem?_eq_getElem hj, fun e he hb => ?_⟩
          · have h1 : listed[j]? = some listed[j] := Array.getElem?_eq_getElem (by omega)
            rw [Array.getD_eq_getD_getElem?, h1] at hd ⊢
            simpa using hd
          · have := hP.edge j _ e (Array.getElem?_eq_getElem hj) he hb
            exact ih e.on this (by omega)
        rw [hnil] at hjm; cases hjm
  intro fuel
  induction fuel with
  | zero =>
    intro listed T c fv a w hu hI hT
    have hall : ∀ j, j < ops.size → listed.getD j false = true := fun j hj => by
      have := und_zero listed.toList (by omega) j (by simpa [hI.size] using hj)
      rw [Array.getD_eq_getD_getElem?]
      have h2 : listed[j]? = some true := by simpa using this
      rw [h2]; rfl
    refine ⟨?_, last listed T c fv a w hI hT hall⟩
    cases hr : Region.ready .any ops listed with
    | nil => rfl
    | cons j l =>
      exfalso
      have hj : j ∈ Region.ready .any ops listed := by rw [hr]; simp
      obtain ⟨h1, o, ho, _⟩ := mem_ready.1 hj
      have hjs := (Array.getElem?_eq_some_iff.1 ho).1
      have h2 := hall j hjs
      have hjl : j < listed.size := by rw [hI.size]; exact hjs
      have h3 : listed[j]? = some listed[j] := Array.getElem?_eq_getElem hjl
      rw [Array.getD_eq_getD_getElem?, h3] at h1 h2
      simp only [Option.getD_some] at h1 h2
      rw [h1] at h2; cases h2
  | succ fuel ih =>
    intro listed T c fv a w hu hI hT
    refine ⟨fun hnil => last listed T c fv a w hI hT (over listed hI.size hnil), fun j hj => ?_⟩
    obtain ⟨hun, o, ho, hedges⟩ := mem_ready.1 hj
    have hjs := (Array.getElem?_eq_some_iff.1 ho).1
    obtain ⟨k, hk⟩ := hP.κe j hjs
    obtain ⟨ro, o', hro, ho', hcomp, hdst, hndf, hld, hwant⟩ := hP.op k j hk
    rw [ho] at ho'; cases ho'
    have hlj : listed[j]? = some false := by
      have hjl : j < listed.size := by rw [hI.size]; exact hjs
      have h3 : listed[j]? = some listed[j] := Array.getElem?_eq_getElem hjl
      rw [Array.getD_eq_getD_getElem?, h3] at hun
      simp only [Option.getD_some] at hun
      rw [h3, hun]
    have hnd : don κ listed k = false := by
      unfold don
      rw [hk]
      simp only
      rw [Array.getD_eq_getD_getElem?, hlj]; rfl
    have hundone : und (listed.setIfInBounds j true).toList ≤ fuel := by
      have := und_set listed.toList j (by simpa using hlj)
      rw [Array.toList_setIfInBounds]
      omega
    -- what must come ahead has come
    have hdone : ∀ x, x < ops.size → listed.getD x false = true → ∀ i, κ[i]? = some x → don κ listed i = true := fun x _ hx i hi => by
      unfold don; rw [hi]; exact hx
    have hready : ∀ i x, κ[i]? = some x → ordered bef x j = true → don κ listed i = true := fun i x hi hox => by
      obtain ⟨e, he, hb, hcase⟩ := hP.ready j o x ho hox
      have hon := hP.edge j o e ho he hb
      have hlist := hedges e he hb
      rcases hcase with rfl | hcase
      · exact hdone _ (by omega) hlist i hi
      · obtain ⟨ke, hke⟩ := hP.κe e.on (by omega)
        exact hI.down i ke x e.on hi hke (hdone _ (by omega) hlist ke hke) hcase
    -- it is no later than the next effect
    have hkl : k < ops.size := by have := (List.getElem?_eq_some_iff.1 hk).1; rw [hP.κl] at this; exact this
    have hkT : k ≤ T := by
      by_cases h : k ≤ T
      · exact h
      · exfalso
        have hTl : T < rops.length := by rw [hP.rl, hP.κl]; omega
        have hrT : rops[T]? = some rops[T] := List.getElem?_eq_getElem hTl
        obtain ⟨b, oT, hb, _⟩ := hP.rget hrT
        have := hready T b hb ((hP.ord T k b j _ ro (by omega) hb hk hrT hro).2 (.inl (hT _ hrT)))
        rw [hI.ahead T (Nat.le_refl _)] at this; cases this
    have hal := hP.alike hI hk hro hnd hready
    have hinr : fv.inr = (F k).inr := hI.inr.trans (hP.fconst k (by omega)).1.symm
    have hstep := hP.step k ro hro
    -- behind it
    have go : ∀ {v : DV} {T' : Nat} {c' : Cor} {a' : Act} {w' : World}, F (k + 1) = (F k).put ro.dst v → ((k < T ∧ T' = T ∧ ro.op.effect = false) ∨ (k = T ∧ T' = T + 1)) → Out CC base c0 (H 0) w0 c' (H T') w' → FrRel c' r (fv.put ro.dst v) a' →
        (∀ i j, i ≤ j → j ≤ T' → (H i).next ≤ (H j).next) →
        (∀ (k' : Nat) (rk : ROp), k' < T' → k' ≠ k → rops[k']? = some rk → don κ listed k' = false → wantedG rk.guard (F k') = true → Owed D c' (H T') rk (F k') (H k')) →
        wpAnyIn (FF r) n P .any ops Q fuel (listed.setIfInBounds j true) a' w' := by
      intro v T' c' a' w' h1 h2 h3 h4 h5 h6
      have hI' := inv_step hP hI hk hro hnd hready h1 h2 h3 h4 h5 h6
      obtain ⟨T2, _, hI2, hT2⟩ := advance hP _ T' rfl hI'
      exact ih _ T2 _ _ _ _ hundone hI2 hT2
    have hgc : GlobOk D c := hg.mono hI.out.le
    unfold wpOpIn
    rw [ho]
    simp only
    rw [hwant c fv a hI.fr.tmps, hal.wanted]
    by_cases hkT' : k < T
    · -- ours has passed it: it is no effect
      have heff : ro.op.effect = false := by
        cases he : ro.op.effect with
        | false => rfl
        | true => have := (hI.effT k ro hro he).2 hkT'; rw [hnd] at this; cases this
      rcases hstep with ⟨hw, hrun, _⟩ | ⟨hw, hF, hH⟩
      · rw [if_pos hw]
        have hrun2 := hrun
        unfold runOp at hrun2
        cases hev : evalOp D (F k) (H k) ro.op with
        | none => rw [hev] at hrun2; cases hrun2
        | some r0 =>
          rw [hev] at hrun2
          have hev' : evalOp D fv (H k) ro.op = some r0 := by rw [hal.evalOp hinr]; exact hev
          have howe := hI.owed k ro hkT' hro hnd hw r0 hev
          have hsem : o.semAt (FF r).round a.eval = execOp a.eval o := semAt_of fun cl e => by
            exfalso
            rw [e] at hcomp
            simp only [compOp] at hcomp
            split at hcomp <;> try (cases hcomp; done)
            split at hcomp <;> try (cases hcomp; done)
            have := Option.some.inj hcomp
            rw [← this] at heff
            simp [DOp.effect] at heff
          refine ⟨fun _ _ => trivial, ?_⟩
          rw [hsem]
          rcases pure_cases heff hev with ⟨v, rfl⟩ | ⟨b, mk, rfl⟩ | ⟨sz, mk, rfl⟩
          · simp only [Option.some.injEq, Prod.mk.injEq] at hrun2
            obtain ⟨v', w', q1, q2, q3⟩ := val_sound (h := H k) (G := H T) w hcomp hgc hI.fr.tmps hI.out.sim heff hev' fun sh x e => by
              have := howe sh x e
              rwa [← ev_congr fun t ht => hal t (by simp only [ROp.slots, List.mem_append, List.mem_filterMap]; exact .inl (.inr ⟨x, by rw [e]; simp [DOp.opds], ht⟩))] at this
            rw [q1, Oper.uponIn_value, ← hdst]
            have hq := Out.quiet hI.out.sim q3
            exact go hrun2.1.symm (.inl ⟨hkT', rfl, heff⟩) (hI.out.trans hq) (hI.fr.put _ q2) hI.mono fun k' rk h1 h2 h3 h4 h5 => hI.owed k' rk h1 h3 h4 h5
          · simp only [Option.some.injEq, Prod.mk.injEq] at hrun2
            have h2le : 2 ≤ (H k).next := Nat.le_trans hS0.next (hI.mono 0 k (Nat.zero_le _) hkT)
            obtain ⟨v', w', c', q1, q2, q3, q4, q5, q6⟩ := new_sound (id := (H k).next) (G := H T) (v := mk (H k).next) w hcomp hgc hI.fr.tmps hI.out.sim heff hev' howe.2.2 h2le ⟨rfl, howe.1, howe.2.1⟩
            rw [q1, Oper.uponIn_value, ← hdst]
            have h0k : (H 0).next ≤ (H k).next := hI.mono 0 k (Nat.zero_le _) hkT
            have hout : Out CC base c0 (H 0) w0 c' (H T) w' := ⟨hI.out.le.trans q2, q3, hI.out.keeps.trans q5, hI.out.next,
              fun i hi hn => ⟨by rw [(q6 i (by omega)).1]; exact (hI.out.extφ i hi hn).1, (hI.out.extφ i hi hn).2⟩, fun i hi hn => ⟨by rw [(q6 i (by omega)).2]; exact (hI.out.extτ i hi hn).1, (hI.out.extτ i hi hn).2⟩⟩
            exact go hrun2.1.symm (.inl ⟨hkT', rfl, heff⟩) hout ((hI.fr.mono q2).put _ q4) hI.mono fun k' rk h1 h2 h3 h4 h5 => owed_other hP hI q6 hrun2.2 h1 hkT' h2 h3 h4 h5 (Nat.lt_succ_self _)
          · simp only [Option.some.injEq, Prod.mk.injEq] at hrun2
            have h2le : 2 ≤ (H k).next := Nat.le_trans hS0.next (hI.mono 0 k (Nat.zero_le _) hkT)
            obtain ⟨v', w', c', q1, q2, q3, q4, q5, q6⟩ := new_sound (id := (H k).next) (G := H T) (v := mk (H k).next) w hcomp hgc hI.fr.tmps hI.out.sim heff hev' howe.2.2 h2le ⟨rfl, howe.1, howe.2.1⟩
            rw [q1, Oper.uponIn_value, ← hdst]
            have h0k : (H 0).next ≤ (H k).next := hI.mono 0 k (Nat.zero_le _) hkT
            have hout : Out CC base c0 (H 0) w0 c' (H T) w' := ⟨hI.out.le.trans q2, q3, hI.out.keeps.trans q5, hI.out.next,
              fun i hi hn => ⟨by rw [(q6 i (by omega)).1]; exact (hI.out.extφ i hi hn).1, (hI.out.extφ i hi hn).2⟩, fun i hi hn => ⟨by rw [(q6 i (by omega)).2]; exact (hI.out.extτ i hi hn).1, (hI.out.extτ i hi hn).2⟩⟩
            exact go hrun2.1.symm (.inl ⟨hkT', rfl, heff⟩) hout ((hI.fr.mono q2).put _ q4) hI.mono fun k' rk h1 h2 h3 h4 h5 => owed_other hP hI q6 hrun2.2 h1 hkT' h2 h3 h4 h5 (Nat.lt_succ_self _)
      · rw [if_neg (by rw [hw]; simp), ← hdst]
        exact ⟨fun _ _ => trivial, go hF (.inl ⟨hkT', rfl, heff⟩) hI.out (hI.fr.put _ .undef) hI.mono fun k' rk h1 h2 h3 h4 h5 => hI.owed k' rk h1 h3 h4 h5⟩
    · -- it is the next effect
      have hkT2 : k = T := by omega
      subst hkT2
      have heff := hT ro hro
      rcases hstep with ⟨hw, hrun, hck⟩ | ⟨hw, hF, hH⟩
      · rw [if_pos hw]
        obtain ⟨v, hv1, hv2⟩ := runOp_congr (fr2 := fv) (fun t ht => (hal t ht).symm) hinr.symm hndf hrun
        refine op_sound hCall hCode hcomp hdst hv2 hgc hI.fr hI.out.sim fun a' w' c' o1 f1 => ?_
        refine go hv1 (.inr ⟨rfl, rfl⟩) (hI.out.trans o1) f1 (fun i j' hij hj' => ?_) fun k' rk h1 h2 h3 h4 h5 => ?_
        · by_cases e : j' = k + 1
          · subst e
            by_cases e2 : i = k + 1
            · subst e2; exact Nat.le_refl _
            · exact Nat.le_trans (hI.mono i k (by omega) (Nat.le_refl _)) o1.next
          · exact hI.mono i j' hij (by omega)
        · have hlt : k' < k := by omega
          have hold := hI.owed k' rk hlt h3 h4 h5
          intro r1 hr1
          have := hold r1 hr1
          cases r1 with
          | val v1 => exact fun sh x e => owed_chk hP hI hk hro heff hck hready hlt h3 h4 h5 e hr1
          | newO b mk => 
            have hx := o1.extφ _ this.2.2 this.1
            exact ⟨hx.1, hx.2.trans this.2.1, Nat.lt_of_lt_of_le this.2.2 o1.next⟩
          | newT sz mk =>
            have hx := o1.extτ _ this.2.2 this.1
            exact ⟨hx.1, hx.2.trans this.2.1, Nat.lt_of_lt_of_le this.2.2 o1.next⟩
          | eff _ _ => trivial
          | call _ _ _ => trivial
          | yield _ _ => trivial
          | defr _ _ => trivial
      · rw [if_neg (by rw [hw]; simp), ← hdst]
        refine ⟨fun _ _ => trivial, go hF (.inr ⟨rfl, rfl⟩) (by rw [hH]; exact hI.out) (hI.fr.put _ .undef) (fun i j' hij hj' => ?_) fun k' rk h1 h2 h3 h4 h5 => by rw [hH]; exact hI.owed k' rk (by omega) h3 h4 h5⟩
        by_cases e : j' = k + 1
        · subst e
          rw [hH]
          by_cases e2 : i = k + 1
          · subst e2; rw [hH]; exact Nat.le_refl _
          · exact hI.mono i k (by omega) (Nat.le_refl _)
        · exact hI.mono i j' hij (by omega)

/-- **A region, drawn or not.** -/
theorem region_sound (hm : P.follows .mixedOrders = true) (hCall : CallOk P CC base D (callD D E)) (hCode : CodeOk P CC base D E) {id : Nat} {ops : Array Oper} {draw : Bool} {rops : List ROp} (hc : compRegion P cfg mf ops draw = some rops) {fr fr' : Fr} {h h' : Heap} (he : runOps D E rops fr h = some (fr', h'))
    {k : Nat} {c : Cor} {a : Act} {w : World} (hg : GlobOk D c) (hfr : FrRel c r fr a) (hS : Sim CC base c h w.heap) :
    (Code.region id ops draw).wpIn (FF r) k P (fun e a' w' => e = .normal ∧ ∃ c', Out CC base c h w c' h' w' ∧ FrRel c' r fr' a') a w := by
  cases draw with
  | false =>
    have hrs : compRops P cfg mf ops ops.toList = some rops := by
      unfold compRegion at hc
      split at hc <;> try (cases hc; done)
      rename_i rs hrs
      simp only [if_true] at hc
      cases hc
      exact hrs
    exact wpIn_region_list (seq_sound hCall hCode ops.toList rops c fr h a w hrs he hg hfr hS fun a' w' c' o1 f1 => ⟨rfl, c', o1, f1⟩)
  | true =>
    obtain ⟨κ, F, H, f0, h0, fm, hm', hP⟩ := plan_of hc he
    refine wpIn_region_any hm ?_
    let w1 : World := { w with drawn := w.drawn + 1 }
    have hS1 : Sim CC base c (H 0) w1.heap := by rw [h0]; exact hS
    have hd0 : ∀ k, don κ (Array.replicate ops.size false) k = false := fun k => by
      unfold don
      split
      · rename_i j _
        rw [Array.getD_eq_getD_getElem?]
        cases hx : (Array.replicate ops.size false)[j]? with
        | none => rfl
        | some b => simp [Array.getElem?_replicate] at hx; simp [← hx.2]
      · rfl
    have hI : Inv CC base D ops (Region.before ops) κ rops F H r c w1 (Array.replicate ops.size false) 0 c fr a w1 := by
      have hdown : ∀ (i j a b : Nat), κ[i]? = some a → κ[j]? = some b → don κ (Array.replicate ops.size false) j = true → ordered (Region.before ops) a b = true → don κ (Array.replicate ops.size false) i = true := fun i j a b _ _ hd _ => by
        rw [hd0] at hd; cases hd
      refine { size := by simp, Tm := Nat.zero_le _, effT := fun k ro _ _ => by simp [hd0], ahead := fun k _ => hd0 k, down := hdown, out := ?_, fr := hfr, inr := by rw [f0], defers := by rw [f0], len := by rw [f0], slots := fun t => ⟨0, Nat.zero_le _, by rw [f0], fun k ro _ _ => by simp [hd0]⟩,
               mono := fun i j h1 h2 => ?_, owed := fun k ro h => absurd h (Nat.not_lt_zero _) }
      · exact Out.refl hS1
      have : i = j := by omega
      subst this; exact Nat.le_refl _
    obtain ⟨T, _, hI2, hT⟩ := advance hP _ 0 rfl hI
    have hdraw : Out CC base c h w c h w1 := Out.drew hS _
    refine any_sound hP hCall hCode hg hS1 (fun a' w' c' o1 f1 => ⟨rfl, c', ?_, ?_⟩) ops.size _ T c fr a w1 (by rw [Array.toList_replicate, und_replicate]; exact Nat.le_refl _) hI2 hT
    · rw [h0, hm'] at o1
      exact hdraw.trans o1
    · rw [fm] at f1; exact f1

/-- A loop of nothing never ends. -/
theorem loop_skip : ∀ (n : Nat) (fr : Fr) (h : Heap), exec D n (.loop .skip) fr h = none
  | 0, _, _ => rfl
  | n + 1, fr, h => by
    cases n with
    | zero => rfl
    | succ n =>
      have ih := loop_skip (n + 1) fr h
      exact ih
/-- **Whatever code ours runs, the model runs to the same end.** -/
theorem code_sound (hm : P.follows .mixedOrders = true) (hCC : CC = fun code dc => ∃ mf, compC P cfg mf code = some dc) (hD : ∀ f df, D.fn f = some df → compF P cfg f = some df)
    (hprim : CallOk P CC base D (fun f args h => (D.prim f).bind fun p => p args h)) : ∀ n, CodeOk P CC base D (exec D n) := by
  intro n
  induction n using Nat.strongRecOn with
  | ind n IH =>
    cases n with
    | zero => intro code dc _ fr h x fr' h' he; cases he
    | succ n =>
    have ih := IH n (Nat.lt_succ_self _)
    have hCall := call_sound (cfg := cfg) ih (fun mf code dc h => by rw [hCC]; exact ⟨mf, h⟩) hD hprim
    intro code dc hcc fr h x fr' h' he r k c a w hg hfr hS
    rw [hCC] at hcc
    obtain ⟨mf, hcomp⟩ := hcc
    have mk : ∀ {c1 d1}, compC P cfg mf c1 = some d1 → CC c1 d1 := fun h => by rw [hCC]; exact ⟨mf, h⟩
    have he' : stepD D (exec D n) dc fr h = some (x, fr', h') := he
    cases code <;> simp only [compC] at hcomp <;> try (cases hcomp; done)
    case skip =>
      cases hcomp
      simp only [stepD] at he'; cases he'
      exact wpIn_skip ⟨rfl, c, Out.refl hS, hfr⟩
    case region id ops draw =>
      split at hcomp <;> cases hcomp
      rotate_left
      · rw [loop_skip] at he; cases he
      rename_i rops hr
      simp only [stepD] at he'
      obtain ⟨⟨f1, h1⟩, hrun, hx⟩ := Option.map_eq_some_iff.1 he'
      cases hx
      exact region_sound (cfg := cfg) hm hCall ih hr hrun hg hfr hS
    case seq x1 y1 =>
      split at hcomp <;> try (cases hcomp; done)
      rename_i dx dy h1 h2
      cases hcomp
      simp only [stepD] at he'
      split at he'
      · rename_i fr1 hh1 hx1
        refine wpIn_seq (wpIn_mono (ih _ _ (mk h1) _ _ _ _ _ hx1 r k c a w hg hfr hS) ?_)
        rintro e a1 w1 ⟨rfl, c1, o1, f1⟩
        refine wpIn_mono (ih _ _ (mk h2) _ _ _ _ _ he' r k c1 a1 w1 (hg.mono o1.le) f1 o1.sim) ?_
        rintro e a2 w2 ⟨rfl, c2, o2, f2⟩
        exact ⟨rfl, c2, o1.trans o2, f2⟩
      · rename_i hne
        refine wpIn_seq (wpIn_mono (ih _ _ (mk h1) _ _ _ _ _ he' r k c a w hg hfr hS) ?_)
        rintro e a1 w1 ⟨rfl, hrest⟩
        cases x with
        | normal => exact absurd he' (hne _ _)
        | exit id => exact ⟨rfl, hrest⟩
        | ret => exact ⟨rfl, hrest⟩
    case cond cc x1 y1 =>
      split at hcomp <;> try (cases hcomp; done)
      rename_i dc dx dy h0 h1 h2
      cases hcomp
      have hv := opd_rel hg hfr.tmps h0
      simp only [stepD] at he'
      split at he' <;> try (cases he'; done)
      · rename_i hb
        rw [hb] at hv
        exact wpIn_cond_true hv.bool_inv (ih _ _ (mk h1) _ _ _ _ _ he' r k c a w hg hfr hS)
      · rename_i hb
        rw [hb] at hv
        exact wpIn_cond_false hv.bool_inv (ih _ _ (mk h2) _ _ _ _ _ he' r k c a w hg hfr hS)
    case block id b =>
      obtain ⟨db, hb, rfl⟩ := Option.map_eq_some_iff.1 hcomp
      simp only [stepD] at he'
      refine wpIn_block ?_
      split at he'
      · rename_i i fr1 hh1 hx1
        refine wpIn_mono (ih _ _ (mk hb) _ _ _ _ _ hx1 r k c a w hg hfr hS) ?_
        rintro e a1 w1 ⟨rfl, hrest⟩
        split at he' <;> cases he'
        · rename_i hid
          subst hid
          show Exit.inBlock i _ (.exit i) a1 w1
          simp only [Exit.inBlock, if_true]
          exact ⟨rfl, hrest⟩
        · rename_i hid
          show Exit.inBlock id _ (.exit i) a1 w1
          simp only [Exit.inBlock, hid, if_false]
          exact ⟨rfl, hrest⟩
      · rename_i hne
        refine wpIn_mono (ih _ _ (mk hb) _ _ _ _ _ he' r k c a w hg hfr hS) ?_
        rintro e a1 w1 ⟨rfl, hrest⟩
        cases x with
        | normal => exact ⟨rfl, hrest⟩
        | exit i => exact absurd he' (hne _ _ _)
        | ret => exact ⟨rfl, hrest⟩
    case loop b =>
      obtain ⟨db, hb, rfl⟩ := Option.map_eq_some_iff.1 hcomp
      let I : Nat → Act → World → Prop := fun m a1 w1 => m ≤ n + 1 ∧ ∃ c1 fr1 h1, exec D m (.loop db) fr1 h1 = some (x, fr', h') ∧ Out CC base c h w c1 h1 w1 ∧ FrRel c1 r fr1 a1
      refine wpIn_loop_ghost I (n + 1) ⟨Nat.le_refl _, c, fr, h, he, Out.refl hS, hfr⟩ ?_
      rintro m a1 w1 ⟨hmle, c1, fr1, h1, hex, o1, f1⟩
      cases m with
      | zero => cases hex
      | succ m =>
        have hbody := IH m (by omega)
        have hex' : stepD D (exec D m) (.loop db) fr1 h1 = some (x, fr', h') := hex
        simp only [stepD] at hex'
        split at hex'
        · rename_i fr2 hh2 hx1
          refine wpIn_mono (hbody _ _ (mk hb) _ _ _ _ _ hx1 r k c1 a1 w1 (hg.mono o1.le) f1 o1.sim) ?_
          rintro e a2 w2 ⟨rfl, c2, o2, f2⟩
          exact ⟨m, by omega, by omega, c2, fr2, hh2, hex', o1.trans o2, f2⟩
        · rename_i hne
          refine wpIn_mono (hbody _ _ (mk hb) _ _ _ _ _ hex' r k c1 a1 w1 (hg.mono o1.le) f1 o1.sim) ?_
          rintro e a2 w2 ⟨rfl, c2, o2, f2⟩
          cases x with
          | normal => exact absurd hex' (hne _ _)
          | exit id => exact ⟨rfl, c2, o1.trans o2, f2⟩
          | ret => exact ⟨rfl, c2, o1.trans o2, f2⟩
    case rangeFunc f ps asg body =>
      split at hcomp <;> try (cases hcomp; done)
      rename_i df dasg dbody h0 h1 h2
      cases hcomp
      simp only [stepD] at he'
      exact range_sound hCall h0 (mk h1) (mk h2) he' hg hfr hS
    case exit id =>
      cases hcomp
      simp only [stepD] at he'; cases he'
      exact wpIn_exit ⟨rfl, c, Out.refl hS, hfr⟩
    case ret =>
      cases hcomp
      simp only [stepD] at he'; cases he'
      exact wpIn_ret ⟨rfl, c, Out.refl hS, hfr⟩
end
end Go.Dm
/- The D-machine (28): its runs, put together piece by piece. -/
namespace Go.Dm
set_option linter.unusedSimpArgs false
set_option linter.unusedVariables false
set_option linter.unnecessarySimpa false

def ExLe (E E' : Ex) : Prop := ∀ dc fr h r, E dc fr h = some r → E' dc fr h = some r
section
variable {D : DProg} {E E' : Ex}
theorem bodyD_le (hE : ExLe E E') {f : Nat} {args : List DV} {h : Heap} {r} (he : bodyD D E f args h = some r) : bodyD D E' f args h = some r := by
  unfold bodyD at he ⊢
  split at he <;> try (cases he; done)
  split at he <;> try (cases he; done)
  · rename_i hx
    simp only [hE _ _ _ _ hx]; exact he
  · rename_i hx
    simp only [hE _ _ _ _ hx]; exact he
theorem callDef_le (hE : ExLe E E') {f : Nat} {args : List DV} {h : Heap} {r} (he : callDef D E f args h = some r) : callDef D E' f args h = some r := by
  unfold callDef at he ⊢
  split at he <;> try (cases he; done)
  rename_i hx
  simp only [bodyD_le hE hx]; exact he
theorem leaveD_le {C C' : Nat → List DV → Heap → Option Heap} (hC : ∀ f a h r, C f a h = some r → C' f a h = some r) : ∀ {ds : List DDef} {h : Heap} {r}, leaveD ds h C = some r → leaveD ds h C' = some r
  | [], h, r, he => he
  | .mark m :: ds, h, r, he => by
    simp only [leaveD] at he ⊢
    split at he <;> try (cases he; done)
    exact leaveD_le hC he
  | .call f args :: ds, h, r, he => by
    simp only [leaveD] at he ⊢
    obtain ⟨h1, h2, h3⟩ := Option.bind_eq_some_iff.1 he
    rw [hC _ _ _ _ h2]
    exact leaveD_le hC h3
theorem callD_le (hE : ExLe E E') {f : Nat} {args : List DV} {h : Heap} {r} (he : callD D E f args h = some r) : callD D E' f args h = some r := by
  unfold callD at he ⊢
  split at he
  · exact he
  · split at he <;> try (cases he; done)
    rename_i hx
    simp only [bodyD_le hE hx]
    split at he <;> try (cases he; done)
    rename_i hy
    simp only [leaveD_le (fun f a h r => callDef_le hE) hy]
    exact he
theorem yieldD_le (hE : ExLe E E') {l : Nat} {args : List DV} {h : Heap} {r} (he : yieldD E l args h = some r) : yieldD E' l args h = some r := by
  unfold yieldD at he ⊢
  split at he <;> try (cases he; done)
  split at he
  case isFalse => cases he
  rename_i hc
  rw [if_pos hc]
  split at he <;> try (cases he; done)
  rename_i hx
  simp only [hE _ _ _ _ hx]
  split at he <;> try (cases he; done)
  split at he
  case isFalse => cases he
  rename_i hc2
  rw [if_pos hc2]
  split at he <;> try (cases he; done)
  rename_i hy
  simp only [hE _ _ _ _ hy]
  exact he
theorem runOp_le (hE : ExLe E E') {o : ROp} {fr : Fr} {h : Heap} {r} (he : runOp D E o fr h = some r) : runOp D E' o fr h = some r := by
  unfold runOp at he ⊢
  split at he <;> try exact he
  · split at he <;> try (cases he; done)
    rename_i hx
    simp only [callD_le hE hx]; exact he
  · obtain ⟨a, h1, h2⟩ := Option.map_eq_some_iff.1 he
    rw [yieldD_le hE h1, ← h2]; rfl
theorem runOps_le (hE : ExLe E E') : ∀ {os : List ROp} {fr : Fr} {h : Heap} {r}, runOps D E os fr h = some r → runOps D E' os fr h = some r
  | [], _, _, _, he => he
  | o :: os, fr, h, r, he => by
    simp only [runOps] at he ⊢
    split at he
    · rename_i hw
      rw [if_pos hw]
      split at he <;> try (cases he; done)
      rename_i hx
      simp only [runOp_le hE hx]
      split at he
      case isFalse => cases he
      rename_i hk
      rw [if_pos hk]
      exact runOps_le hE he
    · rename_i hw
      rw [if_neg hw]
      exact runOps_le hE he
theorem rangeD_le (hE : ExLe E E') {f : Opd} {ps : List Nat} {asg body : DC} {fr : Fr} {h : Heap} {r} (he : rangeD D E f ps asg body fr h = some r) : rangeD D E' f ps asg body fr h = some r := by
  unfold rangeD at he ⊢
  split at he <;> try (cases he; done)
  simp only at he ⊢
  split at he <;> try (cases he; done)
  split at he <;> try (cases he; done)
  rename_i hx
  simp only [callD_le hE hx]; exact he
theorem stepD_le (hE : ExLe E E') : ExLe (stepD D E) (stepD D E') := by
  intro dc fr h r he
  cases dc with
  | skip => exact he
  | region ops =>
    simp only [stepD] at he ⊢
    obtain ⟨a, h1, h2⟩ := Option.map_eq_some_iff.1 he
    rw [runOps_le hE h1, ← h2]; rfl
  | seq a b =>
    simp only [stepD] at he ⊢
    split at he
    · rename_i hx
      simp only [hE _ _ _ _ hx]
      exact hE _ _ _ _ he
    · rename_i hne
      rw [hE _ _ _ _ he]
      obtain ⟨x, fr', h'⟩ := r
      cases x with
      | normal => exact absurd he (hne _ _)
      | exit i => rfl
      | ret => rfl
  | cond c a b =>
    simp only [stepD] at he ⊢
    split at he
    · exact hE _ _ _ _ he
    · exact hE _ _ _ _ he
    · cases he
  | block id b =>
    simp only [stepD] at he ⊢
    split at he
    · rename_i hx
      simp only [hE _ _ _ _ hx]; exact he
    · rename_i hne
      rw [hE _ _ _ _ he]
      obtain ⟨x, fr', h'⟩ := r
      cases x with
      | normal => rfl
      | exit i => exact absurd he (hne _ _ _)
      | ret => rfl
  | loop b =>
    simp only [stepD] at he ⊢
    split at he
    · rename_i hx
      simp only [hE _ _ _ _ hx]
      exact hE _ _ _ _ he
    · rename_i hne
      rw [hE _ _ _ _ he]
      obtain ⟨x, fr', h'⟩ := r
      cases x with
      | normal => exact absurd he (hne _ _)
      | exit i => rfl
      | ret => rfl
  | range f ps asg body => exact rangeD_le hE he
  | exit id => exact he
  | ret => exact he
theorem exec_succ (D : DProg) : ∀ n, ExLe (exec D n) (exec D (n + 1))
  | 0 => fun _ _ _ _ h => by cases h
  | n + 1 => stepD_le (exec_succ D n)
theorem exec_le {n m : Nat} (h : n ≤ m) : ExLe (exec D n) (exec D m) := by
  induction h with
  | refl => exact fun _ _ _ _ h => h
  | step _ ih => exact fun dc fr h r he => exec_succ D _ dc fr h r (ih dc fr h r he)
end

/-! ### runs of whatever length -/
section
variable (D : DProg)
def Runs (f : Nat) (args : List DV) (h : Heap) (v : DV) (h' : Heap) : Prop := ∃ n, run D n f args h = some (v, h')
def Wp (dc : DC) (fr : Fr) (h : Heap) (Q : DX → Fr → Heap → Prop) : Prop := ∃ n x fr' h', exec D n dc fr h = some (x, fr', h') ∧ Q x fr' h'
def WpOps (os : List ROp) (fr : Fr) (h : Heap) (K : Fr → Heap → Prop) : Prop := ∃ n fr' h', runOps D (exec D n) os fr h = some (fr', h') ∧ K fr' h'
variable {D}
theorem Runs.mono {f : Nat} {args : List DV} {h h' : Heap} {v : DV} (hr : Runs D f args h v h') : ∃ n, ∀ m, n ≤ m → callD D (exec D m) f args h = some (v, h') :=
  let ⟨n, hn⟩ := hr; ⟨n, fun _ hm => callD_le (exec_le hm) hn⟩
theorem Wp.mono {dc : DC} {fr : Fr} {h : Heap} {Q Q' : DX → Fr → Heap → Prop} (hw : Wp D dc fr h Q) (hq : ∀ x fr' h', Q x fr' h' → Q' x fr' h') : Wp D dc fr h Q' :=
  let ⟨n, x, fr', h', h1, h2⟩ := hw; ⟨n, x, fr', h', h1, hq _ _ _ h2⟩
theorem Wp.skip {fr : Fr} {h : Heap} {Q : DX → Fr → Heap → Prop} (hq : Q .normal fr h) : Wp D .skip fr h Q := ⟨1, _, _, _, rfl, hq⟩
theorem Wp.exit {i : Nat} {fr : Fr} {h : Heap} {Q : DX → Fr → Heap → Prop} (hq : Q (.exit i) fr h) : Wp D (.exit i) fr h Q := ⟨1, _, _, _, rfl, hq⟩
theorem Wp.ret {fr : Fr} {h : Heap} {Q : DX → Fr → Heap → Prop} (hq : Q .ret fr h) : Wp D .ret fr h Q := ⟨1, _, _, _, rfl, hq⟩
/-- What follows in a sequence. -/
def Then (K : Fr → Heap → Prop) (Q : DX → Fr → Heap → Prop) : DX → Fr → Heap → Prop
  | .normal, fr, h => K fr h
  | x, fr, h => Q x fr h
theorem Wp.seq {a b : DC} {fr : Fr} {h : Heap} {Q : DX → Fr → Heap → Prop} (hw : Wp D a fr h (Then (fun fr' h' => Wp D b fr' h' Q) Q)) : Wp D (.seq a b) fr h Q := by
  obtain ⟨n, x, fr', h', h1, h2⟩ := hw
  cases x with
  | normal =>
    obtain ⟨m, x2, fr2, hh2, h3, h4⟩ := h2
    refine ⟨max n m + 1, x2, fr2, hh2, ?_, h4⟩
    show stepD D (exec D (max n m)) (.seq a b) fr h = _
    simp only [stepD, exec_le (Nat.le_max_left n m) _ _ _ _ h1]
    exact exec_le (Nat.le_max_right n m) _ _ _ _ h3
  | exit i =>
    refine ⟨n + 1, .exit i, fr', h', ?_, h2⟩
    show stepD D (exec D n) (.seq a b) fr h = _
    simp only [stepD, h1]
  | ret =>
    refine ⟨n + 1, .ret, fr', h', ?_, h2⟩
    show stepD D (exec D n) (.seq a b) fr h = _
    simp only [stepD, h1]
theorem Wp.cond {c : Opd} {a b : DC} {fr : Fr} {h : Heap} {Q : DX → Fr → Heap → Prop} {t : Bool} (hc : ev D fr c = .bool t) (hw : if t then Wp D a fr h Q else Wp D b fr h Q) : Wp D (.cond c a b) fr h Q := by
  cases t with
  | true =>
    obtain ⟨n, x, fr', h', h1, h2⟩ := hw
    refine ⟨n + 1, x, fr', h', ?_, h2⟩
    show stepD D (exec D n) (.cond c a b) fr h = _
    simp only [stepD, hc, h1]
  | false =>
    obtain ⟨n, x, fr', h', h1, h2⟩ := hw
    refine ⟨n + 1, x, fr', h', ?_, h2⟩
    show stepD D (exec D n) (.cond c a b) fr h = _
    simp only [stepD, hc, h1]
def InBlock (id : Nat) (Q : DX → Fr → Heap → Prop) : DX → Fr → Heap → Prop
  | .exit i, fr, h => if i = id then Q .normal fr h else Q (.exit i) fr h
  | x, fr, h => Q x fr h
theorem Wp.block {id : Nat} {b : DC} {fr : Fr} {h : Heap} {Q : DX → Fr → Heap → Prop} (hw : Wp D b fr h (InBlock id Q)) : Wp D (.block id b) fr h Q := by
  obtain ⟨n, x, fr', h', h1, h2⟩ := hw
  cases x with
  | normal =>
    refine ⟨n + 1, .normal, fr', h', ?_, h2⟩
    show stepD D (exec D n) (.block id b) fr h = _
    simp only [stepD, h1]
  | exit i =>
    by_cases e : i = id
    · subst e
      simp only [InBlock, if_true] at h2
      refine ⟨n + 1, .normal, fr', h', ?_, h2⟩
      show stepD D (exec D n) (.block i b) fr h = _
      simp only [stepD, h1, if_true]
    · simp only [InBlock, e, if_false] at h2
      refine ⟨n + 1, .exit i, fr', h', ?_, h2⟩
      show stepD D (exec D n) (.block id b) fr h = _
      simp only [stepD, h1, e, if_false]
  | ret =>
    refine ⟨n + 1, .ret, fr', h', ?_, h2⟩
    show stepD D (exec D n) (.block id b) fr h = _
    simp only [stepD, h1]
theorem Wp.loop1 {b : DC} {fr : Fr} {h : Heap} {Q : DX → Fr → Heap → Prop} (hw : Wp D b fr h (Then (fun fr' h' => Wp D (.loop b) fr' h' Q) Q)) : Wp D (.loop b) fr h Q := by
  obtain ⟨n, x, fr', h', h1, h2⟩ := hw
  cases x with
  | normal =>
    obtain ⟨m, x2, fr2, hh2, h3, h4⟩ := h2
    refine ⟨max n m + 1, x2, fr2, hh2, ?_, h4⟩
    show stepD D (exec D (max n m)) (.loop b) fr h = _
    simp only [stepD, exec_le (Nat.le_max_left n m) _ _ _ _ h1]
    exact exec_le (Nat.le_max_right n m) _ _ _ _ h3
  | exit i =>
    refine ⟨n + 1, .exit i, fr', h', ?_, h2⟩
    show stepD D (exec D n) (.loop b) fr h = _
    simp only [stepD, h1]
  | ret =>
    refine ⟨n + 1, .ret, fr', h', ?_, h2⟩
    show stepD D (exec D n) (.loop b) fr h = _
    simp only [stepD, h1]
/-- A loop that does a list's elements, one a round, or whatever else grows less. -/
theorem Wp.loop {b : DC} {Q : DX → Fr → Heap → Prop} (I : Nat → Fr → Heap → Prop) (round : ∀ n fr h, I n fr h → Wp D b fr h (Then (fun fr' h' => ∃ m, m < n ∧ I m fr' h') Q)) : ∀ (n : Nat) (fr : Fr) (h : Heap), I n fr h → Wp D (.loop b) fr h Q := by
  intro n
  induction n using Nat.strongRecOn with
  | ind n ih =>
    intro fr h hI
    refine Wp.loop1 ((round n fr h hI).mono fun x fr' h' hq => ?_)
    cases x with
    | normal => obtain ⟨m, hm, hI'⟩ := hq; exact ih m hm fr' h' hI'
    | exit i => exact hq
    | ret => exact hq
theorem Wp.region {os : List ROp} {fr : Fr} {h : Heap} {Q : DX → Fr → Heap → Prop} (hw : WpOps D os fr h fun fr' h' => Q .normal fr' h') : Wp D (.region os) fr h Q := by
  obtain ⟨n, fr', h', h1, h2⟩ := hw
  refine ⟨n + 1, .normal, fr', h', ?_, h2⟩
  show stepD D (exec D n) (.region os) fr h = _
  simp only [stepD, h1, Option.map_some]
theorem WpOps.nil {fr : Fr} {h : Heap} {K : Fr → Heap → Prop} (hk : K fr h) : WpOps D [] fr h K := ⟨0, _, _, rfl, hk⟩
/-- An operation that is no call. -/
theorem WpOps.op {o : ROp} {os : List ROp} {fr : Fr} {h : Heap} {K : Fr → Heap → Prop} {r : EvR} {v : DV} {h1 : Heap} (hw : wantedG o.guard fr = true) (he : evalOp D fr h o.op = some r) (hs : stepEv h r = some (v, h1)) (hc : chkOk D (fr.put o.dst v) h1 o.chk = true)
    (hk : WpOps D os (fr.put o.dst v) h1 K) : WpOps D (o :: os) fr h K := by
  obtain ⟨n, fr', h', q1, q2⟩ := hk
  refine ⟨n, fr', h', ?_, q2⟩
  have hrun : runOp D (exec D n) o fr h = some (fr.put o.dst v, h1) := by
    unfold runOp
    rw [he]
    cases r <;> simp only [stepEv] at hs <;> cases hs <;> rfl
  simp only [runOps, wantedD, hw, if_true, hrun, hc, q1]
theorem WpOps.off {o : ROp} {os : List ROp} {fr : Fr} {h : Heap} {K : Fr → Heap → Prop} (hw : wantedG o.guard fr = false) (hk : WpOps D os (fr.put o.dst .undef) h K) : WpOps D (o :: os) fr h K := by
  obtain ⟨n, fr', h', q1, q2⟩ := hk
  refine ⟨n, fr', h', ?_, q2⟩
  simp only [runOps, wantedD, hw, Bool.false_eq_true, if_false, q1]
theorem WpOps.call {o : ROp} {os : List ROp} {fr : Fr} {h : Heap} {K : Fr → Heap → Prop} {f : Nat} {args : List DV} {v : DV} {h1 : Heap} (hw : wantedG o.guard fr = true) (he : evalOp D fr h o.op = some (.call f args false)) (hr : Runs D f args h v h1) (hc : chkOk D (fr.put o.dst v) h1 o.chk = true)
    (hk : WpOps D os (fr.put o.dst v) h1 K) : WpOps D (o :: os) fr h K := by
  obtain ⟨n, fr', h', q1, q2⟩ := hk
  obtain ⟨m, hm⟩ := hr.mono
  refine ⟨max n m, fr', h', ?_, q2⟩
  have hrun : runOp D (exec D (max n m)) o fr h = some (fr.put o.dst v, h1) := by
    unfold runOp
    rw [he]
    simp only [hm _ (Nat.le_max_right n m), Bool.false_eq_true, if_false]
  simp only [runOps, wantedD, hw, if_true, hrun, hc, runOps_le (exec_le (Nat.le_max_left n m)) q1]
theorem WpOps.callF {o : ROp} {os : List ROp} {fr : Fr} {h : Heap} {K : Fr → Heap → Prop} {f : Nat} {args : List DV} {v v2 : DV} {h1 h2 : Heap} (hw : wantedG o.guard fr = true) (he : evalOp D fr h o.op = some (.call f args true)) (hr : Runs D f args h v h1) (hz : frzV h1 v = some (v2, h2)) (hc : chkOk D (fr.put o.dst v2) h2 o.chk = true)
    (hk : WpOps D os (fr.put o.dst v2) h2 K) : WpOps D (o :: os) fr h K := by
  obtain ⟨n, fr', h', q1, q2⟩ := hk
  obtain ⟨m, hm⟩ := hr.mono
  refine ⟨max n m, fr', h', ?_, q2⟩
  have hrun : runOp D (exec D (max n m)) o fr h = some (fr.put o.dst v2, h2) := by
    unfold runOp
    rw [he]
    simp only [hm _ (Nat.le_max_right n m), if_true, hz, Option.map_some]
  simp only [runOps, wantedD, hw, if_true, hrun, hc, runOps_le (exec_le (Nat.le_max_left n m)) q1]
end
end Go.Dm
/- The D-machine (31): symbolic runs: frames by entries, heaps by pieces; what they mean. -/
namespace Go.Dm
set_option linter.unusedSimpArgs false
set_option linter.unusedVariables false
set_option linter.unnecessarySimpa false

/-- What a slot holds; 'g': under that guard (else nothing). -/
structure En where
  s : Nat
  g : Option (Nat × Bool)
  v : DV
def memN (n : Nat) : List Nat → Bool
  | [] => false
  | m :: r => match Nat.beq n m with
    | true => true
    | false => memN n r
def eqB : Bool → Bool → Bool
  | c, true => c
  | c, false => !c
def memT (n : Nat) (b : Bool) : List (Nat × Bool) → Bool
  | [] => false
  | m :: r => match Nat.beq n m.1, b, m.2 with
    | true, true, true => true
    | true, false, false => true
    | _, _, _ => memT n b r
/-- A slot's value, under some guards; the newest entry first. -/
def lk (A : List (Nat × Bool)) : List Nat → List En → Nat → Option DV
  | _, [], _ => none
  | seen, ⟨s, g, v⟩ :: r, n => match Nat.beq s n with
    | true => match g with
      | none => some v
      | some (t, b) => match memT t b A, memN t (s :: seen) with
        | true, false => some v
        | _, _ => none
    | false => lk A (s :: seen) r n
def tg : List Nat → List En → Nat → Option (DV × Option (Nat × Bool))
  | _, [], _ => none
  | seen, ⟨s, g, v⟩ :: r, n => match Nat.beq s n with
    | true => match g with
      | none => some (v, none)
      | some (t, b) => match memN t (s :: seen) with
        | true => none
        | false => some (v, some (t, b))
    | false => tg (s :: seen) r n
/-- A guard's guards, and what it says. -/
def gate (es : List En) : Nat → Option (Nat × Bool) → Option (List (Nat × Bool) × Bool)
  | _, none => some ([], true)
  | 0, some _ => none
  | f + 1, some (t, b) => match tg [] es t with
    | some (.bool c, g) => match gate es f g with
      | some (A, p) => some ((t, b) :: A, p && eqB c b)
      | none => none
    | some (.undef, _) => some ([(t, b)], false)
    | _ => none

def EnOk (fr : List DV) (seen : List Nat) (e : En) : Prop :=
  memN e.s seen = false → match e.g with
    | none => fr.getD e.s .undef = e.v
    | some (t, b) => memN t (e.s :: seen) = false → (fr.getD t .undef = .bool b → fr.getD e.s .undef = e.v) ∧ (fr.getD t .undef ≠ .bool b → fr.getD e.s .undef = .undef)
def Ag (fr : List DV) : List Nat → List En → Prop
  | _, [] => True
  | seen, e :: r => EnOk fr seen e ∧ Ag fr (e.s :: seen) r

structure St where
  nt : Nat
  es : List En
  ds : List DDef
  ir : Option Nat
structure AgS (fr : Fr) (st : St) : Prop where
  len : fr.tmps.length = st.nt
  es : Ag fr.tmps [] st.es
  ds : fr.defers = st.ds
  ir : fr.inr = st.ir
def St.putO : St → Option Nat → DV → St
  | ⟨nt, es, ds, ir⟩, some d, v => ⟨nt, ⟨d, none, v⟩ :: es, ds, ir⟩
  | ⟨nt, es, ds, ir⟩, none, _ => ⟨nt, es, ds, ir⟩
/-- A side of a step that is reckoned. -/
@[irreducible] def Arith (p : Prop) : Prop := p
theorem Arith.mk {p : Prop} (h : p) : Arith p := by unfold Arith; exact h
theorem Arith.out {p : Prop} (h : Arith p) : p := by unfold Arith at h; exact h
def dstOk (nt : Nat) : Option Nat → Bool
  | none => true
  | some d => Nat.blt d nt

/-- Pieces of a heap. -/
structure HP where
  foot : Nat → Prop
  ok : (Nat → Option HObj) → (Nat → Option Nat) → Prop
  loc : ∀ o t o' t', (∀ i, foot i → o i = o' i ∧ t i = t' i) → ok o t → ok o' t'
inductive Ck where
  | obj (id : Nat) (o : HObj)
  | own (t sz : Nat) (xs : List DV)
  | pr (p : HP)
def Ck.foot : Ck → Nat → Prop
  | .obj id _ => fun i => i = id
  | .own t _ _ => fun i => i = t ∧ 2 ≤ t
  | .pr p => p.foot
def Ck.ok (h : Heap) : Ck → Prop
  | .obj id o => h.objs.get id = some o
  | .own t sz xs => (t = 0 ∧ xs = []) ∨ (2 ≤ t ∧ h.tags.get t = some sz)
  | .pr p => p.ok h.objs.get h.tags.get
structure Sat (h : Heap) (cs : List Ck) : Prop where
  two : 2 ≤ h.next
  ok : ∀ c ∈ cs, c.ok h ∧ ∀ i, c.foot i → i < h.next
  sep : cs.Pairwise fun a b => ∀ i, ¬(a.foot i ∧ b.foot i)

theorem Ck.ok_loc {h h' : Heap} {c : Ck} (hl : ∀ i, c.foot i → h.objs.get i = h'.objs.get i ∧ h.tags.get i = h'.tags.get i) (hc : c.ok h) : c.ok h' := by
  cases c with
  | obj id o => show h'.objs.get id = some o; rw [← (hl id rfl).1]; exact hc
  | own t sz xs =>
    rcases hc with h0 | ⟨h2, ht⟩
    · exact .inl h0
    · exact .inr ⟨h2, by rw [← (hl t ⟨rfl, h2⟩).2]; exact ht⟩
  | pr p => exact p.loc _ _ _ _ hl hc

/-- A piece in a place of the list. -/
inductive Me (c : Ck) : List Ck → Prop where
  | head {r : List Ck} : Me c (c :: r)
  | tail {x : Ck} {r : List Ck} : Me c r → Me c (x :: r)
inductive Upd {α : Type} (c : Ck) (n : α → Ck) : List Ck → (α → List Ck) → Prop where
  | head {r : List Ck} : Upd c n (c :: r) (fun a => n a :: r)
  | tail {x : Ck} {r : List Ck} {r' : α → List Ck} : Upd c n r r' → Upd c n (x :: r) (fun a => x :: r' a)
inductive Upd1 (c n : Ck) : List Ck → List Ck → Prop where
  | head {r : List Ck} : Upd1 c n (c :: r) (n :: r)
  | tail {x : Ck} {r r' : List Ck} : Upd1 c n r r' → Upd1 c n (x :: r) (x :: r')
inductive Rem (c : Ck) : List Ck → List Ck → Prop where
  | head {r : List Ck} : Rem c (c :: r) r
  | tail {x : Ck} {r r' : List Ck} : Rem c r r' → Rem c (x :: r) (x :: r')
theorem Me.mem {c : Ck} : ∀ {cs : List Ck}, Me c cs → c ∈ cs
  | _, .head => by simp
  | _, .tail h => by simp [h.mem]
theorem Upd.one {α : Type} {c : Ck} {n : α → Ck} {cs : List Ck} {cs' : α → List Ck} (h : Upd c n cs cs') (a : α) : Upd1 c (n a) cs (cs' a) := by
  induction h with
  | head => exact .head
  | tail _ ih => exact .tail ih
theorem Upd1.mem {c n : Ck} {cs cs' : List Ck} (h : Upd1 c n cs cs') : c ∈ cs := by
  induction h with
  | head => simp
  | tail _ ih => simp [ih]
theorem Rem.mem {c : Ck} {cs cs' : List Ck} (h : Rem c cs cs') : c ∈ cs := by
  induction h with
  | head => simp
  | tail _ ih => simp [ih]
theorem Sat.get {h : Heap} {cs : List Ck} {c : Ck} (hs : Sat h cs) (hm : Me c cs) : c.ok h := (hs.ok c hm.mem).1
theorem Sat.obj {h : Heap} {cs : List Ck} {id : Nat} {o : HObj} (hs : Sat h cs) (hm : Me (.obj id o) cs) : h.objs.get id = some o := hs.get hm

theorem upd1_sub {c n : Ck} {cs cs' : List Ck} (h : Upd1 c n cs cs') : ∀ x ∈ cs', x = n ∨ x ∈ cs := by
  induction h with
  | head => intro x hx; simp at hx; rcases hx with rfl | hx <;> simp_all
  | tail _ ih => intro x hx; simp at hx; rcases hx with rfl | hx <;> simp; rcases ih x hx with h | h <;> simp [h]
/-- A piece becomes another one in its own place; the others lie apart from it. -/
theorem Sat.upd {h h' : Heap} {cs cs' : List Ck} {c n : Ck} (hs : Sat h cs) (hu : Upd1 c n cs cs') (hnext : h.next ≤ h'.next)
    (hn : n.ok h') (hfn : ∀ i, n.foot i → i < h'.next) (hfoot : ∀ i, n.foot i → c.foot i ∨ h.next ≤ i)
    (hk : ∀ i, i < h.next → ¬ c.foot i → h'.objs.get i = h.objs.get i ∧ h'.tags.get i = h.tags.get i) : Sat h' cs' := by
  refine ⟨Nat.le_trans hs.two hnext, ?_, ?_⟩
  · have aux : ∀ {cs cs' : List Ck}, Upd1 c n cs cs' → (∀ x ∈ cs, x.ok h ∧ ∀ i, x.foot i → i < h.next) → cs.Pairwise (fun a b => ∀ i, ¬(a.foot i ∧ b.foot i)) → ∀ x ∈ cs', x.ok h' ∧ ∀ i, x.foot i → i < h'.next := by
      intro cs cs' hu
      have keep : ∀ x : Ck, x.ok h ∧ (∀ i, x.foot i → i < h.next) → (∀ i, ¬(c.foot i ∧ x.foot i)) → x.ok h' ∧ ∀ i, x.foot i → i < h'.next := fun x hx hd =>
        ⟨Ck.ok_loc (fun i hi => by have := hk i (hx.2 i hi) (fun hc => hd i ⟨hc, hi⟩); exact ⟨this.1.symm, this.2.symm⟩) hx.1, fun i hi => Nat.lt_of_lt_of_le (hx.2 i hi) hnext⟩
      induction hu with
      | head =>
        intro hok hsep x hx
        rcases List.mem_cons.1 hx with rfl | hx
        · exact ⟨hn, hfn⟩
        · exact keep x (hok x (by simp [hx])) ((List.pairwise_cons.1 hsep).1 x hx)
      | tail hu ih =>
        intro hok hsep x hx
        rcases List.mem_cons.1 hx with rfl | hx
        · exact keep x (hok x (by simp)) (fun i ⟨h1, h2⟩ => (List.pairwise_cons.1 hsep).1 c hu.mem i ⟨h2, h1⟩)
        · exact ih (fun y hy => hok y (by simp [hy])) (List.pairwise_cons.1 hsep).2 x hx
    exact aux hu hs.ok hs.sep
  · have aux : ∀ {cs cs' : List Ck}, Upd1 c n cs cs' → (∀ x ∈ cs, x.ok h ∧ ∀ i, x.foot i → i < h.next) → cs.Pairwise (fun a b => ∀ i, ¬(a.foot i ∧ b.foot i)) → cs'.Pairwise (fun a b => ∀ i, ¬(a.foot i ∧ b.foot i)) := by
      intro cs cs' hu
      induction hu with
      | head =>
        intro hok hsep
        obtain ⟨h1, h2⟩ := List.pairwise_cons.1 hsep
        refine List.pairwise_cons.2 ⟨fun x hx i ⟨ha, hb⟩ => ?_, h2⟩
        rcases hfoot i ha with hc | hge
        · exact h1 x hx i ⟨hc, hb⟩
        · exact absurd ((hok x (by simp [hx])).2 i hb) (by omega)
      | @tail x r r' hu ih =>
        intro hok hsep
        obtain ⟨h1, h2⟩ := List.pairwise_cons.1 hsep
        refine List.pairwise_cons.2 ⟨fun y hy i ⟨ha, hb⟩ => ?_, ih (fun y hy => hok y (by simp [hy])) h2⟩
        rcases upd1_sub hu y hy with rfl | hy
        · rcases hfoot i hb with hc | hge
          · exact h1 c hu.mem i ⟨ha, hc⟩
          · exact absurd ((hok x (by simp)).2 i ha) (by omega)
        · exact h1 y hy i ⟨ha, hb⟩
    exact aux hu hs.ok hs.sep
theorem Sat.add {h h' : Heap} {cs : List Ck} {n : Ck} (hs : Sat h cs) (hnext : h.next ≤ h'.next) (hn : n.ok h') (hfn : ∀ i, n.foot i → i < h'.next) (hfoot : ∀ i, n.foot i → h.next ≤ i)
    (hk : ∀ i, i < h.next → h'.objs.get i = h.objs.get i ∧ h'.tags.get i = h.tags.get i) : Sat h' (n :: cs) := by
  refine ⟨Nat.le_trans hs.two hnext, fun x hx => ?_, List.pairwise_cons.2 ⟨fun x hx i ⟨ha, hb⟩ => absurd ((hs.ok x hx).2 i hb) (by have := hfoot i ha; omega), hs.sep⟩⟩
  rcases List.mem_cons.1 hx with rfl | hx
  · exact ⟨hn, hfn⟩
  · have := hs.ok x hx
    exact ⟨Ck.ok_loc (fun i hi => by have := hk i (this.2 i hi); exact ⟨this.1.symm, this.2.symm⟩) this.1, fun i hi => Nat.lt_of_lt_of_le (this.2 i hi) hnext⟩
theorem rem_sub {c : Ck} {cs cs' : List Ck} (h : Rem c cs cs') : ∀ x ∈ cs', x ∈ cs := by
  induction h with
  | head => intro x hx; simp [hx]
  | tail _ ih => intro x hx; simp at hx; rcases hx with rfl | hx <;> simp; simp [ih x hx]
theorem Sat.sub {h : Heap} {cs cs' : List Ck} (hs : Sat h cs) (hr : cs'.Sublist cs) : Sat h cs' := ⟨hs.two, fun x hx => hs.ok x (hr.subset hx), hs.sep.sublist hr⟩
theorem Rem.sublist {c : Ck} {cs cs' : List Ck} (h : Rem c cs cs') : cs'.Sublist cs := by
  induction h with
  | head => exact List.sublist_cons_self _ _
  | tail _ ih => exact ih.cons_cons _
theorem Sat.perm {h : Heap} {cs cs' : List Ck} (hs : Sat h cs) (hp : cs.Perm cs') : Sat h cs' :=
  ⟨hs.two, fun x hx => hs.ok x (hp.mem_iff.2 hx), (hp.pairwise_iff (fun hab i hi => hab i ⟨hi.2, hi.1⟩)).1 hs.sep⟩
/-- A piece is turned where it lies: the heap stays, or turns in that place alone; others turn not. -/
theorem Rem.keep {c : Ck} {cs cs' : List Ck} (hr : Rem c cs cs') {h h' : Heap} (hs : Sat h cs) (hnext : h.next ≤ h'.next) (hk : ∀ i, i < h.next → ¬ c.foot i → h'.objs.get i = h.objs.get i ∧ h'.tags.get i = h.tags.get i) : Sat h' cs' := by
  have hsep : ∀ x ∈ cs', ∀ i, ¬(c.foot i ∧ x.foot i) := by
    have hs' := hs.sep
    clear hs
    induction hr with
    | head => exact (List.pairwise_cons.1 hs').1
    | tail hr ih =>
      intro x hx i ⟨ha, hb⟩
      obtain ⟨h1, h2⟩ := List.pairwise_cons.1 hs'
      rcases List.mem_cons.1 hx with rfl | hx
      · exact h1 c hr.mem i ⟨hb, ha⟩
      · exact ih h2 x hx i ⟨ha, hb⟩
  refine ⟨Nat.le_trans hs.two hnext, fun x hx => ?_, hs.sep.sublist hr.sublist⟩
  have := hs.ok x (rem_sub hr x hx)
  exact ⟨Ck.ok_loc (fun i hi => by have := hk i (this.2 i hi) (fun hc => hsep x hx i ⟨hc, hi⟩); exact ⟨this.1.symm, this.2.symm⟩) this.1, fun i hi => Nat.lt_of_lt_of_le (this.2 i hi) hnext⟩

/-- Pieces that are kept, in their order. -/
inductive KK : List Ck → List Ck → Prop where
  | refl {r : List Ck} : KK r r
  | keep {c : Ck} {r r' : List Ck} : KK r r' → KK (c :: r) (c :: r')
  | drop {c : Ck} {r r' : List Ck} : KK r r' → KK (c :: r) r'
theorem KK.sublist {a b : List Ck} (h : KK a b) : b.Sublist a := by
  induction h with
  | refl => exact List.Sublist.refl _
  | keep _ ih => exact ih.cons_cons _
  | drop _ ih => exact ih.cons _
/-- What holds of some of the pieces. -/
@[irreducible] def Pst (Q : List Ck → Prop) (cs : List Ck) : Prop := ∃ cs', (∀ h, Sat h cs → Sat h cs') ∧ Q cs'
theorem Pst.mk {Q : List Ck → Prop} {cs cs' : List Ck} (hq : Q cs') (hk : KK cs cs') : Pst Q cs := by unfold Pst; exact ⟨cs', fun _ hs => hs.sub hk.sublist, hq⟩
theorem Pst.mkP {Q : List Ck → Prop} {cs cs2 cs' : List Ck} (hq : Q cs') (hk : KK cs cs2) (hp : cs2.Perm cs') : Pst Q cs := by unfold Pst; exact ⟨cs', fun _ hs => (hs.sub hk.sublist).perm hp, hq⟩
theorem Pst.out {Q : List Ck → Prop} {cs : List Ck} (h : Pst Q cs) : ∃ cs', (∀ h, Sat h cs → Sat h cs') ∧ Q cs' := by unfold Pst at h; exact h
theorem Sat.nilOwn {h : Heap} {cs : List Ck} (hs : Sat h cs) (sz : Nat) : Sat h (.own 0 sz [] :: cs) :=
  hs.add (Nat.le_refl _) (.inl ⟨rfl, rfl⟩) (fun i hi => absurd hi.2 (by have := hi.1; omega)) (fun i hi => absurd hi.2 (by have := hi.1; omega)) (fun i _ => ⟨rfl, rfl⟩)

/-! ### frames -/
theorem memN_cons (n m : Nat) (l : List Nat) : memN n (m :: l) = (decide (n = m) || memN n l) := by
  simp only [memN]
  cases h : Nat.beq n m with
  | true => have := Nat.eq_of_beq_eq_true h; simp [this]
  | false => have : n ≠ m := Nat.ne_of_beq_eq_false h; simp [this]
theorem memT_mem {n : Nat} {b : Bool} : ∀ {l : List (Nat × Bool)}, memT n b l = true → (n, b) ∈ l
  | [], h => by cases h
  | ⟨m, c⟩ :: r, h => by
    simp only [memT] at h
    cases hb : Nat.beq n m <;> cases b <;> cases c <;> simp only [hb] at h <;>
      first
        | (have := Nat.eq_of_beq_eq_true hb; subst this; exact List.mem_cons_self)
        | exact List.mem_cons_of_mem _ (memT_mem h)
theorem lk_ok {fr : List DV} {A : List (Nat × Bool)} (hA : ∀ t b, (t, b) ∈ A → fr.getD t .undef = .bool b) : ∀ {es : List En} {seen : List Nat} {n : Nat} {v : DV}, Ag fr seen es → memN n seen = false → lk A seen es n = some v → fr.getD n .undef = v
  | [], _, _, _, _, _, h => by cases h
  | ⟨s, g, w⟩ :: r, seen, n, v, ha, hn, h => by
    simp only [lk] at h
    obtain ⟨he, hr⟩ := ha
    cases hb : Nat.beq s n with
    | true =>
      have hs := Nat.eq_of_beq_eq_true hb
      subst hs
      simp only [hb] at h
      have he' := he hn
      cases g with
      | none => simp only [Option.some.injEq] at h; subst h; exact he'
      | some p =>
        obtain ⟨t, b⟩ := p
        simp only at h
        split at h <;> try (cases h; done)
        rename_i h1 h2
        simp only [Option.some.injEq] at h; subst h
        exact (he' h2).1 (hA t b (memT_mem h1))
    | false =>
      simp only [hb] at h
      have hs : s ≠ n := Nat.ne_of_beq_eq_false hb
      exact lk_ok hA hr (by rw [memN_cons, hn]; simp [Ne.symm hs]) h
theorem tg_ok {fr : List DV} : ∀ {es : List En} {seen : List Nat} {n : Nat} {v : DV} {g : Option (Nat × Bool)}, Ag fr seen es → memN n seen = false → tg seen es n = some (v, g) →
    match g with
    | none => fr.getD n .undef = v
    | some (t, b) => (fr.getD t .undef = .bool b → fr.getD n .undef = v) ∧ (fr.getD t .undef ≠ .bool b → fr.getD n .undef = .undef)
  | [], _, _, _, _, _, _, h => by cases h
  | ⟨s, g, w⟩ :: r, seen, n, v, g', ha, hn, h => by
    simp only [tg] at h
    obtain ⟨he, hr⟩ := ha
    cases hb : Nat.beq s n with
    | true =>
      have hs := Nat.eq_of_beq_eq_true hb
      subst hs
      simp only [hb] at h
      have he' := he hn
      cases g with
      | none => simp only [Option.some.injEq, Prod.mk.injEq] at h; obtain ⟨rfl, rfl⟩ := h; exact he'
      | some p =>
        obtain ⟨t, b⟩ := p
        simp only at h
        split at h <;> try (cases h; done)
        rename_i h2
        simp only [Option.some.injEq, Prod.mk.injEq] at h; obtain ⟨rfl, rfl⟩ := h
        exact he' h2
    | false =>
      simp only [hb] at h
      have hs : s ≠ n := Nat.ne_of_beq_eq_false hb
      exact tg_ok hr (by rw [memN_cons, hn]; simp [Ne.symm hs]) h
theorem wanted_bool {fr : Fr} {t : Nat} {b : Bool} : wantedG (some (t, b)) fr = true ↔ fr.tmps.getD t .undef = .bool b := by
  simp only [wantedG]
  cases h : fr.tmps.getD t .undef <;> simp
theorem gate_ok {fr : Fr} {es : List En} (ha : Ag fr.tmps [] es) : ∀ {f : Nat} {g : Option (Nat × Bool)} {A : List (Nat × Bool)} {p : Bool}, gate es f g = some (A, p) →
    (wantedG g fr = true → p = true ∧ ∀ t b, (t, b) ∈ A → fr.tmps.getD t .undef = .bool b) ∧ (p = true → wantedG g fr = true)
  | f, none, A, p, h => by
    cases f <;> (simp only [gate, Option.some.injEq, Prod.mk.injEq] at h; obtain ⟨rfl, rfl⟩ := h; exact ⟨fun _ => ⟨rfl, fun t b hm => by cases hm⟩, fun _ => rfl⟩)
  | 0, some _, A, p, h => by simp [gate] at h
  | f + 1, some (t, b), A, p, h => by
    simp only [gate] at h
    split at h <;> try (cases h; done)
    rotate_left
    · rename_i g ht
      simp only [Option.some.injEq, Prod.mk.injEq] at h; obtain ⟨rfl, rfl⟩ := h
      have h1 := tg_ok ha rfl ht
      have hu : fr.tmps.getD t .undef = .undef := by
        cases g with
        | none => exact h1
        | some q =>
          by_cases hq : fr.tmps.getD q.1 .undef = .bool q.2
          · exact h1.1 hq
          · exact h1.2 hq
      rw [wanted_bool, hu]
      exact ⟨fun hw => (by cases hw), fun hp => (by cases hp)⟩
    rename_i c g ht
    split at h <;> try (cases h; done)
    rename_i A' p' hg
    simp only [Option.some.injEq, Prod.mk.injEq] at h; obtain ⟨rfl, rfl⟩ := h
    have h1 := tg_ok ha rfl ht
    obtain ⟨h2, h3⟩ := gate_ok ha hg
    rw [wanted_bool]
    have heq : eqB c b = true ↔ c = b := by cases c <;> cases b <;> simp [eqB]
    cases g with
    | none =>
      simp only at h1
      obtain ⟨hp, hA⟩ := h2 rfl
      rw [h1]
      refine ⟨fun hw => ?_, fun hp' => ?_⟩
      · simp only [DV.bool.injEq] at hw
        refine ⟨by rw [hp, heq.2 hw]; rfl, fun t' b' hm => ?_⟩
        rcases List.mem_cons.1 hm with he | hm
        · simp only [Prod.mk.injEq] at he; obtain ⟨rfl, rfl⟩ := he; rw [h1, hw]
        · exact hA t' b' hm
      · simp only [Bool.and_eq_true] at hp'; rw [heq.1 hp'.2]
    | some q =>
      obtain ⟨t', b'⟩ := q
      simp only at h1
      rw [wanted_bool] at h2 h3
      refine ⟨fun hw => ?_, fun hp' => ?_⟩
      · by_cases hx : fr.tmps.getD t' .undef = .bool b'
        · obtain ⟨hp, hA⟩ := h2 hx
          have := h1.1 hx
          rw [hw] at this
          simp only [DV.bool.injEq] at this
          refine ⟨by rw [hp, heq.2 this.symm]; rfl, fun t2 b2 hm => ?_⟩
          rcases List.mem_cons.1 hm with he | hm
          · simp only [Prod.mk.injEq] at he; obtain ⟨rfl, rfl⟩ := he; exact hw
          · exact hA t2 b2 hm
        · have := h1.2 hx
          rw [hw] at this; cases this
      · simp only [Bool.and_eq_true] at hp'
        rw [h1.1 (h3 hp'.1), heq.1 hp'.2]
theorem getD_set_ne {fr : List DV} {d n : Nat} {x : DV} (h : n ≠ d) : (fr.set d x).getD n .undef = fr.getD n .undef := by
  rw [List.getD_eq_getElem?_getD, List.getD_eq_getElem?_getD, List.getElem?_set_ne (Ne.symm h)]
theorem getD_set_same {fr : List DV} {d : Nat} {x : DV} (h : d < fr.length) : (fr.set d x).getD d .undef = x := by
  rw [List.getD_eq_getElem?_getD, List.getElem?_set_self h]; rfl
theorem Ag.set {fr : List DV} {d : Nat} {x : DV} : ∀ {es : List En} {seen seen' : List Nat}, (∀ n, memN n seen' = false → memN n seen = false ∧ n ≠ d) → Ag fr seen es → Ag (fr.set d x) seen' es
  | [], _, _, _, _ => trivial
  | e :: r, seen, seen', hs, ⟨he, hr⟩ => by
    refine ⟨fun hn => ?_, Ag.set (seen := e.s :: seen) (fun n hn => ?_) hr⟩
    · obtain ⟨h1, h2⟩ := hs _ hn
      have he' := he h1
      cases hg : e.g with
      | none => rw [hg] at he'; simp only at he' ⊢; rw [getD_set_ne h2]; exact he'
      | some p =>
        obtain ⟨t, b⟩ := p
        rw [hg] at he'
        intro ht
        rw [memN_cons] at ht
        simp only [Bool.or_eq_false_iff, decide_eq_false_iff_not] at ht
        obtain ⟨h3, h4⟩ := hs _ ht.2
        rw [getD_set_ne h2, getD_set_ne h4]
        exact he' (by rw [memN_cons]; simp [ht.1, h3])
    · rw [memN_cons] at hn ⊢
      simp only [Bool.or_eq_false_iff, decide_eq_false_iff_not] at hn ⊢
      exact ⟨⟨hn.1, (hs n hn.2).1⟩, (hs n hn.2).2⟩
theorem Ag.put {fr : List DV} {es : List En} {d : Nat} {x v : DV} (ha : Ag fr [] es) (hd : d < fr.length) (hx : x = v) : Ag (fr.set d x) [] (⟨d, none, v⟩ :: es) := by
  refine ⟨fun _ => ?_, ha.set (seen := []) fun n hn => ?_⟩
  · show (fr.set d x).getD d .undef = v
    rw [getD_set_same hd, hx]
  · rw [memN_cons] at hn
    simp only [Bool.or_eq_false_iff, decide_eq_false_iff_not] at hn
    exact ⟨rfl, hn.1⟩
theorem Ag.putG {fr : List DV} {es : List En} {d t : Nat} {b : Bool} {x v : DV} (ha : Ag fr [] es) (hd : d < fr.length) (h1 : fr.getD t .undef = .bool b → x = v) (h2 : fr.getD t .undef ≠ .bool b → x = .undef) : Ag (fr.set d x) [] (⟨d, some (t, b), v⟩ :: es) := by
  refine ⟨fun _ ht => ?_, ha.set (seen := []) fun n hn => ?_⟩
  · rw [memN_cons] at ht
    simp only [Bool.or_eq_false_iff, decide_eq_false_iff_not] at ht
    show ((fr.set d x).getD t .undef = .bool b → (fr.set d x).getD d .undef = v) ∧ _
    rw [getD_set_ne ht.1, getD_set_same hd]
    exact ⟨h1, h2⟩
  · rw [memN_cons] at hn
    simp only [Bool.or_eq_false_iff, decide_eq_false_iff_not] at hn
    exact ⟨rfl, hn.1⟩
theorem AgS.put {fr : Fr} {st : St} {d : Option Nat} {v : DV} (ha : AgS fr st) (hd : dstOk st.nt d = true) : AgS (fr.put d v) (st.putO d v) := by
  obtain ⟨nt, es, ds, ir⟩ := st
  cases d with
  | none => exact ha
  | some d =>
    refine ⟨?_, ?_, ha.ds, ha.ir⟩
    · show (fr.tmps.set d v).length = _; rw [List.length_set]; exact ha.len
    · refine Ag.put ha.es ?_ rfl
      rw [ha.len]; simp only [dstOk] at hd; exact Nat.le_of_ble_eq_true hd
/-- Entries that are among others. -/
def Sub (es : List En) : List (Nat × DV) → Prop
  | [] => True
  | (n, v) :: r => lk [] [] es n = some v ∧ Sub es r
def ents : List (Nat × DV) → List En
  | [] => []
  | (n, v) :: r => ⟨n, none, v⟩ :: ents r
theorem Sub.ag {fr : List DV} {es : List En} (ha : Ag fr [] es) : ∀ {l : List (Nat × DV)}, Sub es l → ∀ seen, Ag fr seen (ents l)
  | [], _, _ => trivial
  | (n, v) :: r, ⟨h, hr⟩, seen => ⟨fun _ => lk_ok (A := []) (fun _ _ h => by cases h) ha rfl h, Sub.ag ha hr _⟩
end Go.Dm
