/- The D-machine (14): operations that lay something anew. -/
import Derived.Test.YtjhednolknlpiaaDmM
namespace Go.Dm
set_option linter.unusedSimpArgs false
set_option linter.unusedVariables false
set_option linter.unnecessarySimpa false

theorem flat_set {sz : Nat} : ∀ (xs : List DV) (i : Nat) (v : DV), (∀ x ∈ xs, x.cells.length = sz) → v.cells.length = sz → i < xs.length → flat (xs.set i v) = ovl (flat xs) (i * sz) v.cells
  | [], i, v, _, _, h => by simp at h
  | x :: xs, 0, v, h, hv, _ => by
    have hx := h x (by simp)
    simp only [List.set_cons_zero, flat, List.flatMap_cons, ovl, Nat.zero_mul, List.take_zero, List.nil_append, Nat.zero_add, hv]
    rw [List.drop_left' hx]
  | x :: xs, i + 1, v, h, hv, hi => by
    have hx := h x (by simp)
    have ih := flat_set xs i v (fun y hy => h y (by simp [hy])) hv (by simpa using hi)
    simp only [List.set_cons_succ, flat, List.flatMap_cons] at ih ⊢
    rw [ih]
    simp only [ovl]
    have e : (i + 1) * sz = x.cells.length + i * sz := by rw [hx, Nat.succ_mul]; omega
    rw [e, List.take_length_add_append, Nat.add_assoc, List.drop_length_add_append]
    simp

section
variable {c : Cor}
theorem fillS_rel {sz : Nat} {ρ : Operand → Value} : ∀ (ps : List (Nat × Operand)) (qs : List (Nat × DV)),
    All2 (fun (p : Nat × Operand) (q : Nat × DV) => p.1 = q.1 ∧ VRel c q.2 (ρ p.2)) ps qs →
    ∀ (xs : List DV) (arr : Array Value), VRels c (flat xs) arr.toList → (∀ x ∈ xs, x.cells.length = sz) → (∀ q ∈ qs, q.1 < xs.length ∧ q.2.cells.length = sz ∧ q.2.okv = true) → (∀ x ∈ flat xs, x.one = true) →
    ∃ arr', Instr.fill (fun i => some (i * sz, sz)) arr (ps.map fun p => (p.1, ρ p.2)) = some arr' ∧ VRels c (flat (fillL xs qs)) arr'.toList ∧ (∀ x ∈ fillL xs qs, x.cells.length = sz) ∧ (∀ x ∈ flat (fillL xs qs), x.one = true) ∧ (fillL xs qs).length = xs.length := by
  intro ps
  induction ps with
  | nil =>
    intro qs hq xs arr hv hs _ ho
    cases hq
    exact ⟨arr, rfl, hv, hs, ho, rfl⟩
  | cons p ps ih =>
    intro qs hq xs arr hv hs hb ho
    cases hq with
    | cons h hr =>
      rename_i q qs
      obtain ⟨hp, hx⟩ := h
      obtain ⟨i, d⟩ := q
      simp only at hp hx
      obtain ⟨hb1, hb2, hb3⟩ := hb (i, d) (by simp)
      simp only at hb1 hb2 hb3
      have hsz := hx.cells_size
      have hl := hv.length_eq
      rw [flat_length xs hs] at hl
      have hfit : i * sz + sz ≤ xs.length * sz := by
        have : (i + 1) * sz ≤ xs.length * sz := Nat.mul_le_mul_right _ hb1
        rw [Nat.succ_mul] at this; exact this
      simp only [List.map_cons, Instr.fill, hp]
      have hn : ¬ (((ρ p.2).cells.size ≠ sz || decide (i * sz + (ρ p.2).cells.size > arr.size)) = true) := by
        simp at hl ⊢
        exact ⟨by omega, by omega⟩
      rw [if_neg hn]
      have hset := flat_set xs i d hs hb2 hb1
      have harr := foldl_set_array (ρ p.2).cells arr (i * sz) (by simp at hl; omega)
      obtain ⟨arr', h1, h2, h3, h4, h5⟩ := ih qs hr (xs.set i d) _ (by rw [harr, hset]; exact VRels.ovl hv hx.cells (i * sz))
        (fun y hy => by
          rcases List.mem_or_eq_of_mem_set hy with h | h
          · exact hs y h
          · subst h; exact hb2)
        (fun q hq => by
          have := hb q (by simp [hq])
          simpa using this)
        (fun y hy => by
          rw [hset] at hy
          simp only [ovl, List.mem_append] at hy
          rcases hy with (h | h) | h
          · exact ho y (List.mem_of_mem_take h)
          · exact hx.okv_one hb3 y h
          · exact ho y (List.mem_of_mem_drop h))
      exact ⟨arr', h1, h2, h3, h4, by rw [fillL, h5]; simp⟩
end

section
variable {P : Program} {cfg : Cfg} {mf : Bool} {D : DProg} {CC : Code → DC → Prop} {base : Nat} {c : Cor} {fr : Fr} {a : Act} {h G : Heap} (w : World) {id : Nat}

theorem partsL_rel (hg : GlobOk D c) (hf : VRels c fr.tmps a.tmps.toList) : ∀ (ps : List (Nat × Operand)) (qs : List (Nat × Opd)), partsL ps = some qs →
    All2 (fun (p : Nat × Operand) (q : Nat × DV) => p.1 = q.1 ∧ VRel c q.2 (a.eval p.2)) ps (qs.map fun q => (q.1, ev D fr q.2)) := by
  intro ps
  induction ps with
  | nil => intro qs h; simp [partsL] at h; subst h; exact .nil
  | cons p ps ih =>
    intro qs h
    obtain ⟨i, x⟩ := p
    simp only [partsL] at h
    split at h <;> simp at h
    subst h
    rename_i h1 h2
    exact .cons ⟨rfl, opd_rel hg hf h1⟩ (ih _ h2)
theorem zeroOf_some {t : TypeId} {z : DV} (h : zeroOf P t = some z) : ∃ i v, P.info? t = some i ∧ i.zero = some v ∧ ofVal v = some z ∧ (zeroValue t).run P w = .ok v w := by
  simp only [zeroOf, Option.bind_eq_some_iff] at h
  obtain ⟨v, ⟨i, hi, hz⟩, ho⟩ := h
  exact ⟨i, v, hi, hz, ho, by simp [zeroValue, typeInfo, hi, hz]⟩

theorem exec_valN {s : Sem Value} {v : DV} (hs : ∃ v' w' c', s.run P w = .ok v' w' ∧ c.le c' ∧ Sim CC base c' G w'.heap ∧ VRel c' v v' ∧ Keeps base w w' ∧ ∀ i, i ≠ id → c'.φ i = c.φ i ∧ c'.τ i = c.τ i) : NewOk P CC base c G w id (do pure (.value (← s))) v :=
  let ⟨v', w', c', h1, h2⟩ := hs; ⟨v', w', c', exec_val w h1, h2⟩

/-- A row of a buildSlice, a make: of whatever use. -/
theorem new_row (hS : Sim CC base c G w.heap) (hi : id < G.next) (h2 : 2 ≤ id) {mu : Bool} {sh : Shape} (hsz : 0 < sh.size) {xs : List DV} {cs : Array Value} {ty : TypeId} {w' : World} {len : Nat} {v : DV} (hlen : xs.length = len)
    (hs : ∀ x ∈ xs, x.cells.length = sh.size) (hv : VRels c (flat xs) cs.toList) (ho : ∀ x ∈ flat xs, x.one = true) (hw : w'.heap = w.heap.push (.cells cs ty)) (hk : Keeps base w w') {cap : Nat} (hcap : len = cap)
    (hm : if mu then v = .arr id sh.size 0 len ∧ c.φ id = none ∧ G.objs.get id = some (.cells (flat xs) sh) else v = .lst id sh.size xs ∧ c.τ id = none ∧ G.tags.get id = some sh.size) :
    ∃ c', c.le c' ∧ Sim CC base c' G w'.heap ∧ VRel c' v (.slice (some ⟨w.heap.size, 0, none⟩) len cap) ∧ Keeps base w w' ∧ ∀ i, i ≠ id → c'.φ i = c.φ i ∧ c'.τ i = c.τ i := by
  have hcl : cs.size = len * sh.size := by
    have := hv.length_eq
    rw [flat_length xs hs, hlen] at this; simpa using this.symm
  subst hcap
  cases mu with
  | false =>
    simp only [Bool.false_eq_true, if_false] at hm
    obtain ⟨rfl, hn, hg⟩ := hm
    subst hlen
    obtain ⟨q1, q2, q3, q4⟩ := new_list w hS hn hi h2 hsz hg (xs := xs) (vs := cs.toList) (cs := cs) (ty := ty) (f := (0, 0)) (cap := xs.length) (.inl rfl) hs hv ho (fun j v hj => by simpa using hj) (Nat.le_refl _) (by omega)
    exact ⟨_, q1, by rw [hw]; exact q2, q3, hk, q4⟩
  | true =>
    simp only [if_true] at hm
    obtain ⟨rfl, hn, hg⟩ := hm
    obtain ⟨q1, q2, q3, q4⟩ := new_cells w hS hn hi hg (cs := cs) (ty := ty) (f := (0, 0)) (.inl rfl) (by rw [flat_length xs hs, hlen]; omega) (fun j x hj => by
      obtain ⟨u, h3, h4⟩ := hv.get j hj
      exact ⟨u, by simpa using h3, h4⟩) ho
    exact ⟨_, q1, by rw [hw]; exact q2, .arr q3 (Nat.le_refl _) (.inr ⟨rfl, rfl, by omega⟩), hk, q4⟩

/-- What the machine of ours lays: an object, or a tag. -/
def Lays (c : Cor) (G : Heap) (id : Nat) : EvR → DV → Prop
  | .newO ob mk, v => v = mk id ∧ c.φ id = none ∧ G.objs.get id = some ob
  | .newT sz mk, v => v = mk id ∧ c.τ id = none ∧ G.tags.get id = some sz
  | _, _ => False

theorem alloc_run (w : World) (t : TypeId) (v : Value) : (newVar t v).run P w = .ok ⟨w.heap.size, 0, none⟩ (w.alloc (.cells v.cells t)) := rfl
theorem Keeps.alloc (hs : base ≤ w.heap.size) (x : Obj) : Keeps base w (w.alloc x) := Keeps.alloc' w hs x 0 _ rfl rfl rfl rfl
theorem Keeps.drewAlloc (hs : base ≤ w.heap.size) (x : Obj) : Keeps base w (w.drew.alloc x) := Keeps.alloc' w hs x 0 _ rfl rfl rfl rfl

theorem new_alloc (hS : Sim CC base c G w.heap) (hi : id < G.next) {t : TypeId} {z : DV} (hz : zeroOf P t = some z) (hok : z.okv = true) {v : DV} (hl : Lays c G id (.newO (.cells z.cells none) (fun i => .ptr i 0)) v) :
    NewOk P CC base c G w id (do pure (.value (← Instr.alloc t true (.tuple #[])))) v := by
  obtain ⟨i, zv, h1, h2, h3, h4⟩ := zeroOf_some w hz
  obtain ⟨rfl, hn, hg⟩ := hl
  have hr : VRel c z zv := ofVal_rel h3
  obtain ⟨q1, q2, q3, q4⟩ := new_cells w hS hn hi hg (cs := zv.cells) (ty := t) (f := (0, 0)) (.inl rfl) (by rw [hr.cells_size]; exact Nat.le_refl _) (fun j x hj => by
      obtain ⟨u, h3, h4⟩ := hr.cells.get j hj
      exact ⟨u, by simpa using h3, h4⟩) (hr.okv_one hok)
  refine exec_valN w ⟨_, w.alloc (.cells zv.cells t), _, ?_, q1, q2, .ptr q3, Keeps.alloc w hS.size _, q4⟩
  simp only [Instr.alloc, Sem.run_bind, h4, Result.andThen_ok, alloc_run, Sem.run_pure]
theorem new_box (hS : Sim CC base c G w.heap) (hi : id < G.next) {t : TypeId} {x : DV} {vx : Value} (hr : VRel c x vx) (hok : x.okv = true) {v : DV} (hl : Lays c G id (.newO (.cells x.cells none) (fun i => .ptr i 0)) v) :
    NewOk P CC base c G w id (do pure (.value (← Instr.box t vx))) v := by
  obtain ⟨rfl, hn, hg⟩ := hl
  obtain ⟨q1, q2, q3, q4⟩ := new_cells w hS hn hi hg (cs := vx.cells) (ty := t) (f := (0, 0)) (.inl rfl) (by rw [hr.cells_size]; exact Nat.le_refl _) (fun j x hj => by
      obtain ⟨u, h3, h4⟩ := hr.cells.get j hj
      exact ⟨u, by simpa using h3, h4⟩) (hr.okv_one hok)
  refine exec_valN w ⟨_, w.alloc (.cells vx.cells t), _, ?_, q1, q2, .ptr q3, Keeps.alloc w hS.size _, q4⟩
  simp only [Instr.box, Sem.run_bind, alloc_run, Result.andThen_ok, Sem.run_pure]
theorem new_buildSlice (hS : Sim CC base c G w.heap) (hi : id < G.next) (h2 : 2 ≤ id) (hg : GlobOk D c) (hf : VRels c fr.tmps a.tmps.toList) {t e : TypeId} {sh : Shape} {z : DV} {len : Nat} {parts : Array (Nat × Operand)} {ps : List (Nat × Opd)} {mu : Bool}
    (hu : P.underlying t = some (.slice e)) (hsh : shapeOf P e = some sh) (hz : zeroOf P e = some z) (hps : partsL parts.toList = some ps) (hzc : z.cells.length = sh.size) (hzo : z.okv = true) {r : EvR} {v : DV}
    (he : evalOp D fr h (.mks mu sh z len ps) = some r) (hl : Lays c G id r v) :
    NewOk P CC base c G w id (do pure (.value (← Instr.buildSlice t len (parts.map fun (i, x) => (i, a.eval x))))) v := by
  obtain ⟨i, zv, h1, h2', h3, h4⟩ := zeroOf_some w hz
  have hr : VRel c z zv := ofVal_rel h3
  obtain ⟨_, hpos⟩ := shapeOf_size hsh
  have hso := run_sizeOf_shape w hsh
  simp only [evalOp] at he
  split at he
  case isFalse => cases he
  rename_i hcond
  obtain ⟨hc1, hc2⟩ := hcond
  have hzr := zeros_rel (n := len) hzc hpos hr
  obtain ⟨arr, f1, f2, f3, f4, f5⟩ := fillS_rel (c := c) (sz := sh.size) (ρ := a.eval) parts.toList _ (partsL_rel hg hf _ _ hps) (List.replicate len z) _ hzr
    (fun x hx => by rw [List.eq_of_mem_replicate hx]; exact hzc)
    (fun q hq => by
      obtain ⟨p, hp, rfl⟩ := List.mem_map.1 hq
      have := hc2 p hp
      simpa using this)
    (fun x hx => by
      simp only [flat, List.mem_flatMap] at hx
      obtain ⟨y, hy, hxy⟩ := hx
      rw [List.eq_of_mem_replicate hy] at hxy
      exact hr.okv_one hzo x hxy)
  have hrun : (Instr.buildSlice t len (parts.map fun (i, x) => (i, a.eval x))).run P w = .ok (.slice (some ⟨w.heap.size, 0, none⟩) len len) (w.alloc (.cells arr e)) := by
    have hmap : (parts.map fun (x : Nat × Operand) => (x.1, a.eval x.2)).toList = parts.toList.map fun p => (p.1, a.eval p.2) := by simp
    have hbig : ¬ (len * sh.size > 2 ^ 24) := by simp; omega
    simp only [Instr.buildSlice, Sem.run_bind, run_underlying hu, Result.andThen_ok, hso, hbig, if_false]
    by_cases h0 : len * sh.size = 0
    · have hl0 : len = 0 := by
        rcases Nat.mul_eq_zero.1 h0 with h | h <;> omega
      have hnil : parts.toList.map (fun p => (p.1, a.eval p.2)) = [] := by
        cases hpt : parts.toList with
        | nil => rfl
        | cons p pt =>
          rw [hpt] at hps
          simp only [partsL] at hps
          split at hps <;> simp at hps
          subst hps
          have := (hc2 _ (List.mem_cons_self ..)).1
          omega
      have hnone : ∀ g : Nat → Value, (Array.range (len * sh.size)).map g = #[] := fun g => by rw [h0]; simp
      rw [hnone, hnil] at f1
      cases f1
      rw [hmap, hnil]
      simp only [h0, if_true, Sem.run_pure, Result.andThen_ok]
      simp [Instr.fill, newRow, hl0]
      rw [show (Array.range 0) = #[] from rfl]
      simp
    · rw [hmap]
      simp only [h0, if_false, Sem.run_bind, h4, Result.andThen_ok, Sem.run_pure, f1]
      rfl
  have hmain := new_row (mu := mu) w hS hi h2 hpos (xs := fillL (List.replicate len z) (ps.map fun q => (q.1, ev D fr q.2))) (cs := arr) (ty := e) (w' := w.alloc (.cells arr e)) (len := len) (v := v) (by rw [f5]; simp) f3 f2 f4 rfl (Keeps.alloc w hS.size _) rfl
    (by
      cases he
      cases mu with
      | true => exact hl
      | false => exact hl)
  obtain ⟨c', m1, m2, m3, m4, m5⟩ := hmain
  exact exec_valN w ⟨_, _, c', hrun, m1, m2, m3, m4, m5⟩
theorem askRoom_run (n : Nat) (w : World) : (askRoom n).run P w = .ok () w := by
  unfold askRoom; first | rfl | (split <;> rfl) | simp
theorem new_makeSlice (hS : Sim CC base c G w.heap) (hi : id < G.next) (h2 : 2 ≤ id) {t e : TypeId} {sh : Shape} {z : DV} {mu : Bool} {i : TypeInfo} {x y : DV} {vx vy : Value} (hx : VRel c x vx) (hy : VRel c y vy)
    (hu : P.underlying t = some (.slice e)) (hsh : shapeOf P e = some sh) (hz : zeroOf P e = some z) (hie : P.info? e = some i) (hzc : z.cells.length = sh.size) (hzo : z.okv = true) {k1 k2 : IntKind} {l cp : Int} (ex : x = .int k1 l) (ey : y = .int k2 cp)
    (hb : 0 ≤ l ∧ l ≤ cp ∧ cp * i.bytes ≤ 140737488355328 ∧ cp ≤ 9223372036854775807) {v : DV}
    (hl : Lays c G id (if mu then .newO (.cells (flat (List.replicate l.toNat z)) sh) (fun i => .arr i sh.size 0 l.toNat) else .newT sh.size (fun t => .lst t sh.size (List.replicate l.toNat z))) v) :
    NewOk P CC base c G w id (do pure (.value (← Instr.makeSlice t vx vy))) v := by
  obtain ⟨i', zv, h1, h2', h3, h4⟩ := zeroOf_some w hz
  have hr : VRel c z zv := ofVal_rel h3
  obtain ⟨_, hpos⟩ := shapeOf_size hsh
  have hso := run_sizeOf_shape w hsh
  rw [hie] at h1; cases h1
  subst ex; subst ey
  have ex := hx.int_inv
  have ey := hy.int_inv
  subst ex; subst ey
  obtain ⟨hb1, hb2, hb3, hb4⟩ := hb
  have wl : IntKind.i64.wrap l = l := by rw [IntKind.wrap_i64]; omega
  have wc : IntKind.i64.wrap cp = cp := by rw [IntKind.wrap_i64]; omega
  have hbc : (i.bytes : Int) * cp ≤ 140737488355328 := by rw [Int.mul_comm]; exact hb3
  have n1 : ¬ cp < 0 := by omega
  have n2 : ¬ (281474976710656 < (i.bytes : Int) * cp) := by omega
  have n3 : ¬ l < 0 := by omega
  have n4 : ¬ cp < l := by omega
  have hzr := zeros_rel (n := cp.toNat) hzc hpos hr
  let cs : Array Value := (Array.range (cp.toNat * sh.size)).map (zv.cells[· % zv.cells.size]!)
  have hrun : (Instr.makeSlice t (.int k1 l) (.int k2 cp)).run P w = .ok (.slice (some ⟨w.heap.size, 0, none⟩) l.toNat cp.toNat) (w.alloc (.cells cs e)) := by
    have hai : ∀ (k : IntKind) (n : Int) (w : World), (asInt (.int k n)).run P w = .ok n w := fun k n w => by simp [asInt, asIntOf]
    simp only [Instr.makeSlice, Sem.run_bind, run_underlying hu, hai, typeInfo, run_program, hie, Sem.run_pure, Result.andThen_ok, wl, wc]
    rw [if_neg (by simp; omega)]
    by_cases h0 : cp.toNat * sh.size = 0
    · have hnone : ∀ g : Nat → Value, (Array.range (cp.toNat * sh.size)).map g = #[] := fun g => by rw [h0]; simp
      simp only [Sem.run_bind, askRoom_run, Result.andThen_ok, hso, h0, if_true, Sem.run_pure]
      simp only [h0] at hnone
      simp [cs, newRow, h0]
      rw [show (Array.range 0) = #[] from rfl]
      simp
    · simp only [Sem.run_bind, askRoom_run, Result.andThen_ok, hso, h0, if_false, Sem.run_pure, h4]
      rfl
  have hcl : cs.size = cp.toNat * sh.size := by simp [cs]
  have hlc : l.toNat ≤ cp.toNat := by omega
  have hle : l.toNat * sh.size ≤ cp.toNat * sh.size := Nat.mul_le_mul_right _ hlc
  have hsx : ∀ n, ∀ x ∈ List.replicate n z, x.cells.length = sh.size := fun n x hx => by rw [List.eq_of_mem_replicate hx]; exact hzc
  have hone : ∀ n, ∀ x ∈ flat (List.replicate n z), x.one = true := fun n x hx => by
      simp only [flat, List.mem_flatMap] at hx
      obtain ⟨y, hy, hxy⟩ := hx
      rw [List.eq_of_mem_replicate hy] at hxy
      exact hr.okv_one hzo x hxy
  have hpre : flat (List.replicate l.toNat z) = (flat (List.replicate cp.toNat z)).take (l.toNat * sh.size) := by
    have e : List.replicate cp.toNat z = List.replicate l.toNat z ++ List.replicate (cp.toNat - l.toNat) z := by rw [List.replicate_append_replicate]; congr 1; omega
    rw [e, flat_append, List.take_left' (by rw [flat_length _ (hsx _)]; simp)]
  have hv : VRels c (flat (List.replicate l.toNat z)) (cs.toList.take (l.toNat * sh.size)) := by
    rw [hpre]; exact hzr.take _
  have hcs : ∀ (j : Nat) (v : Value), (cs.toList.take (l.toNat * sh.size))[j]? = some v → cs[j]? = some v := fun j v hj => by
    have hlt := (List.getElem?_eq_some_iff.1 hj).1
    simp only [List.length_take] at hlt
    rw [List.getElem?_take, if_pos (by omega)] at hj
    simpa using hj
  cases mu with
  | false =>
    simp only [Bool.false_eq_true, if_false] at hl
    obtain ⟨rfl, hn, hg⟩ := hl
    obtain ⟨q1, q2, q3, q4⟩ := new_list w hS hn hi h2 hpos hg (xs := List.replicate l.toNat z) (vs := cs.toList.take (l.toNat * sh.size)) (cs := cs) (ty := e) (f := (0, 0)) (cap := cp.toNat) (.inl rfl) (hsx _) hv (hone _) hcs (by simpa using hlc) (by omega)
    refine exec_valN w ⟨_, _, _, hrun, q1, q2, ?_, Keeps.alloc w hS.size _, q4⟩
    simpa using q3
  | true =>
    simp only [if_true] at hl
    obtain ⟨rfl, hn, hg⟩ := hl
    obtain ⟨q1, q2, q3, q4⟩ := new_cells w hS hn hi hg (cs := cs) (ty := e) (f := (0, 0)) (.inl rfl) (by rw [flat_length _ (hsx _)]; simp; omega) (fun j x hj => by
      obtain ⟨u, h3, h4⟩ := hv.get j hj
      exact ⟨u, hcs _ _ h3, h4⟩) (hone _)
    exact exec_valN w ⟨_, _, _, hrun, q1, q2, .arr q3 hlc (.inr ⟨rfl, rfl, by omega⟩), Keeps.alloc w hS.size _, q4⟩

theorem new_range (hS : Sim CC base c G w.heap) (hi : id < G.next) {t : TypeId} {s : List UInt8} {vx : Value} (hu : P.underlying t = some .string) (hx : VRel c (.str s) vx) {v : DV} (hl : Lays c G id (.newO (.siter s 0) (fun i => .ptr i 0)) v) :
    NewOk P CC base c G w id (do pure (.value (← Instr.range t vx))) v := by
  obtain ⟨rfl, hn, hg⟩ := hl
  have := hx.str_inv
  subst this
  have q2 := hS.obj hn hi hg (x := .stringIter ⟨s.toArray⟩ 0) (lim := 0) (sz := 0) ⟨rfl, by simp⟩
  refine exec_valN w ⟨.pointer (some ⟨w.heap.size, 0, none⟩), w.alloc (.stringIter ⟨s.toArray⟩ 0), c.obj id w.heap.size 0 0 0, ?_, Cor.le_obj hn _ _ _ _, q2, .ptr (upd_same _ _ _), Keeps.alloc w hS.size _, fun i hne => ⟨upd_ne _ _ hne, rfl⟩⟩
  simp only [Instr.range, Sem.run_bind, run_underlying hu, Result.andThen_ok, Sem.run_pure]
  rfl

theorem bytesV_cells (s : List UInt8) : ∀ x ∈ bytesV s, x.cells.length = 1 := by
  intro x hx
  simp only [bytesV, List.mem_map] at hx
  obtain ⟨b, _, rfl⟩ := hx
  rfl
theorem bytesV_flat (s : List UInt8) : flat (bytesV s) = bytesV s := flat_scalar _ fun x hx cs e => by
  subst e; simp [bytesV, ofByte] at hx
theorem bytesV_one (s : List UInt8) : ∀ x ∈ bytesV s, x.one = true := by
  intro x hx
  simp only [bytesV, List.mem_map] at hx
  obtain ⟨b, _, rfl⟩ := hx
  rfl
theorem bytesV_rel (s : List UInt8) : VRels c (bytesV s) (s.map fun b => Value.int .u8 b.toNat) := by
  induction s with
  | nil => exact .nil
  | cons b s ih => exact .cons (.int _ _) ih
theorem new_strBytes (hS : Sim CC base c G w.heap) (hi : id < G.next) (h2 : 2 ≤ id) {st t e : TypeId} {s : List UInt8} {vx : Value} {mu : Bool} (hus : P.underlying st = some .string) (hu : P.underlying t = some (.slice e)) (hue : P.underlying e = some (.int .u8)) (hx : VRel c (.str s) vx) {v : DV}
    (hl : Lays c G id (if mu then .newO (.cells (bytesV s) none) (fun i => .arr i 1 0 s.length) else .newT 1 (fun t => .lst t 1 (bytesV s))) v) :
    NewOk P CC base c G w id (do pure (.value (← convert st t vx))) v := by
  have := hx.str_inv
  subst this
  let cap := grownCap w s.length 0 e
  have hge : s.length ≤ cap := grownCap_ge w s.length 0 e
  let cs : Array Value := (s.map fun b => Value.int .u8 b.toNat).toArray ++ Array.replicate (cap - s.length) (.int .u8 0)
  have hcs : cs.size = cap := by simp [cs]; omega
  let w1 : World := w.drew.alloc (.cells cs e)
  have hw1 : w1.heap = w.heap.push (.cells cs e) := rfl
  let w2 : World := w1.freeze ⟨w.heap.size, cs.size, none⟩ 1
  have hw2 : w2.heap = w.heap.push (.cells cs e (cs.size, cs.size + 1)) := by
    have : w2.heap = w1.heap.modify w.heap.size fun
      | .cells c elem (lo, hi) => .cells c elem (if lo == hi then (cs.size, cs.size + 1) else (min lo cs.size, max hi (cs.size + 1)))
      | o => o := rfl
    rw [this, hw1]
    apply Array.ext
    · simp
    · intro i hi1 hi2
      rw [Array.getElem_modify]
      by_cases hi3 : w.heap.size = i
      · subst hi3; simp
      · simp only [hi3, if_false]
        simp at hi1
        rw [Array.getElem_push, Array.getElem_push]
        simp [show i < w.heap.size by omega]
  have hrun : (convert st t (.string ⟨s.toArray⟩)).run P w = .ok (.slice (some ⟨w.heap.size, 0, none⟩) s.length cap) w2 := by
    have hsize : (⟨s.toArray⟩ : ByteArray).size = s.length := by simp [bytes_size]
    have hshape : w1.shape? w.heap.size = some (e, cs.size) := by simp [World.shape?, hw1]
    simp [convert, run_underlying hus, run_underlying hu, run_underlying hue, Conv.stringToBytes, hsize, newRow, markStringish, Question.forced]
    change (Sem.run P (match w1.shape? w.heap.size with
      | some (_, n) => freeze { block := w.heap.size, off := n } 1
      | _ => pure ()) w1).andThen _ = _
    rw [hshape]
    rfl
  have hf : FOk cs.size (cs.size, cs.size + 1) := .inr (Nat.le_refl _)
  have hk : Keeps base w w2 := Keeps.alloc' w hS.size _ 0 w2 hw2 rfl rfl rfl
  have hpre : ∀ (j : Nat) (v : Value), (s.map fun b => Value.int .u8 b.toNat)[j]? = some v → cs[j]? = some v := fun j v hj => by
    have hlt := (List.getElem?_eq_some_iff.1 hj).1
    simp only [cs]
    rw [Array.getElem?_append_left (by simpa using hlt)]
    simpa using hj
  have hv := bytesV_rel (c := c) s
  cases mu with
  | false =>
    simp only [Bool.false_eq_true, if_false] at hl
    obtain ⟨rfl, hn, hg⟩ := hl
    obtain ⟨q1, q2, q3, q4⟩ := new_list w hS hn hi h2 (by omega) hg (xs := bytesV s) (vs := s.map fun b => Value.int .u8 b.toNat) (cs := cs) (ty := e) (cap := cap) hf (bytesV_cells s) (by rw [bytesV_flat]; exact hv) (by rw [bytesV_flat]; exact bytesV_one s) hpre
      (by simpa [bytesV] using hge) (by omega)
    refine exec_valN w ⟨_, _, _, hrun, q1, by rw [hw2]; exact q2, ?_, hk, q4⟩
    simpa [bytesV] using q3
  | true =>
    simp only [if_true] at hl
    obtain ⟨rfl, hn, hg⟩ := hl
    obtain ⟨q1, q2, q3, q4⟩ := new_cells w hS hn hi hg (cs := cs) (ty := e) hf (by simp [bytesV]; omega) (fun j x hj => by
      obtain ⟨u, h3, h4⟩ := hv.get j hj
      exact ⟨u, hpre _ _ h3, h4⟩) (bytesV_one s)
    exact exec_valN w ⟨_, _, _, hrun, q1, by rw [hw2]; exact q2, .arr q3 hge (.inr ⟨rfl, rfl, by simp [Nat.mul_one]; omega⟩), hk, q4⟩
end
end Go.Dm
