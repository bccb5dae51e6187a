/- The D-machine (9): an operation that gives a value, in the model. -/
import Derived.Test.YtjhednolknlpiaaDmH
namespace Go.Dm
set_option linter.unusedSimpArgs false
set_option linter.unusedVariables false
set_option linter.unnecessarySimpa false

section
variable {P : Program} {cfg : Cfg} {mf : Bool} {D : DProg} {CC : Code → DC → Prop} {base : Nat} {c : Cor} {fr : Fr} {a : Act} {h G : Heap} (w : World)
/-- What 'execOp' does with an operation's own run. -/
theorem exec_val {s : Sem Value} {v : Value} {w' : World} (hs : s.run P w = .ok v w') : ((do pure (.value (← s)) : Sem Next)).run P w = .ok (.value v) w' := by
  simp [hs]

def ValOk (P : Program) (c : Cor) (w : World) (s : Sem Next) (v : DV) : Prop := ∃ v' w', s.run P w = .ok (.value v') w' ∧ VRel c v v' ∧ Quiet c w w'
theorem ValOk.of {s : Sem Value} {v : DV} (hs : ∃ v', s.run P w = .ok v' w ∧ VRel c v v') : ValOk P c w (do pure (.value (← s))) v :=
  let ⟨v', h1, h2⟩ := hs; ⟨v', w, exec_val w h1, h2, .same⟩

theorem VRel.zOf {c : Cor} {t z : Nat} {xs : List DV} {v : Value} (h : VRel c (.lst t z xs) v) : VRel c (.lst t (zOf t z) xs) v := by
  obtain ⟨a, cap, vs, q1, q2, q3, qo, q4, q5, q6, q7, q8, rfl⟩ := h.lst_inv
  cases t with
  | zero =>
    obtain ⟨rfl, rfl⟩ := q6 rfl
    obtain rfl : xs = [] := List.eq_nil_of_length_eq_zero (by omega)
    exact .lst (vs := vs) (fun e => absurd rfl e) (by simp) q3 qo (fun e => absurd rfl e) (Nat.le_refl _) (fun _ => ⟨rfl, rfl⟩) (fun e => absurd rfl e) (fun e => absurd e (by omega))
  | succ t => exact h
theorem val_slice {t e : TypeId} {n : Nat} {x v : DV} {vx : Value} {lo hi mx : Option DV} {vlo vhi vmx : Option Value} (ht : P.underlying t = some (.slice e)) (hn : sizeOfT P e = some n) (hx : VRel c x vx)
    (h1 : (lo = none ∧ vlo = none) ∨ ∃ d v, lo = some d ∧ vlo = some v ∧ VRel c d v) (h2 : (hi = none ∧ vhi = none) ∨ ∃ d v, hi = some d ∧ vhi = some v ∧ VRel c d v)
    (h3 : (mx = none ∧ vmx = none) ∨ ∃ d v, mx = some d ∧ vmx = some v ∧ VRel c d v)
    (he : sliceD n x lo hi mx = some (.val v)) : ValOk P c w (do pure (.value (← Instr.sliceAt t vx vlo vhi vmx))) v := by
  refine ValOk.of w ?_
  have hmx : mx = none := by
    unfold sliceD at he
    split at he <;> simp_all
  subst hmx
  obtain ⟨_, rfl⟩ : (none : Option DV) = none ∧ vmx = none := by
    rcases h3 with h | ⟨d, v, h, _⟩
    · exact h
    · cases h
  have hsz := run_sizeOfT (P := P) w hn
  cases x <;> simp only [sliceD] at he <;> try (cases he; done)
  case lst t0 sz xs =>
    split at he
    case isFalse => cases he
    rename_i hz
    obtain ⟨⟨l, r⟩, hb, hv⟩ := Option.map_eq_some_iff.1 he
    simp at hv; subst hv
    obtain ⟨a, cap, vs, q1, q2, q3, qo, q4, q5, q6, q7, q8, rfl⟩ := hx.lst_inv
    have hxs : ∀ y ∈ xs, y.cells.length = n := by
      rcases hz with h0 | h0
      · obtain ⟨_, hc0⟩ := q6 h0
        have : xs = [] := List.eq_nil_of_length_eq_zero (by omega)
        subst this; simp
      · subst h0; exact q2
    obtain ⟨hrun, hlr, hrl⟩ := bounds_rel (P := P) (c := c) w (sl := true) q5 hb h1 h2
    have hres : (Instr.sliceAt t (.slice a xs.length cap) vlo vhi none).run P w = .ok (.slice (if cap = l then a else a.map (·.add (l * n))) (r - l) (cap - l)) w := by
      simp only [Instr.sliceAt, Sem.run_bind, run_underlying ht, Result.andThen_ok, Instr.slice, hrun, hsz, Sem.run_pure]
    refine ⟨_, hres, ?_⟩
    -- the new slice
    have hA : l + (r - l) = r := by omega
    have hB : l + (cap - l) = cap := by omega
    have hlen : ((xs.drop l).take (r - l)).length = r - l := by simp; omega
    have hgoal : VRel c (.lst (if r = xs.length ∨ t0 = 0 then t0 else 1) n ((xs.drop l).take (r - l))) (.slice (if cap = l then a else a.map (·.add (l * n))) ((xs.drop l).take (r - l)).length (cap - l)) := by
      have hsub : ∀ y ∈ (xs.drop l).take (r - l), y ∈ xs := fun y hy => List.mem_of_mem_drop (List.mem_of_mem_take hy)
      have hfl : ∀ (ys : List DV), (∀ y ∈ ys, y.cells.length = n) → (flat ys).length = ys.length * n := by
        intro ys
        induction ys with
        | nil => simp [flat]
        | cons y ys ih =>
          intro hy
          have := ih fun z hz => hy z (by simp [hz])
          simp only [flat, List.flatMap_cons, List.length_append, hy y (by simp), List.length_cons] at this ⊢
          rw [this, Nat.succ_mul]; omega
      have hflat : flat ((xs.drop l).take (r - l)) = ((flat xs).drop (l * n)).take ((r - l) * n) := by
        have e1 : xs = xs.take l ++ ((xs.drop l).take (r - l) ++ (xs.drop l).drop (r - l)) := by rw [List.take_append_drop, List.take_append_drop]
        conv => rhs; rw [e1]
        simp only [flat, List.flatMap_append]
        have l1 := hfl (xs.take l) fun y hy => hxs y (List.mem_of_mem_take hy)
        have l2 := hfl ((xs.drop l).take (r - l)) fun y hy => hxs y (hsub y hy)
        have e2 : (xs.take l).length = l := by simp; omega
        rw [e2] at l1
        rw [hlen] at l2
        simp only [flat] at l1 l2
        rw [List.drop_append_of_le_length (Nat.le_of_eq l1.symm), List.drop_eq_nil_of_le (Nat.le_of_eq l1), List.nil_append, List.take_append_of_le_length (Nat.le_of_eq l2.symm), List.take_of_length_le (Nat.le_of_eq l2)]
      by_cases hemp : (xs.drop l).take (r - l) = []
      · -- nothing is left
        rw [hemp]
        have hrl0 : r = l := by
          have := congrArg List.length hemp
          rw [hlen] at this; simp at this; omega
        subst hrl0
        refine VRel.lst (vs := []) (sz := n) ?_ (by simp) (by simpa [flat] using VRels.nil) (by simp [flat]) (by simp) (by simp) ?_ ?_ ?_
        · intro ht0
          have h0 : t0 ≠ 0 := by
            intro e; subst e; simp at ht0
          rcases hz with h1 | h1
          · exact absurd h1 h0
          · subst h1; exact q1 h0
        · intro ht0
          have h0 : t0 = 0 := by
            by_cases e : r = xs.length ∨ t0 = 0
            · rw [if_pos e] at ht0; exact ht0
            · rw [if_neg e] at ht0; cases ht0
          obtain ⟨rfl, rfl⟩ := q6 h0
          refine ⟨by split <;> rfl, by omega⟩
        · intro ht1
          have h0 : t0 ≠ 0 := by
            intro e; subst e; simp at ht1
          obtain ⟨b, o, sp, rfl, hsp⟩ := q7 h0
          by_cases e : cap = r
          · exact ⟨b, o, sp, by simp [e], .inr (by omega)⟩
          · obtain rfl : sp = none := hsp.resolve_right (by omega)
            exact ⟨b, o + r * n, none, by simp [e, add_plain], .inl rfl⟩
        · intro ht2
          have hre : r = xs.length ∨ t0 = 0 := by
            by_cases e : r = xs.length ∨ t0 = 0
            · exact e
            · rw [if_neg e] at ht2; omega
          rw [if_pos hre] at ht2 ⊢
          obtain ⟨b, o, e, lim, rfl, hτ, hcap⟩ := q8 ht2
          have hszn : sz = n := hz.resolve_left (by omega)
          subst hszn
          have hre' : r = xs.length := hre.resolve_right (fun e => by subst e; simp at ht2)
          by_cases ec : cap = r
          · exact ⟨b, o, e, lim, by simp [ec], hτ, .inl (by omega)⟩
          · refine ⟨b, o + r * sz, e, lim, by simp [ec, add_plain], hτ, .inr ?_⟩
            rcases hcap with h0 | ⟨he', hl'⟩
            · omega
            · refine ⟨by rw [he', hre']; simp, ?_⟩
              have : o + r * sz + (cap - r) * sz = o + cap * sz := by
                rw [Nat.add_assoc, ← Nat.add_mul, hB]
              omega
      · -- something is left: the content lies further on
        have hne : xs ≠ [] := by
          intro e; subst e; simp at hemp
        obtain ⟨b, o, rfl, hcont⟩ := q4 hne
        have hszn : sz = n := by
          cases xs with
          | nil => exact absurd rfl hne
          | cons y ys => rw [← q2 y (by simp), hxs y (by simp)]
        have ht00 : t0 ≠ 0 := fun e => by
          obtain ⟨hn, _⟩ := q6 e
          cases hn
        subst hszn
        have hlt : l < r := by
          rcases Nat.lt_or_ge l r with h | h
          · exact h
          · exact absurd (List.eq_nil_of_length_eq_zero (by rw [hlen]; omega)) hemp
        have hcl : cap ≠ l := by omega
        refine VRel.lst (vs := (vs.drop (l * sz)).take ((r - l) * sz)) (sz := sz) (fun _ => q1 ht00) (fun y hy => q2 y (hsub y hy)) (by rw [hflat]; exact (q3.drop _).take _) (by rw [hflat]; exact fun x hx => qo x (List.mem_of_mem_drop (List.mem_of_mem_take hx))) ?_ (by rw [hlen]; omega) ?_ ?_ ?_
        · intro _
          refine ⟨b, o + l * sz, by simp [hcl, add_plain], fun j x hj => ?_⟩
          have hlt' : j < (r - l) * sz := by
            have := (List.getElem?_eq_some_iff.1 hj).1; simp at this; omega
          have hj' : vs[l * sz + j]? = some x := by simpa [List.getElem?_take, hlt'] using hj
          have := hcont _ _ hj'
          rwa [← Nat.add_assoc] at this
        · intro ht0
          have h0 : t0 = 0 := by
            by_cases e : r = xs.length ∨ t0 = 0
            · rw [if_pos e] at ht0; exact ht0
            · rw [if_neg e] at ht0; cases ht0
          obtain ⟨hn, _⟩ := q6 h0
          cases hn
        · intro _
          exact ⟨b, o + l * sz, none, by simp [hcl, add_plain], .inl rfl⟩
        · intro ht2
          have hre : r = xs.length ∨ t0 = 0 := by
            by_cases e : r = xs.length ∨ t0 = 0
            · exact e
            · rw [if_neg e] at ht2; omega
          rw [if_pos hre] at ht2 ⊢
          obtain ⟨b', o', e, lim, hab, hτ, hcap⟩ := q8 ht2
          cases hab
          have hre' : r = xs.length := hre.resolve_right (fun e => by subst e; simp at ht2)
          refine ⟨b, o + l * sz, e, lim, by simp [hcl, add_plain], hτ, .inr ?_⟩
          rcases hcap with h0 | ⟨he', hl'⟩
          · omega
          · rw [hlen]
            have e1 : o + l * sz + (r - l) * sz = o + r * sz := by rw [Nat.add_assoc, ← Nat.add_mul, hA]
            have e2 : o + l * sz + (cap - l) * sz = o + cap * sz := by rw [Nat.add_assoc, ← Nat.add_mul, hB]
            exact ⟨by rw [e1, he', hre'], by rw [e2]; exact hl'⟩
    rw [hlen] at hgoal
    exact hgoal.zOf
  case arr id sz off len =>
    split at he
    case isFalse => cases he
    rename_i hszn
    subst hszn
    obtain ⟨⟨l, r⟩, hb, hv⟩ := Option.map_eq_some_iff.1 he
    simp at hv; subst hv
    obtain ⟨cap, b, o, lim, ab, ao, hφ, hcap, hor, rfl⟩ := hx.arr_inv
    obtain ⟨hrun, hlr, hrl⟩ := bounds_rel (P := P) (c := c) w (sl := true) hcap hb h1 h2
    have hres : (Instr.sliceAt t (.slice (some ⟨ab, ao, none⟩) len cap) vlo vhi none).run P w = .ok (.slice (if cap = l then some ⟨ab, ao, none⟩ else some ⟨ab, ao + l * sz, none⟩) (r - l) (cap - l)) w := by
      simp only [Instr.sliceAt, Sem.run_bind, run_underlying ht, Result.andThen_ok, Instr.slice, hrun, hsz, Sem.run_pure]
      simp [add_plain]
    refine ⟨_, hres, ?_⟩
    by_cases ec : cap = l
    · rw [if_pos ec]
      exact .arr hφ (by omega) (.inl (by omega))
    · rw [if_neg ec]
      refine .arr hφ (by omega) ?_
      rcases hor with h0 | ⟨rfl, rfl, hl'⟩
      · omega
      · refine .inr ⟨rfl, by omega, ?_⟩
        have e2 : o + (off + l * sz) + (cap - l) * sz = o + off + cap * sz := by
          have : l * sz + (cap - l) * sz = cap * sz := by rw [← Nat.add_mul]; congr 1; omega
          omega
        omega

theorem kept_of_sim (hS : Sim CC base c G w.heap) : Kept c w := fun b o v h => by
  obtain ⟨vs, e, f, hb, hv⟩ := hS.prot b o v h
  simp [World.cell?, hb, hv]

theorem val_field {s : TypeId} {fs : Array Field} {f : Nat} {fd : Field} {sh : Shape} {cs r : List DV} {v : DV} {vx : Value} (hu : P.underlying s = some (.struct fs)) (hf : fs[f]? = some fd) (hs : shapeOf P fd.type = some sh)
    (hx : VRel c (.agg cs) vx) (hc : cut cs fd.offset sh.size = some r) (hm : mkv sh r = some v) : ∃ v', (Instr.field s vx f).run P w = .ok v' w ∧ VRel c v v' := by
  obtain ⟨vs, hv, ho, rfl⟩ := hx.agg_inv
  obtain ⟨v', h1, h2⟩ := part_rel (P := P) w hs hv ho hc hm
  exact ⟨v', by simp [Instr.field, run_underlying hu, hf, asAgg, h1], h2⟩
theorem val_idxArr {t e : TypeId} {len : Nat} {sh : Shape} {cs r : List DV} {v : DV} {vx : Value} {k : IntKind} {n : Int} (hu : P.underlying t = some (.array len e)) (hs : shapeOf P e = some sh)
    (hx : VRel c (.agg cs) vx) (h0 : 0 ≤ n ∧ n < len) (hc : cut cs (n.toNat * sh.size) sh.size = some r) (hm : mkv sh r = some v) : ∃ v', (Instr.index t vx (.int k n)).run P w = .ok v' w ∧ VRel c v v' := by
  obtain ⟨vs, hv, ho, rfl⟩ := hx.agg_inv
  obtain ⟨v', h1, h2⟩ := part_rel (P := P) w hs hv ho hc hm
  exact ⟨v', by simp [Instr.index, run_underlying hu, asIntOf, h0, run_sizeOf_shape w hs, h1], h2⟩
theorem val_iaddr {t e : TypeId} {sz : Nat} {x v : DV} {vx : Value} {k : IntKind} {n : Int} (hu : P.underlying t = some (.slice e)) (hs : sizeOfT P e = some sz) (hx : VRel c x vx)
    (he : (match x with
      | .lst t z xs => if 0 ≤ n ∧ (t = 0 ∨ z = sz) then (xs[n.toNat]?).map fun v => EvR.val (.elt v.cells) else none
      | .arr id z o len => if 0 ≤ n ∧ n < len ∧ z = sz then some (EvR.val (.ptr id (o + n.toNat * sz))) else none
      | _ => none) = some (.val v)) : ∃ v', (Instr.indexAt t vx (.int k n)).run P w = .ok v' w ∧ VRel c v v' := by
  have hz := run_sizeOfT (P := P) w hs
  cases x <;> simp only at he <;> try (cases he; done)
  case lst t0 z xs =>
    split at he
    case isFalse => cases he
    rename_i h0
    obtain ⟨x, hx', hv⟩ := Option.map_eq_some_iff.1 he
    simp at hv; subst hv
    obtain ⟨h0, hz0⟩ := h0
    obtain ⟨a, cap, vs, q1, q2, q3, qo, q4, q5, q6, q7, q8, rfl⟩ := hx.lst_inv
    have hne : xs ≠ [] := by intro e; subst e; simp at hx'
    obtain rfl : z = sz := hz0.resolve_left fun e => hne (List.eq_nil_of_length_eq_zero (by have := q6 e; omega))
    obtain ⟨b, o, rfl, hcont⟩ := q4 hne
    have hlt : n.toNat < xs.length := (List.getElem?_eq_some_iff.1 hx').1
    have hlt' : 0 ≤ n ∧ n < (xs.length : Int) := ⟨h0, by omega⟩
    refine ⟨.pointer (some ⟨b, o + n.toNat * z, none⟩), by simp [Instr.indexAt, asIntOf, run_underlying hu, hlt', hz, add_plain], ?_⟩
    -- the element's cells
    have hfl : ∀ (ys : List DV), (∀ y ∈ ys, y.cells.length = z) → (flat ys).length = ys.length * z := by
      intro ys
      induction ys with
      | nil => simp [flat]
      | cons y ys ih =>
        intro hy
        have := ih fun z hz => hy z (by simp [hz])
        simp only [flat, List.flatMap_cons, List.length_append, hy y (by simp), List.length_cons] at this ⊢
        rw [this, Nat.succ_mul]; omega
    have hsplit : xs = xs.take n.toNat ++ x :: xs.drop (n.toNat + 1) := by
      have h1 : xs[n.toNat] = x := by rw [List.getElem?_eq_getElem hlt] at hx'; simpa using hx'
      rw [← h1]; simp
    have hflat : (flat xs).drop (n.toNat * z) = x.cells ++ flat (xs.drop (n.toNat + 1)) := by
      have l1 := hfl (xs.take n.toNat) fun y hy => q2 y (List.mem_of_mem_take hy)
      have e2 : (xs.take n.toNat).length = n.toNat := by simp; omega
      rw [e2] at l1
      conv => lhs; rw [hsplit]
      simp only [flat, List.flatMap_append, List.flatMap_cons] at l1 ⊢
      rw [List.drop_append_of_le_length (Nat.le_of_eq l1.symm), List.drop_eq_nil_of_le (Nat.le_of_eq l1), List.nil_append]
    have hr := q3.drop (n.toNat * z)
    rw [hflat] at hr
    have hr' := hr.take x.cells.length
    rw [List.take_left] at hr'
    refine .elt hr' (fun y hy => qo y ?_) (fun j y hj => ?_)
    · have : y ∈ (flat xs).drop (n.toNat * z) := by rw [hflat]; exact List.mem_append_left _ hy
      exact List.mem_of_mem_drop this
    · have hlt2 : j < x.cells.length := by
        have := (List.getElem?_eq_some_iff.1 hj).1; simp at this; omega
      have hj' : vs[n.toNat * z + j]? = some y := by simpa [List.getElem?_take, hlt2] using hj
      have := hcont _ _ hj'
      rwa [← Nat.add_assoc] at this
  case arr id z o len =>
    split at he
    case isFalse => cases he
    rename_i h0
    simp at he; subst he
    obtain ⟨h0, h1, rfl⟩ := h0
    obtain ⟨cap, b, o', lim, ab, ao, hφ, hcap, hor, rfl⟩ := hx.arr_inv
    have hlt' : 0 ≤ n ∧ n < (len : Int) := ⟨h0, h1⟩
    rcases hor with h2 | ⟨rfl, rfl, h3⟩
    · omega
    · refine ⟨.pointer (some ⟨ab, o' + o + n.toNat * z, none⟩), by simp [Instr.indexAt, asIntOf, run_underlying hu, hlt', hz, add_plain], ?_⟩
      have := VRel.ptr (c := c) (off := o + n.toNat * z) hφ
      rwa [← Nat.add_assoc] at this
theorem val_iaddrArr {t e : TypeId} {sz len : Nat} {x v : DV} {vx : Value} {k : IntKind} {n : Int} (hu : P.underlying t = some (.array len e)) (hs : sizeOfT P e = some sz) (hx : VRel c x vx)
    (he : (match x with
      | .ptr id o => if 0 ≤ n ∧ n < len then some (EvR.val (.ptr id (o + n.toNat * sz))) else none
      | .elt cs => if 0 ≤ n ∧ n < len then some (EvR.val (.elt (cs.drop (n.toNat * sz)))) else none
      | _ => none) = some (.val v)) : ∃ v', (Instr.indexAt t vx (.int k n)).run P w = .ok v' w ∧ VRel c v v' := by
  have hz := run_sizeOfT (P := P) w hs
  cases x <;> simp only at he <;> try (cases he; done)
  case ptr id o =>
    split at he
    case isFalse => cases he
    rename_i h0
    simp at he; subst he
    obtain ⟨b, o', lim, sz', hφ, rfl⟩ := hx.ptr_inv
    refine ⟨.pointer (some ⟨b, o' + o + n.toNat * sz, none⟩), by simp [Instr.indexAt, asIntOf, run_underlying hu, Instr.sureAddr, h0, hz, add_plain], ?_⟩
    have := VRel.ptr (c := c) (off := o + n.toNat * sz) hφ
    rwa [← Nat.add_assoc] at this
  case elt cs =>
    split at he
    case isFalse => cases he
    rename_i h0
    simp at he; subst he
    obtain ⟨vs, b, o, hv, ho, hp, rfl⟩ := hx.elt_inv
    refine ⟨.pointer (some ⟨b, o + n.toNat * sz, none⟩), by simp [Instr.indexAt, asIntOf, run_underlying hu, Instr.sureAddr, h0, hz, add_plain], ?_⟩
    refine .elt (hv.drop _) (fun y hy => ho y (List.mem_of_mem_drop hy)) fun j y hj => ?_
    have : vs[n.toNat * sz + j]? = some y := by simpa using hj
    have := hp _ _ this
    rwa [← Nat.add_assoc] at this
theorem val_idxStr {t : TypeId} {s : List UInt8} {b : UInt8} {vx : Value} {k : IntKind} {n : Int} (hu : P.underlying t = some .string) (hx : VRel c (.str s) vx) (h0 : 0 ≤ n) (hb : s[n.toNat]? = some b) :
    ∃ v', (Instr.index t vx (.int k n)).run P w = .ok v' w ∧ VRel c (ofByte b) v' := by
  cases hx.str_inv
  refine ⟨.int .u8 b.toNat, ?_, .int _ _⟩
  have : (⟨s.toArray⟩ : ByteArray)[n.toNat]? = some b := by
    have hlt : n.toNat < s.length := (List.getElem?_eq_some_iff.1 hb).1
    have e : s[n.toNat] = b := by rw [List.getElem?_eq_getElem hlt] at hb; simpa using hb
    rw [getElem?_pos (⟨s.toArray⟩ : ByteArray) n.toNat (by simpa [ByteArray.size] using hlt)]
    rw [← e]; rfl
  simp [Instr.index, asIntOf, run_underlying hu, h0, this]
theorem val_sliceStr {t : TypeId} {s : List UInt8} {vx : Value} {lo hi : Option DV} {vlo vhi : Option Value} {l r : Nat} (hu : P.underlying t = some .string) (hx : VRel c (.str s) vx)
    (h1 : (lo = none ∧ vlo = none) ∨ ∃ d v, lo = some d ∧ vlo = some v ∧ VRel c d v) (h2 : (hi = none ∧ vhi = none) ∨ ∃ d v, hi = some d ∧ vhi = some v ∧ VRel c d v) (hb : bounds s.length lo hi = some (l, r)) :
    ∃ v', (Instr.sliceAt t vx vlo vhi none).run P w = .ok v' w ∧ VRel c (.str ((s.drop l).take (r - l))) v' := by
  cases hx.str_inv
  obtain ⟨hrun, hlr, hrl⟩ := bounds_rel (P := P) (c := c) w (sl := false) (Nat.le_refl _) hb h1 h2
  refine ⟨.string ((⟨s.toArray⟩ : ByteArray).extract l r), by simp [Instr.sliceAt, run_underlying hu, Instr.slice, bytes_size, hrun], ?_⟩
  have : (⟨s.toArray⟩ : ByteArray).extract l r = ⟨((s.drop l).take (r - l)).toArray⟩ := by
    apply ByteArray.ext
    simp [ByteArray.data_extract]
  rw [this]
  exact .str _
end
end Go.Dm
