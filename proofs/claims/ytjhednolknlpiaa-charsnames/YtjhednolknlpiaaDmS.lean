/- The D-machine (19): the other effects; every operation that is no call. -/
import Derived.Test.YtjhednolknlpiaaDmR
namespace Go.Dm
set_option linter.unusedSimpArgs false
set_option linter.unusedVariables false
set_option linter.unnecessarySimpa false

section
variable {P : Program} {CC : Code → DC → Prop} {base : Nat} {c : Cor} {h : Heap} {w : World}

theorem flat_take {sz : Nat} : ∀ (n : Nat) (xs : List DV), (∀ x ∈ xs, x.cells.length = sz) → flat (xs.take n) = (flat xs).take (n * sz)
  | 0, xs, _ => by simp [flat]
  | n + 1, [], _ => by simp [flat]
  | n + 1, x :: xs, h => by
    have hx := h x (by simp)
    have ih := flat_take n xs fun y hy => h y (by simp [hy])
    simp only [List.take_succ_cons, flat, List.flatMap_cons] at ih ⊢
    rw [ih, Nat.succ_mul, Nat.add_comm, ← hx, List.take_length_add_append]

theorem eff_copy (hS : Sim CC base c h w.heap) {t u ty e : TypeId} {sh : Shape} (ht : P.underlying t = some (.slice e)) (hsh : shapeOf P e = some sh) {x y : DV} {vx vy : Value} (hx : VRel c x vx) (hy : VRel c y vy) {r : EvR} (he : copyD h sh x y = some r)
    {v : DV} {h' : Heap} (hr : stepEv h r = some (v, h')) : EffOk P CC base c h w (do pure (.value (← Builtin.copy_ #[t, u] ty #[vx, vy]))) v h' := by
  obtain ⟨_, hpos⟩ := shapeOf_size hsh
  unfold copyD at he
  split at he
  · rename_i i z o1 n
    split at he
    · rename_i cs sh' ys hob hys
      obtain ⟨news, hrd⟩ := elems_rel (P := P) hS hpos hy hys
      have hnl := hrd.news_len
      obtain ⟨cap, b, o, lim, ab, ao, hφ, hlc, hcap, hvx⟩ := hx.arr_inv
      simp only at he
      split at he
      case isFalse => cases he
      rename_i hcond
      obtain ⟨hshe, hz, hfit⟩ := hcond
      subst hshe
      cases he; cases hr
      subst hvx
      let m := min ys.length n
      have hm1 : m ≤ ys.length := Nat.min_le_left _ _
      have hfc := hrd.cells w rfl m hm1
      have hsz := run_sizeOf_shape w hsh
      have hmle : m * sh'.size ≤ n * sh'.size := Nat.mul_le_mul_right _ (Nat.min_le_right _ _)
      have hmle2 : m * sh'.size ≤ ys.length * sh'.size := Nat.mul_le_mul_right _ hm1
      have htk : flat (ys.take n) = (flat ys).take (m * sh'.size) := by
        rw [show ys.take n = ys.take m by simp [m, List.take_eq_take_iff, Nat.min_comm], flat_take _ _ hrd.sz]
      have hvr : VRels c (flat (ys.take n)) (news.take (m * sh'.size)) := by rw [htk]; exact hrd.rel.take _
      have hvl : (flat (ys.take n)).length = m * sh'.size := by rw [hvr.length_eq]; simp; omega
      have hone : ∀ x ∈ flat (ys.take n), x.one = true := fun x hx => by rw [htk] at hx; exact hrd.one x (List.mem_of_mem_take hx)
      obtain ⟨_, h1, h2⟩ := write_obj (P := P) hS hob hφ (off := o1) hvr hone (by omega)
      by_cases h0 : cap = 0
      · have hm0 : m = 0 := by have := Nat.min_le_right ys.length n; omega
        have hnil : flat (ys.take n) = [] := List.eq_nil_of_length_eq_zero (by rw [hvl, hm0]; simp)
        have hnil2 : news.take (m * sh'.size) = [] := by rw [hm0]; simp
        rw [hnil2] at h2 hfc
        refine ⟨_, w, c, goInt (m : Nat), exec_val w ?_, .inl rfl, h2, .int _ _⟩
        simp only [Builtin.copy_, List.getElem?_toArray, List.getElem?_cons_zero, List.getElem?_cons_succ, Sem.run_bind, run_underlying ht, Result.andThen_ok, hrd.len, hsz]
        change ((Builtin.firstCells sh'.size m vy).run P w).andThen _ = _
        rw [hfc]
        rfl
      · rcases hcap with hcap | ⟨rfl, rfl, _⟩
        · exact absurd hcap h0
        refine ⟨_, _, c, goInt (m : Nat), exec_val w ?_, .inl rfl, h2, .int _ _⟩
        simp only [Builtin.copy_, List.getElem?_toArray, List.getElem?_cons_zero, List.getElem?_cons_succ, Sem.run_bind, run_underlying ht, Result.andThen_ok, hrd.len, hsz]
        change ((Builtin.firstCells sh'.size m vy).run P w).andThen _ = _
        rw [hfc]
        simp only [Result.andThen_ok, Sem.run_bind, h1]
        rfl
    · cases he
  · cases he

theorem eff_clear (hS : Sim CC base c h w.heap) {D : DProg} {fr : Fr} {t ty e : TypeId} {sh : Shape} {z : DV} (ht : P.underlying t = some (.slice e)) (hsh : shapeOf P e = some sh) (hz : zeroOf P e = some z) (hzc : z.cells.length = sh.size) (hzo : z.okv = true)
    {x : DV} {X : Opd} (hX : ev D fr X = x) {vx : Value} (hx : VRel c x vx) {r : EvR} (he : evalOp D fr h (.clear z.cells X) = some r)
    {v : DV} {h' : Heap} (hr : stepEv h r = some (v, h')) : EffOk P CC base c h w (do pure (.value (← Builtin.clear_ #[t] ty #[vx]))) v h' := by
  obtain ⟨_, hpos⟩ := shapeOf_size hsh
  obtain ⟨i', zv, hi', hizv, hov, hzrun⟩ := zeroOf_some w hz
  have hzr : VRel c z zv := ofVal_rel hov
  simp only [evalOp, hX] at he
  split at he
  · cases he; cases hr
    obtain ⟨a, cap, vs, _, _, _, _, _, _, _, _, _, hvx⟩ := hx.lst_inv
    subst hvx
    refine EffOk.ofVal hS (ValOk.of w ⟨.tuple #[], ?_, .tup .nil⟩)
    cases a <;> simp [Builtin.clear_, run_underlying ht]
  · rename_i i z' o1 n
    obtain ⟨cap, b, o, lim, ab, ao, hφ, hlc, hcap, hvx⟩ := hx.arr_inv
    by_cases hn0 : n = 0
    · rw [if_pos hn0] at he
      cases he; cases hr
      subst hvx
      subst hn0
      exact EffOk.ofVal hS (ValOk.of w ⟨.tuple #[], by simp [Builtin.clear_, run_underlying ht], .tup .nil⟩)
    · rw [if_neg hn0] at he
      split at he <;> try (cases he; done)
      rename_i cs sh' hob
      split at he
      case isFalse => cases he
      rename_i hcond
      cases he; cases hr
      subst hvx
      rcases hcap with hcap | ⟨rfl, rfl, _⟩
      · omega
      have hzz := zeros_rel (n := n) hzc hpos hzr
      have hfl : (List.replicate n z.cells).flatten = flat (List.replicate n z) := by
        simp [flat, List.flatMap, List.map_replicate]
      have hall : ∀ x ∈ List.replicate n z, x.cells.length = sh.size := fun x hx => by rw [List.eq_of_mem_replicate hx]; exact hzc
      have hone : ∀ x ∈ flat (List.replicate n z), x.one = true := fun x hx => by
        simp only [flat, List.mem_flatMap] at hx
        obtain ⟨y, hy, hxy⟩ := hx
        rw [List.eq_of_mem_replicate hy] at hxy
        exact hzr.okv_one hzo x hxy
      obtain ⟨_, h1, h2⟩ := write_obj (P := P) hS hob hφ (off := o1) hzz hone (by rw [flat_length _ hall]; simp; rw [← hzc]; exact hcond.1)
      rw [hfl]
      refine ⟨_, _, c, .tuple #[], exec_val w ?_, .inl rfl, h2, .tup .nil⟩
      have hzc2 : (Builtin.zeroCells zv.cells n).toList = ((Array.range (n * sh.size)).map (zv.cells[· % zv.cells.size]!)).toList := by
        have : zv.cells.size = sh.size := by rw [hzr.cells_size, hzc]
        simp only [Builtin.zeroCells, this]
      match n, hn0 with
      | n + 1, _ =>
        simp only [Builtin.clear_, List.getElem?_toArray, List.getElem?_cons_zero, Sem.run_bind, run_underlying ht, Result.andThen_ok, hzrun, hzc2, h1, Sem.run_pure]
  · cases he

theorem eff_bytesStr (hS : Sim CC base c h w.heap) {s t e : TypeId} (hus : P.underlying s = some (.slice e)) (hut : P.underlying t = some .string) (hue : P.underlying e = some (.int .u8)) {x : DV} {vx : Value} (hx : VRel c x vx) {r : EvR} (he : convD h .bytesStr true x = some r)
    {v : DV} {h' : Heap} (hr : stepEv h r = some (v, h')) : EffOk P CC base c h w (do pure (.value (← convert s t vx))) v h' := by
  cases x <;> simp only [convD] at he <;> try (cases he; done)
  case arr id sz off n =>
    simp only [if_true] at he
    obtain ⟨str, hs, rfl⟩ := Option.map_eq_some_iff.1 he
    obtain ⟨ys, hys, hstr⟩ := Option.bind_eq_some_iff.1 hs
    cases hr
    obtain ⟨news, hrd⟩ := elems_rel (P := P) hS (sh := none) (by simp [Shape.size]) hx hys
    obtain ⟨ns, rfl, rfl⟩ := toStr?_some hstr
    obtain ⟨cap, b, o, lim, ab, ao, hφ, hlc, hcap, hvx⟩ := hx.arr_inv
    have hv := hrd.rel
    rw [nums_flat] at hv
    have hnews := nums_rel hv
    have hfc := hrd.cells w rfl (nums .u8 ns).length (Nat.le_refl _)
    have hl := hrd.len w
    subst hvx
    have hln : n = (nums .u8 ns).length := by
      simp only [Builtin.lenOf, Sem.run_pure, Result.ok.injEq] at hl
      exact hl.1
    have hsize : Shape.size none = 1 := rfl
    rw [hsize, Nat.mul_one, hnews, List.take_of_length_le (by simp [nums])] at hfc
    have hload : (loadCells ⟨ab, ao, none⟩ n).run P w = .ok (ns.map (Value.int .u8)).toArray w := by
      rw [← hln] at hfc
      simpa [Builtin.firstCells] using hfc
    have hrun := run_bytesToString (P := P) w (⟨ab, ao, none⟩ : Addr) n cap ns hload
    refine EffOk.ofVal hS (ValOk.of w ⟨.string ⟨(ns.map fun n => UInt8.ofNat n.toNat).toArray⟩, ?_, ?_⟩)
    · simp only [convert, Sem.run_bind, run_underlying hus, run_underlying hut, run_underlying hue, Result.andThen_ok]
      rw [hrun, foldl_push]
      simp
    · exact .str _
end

section
variable {P : Program} {cfg : Cfg} {mf : Bool} {D : DProg} {CC : Code → DC → Prop} {base : Nat} {c : Cor} {fr : Fr} {a : Act} {h : Heap} {w : World}

theorem VRel.ofSkip {s : Sem Unit} {v : DV} {h' : Heap} (hs : EffOk P CC base c h w (do s; pure .skip) v h') : EffOk P CC base c h w (do s; pure .skip) v h' := hs

/-- **Every operation that is neither a call nor a defer.** -/
theorem eff_sound {o : Oper} {d : DOp} {r : EvR} {v : DV} {h' : Heap} (hc : compOp P cfg mf o.op = some d) (hg : GlobOk D c) (hf : VRels c fr.tmps a.tmps.toList) (hS : Sim CC base c h w.heap)
    (he : evalOp D fr h d = some r) (hr : stepEv h r = some (v, h')) : EffOk P CC base c h w (execOp a.eval o) v h' := by
  by_cases hne : d.effect = false
  · cases r with
    | val v' =>
      cases hr
      refine EffOk.ofVal hS (val_sound w hc hg hf hS hne he fun sh x e => ?_)
      subst e
      simp only [evalOp] at he
      obtain ⟨y, h1, h2⟩ := Option.map_eq_some_iff.1 he
      cases h2; exact h1
    | newO ob mk =>
      cases hr
      exact EffOk.ofNewO (new_sound w hc hg hf (hS.add ob) hne he (Nat.lt_succ_self _) hS.next ⟨rfl, hS.φnext, by simp only [Heap.add]; exact Tr.get_set_same _ _ _⟩)
    | newT sz mk =>
      cases hr
      exact EffOk.ofNewT (new_sound w hc hg hf (hS.addTag sz) hne he (Nat.lt_succ_self _) hS.next ⟨rfl, hS.τnext, by simp only [Heap.addTag]; exact Tr.get_set_same _ _ _⟩)
    | eff v' h1 =>
      exfalso
      cases d <;> simp [DOp.effect] at hne <;> simp only [evalOp] at he
      all_goals first
        | (cases he; done)
        | (obtain ⟨_, _, h2⟩ := Option.map_eq_some_iff.1 he; cases h2; done)
        | (split at he <;> first | (cases he; done) | (obtain ⟨_, _, h2⟩ := Option.map_eq_some_iff.1 he; cases h2; done) | (split at he <;> first | (cases he; done) | (obtain ⟨_, _, h2⟩ := Option.map_eq_some_iff.1 he; cases h2; done) | (split at he <;> cases he; done)); done)
        | skip
      case conv k mu x =>
        unfold convD at he
        split at he <;> try (cases he; done)
        all_goals first
          | (obtain ⟨_, _, h2⟩ := Option.map_eq_some_iff.1 he; cases h2; done)
          | (split at he <;> first | (cases he; done) | (obtain ⟨_, _, h2⟩ := Option.map_eq_some_iff.1 he; cases h2; done) | (simp at he; split at he <;> cases he; done))
          | skip
        all_goals simp at hne
        all_goals simp [hne] at he
      case slice sz x lo hi mx =>
        unfold sliceD at he
        split at he <;> try (cases he; done)
        all_goals (split at he <;> first | (cases he; done) | (obtain ⟨_, _, h2⟩ := Option.map_eq_some_iff.1 he; cases h2; done))
    | call _ _ _ => cases hr
    | yield _ _ => cases hr
    | defr _ _ => cases hr
  · obtain ⟨dst, op, ty, pos, after, guard⟩ := o
    have O : ∀ {x : Operand} {y : Opd}, opd x = some y → VRel c (ev D fr y) (a.eval x) := fun h => opd_rel hg hf h
    cases op <;> simp only [compOp] at hc <;> try (cases hc; done)
    case store t x y =>
      split at hc <;> try (cases hc; done)
      cases hc
      rename_i sh x' y' hsh hx hy
      simp only [evalOp] at he
      obtain ⟨h1, he1, he2⟩ := Option.map_eq_some_iff.1 he
      subst he2
      cases hr
      exact eff_store hS hsh (O hx) (O hy) he1
    case next x s =>
      cases s <;> simp only [compOp] at hc
      · cases hc
      · obtain ⟨y, hy, rfl⟩ := Option.map_eq_some_iff.1 hc
        have : r = .eff v h' := by
          simp only [evalOp] at he
          split at he <;> try (cases he; done)
          split at he <;> try (cases he; done)
          split at he <;> (cases he; cases hr; rfl)
        subst this
        exact eff_next hS (O hy) rfl he
    case convert s t x =>
      split at hc <;> try (cases hc; done)
      · cases hc; simp [DOp.effect] at hne
      · cases hc; simp [DOp.effect] at hne
      · split at hc <;> try (cases hc; done)
        cases hc; simp [DOp.effect] at hne
      · split at hc <;> try (cases hc; done)
        · cases hc
          rename_i e x' hus hud hx _ hue
          have hmu : (mf || cfg.mutTy e) = true := by
            cases hm : (mf || cfg.mutTy e) with
            | true => rfl
            | false => exact absurd hm hne
          simp only [evalOp, hmu] at he
          exact eff_bytesStr hS hus hud hue (O hx) he hr
        · cases hc; simp [DOp.effect] at hne
      · cases hc; simp [DOp.effect] at hne
      · split at hc <;> try (cases hc; done)
        split at hc <;> try (cases hc; done)
        cases hc; simp [DOp.effect] at hne
    case call cl =>
      obtain ⟨callee, args, argTypes⟩ := cl
      simp only [compCall] at hc
      split at hc <;> try (cases hc; done)
      · split at hc <;> try (cases hc; done)
        cases hc
        simp only [evalOp, callV] at he
        split at he <;> cases he <;> cases hr
      · rw [run_builtin]
        split at hc <;> try (cases hc; done)
        · split at hc <;> try (cases hc; done)
          · obtain ⟨y, hy, rfl⟩ := Option.map_eq_some_iff.1 hc; simp [DOp.effect] at hne
          · obtain ⟨y, hy, rfl⟩ := Option.map_eq_some_iff.1 hc; simp [DOp.effect] at hne
          · cases hc; simp [DOp.effect] at hne
        · rename_i x y t u hA hT
          have hA' : args = #[x, y] := by rw [← Array.toArray_toList (xs := args), hA]
          have hT' : argTypes = #[t, u] := by rw [← Array.toArray_toList (xs := argTypes), hT]
          subst hA'; subst hT'
          rw [show Array.map a.eval #[x, y] = #[a.eval x, a.eval y] by simp]
          split at hc <;> try (cases hc; done)
          rename_i e x' y' hu hx hy
          split at hc <;> try (cases hc; done)
          · split at hc <;> try (cases hc; done)
            rename_i sh i z e' hsh hi hz hu2 hcond
            cases hc
            simp only [evalOp] at he
            exact eff_append hS hu (.inl ⟨_, hu2⟩) hsh hi hz hcond.2 (O hx) (O hy) he hr
          · split at hc <;> try (cases hc; done)
            rename_i i z hsh hi hz hu2 hcond
            cases hc
            simp only [evalOp] at he
            exact eff_append hS hu (.inr hu2) hsh hi hz hcond (O hx) (O hy) he hr
        · rename_i x y t u hA hT
          have hA' : args = #[x, y] := by rw [← Array.toArray_toList (xs := args), hA]
          have hT' : argTypes = #[t, u] := by rw [← Array.toArray_toList (xs := argTypes), hT]
          subst hA'; subst hT'
          rw [show Array.map a.eval #[x, y] = #[a.eval x, a.eval y] by simp]
          split at hc <;> try (cases hc; done)
          rename_i e x' y' hu hx hy
          split at hc <;> try (cases hc; done)
          split at hc <;> try (cases hc; done)
          rename_i sh e' hsh hu2 hcond
          cases hc
          simp only [evalOp] at he
          exact eff_copy hS hu hsh (O hx) (O hy) he hr
        · split at hc <;> try (cases hc; done)
          cases hc; simp [DOp.effect] at hne
        · split at hc <;> try (cases hc; done)
          cases hc; simp [DOp.effect] at hne
        · rename_i x t hA hT
          have hA' : args = #[x] := by rw [← Array.toArray_toList (xs := args), hA]
          have hT' : argTypes = #[t] := by rw [← Array.toArray_toList (xs := argTypes), hT]
          subst hA'; subst hT'
          rw [show Array.map a.eval #[x] = #[a.eval x] by simp]
          split at hc <;> try (cases hc; done)
          rename_i e x' hu hx
          split at hc <;> try (cases hc; done)
          rename_i sh z hsh hz
          split at hc <;> try (cases hc; done)
          rename_i hcond
          cases hc
          exact eff_clear hS hu hsh hz hcond.1 hcond.2 rfl (O hx) he hr
    case defer cl =>
      split at hc <;> try (cases hc; done)
      split at hc <;> try (cases hc; done)
      cases hc
      simp only [evalOp] at he
      split at he <;> try (cases he; done)
      split at he <;> cases he
      cases hr
    all_goals
      exfalso
      apply hne
      first
        | (split at hc <;> cases hc; rfl)
        | (obtain ⟨_, _, rfl⟩ := Option.map_eq_some_iff.1 hc; rfl)
        | (split at hc <;> try (cases hc; done)
           split at hc <;> first | (cases hc; rfl) | (cases hc; done) | (obtain ⟨_, _, rfl⟩ := Option.map_eq_some_iff.1 hc; rfl) | (split at hc <;> cases hc; rfl))
        | skip
    all_goals first
      | (obtain ⟨_, _, h2⟩ := Option.bind_eq_some_iff.1 hc; split at h2 <;> cases h2; rfl)
      | (repeat' first | (cases hc; done) | (cases hc; rfl) | (obtain ⟨_, _, rfl⟩ := Option.map_eq_some_iff.1 hc; rfl) | split at hc)
end
end Go.Dm
