/- The D-machine (10): whatever operation gives a value here gives it in the model. -/
import Derived.Test.YtjhednolknlpiaaDmI
namespace Go.Dm
set_option linter.unusedSimpArgs false
set_option linter.unusedVariables false
set_option linter.unnecessarySimpa false

section
variable {P : Program} {cfg : Cfg} {mf : Bool} {D : DProg} {CC : Code → DC → Prop} {base : Nat} {c : Cor} {fr : Fr} {a : Act} {h G : Heap} (w : World)

theorem map_val {x : Option DV} {v : DV} (h : x.map EvR.val = some (.val v)) : x = some v := by
  obtain ⟨y, h1, h2⟩ := Option.map_eq_some_iff.1 h
  cases h2; exact h1

theorem val_build {t : TypeId} {fs : Array Field} {z : Value} {parts : Array (Nat × Operand)} {cs r : List DV} {ps : List (Nat × Nat × Opd)} (hg : GlobOk D c) (hf : VRels c fr.tmps a.tmps.toList)
    (hu : P.underlying t = some (.struct fs)) (hz : zeroOf P t = some (.agg cs)) (hp : partsS P fs parts.toList = some ps) (hall : fs.all (fun f => (P.info? f.type).isSome) = true)
    (hb : buildL cs (ps.map fun p => (p.1, p.2.1, ev D fr p.2.2)) = some r) :
    ∃ v', (Instr.build t (parts.map fun (i, x) => (i, a.eval x))).run P w = .ok v' w ∧ VRel c (.agg r) v' := by
  simp only [zeroOf, Option.bind_eq_some_iff] at hz
  obtain ⟨zv, ⟨i, hi, hiz⟩, hov⟩ := hz
  have hzr : VRel c (.agg cs) zv := ofVal_rel hov
  obtain ⟨vs, hvs, hvo, rfl⟩ := hzr.agg_inv
  -- the fields' places
  have hpl : ∃ places : Array (Nat × Nat), (fs.mapM (m := Sem) fun f => do pure (f.offset, ← sizeOf f.type)).run P w = .ok places w ∧ ∀ (i : Nat) (f : Field), fs[i]? = some f → ∃ n, sizeOfT P f.type = some n ∧ places[i]? = some (f.offset, n) := by
    have key : ∀ (l : List Field), (∀ f ∈ l, (P.info? f.type).isSome = true) → ∃ ps : List (Nat × Nat), (l.mapM (m := Sem) fun f => do pure (f.offset, ← sizeOf f.type)).run P w = .ok ps w ∧ ∀ (i : Nat) (f : Field), l[i]? = some f → ∃ n, sizeOfT P f.type = some n ∧ ps[i]? = some (f.offset, n) := by
      intro l
      induction l with
      | nil => intro _; exact ⟨[], by simp, by simp⟩
      | cons f l ih =>
        intro hl
        obtain ⟨ps, h1, h2⟩ := ih fun g hg => hl g (by simp [hg])
        obtain ⟨i, hi⟩ := Option.isSome_iff_exists.1 (hl f (by simp))
        refine ⟨(f.offset, i.size) :: ps, ?_, ?_⟩
        · simp only [List.mapM_cons, Sem.run_bind, sizeOf, typeInfo, run_program, hi, Sem.run_pure, Result.andThen_ok]
          simp only [sizeOf, typeInfo] at h1
          rw [h1]
          rfl
        · intro j g hj
          cases j with
          | zero => simp at hj; subst hj; exact ⟨i.size, by simp [sizeOfT, hi], rfl⟩
          | succ j => simp at hj; obtain ⟨n, h3, h4⟩ := h2 j g hj; exact ⟨n, h3, by simpa using h4⟩
    obtain ⟨ps, h1, h2⟩ := key fs.toList (fun f hf => by
      rw [Array.all_eq_true] at hall
      obtain ⟨i, hi, rfl⟩ := List.getElem_of_mem hf
      simpa using hall i (by simpa using hi))
    refine ⟨ps.toArray, ?_, fun i f hi => ?_⟩
    · rw [Array.mapM_eq_mapM_toList]
      simp only [Sem.run_map, h1, Result.andThen_ok]
    · obtain ⟨n, h3, h4⟩ := h2 i f (by simpa using hi)
      exact ⟨n, h3, by simpa using h4⟩
  obtain ⟨places, hrun, hpl⟩ := hpl
  have hall2 := partsS_rel hg hf hpl parts.toList ps hp
  obtain ⟨arr, hfill, hr, hro⟩ := fill_rel (place := (places[·]?)) parts.toList _ hall2 cs r vs.toArray (by simpa using hvs) hb hvo
  refine ⟨.agg arr, ?_, by simpa using VRel.agg hr hro⟩
  have hzero : (zeroValue t).run P w = .ok (.agg vs.toArray) w := by simp [zeroValue, typeInfo, hi, hiz]
  have hmap : (parts.map fun (x : Nat × Operand) => (x.1, a.eval x.2)).toList = parts.toList.map fun p => (p.1, a.eval p.2) := by simp
  simp only [Instr.build, Sem.run_bind, hzero, Result.andThen_ok, run_underlying hu, hrun, Value.cells]
  rw [show (Array.map (fun x => (x.fst, a.eval x.snd)) parts).toList = parts.toList.map fun p => (p.1, a.eval p.2) from hmap, hfill]
  simp

theorem opdO_cases (hg : GlobOk D c) (hf : VRels c fr.tmps a.tmps.toList) {x : Option Operand} {y : Option Opd} (h : opdO x = some y) :
    (evO D fr y = none ∧ x.map a.eval = none) ∨ ∃ d v, evO D fr y = some d ∧ x.map a.eval = some v ∧ VRel c d v := by
  rcases opdO_rel hg hf h with ⟨rfl, rfl⟩ | h
  · exact .inl ⟨rfl, rfl⟩
  · exact .inr h

theorem val_convert {s t : TypeId} {x : Operand} {d : DOp} {v : DV} (hc : compOp P cfg mf (.convert s t x) = some d) (hk : Kept c w) (hS : Sim CC base c G w.heap) (O : ∀ {y : Opd}, opd x = some y → VRel c (ev D fr y) (a.eval x))
    (hne : d.effect = false) (he : evalOp D fr h d = some (.val v)) : ValOk P c w (do pure (.value (← convert s t (a.eval x)))) v := by
  simp only [compOp] at hc
  split at hc <;> try (cases hc; done)
  · cases hc
    rename_i k x' hus hud hx
    have hr := O hx
    simp only [evalOp] at he
    generalize ev D fr x' = X at he hr
    cases X <;> simp [convD] at he
    subst he
    rw [hr.int_inv]
    exact ValOk.of w ⟨_, by simp [convert, run_underlying hus, run_underlying hud, Conv.intToInt], .int _ _⟩
  · cases hc
    rename_i x' hus hud hx
    have hr := O hx
    simp only [evalOp] at he
    generalize ev D fr x' = X at he hr
    cases X <;> simp [convD] at he
    subst he
    rw [hr.str_inv]
    exact ValOk.of w ⟨_, by simp [convert, run_underlying hus, run_underlying hud], .str _⟩
  · split at hc <;> try (cases hc; done)
    cases hc
    rename_i e x' hus hud hx _ _ _ hue hie
    simp only [evalOp] at he
    generalize ev D fr x' = X at he
    cases X <;> simp [convD] at he
    split at he <;> simp at he
  · split at hc <;> try (cases hc; done)
    · cases hc
      rename_i e x' hus hud hx _ hue
      have hr := O hx
      simp only [evalOp] at he
      generalize ev D fr x' = X at he hr
      simp [DOp.effect] at hne
      cases X <;> simp [convD, hne] at he
      obtain ⟨s', h1, rfl⟩ := he
      obtain ⟨v', h2, h3⟩ := bytesStr_rel (P := P) w hk h1 hr
      obtain ⟨_, _, _, _, _, _, _, _, _, _, _, _, hv⟩ := hr.lst_inv
      refine ValOk.of w ⟨v', ?_, h3⟩
      rw [← h2, hv]
      simp [convert, run_underlying hus, run_underlying hud, run_underlying hue]
    · cases hc
      rename_i e x' hus hud hx _ hue
      have hr := O hx
      simp only [evalOp] at he
      generalize ev D fr x' = X at he hr
      cases X <;> simp [convD] at he
      obtain ⟨s', h1, rfl⟩ := he
      obtain ⟨v', h2, h3⟩ := runesStr_rel (P := P) w hk h1 hr
      obtain ⟨_, _, _, _, _, _, _, _, _, _, _, _, hv⟩ := hr.lst_inv
      refine ValOk.of w ⟨v', ?_, h3⟩
      rw [← h2, hv]
      simp [convert, run_underlying hus, run_underlying hud, run_underlying hue]
  · cases hc
    rename_i k x' hus hud hx
    have hr := O hx
    simp only [evalOp] at he
    generalize ev D fr x' = X at he hr
    cases X <;> simp [convD] at he
    subst he
    rw [hr.int_inv]
    exact ValOk.of w ⟨_, by simp [convert, run_underlying hus, run_underlying hud, Conv.intToString], .str _⟩
  · split at hc <;> try (cases hc; done)
    split at hc <;> try (cases hc; done)
    cases hc
    rename_i e e' x' hus hud hx _ hue hst
    subst hst
    have hr := O hx
    simp only [evalOp] at he
    generalize ev D fr x' = X at he hr
    cases X <;> simp [convD] at he
    · obtain ⟨⟨ht2, hne'⟩, rfl⟩ := he
      obtain ⟨aa, cap, vs, q1, q2, q3, qo, q4, q5, q6, q7, q8, hv⟩ := hr.lst_inv
      obtain ⟨b, o, e1, lim, rfl, hτ, _⟩ := q8 ht2
      obtain ⟨b', o', e2, hp⟩ := q4 hne'
      cases e2
      have hvn : ∃ x0, vs[0]? = some x0 := by
        have hl := q3.length_eq
        cases vs with
        | cons x0 _ => exact ⟨x0, rfl⟩
        | nil =>
          exfalso
          obtain ⟨y, ys, rfl⟩ := List.exists_cons_of_ne_nil hne'
          · have h1 := q2 y (by simp)
            have h2 := q1 (by omega)
            simp only [flat, List.flatMap_cons, List.length_append, List.length_nil] at hl
            omega
      obtain ⟨x0, hx0⟩ := hvn
      obtain ⟨ws, ty, f, hb, _⟩ := hS.prot _ _ _ (hp 0 x0 hx0)
      refine ⟨_, w.freeze ⟨b, ws.size, none⟩ 1, ?_, hr, .mark hτ hb⟩
      rw [hv]
      have hshape : w.shape? b = some (ty, ws.size) := by simp [World.shape?, hb]
      simp [convert, run_underlying hus, run_underlying hud, run_underlying hue, markStringish, hshape]

theorem run_builtin {dst : Option Tmp} {ty : TypeId} {pos : String} {after : Array Edge} {guard : Option (Nat × Bool)} (b : Builtin) (args : Array Operand) (argTypes : Array TypeId) :
    execOp a.eval { dst, op := .call { callee := .builtin b, args, argTypes }, type := ty, pos, after, guard } = builtin b argTypes ty (args.map fun | .const _ => true | _ => false) (args.map a.eval) := rfl
theorem val_call {dst : Option Tmp} {ty : TypeId} {pos : String} {after : Array Edge} {guard : Option (Nat × Bool)} {cl : Call} {d : DOp} {v : DV} (hc : compOp P cfg mf (.call cl) = some d) (O : ∀ {x : Operand} {y : Opd}, opd x = some y → VRel c (ev D fr y) (a.eval x))
    (hne : d.effect = false) (he : evalOp D fr h d = some (.val v)) : ValOk P c w (execOp a.eval { dst, op := .call cl, type := ty, pos, after, guard }) v := by
  obtain ⟨callee, args, argTypes⟩ := cl
  simp only [compOp, compCall] at hc
  split at hc <;> try (cases hc; done)
  · split at hc <;> try (cases hc; done)
    cases hc
    simp [DOp.effect] at hne
  · rw [run_builtin]
    split at hc <;> try (cases hc; done)
    · -- len
      rename_i x t hA hT
      have hA' : args = #[x] := by rw [← Array.toArray_toList (xs := args), hA]
      have hT' : argTypes = #[t] := by rw [← Array.toArray_toList (xs := argTypes), hT]
      subst hA'; subst hT'
      refine ValOk.of w ?_
      split at hc <;> try (cases hc; done)
      · rename_i hu
        obtain ⟨y, hy, rfl⟩ := Option.map_eq_some_iff.1 hc
        have hr := O hy
        simp only [evalOp] at he
        generalize ev D fr y = X at he hr
        cases X <;> simp at he
        subst he
        rw [show Array.map a.eval #[x] = #[a.eval x] by simp, hr.str_inv]
        exact ⟨_, by simp [Builtin.len_, run_underlying hu, goInt]; rfl, by simpa [bytes_size] using VRel.int _ _⟩
      · rename_i hu
        obtain ⟨y, hy, rfl⟩ := Option.map_eq_some_iff.1 hc
        have hr := O hy
        simp only [evalOp] at he
        generalize ev D fr y = X at he hr
        cases X <;> simp at he <;> subst he
        · obtain ⟨_, _, _, _, _, _, _, _, _, _, _, _, hv⟩ := hr.lst_inv
          rw [show Array.map a.eval #[x] = #[a.eval x] by simp, hv]
          exact ⟨_, by simp [Builtin.len_, run_underlying hu, goInt], .int _ _⟩
        · obtain ⟨_, _, _, _, _, _, _, _, _, hv⟩ := hr.arr_inv
          rw [show Array.map a.eval #[x] = #[a.eval x] by simp, hv]
          exact ⟨_, by simp [Builtin.len_, run_underlying hu, goInt], .int _ _⟩
      · cases hc
        rename_i n e hu
        simp [evalOp, ev] at he
        subst he
        exact ⟨_, by simp [Builtin.len_, run_underlying hu, goInt], .int _ _⟩
    · -- append
      split at hc <;> try (cases hc; done)
      split at hc <;> try (cases hc; done)
      · split at hc <;> try (cases hc; done)
        cases hc; simp [DOp.effect] at hne
      · split at hc <;> try (cases hc; done)
        cases hc; simp [DOp.effect] at hne
    · -- copy
      split at hc <;> try (cases hc; done)
      split at hc <;> try (cases hc; done)
      split at hc <;> try (cases hc; done)
      cases hc; simp [DOp.effect] at hne
    · -- min
      rename_i ts x y hA
      have hA' : args = #[x, y] := by rw [← Array.toArray_toList (xs := args), hA]
      subst hA'
      split at hc <;> try (cases hc; done)
      cases hc
      rename_i x' y' hx hy
      have h1 := O hx
      have h2 := O hy
      simp only [evalOp] at he
      split at he <;> try (cases he; done)
      cases he
      rename_i hx' hy'
      rw [hx'] at h1; rw [hy'] at h2
      refine ValOk.of w ⟨_, ?_, .int _ _⟩
      rw [show Array.map a.eval #[x, y] = #[a.eval x, a.eval y] by simp, h1.int_inv, h2.int_inv]
      simp [Builtin.min_, Builtin.min2]
    · -- max
      rename_i ts x y hA
      have hA' : args = #[x, y] := by rw [← Array.toArray_toList (xs := args), hA]
      subst hA'
      split at hc <;> try (cases hc; done)
      cases hc
      rename_i x' y' hx hy
      have h1 := O hx
      have h2 := O hy
      simp only [evalOp] at he
      split at he <;> try (cases he; done)
      cases he
      rename_i hx' hy'
      rw [hx'] at h1; rw [hy'] at h2
      refine ValOk.of w ⟨_, ?_, .int _ _⟩
      rw [show Array.map a.eval #[x, y] = #[a.eval x, a.eval y] by simp, h1.int_inv, h2.int_inv]
      simp [Builtin.max_, Builtin.max2]
    · -- clear
      split at hc <;> try (cases hc; done)
      split at hc <;> try (cases hc; done)
      split at hc <;> try (cases hc; done)
      cases hc; simp [DOp.effect] at hne

set_option maxHeartbeats 1000000 in
theorem val_sound {o : Oper} {d : DOp} {v : DV} (hc : compOp P cfg mf o.op = some d) (hg : GlobOk D c) (hf : VRels c fr.tmps a.tmps.toList) (hS : Sim CC base c G w.heap) (hne : d.effect = false)
    (he : evalOp D fr h d = some (.val v)) (hld : ∀ sh x, d = .load sh x → loadD G sh (ev D fr x) = some v) : ValOk P c w (execOp a.eval o) v := by
  obtain ⟨dst, op, ty, pos, after, guard⟩ := o
  have O : ∀ {x : Operand} {y : Opd}, opd x = some y → VRel c (ev D fr y) (a.eval x) := fun h => opd_rel hg hf h
  have hk := kept_of_sim w hS
  cases op <;> simp only [compOp] at hc <;> try (cases hc; done)
  case move x =>
    simp at hc; obtain ⟨y, hy, rfl⟩ := hc
    simp [evalOp] at he; subst he
    exact ⟨_, w, by simp [execOp], O hy, .same⟩
  case assign x =>
    simp at hc; obtain ⟨y, hy, rfl⟩ := hc
    simp [evalOp] at he; subst he
    exact ⟨_, w, by simp [execOp], O hy, .same⟩
  case pick cc x y =>
    split at hc <;> simp at hc
    subst hc
    rename_i h1 h2 h3
    simp only [evalOp] at he
    have hcr := O h1
    split at he <;> simp at he <;> subst he <;> rename_i hb <;> rw [hb] at hcr <;> have hb' := hcr.bool_inv
    · exact ⟨_, w, by simp [execOp, hb', asBool], O h2, .same⟩
    · exact ⟨_, w, by simp [execOp, hb', asBool], O h3, .same⟩
  case alloc t =>
    simp [Option.bind_eq_some_iff] at hc
    obtain ⟨z, hz, hzz, rfl⟩ := hc
    simp [evalOp] at he
  case box t x =>
    split at hc <;> simp at hc
    subst hc
    simp only [evalOp] at he
    split at he <;> simp at he
  case build t parts =>
    split at hc <;> try (cases hc; done)
    split at hc <;> try (cases hc; done)
    split at hc <;> try (cases hc; done)
    cases hc
    simp only [evalOp] at he
    obtain ⟨r, hr, hv⟩ := Option.map_eq_some_iff.1 he
    cases hv
    refine ValOk.of w ?_
    exact val_build (z := default) w hg hf ‹_› ‹_› ‹_› ‹_› hr
  case buildSlice t len parts =>
    split at hc <;> try (cases hc; done)
    split at hc <;> try (cases hc; done)
    split at hc <;> try (cases hc; done)
    cases hc
    simp only [evalOp] at he
    split at he <;> simp at he
    split at he <;> simp at he
  case load t x =>
    split at hc <;> simp at hc
    subst hc
    rename_i sh y hsh hy
    have := hld sh y rfl
    exact ValOk.of w (load_rel (P := P) w hS hsh (O hy) this)
  case store t x y =>
    split at hc <;> simp at hc
    subst hc
    simp [DOp.effect] at hne
  case nilCheck x =>
    simp at hc; obtain ⟨y, hy, rfl⟩ := hc
    have hr := O hy
    simp only [evalOp] at he
    split at he <;> simp at he <;> subst he <;> rename_i hb <;> rw [hb] at hr
    · obtain ⟨b, o, lim, sz, hφ, hv⟩ := hr.ptr_inv
      exact ⟨_, w, by simp [execOp, hv], hv ▸ hr, .same⟩
    · obtain ⟨vs, b, o, h1, h2, h3, hv⟩ := hr.elt_inv
      exact ⟨_, w, by simp [execOp, hv], hv ▸ hr, .same⟩
  case binOp bop t x y yt =>
    split at hc <;> try (cases hc; done)
    rename_i x' y' hx hy
    obtain ⟨k, hk', rfl⟩ : ∃ k, ((bop = .eql ∨ bop = .neq) → eqKind P t = some k) ∧ d = .bin bop k x' y' := by
      split at hc
      · simp at hc; obtain ⟨k, h1, rfl⟩ := hc
        exact ⟨k, fun _ => h1, rfl⟩
      · simp at hc; obtain ⟨k, h1, rfl⟩ := hc
        exact ⟨k, fun _ => h1, rfl⟩
      · rename_i hn1 hn2
        simp at hc; subst hc
        exact ⟨.any, fun e => by rcases e with e | e; exact (hn1 e).elim; exact (hn2 e).elim, rfl⟩
    simp only [evalOp] at he
    have he' := map_val he
    exact ValOk.of w (bin_rel w he' (O hx) (O hy) hk')
  case unOp uop t x =>
    simp at hc; obtain ⟨y, hy, rfl⟩ := hc
    simp only [evalOp] at he
    exact ValOk.of w (un_rel w (map_val he) (O hy))
  case convert s t x => exact val_convert w hc hk hS (fun h => O h) hne he
  case makeFunc fn first caps =>
    split at hc <;> try (cases hc; done)
    cases hc
    rename_i f' _ _ hA hB
    simp [evalOp] at he; subst he
    have h1 := opds_rel hg hf hA
    have h2 := opds_rel hg hf hB
    refine ⟨_, w, by simp [execOp, Instr.makeFunc]; rfl, ?_, .same⟩
    have := VRel.fn (c := c) (.func f') h1 h2
    simpa only [List.map_toArray, Array.toArray_toList, ← Array.toList_map] using this
  case makeSlice t l cp =>
    split at hc <;> try (cases hc; done)
    split at hc <;> try (cases hc; done)
    split at hc <;> try (cases hc; done)
    cases hc
    simp only [evalOp] at he
    split at he <;> try (cases he; done)
    split at he <;> simp at he
    split at he <;> simp at he
  case slice t x lo hi mx =>
    split at hc <;> try (cases hc; done)
    · cases hc
      rename_i x' lo' hi' hu hx hlo hhi hmx
      simp only [evalOp] at he
      split at he <;> try (cases he; done)
      rename_i s hs
      obtain ⟨⟨l, r⟩, hb, hv⟩ := Option.map_eq_some_iff.1 he
      cases hv
      have hmx' : mx = none := by
        cases mx with
        | none => rfl
        | some m => simp [opdO] at hmx
      subst hmx'
      refine ValOk.of w ?_
      exact val_sliceStr (P := P) w hu (hs ▸ O hx) (opdO_cases hg hf hlo) (opdO_cases hg hf hhi) hb
    · obtain ⟨n, hn, rfl⟩ := Option.map_eq_some_iff.1 hc
      rename_i hu hx hlo hhi hmx
      simp only [evalOp] at he
      exact val_slice (P := P) w hu hn (O hx) (opdO_cases hg hf hlo) (opdO_cases hg hf hhi) (opdO_cases hg hf hmx) he
  case fieldAddr s x f =>
    split at hc <;> try (cases hc; done)
    split at hc <;> try (cases hc; done)
    split at hc <;> try (cases hc; done)
    cases hc
    rename_i fs y hu hy _ fd hfd _ n hn
    have hr := O hy
    have hz := run_sizeOfT (P := P) w hn
    simp only [evalOp] at he
    refine ValOk.of w ?_
    split at he <;> simp at he <;> subst he <;> rename_i hb <;> rw [hb] at hr
    · obtain ⟨b, o, lim, sz, hφ, hv⟩ := hr.ptr_inv
      rename_i off
      refine ⟨.pointer (some ⟨b, o + off + fd.offset, none⟩), by simp [Instr.fieldAt, run_underlying hu, hfd, hv, Instr.sureAddr, fieldPlace, hz, add_plain], ?_⟩
      have := VRel.ptr (c := c) (off := off + fd.offset) hφ
      rwa [← Nat.add_assoc] at this
    · obtain ⟨vs, b, o, h1, h2, h3, hv⟩ := hr.elt_inv
      refine ⟨.pointer (some ⟨b, o + fd.offset, none⟩), by simp [Instr.fieldAt, run_underlying hu, hfd, hv, Instr.sureAddr, fieldPlace, hz, add_plain], ?_⟩
      refine .elt (h1.drop _) (fun y hy => h2 y (List.mem_of_mem_drop hy)) fun j y hj => ?_
      have : vs[fd.offset + j]? = some y := by simpa using hj
      have := h3 _ _ this
      rwa [← Nat.add_assoc] at this
  case field s x f =>
    split at hc <;> try (cases hc; done)
    split at hc <;> try (cases hc; done)
    obtain ⟨sh, hsh, rfl⟩ := Option.map_eq_some_iff.1 hc
    rename_i fs y hu hy _ fd hfd
    have hr := O hy
    simp only [evalOp] at he
    split at he <;> try (cases he; done)
    rename_i cs hb
    rw [hb] at hr
    obtain ⟨r, hr1, hr2⟩ := Option.bind_eq_some_iff.1 (map_val he)
    exact ValOk.of w (val_field w hu hfd hsh hr hr1 hr2)
  case indexAddr t x i =>
    split at hc <;> try (cases hc; done)
    · obtain ⟨n, hn, rfl⟩ := Option.map_eq_some_iff.1 hc
      rename_i e x' i' hu hx hi
      have hr := O hx
      have hri := O hi
      simp only [evalOp] at he
      refine ValOk.of w ?_
      have hint : ∃ k m, ev D fr i' = .int k m := by
        split at he <;> first | exact ⟨_, _, ‹_›⟩ | (cases he; done)
      obtain ⟨k, m, hm⟩ := hint
      rw [hm] at hri he
      rw [hri.int_inv]
      refine val_iaddr w hu hn hr ?_
      generalize ev D fr x' = X at he hr
      cases X <;> first | (simp at he; done) | exact he | simpa using he
    · obtain ⟨n, hn, rfl⟩ := Option.map_eq_some_iff.1 hc
      rename_i len e x' i' hu hx hi
      have hr := O hx
      have hri := O hi
      simp only [evalOp] at he
      refine ValOk.of w ?_
      have hint : ∃ k m, ev D fr i' = .int k m := by
        split at he <;> first | exact ⟨_, _, ‹_›⟩ | (cases he; done)
      obtain ⟨k, m, hm⟩ := hint
      rw [hm] at hri he
      rw [hri.int_inv]
      refine val_iaddrArr w hu hn hr ?_
      generalize ev D fr x' = X at he hr
      cases X <;> first | (simp at he; done) | exact he | simpa using he
  case index t x i =>
    split at hc <;> try (cases hc; done)
    · cases hc
      rename_i x' i' hu hx hi
      have hr := O hx
      have hri := O hi
      simp only [evalOp] at he
      split at he <;> try (cases he; done)
      rename_i s k n hs hn
      rw [hs] at hr; rw [hn] at hri
      split at he <;> try (cases he; done)
      rename_i h0
      obtain ⟨b, hb, hv⟩ := Option.map_eq_some_iff.1 he
      cases hv
      refine ValOk.of w ?_
      rw [hri.int_inv]
      exact val_idxStr w hu hr h0 hb
    · obtain ⟨sh, hsh, rfl⟩ := Option.map_eq_some_iff.1 hc
      rename_i len e x' i' hu hx hi
      have hr := O hx
      have hri := O hi
      simp only [evalOp] at he
      split at he <;> try (cases he; done)
      rename_i cs k n hs hn
      rw [hs] at hr; rw [hn] at hri
      split at he <;> try (cases he; done)
      rename_i h0
      obtain ⟨r, hr1, hr2⟩ := Option.bind_eq_some_iff.1 (map_val he)
      refine ValOk.of w ?_
      rw [hri.int_inv]
      exact val_idxArr w hu hsh hr h0 hr1 hr2
  case extract x i =>
    simp at hc; obtain ⟨y, hy, rfl⟩ := hc
    have hr := O hy
    simp only [evalOp] at he
    split at he <;> try (cases he; done)
    rename_i vs hb
    rw [hb] at hr
    obtain ⟨ws, hw, hv⟩ := hr.tup_inv
    obtain ⟨u, hu1, hu2⟩ := hw.get i (map_val he)
    exact ValOk.of w ⟨u, by simp [Instr.extract, hv, hu1], hu2⟩
  case range t x =>
    split at hc <;> try (cases hc; done)
    cases hc
    simp only [evalOp] at he
    split at he <;> simp at he
  case next x s =>
    cases s <;> simp only [compOp] at hc
    · cases hc
    · obtain ⟨y, hy, rfl⟩ := Option.map_eq_some_iff.1 hc
      simp [DOp.effect] at hne
  case call cl => exact val_call w hc O hne he
  case defer cl =>
    split at hc <;> try (cases hc; done)
    split at hc <;> try (cases hc; done)
    cases hc
    simp [DOp.effect] at hne
end
end Go.Dm
