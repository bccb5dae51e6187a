/- The D-machine (21): every operation; calls. -/
import Derived.Test.YtjhednolknlpiaaDmT
namespace Go.Dm
set_option linter.unusedSimpArgs false
set_option linter.unusedVariables false
set_option linter.unnecessarySimpa false

section
variable {P : Program} {cfg : Cfg} {mf : Bool} {CC : Code → DC → Prop} {base : Nat} {D : DProg} {c : Cor} {h : Heap} {w : World} {fr : Fr}

theorem call_inv {op : Op} {f : Opd} {as : List Opd} {z : Bool} (hc : compOp P cfg mf op = some (.call f as z)) : ∃ cl f', op = .call cl ∧ cl.callee = .value f' ∧ opd f' = some f ∧ opds cl.args.toList = some as := by
  cases op <;> simp only [compOp] at hc <;> try (cases hc; done)
  case call cl =>
    obtain ⟨callee, args, argTypes⟩ := cl
    simp only [compCall] at hc
    split at hc <;> try (cases hc; done)
    · split at hc <;> try (cases hc; done)
      cases hc
      exact ⟨_, _, rfl, rfl, ‹_›, ‹_›⟩
    · exfalso
      repeat' first | (cases hc; done) | (obtain ⟨_, _, h2⟩ := Option.map_eq_some_iff.1 hc; cases h2; done) | split at hc
  all_goals exfalso
  case alloc => obtain ⟨_, _, h2⟩ := Option.bind_eq_some_iff.1 hc; split at h2 <;> cases h2
  case next x s => cases s <;> simp only [compOp] at hc <;> first | (cases hc; done) | (obtain ⟨_, _, h2⟩ := Option.map_eq_some_iff.1 hc; cases h2)
  all_goals (repeat' first | (cases hc; done) | (obtain ⟨_, _, h2⟩ := Option.map_eq_some_iff.1 hc; cases h2; done) | split at hc)
theorem defr_inv {op : Op} {f : Opd} {as : List Opd} (hc : compOp P cfg mf op = some (.defr f as)) : ∃ cl f', op = .defer cl ∧ cl.callee = .value f' ∧ opd f' = some f ∧ opds cl.args.toList = some as := by
  cases op <;> simp only [compOp] at hc <;> try (cases hc; done)
  case defer cl =>
    obtain ⟨callee, args, argTypes⟩ := cl
    simp only at hc
    split at hc <;> try (cases hc; done)
    split at hc <;> try (cases hc; done)
    cases hc
    exact ⟨_, _, rfl, rfl, ‹_›, ‹_›⟩
  all_goals exfalso
  case call cl =>
    obtain ⟨callee, args, argTypes⟩ := cl
    simp only [compCall] at hc
    repeat' first | (cases hc; done) | (obtain ⟨_, _, h2⟩ := Option.map_eq_some_iff.1 hc; cases h2; done) | split at hc
  case alloc => obtain ⟨_, _, h2⟩ := Option.bind_eq_some_iff.1 hc; split at h2 <;> cases h2
  case next x s => cases s <;> simp only [compOp] at hc <;> first | (cases hc; done) | (obtain ⟨_, _, h2⟩ := Option.map_eq_some_iff.1 hc; cases h2)
  all_goals (repeat' first | (cases hc; done) | (obtain ⟨_, _, h2⟩ := Option.map_eq_some_iff.1 hc; cases h2; done) | split at hc)

/-- What an operation may come to. -/
theorem evalOp_cases {d : DOp} {r : EvR} (he : evalOp D fr h d = some r) : (∃ v h', stepEv h r = some (v, h')) ∨ (∃ g as z f xs, r = .call g as z ∧ d = .call f xs z ∧ callV (ev D fr f) (evs D fr xs) z = some r) ∨
    (∃ l as z f xs, r = .yield l as ∧ d = .call f xs z ∧ callV (ev D fr f) (evs D fr xs) z = some r) ∨ ∃ g as f xs, r = .defr g as ∧ d = .defr f xs := by
  cases r with
  | val v => exact .inl ⟨_, _, rfl⟩
  | newO b mk => exact .inl ⟨_, _, rfl⟩
  | newT sz mk => exact .inl ⟨_, _, rfl⟩
  | eff v h' => exact .inl ⟨_, _, rfl⟩
  | call g as z =>
    right; left
    cases d <;> simp only [evalOp, convD, sliceD, appendD, copyD] at he
    case call f xs z' =>
      have : z = z' := by
        unfold callV at he
        split at he <;> cases he
        rfl
      subst this
      exact ⟨_, _, _, _, _, rfl, rfl, he⟩
    all_goals exfalso
    all_goals (repeat' first | (cases he; done) | (obtain ⟨_, _, h2⟩ := Option.map_eq_some_iff.1 he; cases h2; done) | split at he)
  | yield l as =>
    right; right; left
    cases d <;> simp only [evalOp, convD, sliceD, appendD, copyD] at he
    case call f xs z => exact ⟨_, _, _, _, _, rfl, rfl, he⟩
    all_goals exfalso
    all_goals (repeat' first | (cases he; done) | (obtain ⟨_, _, h2⟩ := Option.map_eq_some_iff.1 he; cases h2; done) | split at he)
  | defr g as =>
    right; right; right
    cases d <;> simp only [evalOp, convD, sliceD, appendD, copyD] at he
    case defr f xs => exact ⟨_, _, _, _, rfl, rfl⟩
    all_goals exfalso
    case call f xs z => unfold callV at he; split at he <;> cases he
    all_goals (repeat' first | (cases he; done) | (obtain ⟨_, _, h2⟩ := Option.map_eq_some_iff.1 he; cases h2; done) | split at he)

theorem semAt_of {r : Option Nat} {a : Act} {o : Oper} (h : ∀ cl, o.op = .defer cl → r = none) : o.semAt (FF r).round a.eval = execOp a.eval o := by
  cases r with
  | none => rfl
  | some l => exact Oper.semAt_eq _ _ _ fun cl e => by cases h cl e

theorem op_sound {E : Ex} (hCall : CallOk P CC base D (callD D E)) (hCode : CodeOk P CC base D E) {o : Oper} {ro : ROp} (hc : compOp P cfg mf o.op = some ro.op) (hd : ro.dst = o.dst) {fr' : Fr} {h' : Heap} (he : runOp D E ro fr h = some (fr', h'))
    {r : Option Nat} {k : Nat} {a : Act} (hg : GlobOk D c) (hfr : FrRel c r fr a) (hS : Sim CC base c h w.heap) {K : Act → World → Prop} {Q : Exit → Act → World → Prop}
    (hK : ∀ a' w' c', Out CC base c h w c' h' w' → FrRel c' r fr' a' → K a' w') : o.wpIn (FF r) k P a w K Q := by
  refine ⟨fun _ _ => trivial, ?_⟩
  unfold runOp at he
  cases hev : evalOp D fr h ro.op with
  | none => rw [hev] at he; cases he
  | some r0 =>
    rw [hev] at he
    rcases evalOp_cases hev with ⟨v, h1, hst⟩ | ⟨g, as, z, f, xs, rfl, hop, hcv⟩ | ⟨l, as, z, f, xs, rfl, hop, hcv⟩ | ⟨g, as, f, xs, rfl, hop⟩
    · -- no call
      have hstep : fr' = fr.put ro.dst v ∧ h' = h1 := by
        cases r0 <;> simp only [stepEv] at hst <;> cases hst <;> cases he <;> exact ⟨rfl, rfl⟩
      obtain ⟨rfl, rfl⟩ := hstep
      rw [semAt_of (fun cl e => by
        exfalso
        rw [e] at hc
        simp only [compOp] at hc
        split at hc <;> try (cases hc; done)
        split at hc <;> try (cases hc; done)
        have hop := Option.some.inj hc
        rw [← hop] at hev
        simp only [evalOp] at hev
        split at hev <;> try (cases hev; done)
        split at hev <;> cases hev
        cases hst)]
      obtain ⟨n, w', c', v', hrun, hn, ho, hv⟩ := eff_sound hc hg hfr.tmps hS hev hst
      rw [hrun]
      rcases hn with rfl | ⟨rfl, rfl⟩
      · rw [Oper.uponIn_value, ← hd]
        exact hK _ _ _ ho ((hfr.mono ho.le).put _ hv)
      · rw [Oper.uponIn_skip, ← hd]
        exact hK _ _ _ ho ((hfr.mono ho.le).put _ hv)
    · -- a call
      rw [hop] at hc
      obtain ⟨cl, f', hcl1, hcl2, hf', hxs⟩ := call_inv hc
      rw [semAt_of (fun cl' e => by rw [hcl1] at e; cases e)]
      have hfv := opd_rel hg hfr.tmps hf'
      have hav := opds_rel hg hfr.tmps hxs
      unfold callV at hcv
      split at hcv <;> try (cases hcv; done)
      rename_i g0 first caps hef
      cases hcv
      rw [hef] at hfv
      obtain ⟨g', first', caps', hgr, hfirst, hcaps, hval⟩ := hfv.fn_inv
      cases hgr
      simp only at he
      split at he <;> try (cases he; done)
      rename_i v h1 hcall
      have hvargs := (hfirst.append hav).append hcaps
      obtain ⟨gfn, hg1, hg2, hg3, hcalls⟩ := hCall _ _ _ _ _ hcall (k - 1) _ _ _ hg hvargs hS
      have hrun : (execOp a.eval o).run P w = .ok (.enter g (first' ++ cl.args.toList.map a.eval ++ caps').toArray) w := by
        have e1 : execOp a.eval o = (do let d ← resolve a.eval cl o.type; invoke d.target d.args) := by
          unfold execOp; rw [hcl1]
        have e2 : resolve a.eval cl o.type = Deferred.ofValue (a.eval f') (cl.args.map a.eval) := by
          unfold resolve; rw [hcl2]
        rw [e1, e2, hval]
        simp only [Deferred.ofValue, Sem.run_bind, Sem.run_pure, Result.andThen_ok, invoke]
        have e3 : first'.toArray ++ Array.map a.eval cl.args ++ caps'.toArray = (first' ++ cl.args.toList.map a.eval ++ caps').toArray := by
          apply Array.ext'; simp
        rw [e3]
        exact run_callFunc _ _ hg1 hg2 hg3
      rw [hrun, Oper.uponIn_enter]
      refine ⟨fun e => (by cases e), CallsIn.mono (FF_calls hcalls) ?_⟩
      rintro e w3 ⟨v', c3, rfl, o3, hv3⟩
      show K (a.put o.dst v') w3
      rw [← hd]
      split at he
      · obtain ⟨⟨v2, h2⟩, hfz, he2⟩ := Option.map_eq_some_iff.1 he
        cases he2
        obtain ⟨c4, o4, hv4⟩ := frz_sound o3.sim hv3 hfz
        exact hK _ _ _ (o3.trans o4) ((hfr.mono (o3.trans o4).le).put _ hv4)
      · cases he
        exact hK _ _ _ o3 ((hfr.mono o3.le).put _ hv3)
    · -- yield
      rw [hop] at hc
      obtain ⟨cl, f', hcl1, hcl2, hf', hxs⟩ := call_inv hc
      rw [semAt_of (fun cl' e => by rw [hcl1] at e; cases e)]
      have hfv := opd_rel hg hfr.tmps hf'
      have hav := opds_rel hg hfr.tmps hxs
      unfold callV at hcv
      split at hcv <;> try (cases hcv; done)
      rename_i l0 hef
      cases hcv
      rw [hef] at hfv
      obtain ⟨g', first', caps', hgr, hfirst, hcaps, hval⟩ := hfv.fn_inv
      cases hfirst; cases hcaps
      cases hgr with
      | yield hφ =>
        rename_i b o1 lim sz
        simp only at he
        obtain ⟨⟨v, h1⟩, hy, he2⟩ := Option.map_eq_some_iff.1 he
        cases he2
        obtain ⟨y, hrun1, hround⟩ := yield_sound hCode hy hφ hg hav hS r (k - 1)
        have hrun : (execOp a.eval o).run P w = .ok (.round b y.fn ((y.params.zip (cl.args.toList.map a.eval).toArray).foldl (fun tmps (t, a) => tmps.setIfInBounds t a) y.tmps) y.assign y.body) w := by
          have e1 : execOp a.eval o = (do let d ← resolve a.eval cl o.type; invoke d.target d.args) := by
            unfold execOp; rw [hcl1]
          have e2 : resolve a.eval cl o.type = Deferred.ofValue (a.eval f') (cl.args.map a.eval) := by
            unfold resolve; rw [hcl2]
          rw [e1, e2, hval]
          simp only [Deferred.ofValue, Sem.run_bind, Sem.run_pure, Result.andThen_ok, invoke]
          have e3 : ([] : List Value).toArray ++ Array.map a.eval cl.args = (cl.args.toList.map a.eval).toArray := by
            apply Array.ext'; simp
          rw [e3]
          exact hrun1
        rw [hrun, Oper.uponIn_round]
        refine ⟨fun e => (by cases e), RoundIn.mono hround ?_⟩
        rintro e w3 ⟨v', c3, rfl, o3, hv3⟩
        show K (a.put o.dst v') w3
        rw [← hd]
        exact hK _ _ _ o3 ((hfr.mono o3.le).put _ hv3)
    · -- defer
      rw [hop] at hc
      obtain ⟨cl, f', hcl1, hcl2, hf', hxs⟩ := defr_inv hc
      rw [hop] at hev
      simp only [evalOp] at hev
      split at hev
      case isTrue => cases hev
      rename_i hnr
      split at hev <;> try (cases hev; done)
      rename_i g0 first caps hef
      cases hev
      cases he
      have hr : r = none := by
        have := hfr.inr
        cases hi : fr.inr with
        | some l => rw [hi] at hnr; simp at hnr
        | none =>
          rw [hi] at this
          cases r with
          | none => rfl
          | some b => exact this.elim
      subst hr
      have hfv := opd_rel hg hfr.tmps hf'
      have hav := opds_rel hg hfr.tmps hxs
      rw [hef] at hfv
      obtain ⟨g', first', caps', hgr, hfirst, hcaps, hval⟩ := hfv.fn_inv
      cases hgr
      have hrun : ((o.semAt (FF none).round a.eval)).run P w = .ok (.defer { target := .fn (.func g) caps'.toArray, args := first'.toArray ++ cl.args.map a.eval }) w := by
        have e1 : o.semAt (FF none).round a.eval = (do pure (.defer (← resolve a.eval cl o.type))) := by
          show execOp a.eval o = _
          unfold execOp; rw [hcl1]
        have e2 : resolve a.eval cl o.type = Deferred.ofValue (a.eval f') (cl.args.map a.eval) := by
          unfold resolve; rw [hcl2]
        rw [e1, e2, hval]
        rfl
      rw [hrun, Oper.uponIn_defer, ← hd]
      refine hK _ _ _ (Out.refl hS) ((hfr.defer (.call ?_ .nil)).put _ .undef)
      have := (hfirst.append hav).append hcaps
      simpa using this

/-! ### a function -/
theorem results_rel (hS : Sim CC base c h w.heap) {ts : List DV} {us : Array Value} (ht : VRels c ts us.toList) {fr : Fr} (hfr : fr.tmps = ts) {g : ResultVar → Sem Value} (hg1 : ∀ t, g (.tmp t) = pure (us.getD t undef)) (hg2 : ∀ a t, g (.cell a t) = do loadVar t (← asAddr (us.getD a undef))) :
    ∀ (rs : List ResultVar) (ds : List DRes) (vs : List DV), compRes P rs = some ds → resD fr h ds = some vs → ∃ us', (rs.mapM (m := Sem) g).run P w = .ok us' w ∧ VRels c vs us' := by
  subst hfr
  intro rs
  induction rs with
  | nil => intro ds vs h1 h2; simp [compRes] at h1; subst h1; simp [resD] at h2; subst h2; exact ⟨[], by simp, .nil⟩
  | cons r rs ih =>
    intro ds vs h1 h2
    cases r with
    | tmp t =>
      simp only [compRes] at h1
      obtain ⟨ds', h3, rfl⟩ := Option.map_eq_some_iff.1 h1
      simp only [resD] at h2
      obtain ⟨vs', h4, rfl⟩ := Option.map_eq_some_iff.1 h2
      obtain ⟨us', h5, h6⟩ := ih _ _ h3 h4
      refine ⟨us.getD t undef :: us', ?_, .cons (by simpa using ht.getD t) h6⟩
      rw [List.mapM_cons]
      simp only [Sem.run_bind, hg1, Sem.run_pure, Result.andThen_ok, h5]
    | cell t ty =>
      simp only [compRes] at h1
      split at h1 <;> try (cases h1; done)
      rename_i sh ds' hsh h3
      cases h1
      simp only [resD] at h2
      split at h2 <;> try (cases h2; done)
      rename_i v vs' hv h4
      cases h2
      obtain ⟨us', h5, h6⟩ := ih _ _ h3 h4
      obtain ⟨u, h7, h8⟩ := load_rel (P := P) w hS hsh (ht.getD t) hv
      refine ⟨u :: us', ?_, .cons h8 h6⟩
      have h9 : ((do loadVar ty (← asAddr (us.getD t undef)) : Sem Value)).run P w = .ok u w := by
        have hval : ∃ a, us.getD t undef = .pointer (some a) := by
          have hr := ht.getD t
          generalize fr.tmps.getD t .undef = X at hr hv
          have e : us.toList.getD t undef = us.getD t undef := by simp
          rw [e] at hr
          cases X <;> simp only [loadD] at hv <;> try (cases hv; done)
          · obtain ⟨b, o, _, _, _, hv'⟩ := hr.ptr_inv; exact ⟨_, hv'⟩
          · obtain ⟨_, b, o, _, _, _, hv'⟩ := hr.elt_inv; exact ⟨_, hv'⟩
        obtain ⟨a, ha⟩ := hval
        rw [ha]
        have e : us.toList.getD t undef = us.getD t undef := by simp
        rw [e, ha] at h7
        simpa [Instr.loadAt, Instr.sureAddr, asAddr] using h7
      rw [List.mapM_cons, hg2]
      simp only [Sem.run_bind]
      simp only [Sem.run_bind] at h9
      simp only [h9, Result.andThen_ok, h5, Sem.run_pure]
theorem tup_rel {vs : List DV} {us : List Value} (hv : VRels c vs us) : VRel c (tupD vs) (if h : us.toArray.size = 1 then us.toArray[0] else .tuple us.toArray) := by
  cases hv with
  | nil => simpa [tupD] using VRel.tup .nil
  | cons h1 hs =>
    cases hs with
    | nil => simpa [tupD] using h1
    | cons h2 hs' =>
      have := VRel.tup (.cons h1 (.cons h2 hs'))
      simpa [tupD] using this
theorem results_sound (hS : Sim CC base c h w.heap) {fn : Func} {fr : Fr} {us : Array Value} (ht : VRels c fr.tmps us.toList) {ds : List DRes} {vs : List DV} (h1 : compRes P fn.results.toList = some ds) (h2 : resD fr h ds = some vs) :
    ∃ u, (results fn us).run P w = .ok u w ∧ VRel c (tupD vs) u := by
  obtain ⟨us', h3, h4⟩ := results_rel (P := P) hS ht rfl (g := fun
      | .tmp t => pure (us.getD t undef)
      | .cell a t => do loadVar t (← asAddr (us.getD a undef))) (fun _ => rfl) (fun _ _ => rfl) _ _ _ h1 h2
  refine ⟨_, ?_, tup_rel h4⟩
  simp only [results, Sem.run_bind]
  rw [Array.mapM_eq_mapM_toList]
  simp only [Sem.run_map]
  refine (congrArg (fun x => (Result.andThen x fun a w' => Result.ok a.toArray w').andThen fun a w' => Sem.run P (pure (if h : a.size = 1 then a[0] else Value.tuple a)) w') h3).trans ?_
  rfl
end
end Go.Dm
