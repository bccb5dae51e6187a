/- The D-machine (20): frames, calls, rounds. -/
import Derived.Test.YtjhednolknlpiaaDmS
import Derived.RangeFuncRecord
import Derived.RangeFuncNested
import Derived.OrdersIn
namespace Go.Dm
set_option linter.unusedSimpArgs false
set_option linter.unusedVariables false
set_option linter.unnecessarySimpa false

def FF (r : Option Nat) : Fence := { Fence.wide with round := r }
def DX.exitOf : DX → Exit
  | .normal => .normal
  | .exit id => .exit id
  | .ret => .ret

inductive DefRel (c : Cor) : List DDef → List Deferred → Prop where
  | nil : DefRel c [] []
  | mark {id b o lim sz : Nat} {ds : List DDef} {vs : List Deferred} (h : c.φ id = some (b, o, lim, sz)) (hs : DefRel c ds vs) : DefRel c (.mark id :: ds) ({ target := .collected b, args := #[] } :: vs)
  | call {f : Nat} {args : List DV} {as cap : Array Value} {ds : List DDef} {vs : List Deferred} (h : VRels c args (as.toList ++ cap.toList)) (hs : DefRel c ds vs) : DefRel c (.call f args :: ds) ({ target := .fn (.func f) cap, args := as } :: vs)
theorem DefRel.mono {c d : Cor} (hle : c.le d) : ∀ {ds : List DDef} {vs : List Deferred}, DefRel c ds vs → DefRel d ds vs
  | _, _, .nil => .nil
  | _, _, .mark h hs => .mark (hle.φ _ _ h) (mono hle hs)
  | _, _, .call h hs => .call (h.mono hle) (mono hle hs)

def InrRel (c : Cor) : Option Nat → Option Nat → Prop
  | none, none => True
  | some l, some b => ∃ o lim sz, c.φ l = some (b, o, lim, sz)
  | _, _ => False
structure FrRel (c : Cor) (r : Option Nat) (fr : Fr) (a : Act) : Prop where
  tmps : VRels c fr.tmps a.tmps.toList
  defers : DefRel c fr.defers a.defers
  inr : InrRel c fr.inr r
theorem InrRel.mono {c d : Cor} (hle : c.le d) {x y : Option Nat} (h : InrRel c x y) : InrRel d x y := by
  cases x <;> cases y <;> simp only [InrRel] at h ⊢
  obtain ⟨o, lim, sz, h⟩ := h
  exact ⟨o, lim, sz, hle.φ _ _ h⟩
theorem FrRel.mono {c d : Cor} (hle : c.le d) {r : Option Nat} {fr : Fr} {a : Act} (h : FrRel c r fr a) : FrRel d r fr a := ⟨h.tmps.mono hle, h.defers.mono hle, h.inr.mono hle⟩
theorem FrRel.put {c : Cor} {r : Option Nat} {fr : Fr} {a : Act} (h : FrRel c r fr a) (dst : Option Nat) {v : DV} {v' : Value} (hv : VRel c v v') : FrRel c r (fr.put dst v) (a.put dst v') := by
  cases dst with
  | none => exact h
  | some d => exact ⟨by simpa [Fr.put, Act.put] using h.tmps.set d hv, h.defers, h.inr⟩
theorem FrRel.defer {c : Cor} {r : Option Nat} {fr : Fr} {a : Act} (h : FrRel c r fr a) {x : DDef} {y : Deferred} (hd : DefRel c [x] [y]) : FrRel c r { fr with defers := x :: fr.defers } { a with defers := y :: a.defers } := by
  refine ⟨h.tmps, ?_, h.inr⟩
  cases hd with
  | mark h1 _ => exact .mark h1 h.defers
  | call h1 _ => exact .call h1 h.defers

section
variable {P : Program} {cfg : Cfg} {CC : Code → DC → Prop} {base : Nat} {D : DProg} {c : Cor} {h : Heap} {w : World}

def RetOk (CC : Code → DC → Prop) (base : Nat) (c : Cor) (h : Heap) (w : World) (v : DV) (h' : Heap) : Ending → World → Prop := fun e w' => ∃ v' c', e = .returned v' ∧ Out CC base c h w c' h' w' ∧ VRel c' v v'
def CallOk (P : Program) (CC : Code → DC → Prop) (base : Nat) (D : DProg) (C : Nat → List DV → Heap → Option (DV × Heap)) : Prop :=
  ∀ f args h v h', C f args h = some (v, h') → ∀ (k : Nat) c w vargs, GlobOk D c → VRels c args vargs → Sim CC base c h w.heap →
    ∃ fn, P.funcs[f]? = some fn ∧ (fn.name == "runtime.NumGoroutine") = false ∧ fn.body.isNone = false ∧ CallsIn Fence.wide k P f vargs.toArray w (RetOk CC base c h w v h')
def CodeOk (P : Program) (CC : Code → DC → Prop) (base : Nat) (D : DProg) (E : Ex) : Prop :=
  ∀ code dc, CC code dc → ∀ fr h x fr' h', E dc fr h = some (x, fr', h') → ∀ r (k : Nat) c a w, GlobOk D c → FrRel c r fr a → Sim CC base c h w.heap →
    code.wpIn (FF r) k P (fun e a' w' => e = x.exitOf ∧ ∃ c', Out CC base c h w c' h' w' ∧ FrRel c' r fr' a') a w

theorem frz_sound (hS : Sim CC base c h w.heap) {v v2 : DV} {vv : Value} {h2 : Heap} (hv : VRel c v vv) (he : frzV h v = some (v2, h2)) : ∃ c', Out CC base c h w c' h2 w ∧ VRel c' v2 vv := by
  unfold frzV at he
  split at he
  · rename_i i z o1 n
    split at he <;> try (cases he; done)
    rename_i cs sh hob
    split at he
    case isFalse => cases he
    rename_i hz
    obtain ⟨hz, hpos⟩ := hz
    obtain ⟨r, hr, hv2⟩ := Option.map_eq_some_iff.1 he
    cases hv2
    obtain ⟨cap, b, o, lim, ab, ao, hφ, hlc, hcap, hvx⟩ := hv.arr_inv
    obtain ⟨hb0, q1, q2, ws, e, f, q3, q4, q5, q6, q7⟩ := hS.objs i _ b o lim z hob hφ
    obtain ⟨hcut, rfl⟩ := cut_some hr
    have hSd := hS.drop i
    have hno := hS.noObj_drop hob hφ
    have hnt : NoTag c (h.drop i) b := hS.noTag_obj hob hφ
    have hnk := hS.sep i _ b o lim z hob hφ
    obtain ⟨hle, hP⟩ := hSd.protect q3 hno hnt hnk
    refine ⟨{ c with kp := keep c.kp b 0 ws.toList }, ⟨hle, hP, Keeps.refl w, Nat.le_refl _, fun id _ hn => ⟨hn, by simp only [Heap.drop]; exact Tr.get_set_ne _ _ (fun e => by subst e; rw [hφ] at hn; cases hn)⟩, fun _ _ hn => ⟨hn, rfl⟩⟩, ?_⟩
    subst hvx
    have hone : ∀ x ∈ (cs.drop o1).take (n * sh.size), x.one = true := fun x hx => q6 x (List.mem_of_mem_drop (List.mem_of_mem_take hx))
    have hrl := cut_length hr
    · obtain ⟨g1, g2, g3, g4⟩ := group_spec hpos n _ hrl hone
      let news : List Value := (ws.toList.drop (o + o1)).take (n * sh.size)
      have hnl : news.length = n * sh.size := by simp [news]; omega
      have hnw : ∀ (j : Nat) (x : Value), news[j]? = some x → ws[o + o1 + j]? = some x := fun j x hj => by
        have hlt := (List.getElem?_eq_some_iff.1 hj).1
        rw [hnl] at hlt
        simp only [news, List.getElem?_take, hlt, if_true, List.getElem?_drop] at hj
        simpa using hj
      have hrel : VRels c ((cs.drop o1).take (n * sh.size)) news := by
        refine VRels.of_get (by rw [hrl, hnl]) fun j x v hj hv => ?_
        have hlt := (List.getElem?_eq_some_iff.1 hj).1
        rw [hrl] at hlt
        rw [List.getElem?_take, if_pos hlt, List.getElem?_drop] at hj
        obtain ⟨u, hu, hru⟩ := q7 _ _ hj
        have h2 := hnw j v hv
        rw [show o + (o1 + j) = o + o1 + j by omega] at hu
        rw [hu] at h2; cases h2
        exact hru
      have := VRel.lst (c := { c with kp := keep c.kp b 0 ws.toList }) (t := 1) (sz := sh.size) (xs := group sh n ((cs.drop o1).take (n * sh.size))) (a := some ⟨ab, ao, none⟩) (cap := cap) (vs := news)
        (fun _ => hpos) g2 (by rw [g1]; exact hrel.mono hle) (by rw [g1]; exact hone) (fun hne => by
          have hn0 : n ≠ 0 := fun e => hne (by subst e; rfl)
          rcases hcap with hcap | ⟨rfl, rfl, _⟩
          · omega
          · refine ⟨ab, o + o1, rfl, fun j x hj => ?_⟩
            have h3 := hnw j x hj
            have := keep_in c.kp ab 0 ws.toList (j := o + o1 + j) (v := x) (by simpa using h3)
            simpa using this)
        (by rw [g3]; exact hlc) (by omega) (fun _ => ⟨_, _, _, rfl, .inl rfl⟩) (by omega)
      rw [g3] at this
      exact this
  · cases he
    exact ⟨c, Out.refl hS, hv⟩

theorem FF_fn (r : Option Nat) (f : FuncId) : (FF r).fn f := trivial
theorem FF_room (r : Option Nat) (n : Nat) : (FF r).room n := fun d hd => by cases hd
theorem FF_calls {r : Option Nat} {k : Nat} {f : FuncId} {args : Array Value} {w : World} {R : Ending → World → Prop} (h : CallsIn Fence.wide k P f args w R) : CallsIn (FF r) k P f args w R := h

theorem run_callFunc {f : FuncId} {fn : Func} (args : Array Value) (w : World) (hf : P.funcs[f]? = some fn) (hn : (fn.name == "runtime.NumGoroutine") = false) (hb : fn.body.isNone = false) : (callFunc f args).run P w = .ok (.enter f args) w := by
  have hb' : ¬ fn.body.isNone = true := by rw [hb]; simp
  have hn' : ¬ (fn.name == "runtime.NumGoroutine") = true := by rw [hn]; simp
  simp only [callFunc, Sem.run_bind, run_program, Result.andThen_ok, hf, hn, hb, Bool.false_eq_true, if_false, Sem.run_pure]

theorem zip_fold {c : Cor} : ∀ (ps : List Nat) (as : List DV) (vs : List Value) (ts : List DV) (us : Array Value), VRels c as vs → VRels c ts us.toList →
    VRels c ((ps.zip as).foldl (fun ts (x : Nat × DV) => ts.set x.1 x.2) ts) ((ps.zip vs).foldl (fun (us : Array Value) (x : Nat × Value) => us.setIfInBounds x.1 x.2) us).toList
  | [], _, _, ts, us, _, h => by simpa using h
  | p :: ps, [], [], ts, us, _, h => by simpa using h
  | p :: ps, _ :: _, _ :: _, ts, us, .cons h1 hs, h => by
    simp only [List.zip_cons_cons, List.foldl_cons]
    exact zip_fold ps _ _ _ _ hs (by simpa using h.set p h1)
theorem array_zip_fold (ps : Array Nat) (vs us : Array Value) : (ps.zip vs).foldl (fun (us : Array Value) (x : Nat × Value) => us.setIfInBounds x.1 x.2) us = (ps.toList.zip vs.toList).foldl (fun (us : Array Value) (x : Nat × Value) => us.setIfInBounds x.1 x.2) us := by
  rw [← Array.foldl_toList, Array.toList_zip]

/-- An object of ours is turned, and the model's likewise. -/
theorem put_loop (hS : Sim CC base c h w.heap) {l b o lim sz : Nat} {ob : HObj} {r : LRec} {y : Loop} (hg : h.objs.get l = some ob) (hφ : c.φ l = some (b, o, lim, sz)) (hr : LoopRel CC c r y) : Out CC base c h w c (h.put l (.loop r)) (w.putObj b (.loop y)) := by
  obtain ⟨hb0, ho⟩ := hS.objs l ob b o lim sz hg hφ
  have hlt := ho.lt
  exact Out.put hφ (hS.put hg hφ ⟨y, World.putObj_heap_same hlt, hr⟩ (fun i hi => World.putObj_heap_other hi) World.putObj_size) ⟨by simp, fun i hi => World.putObj_heap_other (by omega), rfl, rfl, rfl⟩

/-- **A round.** -/
theorem yield_sound {E : Ex} (hE : CodeOk P CC base D E) {l : Nat} {args : List DV} {h' : Heap} {v : DV} (he : yieldD E l args h = some (v, h')) {b o lim sz : Nat} {vargs : List Value} (hφ : c.φ l = some (b, o, lim, sz)) (hg : GlobOk D c) (ha : VRels c args vargs) (hS : Sim CC base c h w.heap) (r : Option Nat) (k : Nat) :
    ∃ y : Loop, (Instr.yield b vargs.toArray).run P w = .ok (.round b y.fn ((y.params.zip vargs.toArray).foldl (fun tmps (t, a) => tmps.setIfInBounds t a) y.tmps) y.assign y.body) w ∧
      RoundIn (FF r) k P b y.fn ((y.params.zip vargs.toArray).foldl (fun tmps (t, a) => tmps.setIfInBounds t a) y.tmps) y.assign y.body w (RetOk CC base c h w v h') := by
  unfold yieldD at he
  split at he <;> try (cases he; done)
  rename_i rec hob
  split at he
  case isFalse => cases he
  rename_i hcond
  obtain ⟨hst, hlen⟩ := hcond
  split at he <;> try (cases he; done)
  rename_i fr1 h1 hasg
  split at he <;> try (cases he; done)
  rename_i rec1 hob1
  split at he
  case isFalse => cases he
  rename_i hst1
  split at he <;> try (cases he; done)
  rename_i x fr2 h2 hbody
  split at he <;> try (cases he; done)
  rename_i rec2 hd2 hob2
  obtain ⟨hb0, y, hy, hyr⟩ := hS.objs l _ b o lim sz hob hφ
  have hsz : vargs.toArray.size = y.params.size := by
    have := ha.length_eq
    have h2 : y.params.size = rec.ps.length := by rw [← hyr.ps]; simp
    simp; omega
  refine ⟨y, run_yield hy hsz, roundIn_of_wpIn (FF_fn _ _) ?_⟩
  have hfr : FrRel c (some b) { tmps := (rec.ps.zip args).foldl (fun ts (t, a) => ts.set t a) rec.tmps, defers := [], inr := some l } { tmps := (y.params.zip vargs.toArray).foldl (fun tmps (t, a) => tmps.setIfInBounds t a) y.tmps, defers := [] } := by
    refine ⟨?_, .nil, ⟨o, lim, sz, hφ⟩⟩
    have := zip_fold rec.ps args vargs rec.tmps y.tmps ha hyr.tmps
    rw [← hyr.ps] at this ⊢
    have h3 := array_zip_fold y.params vargs.toArray y.tmps
    simp only at h3 ⊢
    rw [h3]
    exact this
  have W1 := hE _ _ hyr.asg _ _ _ _ _ hasg (some b) k c _ w hg hfr hS
  refine wpIn_mono (F := (FF r).inRound b) W1 ?_
  rintro e a1 w1 ⟨rfl, c1, o1, f1⟩
  obtain ⟨_, y1, hy1, hyr1⟩ := o1.sim.objs l _ b o lim sz hob1 (o1.le.φ _ _ hφ)
  have hready : y1.state = .ready := by rw [hyr1.st, hst1]; rfl
  refine ⟨_, run_beginRound hy1 hready, ?_⟩
  have hbusy : LoopRel CC c1 { rec1 with st := .busy } { y1 with state := .busy } := ⟨hyr1.tmps, hyr1.ps, hyr1.asg, hyr1.body, rfl, hyr1.pend, hyr1.pn⟩
  have o2 := o1.trans (put_loop o1.sim hob1 (o1.le.φ _ _ hφ) hbusy)
  have W2 := hE _ _ hyr.body _ _ _ _ _ hbody (some b) k c1 a1 _ (hg.mono o2.le) f1 o2.sim
  refine wpIn_mono (F := (FF r).inRound b) W2 ?_
  rintro e a2 w2 ⟨rfl, c2, o3, f2⟩
  have o4 := o2.trans o3
  have hφ2 := o4.le.φ _ _ hφ
  obtain ⟨_, y2, hy2, hyr2⟩ := o4.sim.objs l _ b o lim sz hob2 hφ2
  split at he
  · cases he
    have hr : LoopRel CC c2 { rec2 with st := .ready, pend := none } { y2 with state := .ready, pending := none } := ⟨hyr2.tmps, hyr2.ps, hyr2.asg, hyr2.body, rfl, rfl, by simp⟩
    exact ⟨_, _, run_endRound none hy2, _, _, rfl, o4.trans (put_loop o4.sim hob2 hφ2 hr), .bool _⟩
  · rename_i hx
    cases he
    cases x with
    | normal => exact absurd rfl hx
    | exit id =>
      have hr : LoopRel CC c2 { rec2 with st := .done, pend := some (.exit id) } { y2 with state := .done, pending := some (.exit id) } := ⟨hyr2.tmps, hyr2.ps, hyr2.asg, hyr2.body, rfl, rfl, by simp⟩
      exact ⟨_, _, run_endRound (some (.exit id)) hy2, _, _, rfl, o4.trans (put_loop o4.sim hob2 hφ2 hr), .bool _⟩
    | ret =>
      have hr : LoopRel CC c2 { rec2 with st := .done, pend := some .ret } { y2 with state := .done, pending := some .ret } := ⟨hyr2.tmps, hyr2.ps, hyr2.asg, hyr2.body, rfl, rfl, by simp⟩
      exact ⟨_, _, run_endRound (some .ret) hy2, _, _, rfl, o4.trans (put_loop o4.sim hob2 hφ2 hr), .bool _⟩

/-- **A range over a function.** -/
theorem range_sound {E : Ex} (hCall : CallOk P CC base D (callD D E)) {f : Operand} {df : Opd} (hf : opd f = some df) {ps : Array Nat} {asg body : Code} {dasg dbody : DC} (hasg : CC asg dasg) (hbody : CC body dbody) {fr fr' : Fr} {x : DX} {h' : Heap}
    (he : rangeD D E df ps.toList dasg dbody fr h = some (x, fr', h')) {r : Option Nat} {k : Nat} {a : Act} (hg : GlobOk D c) (hfr : FrRel c r fr a) (hS : Sim CC base c h w.heap) :
    (Code.rangeFunc f ps asg body).wpIn (FF r) k P (fun e a' w' => e = x.exitOf ∧ ∃ c', Out CC base c h w c' h' w' ∧ FrRel c' r fr' a') a w := by
  unfold rangeD at he
  split at he <;> try (cases he; done)
  rename_i g first caps hev
  have hfv := opd_rel hg hfr.tmps hf
  rw [hev] at hfv
  obtain ⟨g', first', caps', hgr, hfirst, hcaps, hval⟩ := hfv.fn_inv
  cases hgr
  simp only at he
  -- the record is laid
  refine wpIn_rangeFunc fun fn _ => ?_
  have start : ∃ (fr1 : Fr) (h1 : Heap) (c1 : Cor) (w1 : World) (mark : List Deferred) (dfs : Nat), startD fr h = some (fr1, h1) ∧ Out CC base c h w c1 h1 w1 ∧ FrRel c1 r fr1 { a with defers := mark ++ a.defers } ∧
        (Instr.enterLoop fn a.tmps ps asg body r).run P w = .ok (w1.heap.size, mark) (w1.alloc (.loop { state := .ready, pending := none, fn, tmps := a.tmps, params := ps, assign := asg, body := body, defers := dfs })) := by
    have hinr := hfr.inr
    cases hi : fr.inr with
    | none =>
      rw [hi] at hinr
      cases r with
      | some b => exact hinr.elim
      | none =>
        have q := (hS.add .mark).obj (id := h.next) (ob := .mark) hS.φnext (Nat.lt_succ_self _) (by simp only [Heap.add]; exact Tr.get_set_same _ _ _) (x := .deferred (some [])) (lim := 0) (sz := 0) (by show (w.heap.push _)[w.heap.size]? = _; simp)
        have hle := Cor.le_obj hS.φnext w.heap.size 0 0 0
        refine ⟨{ fr with defers := .mark h.next :: fr.defers }, h.add .mark, c.obj h.next w.heap.size 0 0 0, w.alloc (.deferred (some [])), [{ target := .collected w.heap.size, args := #[] }], w.heap.size, by simp only [startD, hi], ⟨hle, q, Keeps.alloc w hS.size _, Nat.le_succ _, fun i hi2 hn => ⟨by simp only [Cor.obj]; rw [upd_ne _ _ (by omega)]; exact hn, by simp only [Heap.add]; exact Tr.get_set_ne _ _ (by omega)⟩, fun i _ hn => ⟨hn, rfl⟩⟩, ?_, ?_⟩
        · have := (hfr.mono hle).defer (.mark (upd_same _ _ _) .nil)
          exact this
        · have := run_enterLoop_outer (P := P) (w := w) fn a.tmps ps asg body
          rw [this]
          have hsz : (w.alloc (.deferred (some []))).heap.size = w.heap.size + 1 := by simp
          rw [hsz]
    | some l0 =>
      rw [hi] at hinr
      cases r with
      | none => exact hinr.elim
      | some b =>
        simp only [startD, hi] at he
        obtain ⟨o, lim, sz, hφ⟩ := hinr
        cases hl : h.objs.get l0 with
        | none => simp [hl] at he
        | some ob =>
          cases ob with
          | loop rc =>
            obtain ⟨_, y, hy, _⟩ := hS.objs l0 _ b o lim sz hl hφ
            refine ⟨fr, h, c, w, [], y.defers, by simp only [startD, hi, hl], Out.refl hS, hfr, ?_⟩
            simp only [Instr.enterLoop, Sem.run_bind, run_getLoop hy, Result.andThen_ok, Sem.run_pure, run_newObj_alloc]
          | cells _ _ => simp [hl] at he
          | siter _ _ => simp [hl] at he
          | mark => simp [hl] at he
  obtain ⟨fr1, h1, c1, w1, mark, dfs, hstart, o1, f1, hrun⟩ := start
  rw [hstart] at he
  simp only at he
  split at he <;> try (cases he; done)
  rename_i v2 h2 hcall
  split at he <;> try (cases he; done)
  rename_i rc hob
  split at he
  case isTrue => cases he
  rename_i hnb
  let y : Loop := { state := .ready, pending := none, fn, tmps := a.tmps, params := ps, assign := asg, body := body, defers := dfs }
  have hS1 := o1.sim
  have hrel : LoopRel CC (c1.obj h1.next w1.heap.size 0 0 0) { tmps := fr.tmps, ps := ps.toList, asg := dasg, body := dbody, st := .ready, pend := none } y :=
    ⟨(hfr.tmps.mono o1.le).mono (Cor.le_obj hS1.φnext _ _ _ _), rfl, hasg, hbody, rfl, rfl, by simp⟩
  have hle1 := Cor.le_obj hS1.φnext w1.heap.size 0 0 0
  have hS2 := (hS1.add (.loop { tmps := fr.tmps, ps := ps.toList, asg := dasg, body := dbody, st := .ready, pend := none })).obj (id := h1.next) (ob := .loop { tmps := fr.tmps, ps := ps.toList, asg := dasg, body := dbody, st := .ready, pend := none }) hS1.φnext (Nat.lt_succ_self _) (by simp only [Heap.add]; exact Tr.get_set_same _ _ _) (x := .loop y) (lim := 0) (sz := 0) ⟨y, by simp, hrel⟩
  have o2 : Out CC base c h w (c1.obj h1.next w1.heap.size 0 0 0) (h1.add (.loop { tmps := fr.tmps, ps := ps.toList, asg := dasg, body := dbody, st := .ready, pend := none })) (w1.alloc (.loop y)) :=
    o1.trans ⟨hle1, hS2, Keeps.alloc w1 hS1.size _, Nat.le_succ _, fun i hi2 hn => ⟨by simp only [Cor.obj]; rw [upd_ne _ _ (by omega)]; exact hn, by simp only [Heap.add]; exact Tr.get_set_ne _ _ (by omega)⟩, fun i _ hn => ⟨hn, rfl⟩⟩
  have hvargs : VRels (c1.obj h1.next w1.heap.size 0 0 0) (first ++ [.fn (.yield h1.next) [] []] ++ caps) (first' ++ [.func (.yield w1.heap.size) #[] #[]] ++ caps') :=
    ((hfirst.mono o2.le).append (.cons (.fn (.yield (upd_same _ _ _)) .nil .nil) .nil)).append (hcaps.mono o2.le)
  obtain ⟨gfn, hg1, hg2, hg3, hcalls⟩ := hCall _ _ _ _ _ hcall (k - 1) _ _ _ (hg.mono o2.le) hvargs o2.sim
  refine ⟨w1.heap.size, mark, w1.alloc (.loop y), { target := .fn (.func g) caps'.toArray, args := first'.toArray ++ #[.func (.yield w1.heap.size) #[] #[]] }, w1.alloc (.loop y), g, first'.toArray ++ #[.func (.yield w1.heap.size) #[] #[]] ++ caps'.toArray, w1.alloc (.loop y), hrun, ?_, fun _ _ => trivial, ?_, fun e => (by cases e), ?_⟩
  · have e1 : resolve a.eval (rangeCall f w1.heap.size) 0 = Deferred.ofValue (a.eval f) (#[Operand.const (.func (.yield w1.heap.size) #[] #[])].map a.eval) := rfl
    have e2 : #[Operand.const (.func (.yield w1.heap.size) #[] #[])].map a.eval = #[.func (.yield w1.heap.size) #[] #[]] := by
      rw [List.map_toArray]; rfl
    rw [e1, e2, hval]
    rfl
  · simp only [invoke]
    exact run_callFunc _ _ hg1 hg2 hg3
  · have hconv : (first' ++ [Value.func (.yield w1.heap.size) #[] #[]] ++ caps').toArray = first'.toArray ++ #[Value.func (.yield w1.heap.size) #[] #[]] ++ caps'.toArray := by simp
    rw [hconv] at hcalls
    refine CallsIn.mono (FF_calls hcalls) ?_
    rintro e w3 ⟨v', c3, rfl, o3, hv3⟩
    have o4 := o2.trans o3
    have hφl : c3.φ h1.next = some (w1.heap.size, 0, 0, 0) := o3.le.φ _ _ (upd_same _ _ _)
    obtain ⟨_, y3, hy3, hyr3⟩ := o4.sim.objs h1.next _ w1.heap.size 0 0 0 hob hφl
    have hnb' : y3.state ≠ .busy := by
      rw [hyr3.st]
      intro e
      apply hnb
      cases hst : rc.st <;> rw [hst] at e <;> first | rfl | cases e
    have hover : LoopRel CC c3 { rc with st := .over } { y3 with state := .exhausted } := ⟨hyr3.tmps, hyr3.ps, hyr3.asg, hyr3.body, rfl, hyr3.pend, hyr3.pn⟩
    have hend : ∃ w4, (Instr.endLoop w1.heap.size).run P w3 = .ok (rc.pend.map DX.jump) w4 ∧ Out CC base c h w c3 (h2.put h1.next (.loop { rc with st := .over })) w4 :=
      ⟨_, by rw [← hyr3.pend]; exact run_endLoop hy3 hnb', o4.trans (put_loop o4.sim hob hφl hover)⟩
    obtain ⟨w4, he4, o5⟩ := hend
    refine ⟨_, w4, he4, ?_⟩
    have f5 : FrRel c3 r fr1 { a with defers := mark ++ a.defers } := f1.mono (hle1.trans o3.le)
    have hpn := hyr3.pn
    generalize rc.pend = pd at he o5 hpn
    cases pd with
    | none =>
      cases he
      exact ⟨rfl, c3, o5, f5⟩
    | some xx =>
      cases he
      cases x with
      | normal => exact absurd rfl hpn
      | exit id => exact wpIn_exit ⟨rfl, c3, o5, f5⟩
      | ret => exact wpIn_ret ⟨rfl, c3, o5, f5⟩
end
end Go.Dm
