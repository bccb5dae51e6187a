/- FindLinks returns true for every input: part 4 of the proof (several texts joined). -/
import Derived.RangeFuncRecord
import Derived.RangeFuncNested
import Derived.OrdersIn
import Derived.Sort.LoopGhostIn
import Derived.RowKit3
import Derived.Laws.BitsLemmas
import Derived.Test.YtfgghapmgdgaeaaGreatDoorJ3
/- The D-machine (20): frames, calls, rounds. -/
namespace Go.Dm
set_option linter.unusedSimpArgs false
set_option linter.unusedVariables false
set_option linter.unnecessarySimpa false

def FF (r : Option Nat) : Fence := { Fence.wide with round := r }
def DX.exitOf : DX → Exit
  | .normal => .normal
  | .exit id => .exit id
  | .ret => .ret

inductive DefRel (c : Cor) : List DDef → List Deferred → Prop where
  | nil : DefRel c [] []
  | mark {id b o lim sz : Nat} {ds : List DDef} {vs : List Deferred} (h : c.φ id = some (b, o, lim, sz)) (hs : DefRel c ds vs) : DefRel c (.mark id :: ds) ({ target := .collected b, args := #[] } :: vs)
  | call {f : Nat} {args : List DV} {az cap : Array Value} {ds : List DDef} {vs : List Deferred} (h : VRels c args (az.toList ++ cap.toList)) (hs : DefRel c ds vs) : DefRel c (.call f args :: ds) ({ target := .fn (.func f) cap, args := az } :: vs)
theorem DefRel.mono {c d : Cor} (hle : c.le d) : ∀ {ds : List DDef} {vs : List Deferred}, DefRel c ds vs → DefRel d ds vs
  | _, _, .nil => .nil
  | _, _, .mark h hs => .mark (hle.φ _ _ h) (mono hle hs)
  | _, _, .call h hs => .call (h.mono hle) (mono hle hs)

def InrRel (c : Cor) : Option Nat → Option Nat → Prop
  | none, none => True
  | some l, some b => ∃ o lim sz, c.φ l = some (b, o, lim, sz)
  | _, _ => False
structure FrRel (c : Cor) (r : Option Nat) (fr : Fr) (a : Act) : Prop where
  tmps : VRels c fr.tmps a.tmps.toList
  defers : DefRel c fr.defers a.defers
  inr : InrRel c fr.inr r
theorem InrRel.mono {c d : Cor} (hle : c.le d) {x y : Option Nat} (h : InrRel c x y) : InrRel d x y := by
  cases x <;> cases y <;> simp only [InrRel] at h ⊢
  obtain ⟨o, lim, sz, h⟩ := h
  exact ⟨o, lim, sz, hle.φ _ _ h⟩
theorem FrRel.mono {c d : Cor} (hle : c.le d) {r : Option Nat} {fr : Fr} {a : Act} (h : FrRel c r fr a) : FrRel d r fr a := ⟨h.tmps.mono hle, h.defers.mono hle, h.inr.mono hle⟩
theorem FrRel.put {c : Cor} {r : Option Nat} {fr : Fr} {a : Act} (h : FrRel c r fr a) (dst : Option Nat) {v : DV} {v' : Value} (hv : VRel c v v') : FrRel c r (fr.put dst v) (a.put dst v') := by
  cases dst with
  | none => exact h
  | some d => exact ⟨by simpa [Fr.put, Act.put] using h.tmps.set d hv, h.defers, h.inr⟩
theorem FrRel.defer {c : Cor} {r : Option Nat} {fr : Fr} {a : Act} (h : FrRel c r fr a) {x : DDef} {y : Deferred} (hd : DefRel c [x] [y]) : FrRel c r { fr with defers := x :: fr.defers } { a with defers := y :: a.defers } := by
  refine ⟨h.tmps, ?_, h.inr⟩
  cases hd with
  | mark h1 _ => exact .mark h1 h.defers
  | call h1 _ => exact .call h1 h.defers

section
variable {P : Program} {cfg : Cfg} {CC : Code → DC → Prop} {base : Nat} {D : DProg} {c : Cor} {h : Heap} {w : World}

def RetOk (CC : Code → DC → Prop) (base : Nat) (c : Cor) (h : Heap) (w : World) (v : DV) (h' : Heap) : Ending → World → Prop := fun e w' => ∃ v' c', e = .returned v' ∧ Out CC base c h w c' h' w' ∧ VRel c' v v'
def CallOk (P : Program) (CC : Code → DC → Prop) (base : Nat) (D : DProg) (C : Nat → List DV → Heap → Option (DV × Heap)) : Prop :=
  ∀ f args h v h', C f args h = some (v, h') → ∀ (k : Nat) c w vargs, GlobOk D c → VRels c args vargs → Sim CC base c h w.heap →
    ∃ fn, P.funcs[f]? = some fn ∧ (fn.name == "runtime.NumGoroutine") = false ∧ fn.body.isNone = false ∧ CallsIn Fence.wide k P f vargs.toArray w (RetOk CC base c h w v h')
def CodeOk (P : Program) (CC : Code → DC → Prop) (base : Nat) (D : DProg) (E : Ex) : Prop :=
  ∀ code dc, CC code dc → ∀ fr h x fr' h', E dc fr h = some (x, fr', h') → ∀ r (k : Nat) c a w, GlobOk D c → FrRel c r fr a → Sim CC base c h w.heap →
    code.wpIn (FF r) k P (fun e a' w' => e = x.exitOf ∧ ∃ c', Out CC base c h w c' h' w' ∧ FrRel c' r fr' a') a w

theorem frz_sound (hS : Sim CC base c h w.heap) {v v2 : DV} {vv : Value} {h2 : Heap} (hv : VRel c v vv) (he : frzV h v = some (v2, h2)) : ∃ c', Out CC base c h w c' h2 w ∧ VRel c' v2 vv := by
  unfold frzV at he
  split at he
  · rename_i i z o1 n
    split at he <;> try (cases he; done)
    rename_i cs sh hob
    split at he
    case isFalse => cases he
    rename_i hz
    obtain ⟨hz, hpos⟩ := hz
    obtain ⟨r, hr, hv2⟩ := Option.map_eq_some_iff.1 he
    cases hv2
    obtain ⟨cap, b, o, lim, ab, ao, hφ, hlc, hcap, hvx⟩ := hv.arr_inv
    obtain ⟨hb0, q1, q2, ws, e, f, q3, q4, q5, q6, q7⟩ := hS.objs i _ b o lim z hob hφ
    obtain ⟨hcut, rfl⟩ := cut_some hr
    have hSd := hS.drop i
    have hno := hS.noObj_drop hob hφ
    have hnt : NoTag c (h.drop i) b := hS.noTag_obj hob hφ
    have hnk := hS.sep i _ b o lim z hob hφ
    obtain ⟨hle, hP⟩ := hSd.protect q3 hno hnt hnk
    refine ⟨{ c with kp := keep c.kp b 0 ws.toList }, ⟨hle, hP, Keeps.refl w, Nat.le_refl _, fun id _ hn => ⟨hn, by simp only [Heap.drop]; exact Tr.get_set_ne _ _ (fun e => by subst e; rw [hφ] at hn; cases hn)⟩, fun _ _ hn => ⟨hn, rfl⟩⟩, ?_⟩
    subst hvx
    have hone : ∀ x ∈ (cs.drop o1).take (n * sh.size), x.one = true := fun x hx => q6 x (List.mem_of_mem_drop (List.mem_of_mem_take hx))
    have hrl := cut_length hr
    · obtain ⟨g1, g2, g3, g4⟩ := group_spec hpos n _ hrl hone
      let news : List Value := (ws.toList.drop (o + o1)).take (n * sh.size)
      have hnl : news.length = n * sh.size := by simp [news]; omega
      have hnw : ∀ (j : Nat) (x : Value), news[j]? = some x → ws[o + o1 + j]? = some x := fun j x hj => by
        have hlt := (List.getElem?_eq_some_iff.1 hj).1
        rw [hnl] at hlt
        simp only [news, List.getElem?_take, hlt, if_true, List.getElem?_drop] at hj
        simpa using hj
      have hrel : VRels c ((cs.drop o1).take (n * sh.size)) news := by
        refine VRels.of_get (by rw [hrl, hnl]) fun j x v hj hv => ?_
        have hlt := (List.getElem?_eq_some_iff.1 hj).1
        rw [hrl] at hlt
        rw [List.getElem?_take, if_pos hlt, List.getElem?_drop] at hj
        obtain ⟨u, hu, hru⟩ := q7 _ _ hj
        have h2 := hnw j v hv
        rw [show o + (o1 + j) = o + o1 + j by omega] at hu
        rw [hu] at h2; cases h2
        exact hru
      have := VRel.lst (c := { c with kp := keep c.kp b 0 ws.toList }) (t := 1) (sz := sh.size) (xs := group sh n ((cs.drop o1).take (n * sh.size))) (a := some ⟨ab, ao, none⟩) (cap := cap) (vs := news)
        (fun _ => hpos) g2 (by rw [g1]; exact hrel.mono hle) (by rw [g1]; exact hone) (fun hne => by
          have hn0 : n ≠ 0 := fun e => hne (by subst e; rfl)
          rcases hcap with hcap | ⟨rfl, rfl, _⟩
          · omega
          · refine ⟨ab, o + o1, rfl, fun j x hj => ?_⟩
            have h3 := hnw j x hj
            have := keep_in c.kp ab 0 ws.toList (j := o + o1 + j) (v := x) (by simpa using h3)
            simpa using this)
        (by rw [g3]; exact hlc) (by omega) (fun _ => ⟨_, _, _, rfl, .inl rfl⟩) (by omega)
      rw [g3] at this
      exact this
  · cases he
    exact ⟨c, Out.refl hS, hv⟩

theorem FF_fn (r : Option Nat) (f : FuncId) : (FF r).fn f := trivial
theorem FF_calls {r : Option Nat} {k : Nat} {f : FuncId} {args : Array Value} {w : World} {R : Ending → World → Prop} (h : CallsIn Fence.wide k P f args w R) : CallsIn (FF r) k P f args w R := h

theorem run_callFunc {f : FuncId} {fn : Func} (args : Array Value) (w : World) (hf : P.funcs[f]? = some fn) (hn : (fn.name == "runtime.NumGoroutine") = false) (hb : fn.body.isNone = false) : (callFunc f args).run P w = .ok (.enter f args) w := by
  have hb' : ¬ fn.body.isNone = true := by rw [hb]; simp
  have hn' : ¬ (fn.name == "runtime.NumGoroutine") = true := by rw [hn]; simp
  simp only [callFunc, Sem.run_bind, run_program, Result.andThen_ok, hf, hn, hb, Bool.false_eq_true, if_false, Sem.run_pure]

theorem zip_fold {c : Cor} : ∀ (ps : List Nat) (az : List DV) (vs : List Value) (ts : List DV) (us : Array Value), VRels c az vs → VRels c ts us.toList →
    VRels c ((ps.zip az).foldl (fun ts (x : Nat × DV) => ts.set x.1 x.2) ts) ((ps.zip vs).foldl (fun (us : Array Value) (x : Nat × Value) => us.setIfInBounds x.1 x.2) us).toList
  | [], _, _, ts, us, _, h => by simpa using h
  | p :: ps, [], [], ts, us, _, h => by simpa using h
  | p :: ps, _ :: _, _ :: _, ts, us, .cons h1 hs, h => by
    simp only [List.zip_cons_cons, List.foldl_cons]
    exact zip_fold ps _ _ _ _ hs (by simpa using h.set p h1)
theorem array_zip_fold (ps : Array Nat) (vs us : Array Value) : (ps.zip vs).foldl (fun (us : Array Value) (x : Nat × Value) => us.setIfInBounds x.1 x.2) us = (ps.toList.zip vs.toList).foldl (fun (us : Array Value) (x : Nat × Value) => us.setIfInBounds x.1 x.2) us := by
  rw [← Array.foldl_toList, Array.toList_zip]

/-- An object of ours is turned, and the model's likewise. -/
theorem put_loop (hS : Sim CC base c h w.heap) {l b o lim sz : Nat} {ob : HObj} {r : LRec} {y : Loop} (hg : h.objs.get l = some ob) (hφ : c.φ l = some (b, o, lim, sz)) (hr : LoopRel CC c r y) : Out CC base c h w c (h.put l (.loop r)) (w.putObj b (.loop y)) := by
  obtain ⟨hb0, ho⟩ := hS.objs l ob b o lim sz hg hφ
  have hlt := ho.lt
  exact Out.put hφ (hS.put hg hφ ⟨y, World.putObj_heap_same hlt, hr⟩ (fun i hi => World.putObj_heap_other hi) World.putObj_size) ⟨by simp, fun i hi => World.putObj_heap_other (by omega), rfl, rfl, rfl⟩

/-- **A round.** -/
theorem yield_sound {E : Ex} (hE : CodeOk P CC base D E) {l : Nat} {args : List DV} {h' : Heap} {v : DV} (he : yieldD E l args h = some (v, h')) {b o lim sz : Nat} {vargs : List Value} (hφ : c.φ l = some (b, o, lim, sz)) (hg : GlobOk D c) (ha : VRels c args vargs) (hS : Sim CC base c h w.heap) (r : Option Nat) (k : Nat) :
    ∃ y : Loop, (Instr.yield b vargs.toArray).run P w = .ok (.round b y.fn ((y.params.zip vargs.toArray).foldl (fun tmps (t, a) => tmps.setIfInBounds t a) y.tmps) y.assign y.body) w ∧
      RoundIn (FF r) k P b y.fn ((y.params.zip vargs.toArray).foldl (fun tmps (t, a) => tmps.setIfInBounds t a) y.tmps) y.assign y.body w (RetOk CC base c h w v h') := by
  unfold yieldD at he
  split at he <;> try (cases he; done)
  rename_i rec hob
  split at he
  case isFalse => cases he
  rename_i hcond
  obtain ⟨hst, hlen⟩ := hcond
  split at he <;> try (cases he; done)
  rename_i fr1 h1 hasg
  split at he <;> try (cases he; done)
  rename_i rec1 hob1
  split at he
  case isFalse => cases he
  rename_i hst1
  split at he <;> try (cases he; done)
  rename_i x fr2 h2 hbody
  split at he <;> try (cases he; done)
  rename_i rec2 hd2 hob2
  obtain ⟨hb0, y, hy, hyr⟩ := hS.objs l _ b o lim sz hob hφ
  have hsz : vargs.toArray.size = y.params.size := by
    have := ha.length_eq
    have h2 : y.params.size = rec.ps.length := by rw [← hyr.ps]; simp
    simp; omega
  refine ⟨y, run_yield hy hsz, roundIn_of_wpIn (FF_fn _ _) ?_⟩
  have hfr : FrRel c (some b) { tmps := (rec.ps.zip args).foldl (fun ts (t, a) => ts.set t a) rec.tmps, defers := [], inr := some l } { tmps := (y.params.zip vargs.toArray).foldl (fun tmps (t, a) => tmps.setIfInBounds t a) y.tmps, defers := [] } := by
    refine ⟨?_, .nil, ⟨o, lim, sz, hφ⟩⟩
    have := zip_fold rec.ps args vargs rec.tmps y.tmps ha hyr.tmps
    rw [← hyr.ps] at this ⊢
    have h3 := array_zip_fold y.params vargs.toArray y.tmps
    simp only at h3 ⊢
    rw [h3]
    exact this
  have W1 := hE _ _ hyr.asg _ _ _ _ _ hasg (some b) k c _ w hg hfr hS
  refine wpIn_mono (F := (FF r).inRound b) W1 ?_
  rintro e a1 w1 ⟨rfl, c1, o1, f1⟩
  obtain ⟨_, y1, hy1, hyr1⟩ := o1.sim.objs l _ b o lim sz hob1 (o1.le.φ _ _ hφ)
  have hready : y1.state = .ready := by rw [hyr1.st, hst1]; rfl
  refine ⟨_, run_beginRound hy1 hready, ?_⟩
  have hbusy : LoopRel CC c1 { rec1 with st := .busy } { y1 with state := .busy } := ⟨hyr1.tmps, hyr1.ps, hyr1.asg, hyr1.body, rfl, hyr1.pend, hyr1.pn⟩
  have o2 := o1.trans (put_loop o1.sim hob1 (o1.le.φ _ _ hφ) hbusy)
  have W2 := hE _ _ hyr.body _ _ _ _ _ hbody (some b) k c1 a1 _ (hg.mono o2.le) f1 o2.sim
  refine wpIn_mono (F := (FF r).inRound b) W2 ?_
  rintro e a2 w2 ⟨rfl, c2, o3, f2⟩
  have o4 := o2.trans o3
  have hφ2 := o4.le.φ _ _ hφ
  obtain ⟨_, y2, hy2, hyr2⟩ := o4.sim.objs l _ b o lim sz hob2 hφ2
  split at he
  · cases he
    have hr : LoopRel CC c2 { rec2 with st := .ready, pend := none } { y2 with state := .ready, pending := none } := ⟨hyr2.tmps, hyr2.ps, hyr2.asg, hyr2.body, rfl, rfl, by simp⟩
    exact ⟨_, _, run_endRound none hy2, _, _, rfl, o4.trans (put_loop o4.sim hob2 hφ2 hr), .bool _⟩
  · rename_i hx
    cases he
    cases x with
    | normal => exact absurd rfl hx
    | exit id =>
      have hr : LoopRel CC c2 { rec2 with st := .done, pend := some (.exit id) } { y2 with state := .done, pending := some (.exit id) } := ⟨hyr2.tmps, hyr2.ps, hyr2.asg, hyr2.body, rfl, rfl, by simp⟩
      exact ⟨_, _, run_endRound (some (.exit id)) hy2, _, _, rfl, o4.trans (put_loop o4.sim hob2 hφ2 hr), .bool _⟩
    | ret =>
      have hr : LoopRel CC c2 { rec2 with st := .done, pend := some .ret } { y2 with state := .done, pending := some .ret } := ⟨hyr2.tmps, hyr2.ps, hyr2.asg, hyr2.body, rfl, rfl, by simp⟩
      exact ⟨_, _, run_endRound (some .ret) hy2, _, _, rfl, o4.trans (put_loop o4.sim hob2 hφ2 hr), .bool _⟩

/-- **A range over a function.** -/
theorem range_sound {E : Ex} (hCall : CallOk P CC base D (callD D E)) {f : Operand} {df : Opd} (hf : opd f = some df) {ps : Array Nat} {asg body : Code} {dasg dbody : DC} (hasg : CC asg dasg) (hbody : CC body dbody) {fr fr' : Fr} {x : DX} {h' : Heap}
    (he : rangeD D E df ps.toList dasg dbody fr h = some (x, fr', h')) {r : Option Nat} {k : Nat} {a : Act} (hg : GlobOk D c) (hfr : FrRel c r fr a) (hS : Sim CC base c h w.heap) :
    (Code.rangeFunc f ps asg body).wpIn (FF r) k P (fun e a' w' => e = x.exitOf ∧ ∃ c', Out CC base c h w c' h' w' ∧ FrRel c' r fr' a') a w := by
  unfold rangeD at he
  split at he <;> try (cases he; done)
  rename_i g first caps hev
  have hfv := opd_rel hg hfr.tmps hf
  rw [hev] at hfv
  obtain ⟨g', first', caps', hgr, hfirst, hcaps, hval⟩ := hfv.fn_inv
  cases hgr
  simp only at he
  -- the record is laid
  refine wpIn_rangeFunc fun fn _ => ?_
  have start : ∃ (fr1 : Fr) (h1 : Heap) (c1 : Cor) (w1 : World) (mark : List Deferred) (dfs : Nat), startD fr h = some (fr1, h1) ∧ Out CC base c h w c1 h1 w1 ∧ FrRel c1 r fr1 { a with defers := mark ++ a.defers } ∧
        (Instr.enterLoop fn a.tmps ps asg body r).run P w = .ok (w1.heap.size, mark) (w1.alloc (.loop { state := .ready, pending := none, fn, tmps := a.tmps, params := ps, assign := asg, body := body, defers := dfs })) := by
    have hinr := hfr.inr
    cases hi : fr.inr with
    | none =>
      rw [hi] at hinr
      cases r with
      | some b => exact hinr.elim
      | none =>
        have q := (hS.add .mark).obj (id := h.next) (ob := .mark) hS.φnext (Nat.lt_succ_self _) (by simp only [Heap.add]; exact Tr.get_set_same _ _ _) (x := .deferred (some [])) (lim := 0) (sz := 0) (by show (w.heap.push _)[w.heap.size]? = _; simp)
        have hle := Cor.le_obj hS.φnext w.heap.size 0 0 0
        refine ⟨{ fr with defers := .mark h.next :: fr.defers }, h.add .mark, c.obj h.next w.heap.size 0 0 0, w.alloc (.deferred (some [])), [{ target := .collected w.heap.size, args := #[] }], w.heap.size, by simp only [startD, hi], ⟨hle, q, Keeps.alloc w hS.size _, Nat.le_succ _, fun i hi2 hn => ⟨by simp only [Cor.obj]; rw [upd_ne _ _ (by omega)]; exact hn, by simp only [Heap.add]; exact Tr.get_set_ne _ _ (by omega)⟩, fun i _ hn => ⟨hn, rfl⟩⟩, ?_, ?_⟩
        · have := (hfr.mono hle).defer (.mark (upd_same _ _ _) .nil)
          exact this
        · have := run_enterLoop_outer (P := P) (w := w) fn a.tmps ps asg body
          rw [this]
          have hsz : (w.alloc (.deferred (some []))).heap.size = w.heap.size + 1 := by simp
          rw [hsz]
    | some l0 =>
      rw [hi] at hinr
      cases r with
      | none => exact hinr.elim
      | some b =>
        simp only [startD, hi] at he
        obtain ⟨o, lim, sz, hφ⟩ := hinr
        cases hl : h.objs.get l0 with
        | none => simp [hl] at he
        | some ob =>
          cases ob with
          | loop rc =>
            obtain ⟨_, y, hy, _⟩ := hS.objs l0 _ b o lim sz hl hφ
            refine ⟨fr, h, c, w, [], y.defers, by simp only [startD, hi, hl], Out.refl hS, hfr, ?_⟩
            simp only [Instr.enterLoop, Sem.run_bind, run_getLoop hy, Result.andThen_ok, Sem.run_pure, run_newObj_alloc]
          | cells _ _ => simp [hl] at he
          | siter _ _ => simp [hl] at he
          | mark => simp [hl] at he
  obtain ⟨fr1, h1, c1, w1, mark, dfs, hstart, o1, f1, hrun⟩ := start
  rw [hstart] at he
  simp only at he
  split at he <;> try (cases he; done)
  rename_i v2 h2 hcall
  split at he <;> try (cases he; done)
  rename_i rc hob
  split at he
  case isTrue => cases he
  rename_i hnb
  let y : Loop := { state := .ready, pending := none, fn, tmps := a.tmps, params := ps, assign := asg, body := body, defers := dfs }
  have hS1 := o1.sim
  have hrel : LoopRel CC (c1.obj h1.next w1.heap.size 0 0 0) { tmps := fr.tmps, ps := ps.toList, asg := dasg, body := dbody, st := .ready, pend := none } y :=
    ⟨(hfr.tmps.mono o1.le).mono (Cor.le_obj hS1.φnext _ _ _ _), rfl, hasg, hbody, rfl, rfl, by simp⟩
  have hle1 := Cor.le_obj hS1.φnext w1.heap.size 0 0 0
  have hS2 := (hS1.add (.loop { tmps := fr.tmps, ps := ps.toList, asg := dasg, body := dbody, st := .ready, pend := none })).obj (id := h1.next) (ob := .loop { tmps := fr.tmps, ps := ps.toList, asg := dasg, body := dbody, st := .ready, pend := none }) hS1.φnext (Nat.lt_succ_self _) (by simp only [Heap.add]; exact Tr.get_set_same _ _ _) (x := .loop y) (lim := 0) (sz := 0) ⟨y, by simp, hrel⟩
  have o2 : Out CC base c h w (c1.obj h1.next w1.heap.size 0 0 0) (h1.add (.loop { tmps := fr.tmps, ps := ps.toList, asg := dasg, body := dbody, st := .ready, pend := none })) (w1.alloc (.loop y)) :=
    o1.trans ⟨hle1, hS2, Keeps.alloc w1 hS1.size _, Nat.le_succ _, fun i hi2 hn => ⟨by simp only [Cor.obj]; rw [upd_ne _ _ (by omega)]; exact hn, by simp only [Heap.add]; exact Tr.get_set_ne _ _ (by omega)⟩, fun i _ hn => ⟨hn, rfl⟩⟩
  have hvargs : VRels (c1.obj h1.next w1.heap.size 0 0 0) (first ++ [.fn (.yield h1.next) [] []] ++ caps) (first' ++ [.func (.yield w1.heap.size) #[] #[]] ++ caps') :=
    ((hfirst.mono o2.le).append (.cons (.fn (.yield (upd_same _ _ _)) .nil .nil) .nil)).append (hcaps.mono o2.le)
  obtain ⟨gfn, hg1, hg2, hg3, hcalls⟩ := hCall _ _ _ _ _ hcall (k - 1) _ _ _ (hg.mono o2.le) hvargs o2.sim
  refine ⟨w1.heap.size, mark, w1.alloc (.loop y), { target := .fn (.func g) caps'.toArray, args := first'.toArray ++ #[.func (.yield w1.heap.size) #[] #[]] }, w1.alloc (.loop y), g, first'.toArray ++ #[.func (.yield w1.heap.size) #[] #[]] ++ caps'.toArray, w1.alloc (.loop y), hrun, ?_, fun _ _ => trivial, ?_, fun e => (by cases e), ?_⟩
  · have e1 : resolve a.eval (rangeCall f w1.heap.size) 0 = Deferred.ofValue (a.eval f) (#[Operand.const (.func (.yield w1.heap.size) #[] #[])].map a.eval) := rfl
    have e2 : #[Operand.const (.func (.yield w1.heap.size) #[] #[])].map a.eval = #[.func (.yield w1.heap.size) #[] #[]] := by
      rw [List.map_toArray]; rfl
    rw [e1, e2, hval]
    rfl
  · simp only [invoke]
    exact run_callFunc _ _ hg1 hg2 hg3
  · have hconv : (first' ++ [Value.func (.yield w1.heap.size) #[] #[]] ++ caps').toArray = first'.toArray ++ #[Value.func (.yield w1.heap.size) #[] #[]] ++ caps'.toArray := by simp
    rw [hconv] at hcalls
    refine CallsIn.mono (FF_calls hcalls) ?_
    rintro e w3 ⟨v', c3, rfl, o3, hv3⟩
    have o4 := o2.trans o3
    have hφl : c3.φ h1.next = some (w1.heap.size, 0, 0, 0) := o3.le.φ _ _ (upd_same _ _ _)
    obtain ⟨_, y3, hy3, hyr3⟩ := o4.sim.objs h1.next _ w1.heap.size 0 0 0 hob hφl
    have hnb' : y3.state ≠ .busy := by
      rw [hyr3.st]
      intro e
      apply hnb
      cases hst : rc.st <;> rw [hst] at e <;> first | rfl | cases e
    have hover : LoopRel CC c3 { rc with st := .over } { y3 with state := .exhausted } := ⟨hyr3.tmps, hyr3.ps, hyr3.asg, hyr3.body, rfl, hyr3.pend, hyr3.pn⟩
    have hend : ∃ w4, (Instr.endLoop w1.heap.size).run P w3 = .ok (rc.pend.map DX.jump) w4 ∧ Out CC base c h w c3 (h2.put h1.next (.loop { rc with st := .over })) w4 :=
      ⟨_, by rw [← hyr3.pend]; exact run_endLoop hy3 hnb', o4.trans (put_loop o4.sim hob hφl hover)⟩
    obtain ⟨w4, he4, o5⟩ := hend
    refine ⟨_, w4, he4, ?_⟩
    have f5 : FrRel c3 r fr1 { a with defers := mark ++ a.defers } := f1.mono (hle1.trans o3.le)
    have hpn := hyr3.pn
    generalize rc.pend = pd at he o5 hpn
    cases pd with
    | none =>
      cases he
      exact ⟨rfl, c3, o5, f5⟩
    | some xx =>
      cases he
      cases x with
      | normal => exact absurd rfl hpn
      | exit id => exact wpIn_exit ⟨rfl, c3, o5, f5⟩
      | ret => exact wpIn_ret ⟨rfl, c3, o5, f5⟩
end
end Go.Dm
/- The D-machine (21): every operation; calls. -/
namespace Go.Dm
set_option linter.unusedSimpArgs false
set_option linter.unusedVariables false
set_option linter.unnecessarySimpa false

section
variable {P : Program} {cfg : Cfg} {mf : Bool} {CC : Code → DC → Prop} {base : Nat} {D : DProg} {c : Cor} {h : Heap} {w : World} {fr : Fr}

theorem call_inv {op : Op} {f : Opd} {az : List Opd} {z : Bool} (hc : compOp P cfg mf op = some (.call f az z)) : ∃ cl f', op = .call cl ∧ cl.callee = .value f' ∧ opd f' = some f ∧ opds cl.args.toList = some az := by
  cases op <;> simp only [compOp] at hc <;> try (cases hc; done)
  case call cl =>
    obtain ⟨callee, args, argTypes⟩ := cl
    simp only [compCall] at hc
    split at hc <;> try (cases hc; done)
    · split at hc <;> try (cases hc; done)
      cases hc
      exact ⟨_, _, rfl, rfl, ‹_›, ‹_›⟩
    · exfalso
      repeat' first | (cases hc; done) | (obtain ⟨_, _, h2⟩ := Option.map_eq_some_iff.1 hc; cases h2; done) | split at hc
  all_goals exfalso
  case alloc => obtain ⟨_, _, h2⟩ := Option.bind_eq_some_iff.1 hc; split at h2 <;> cases h2
  case next x s => cases s <;> simp only [compOp] at hc <;> first | (cases hc; done) | (obtain ⟨_, _, h2⟩ := Option.map_eq_some_iff.1 hc; cases h2)
  all_goals (repeat' first | (cases hc; done) | (obtain ⟨_, _, h2⟩ := Option.map_eq_some_iff.1 hc; cases h2; done) | split at hc)
theorem defr_inv {op : Op} {f : Opd} {az : List Opd} (hc : compOp P cfg mf op = some (.defr f az)) : ∃ cl f', op = .defer cl ∧ cl.callee = .value f' ∧ opd f' = some f ∧ opds cl.args.toList = some az := by
  cases op <;> simp only [compOp] at hc <;> try (cases hc; done)
  case defer cl =>
    obtain ⟨callee, args, argTypes⟩ := cl
    simp only at hc
    split at hc <;> try (cases hc; done)
    split at hc <;> try (cases hc; done)
    cases hc
    exact ⟨_, _, rfl, rfl, ‹_›, ‹_›⟩
  all_goals exfalso
  case call cl =>
    obtain ⟨callee, args, argTypes⟩ := cl
    simp only [compCall] at hc
    repeat' first | (cases hc; done) | (obtain ⟨_, _, h2⟩ := Option.map_eq_some_iff.1 hc; cases h2; done) | split at hc
  case alloc => obtain ⟨_, _, h2⟩ := Option.bind_eq_some_iff.1 hc; split at h2 <;> cases h2
  case next x s => cases s <;> simp only [compOp] at hc <;> first | (cases hc; done) | (obtain ⟨_, _, h2⟩ := Option.map_eq_some_iff.1 hc; cases h2)
  all_goals (repeat' first | (cases hc; done) | (obtain ⟨_, _, h2⟩ := Option.map_eq_some_iff.1 hc; cases h2; done) | split at hc)

/-- What an operation may come to. -/
theorem evalOp_cases {d : DOp} {r : EvR} (he : evalOp D fr h d = some r) : (∃ v h', stepEv h r = some (v, h')) ∨ (∃ g az z f xs, r = .call g az z ∧ d = .call f xs z ∧ callV (ev D fr f) (evs D fr xs) z = some r) ∨
    (∃ l az z f xs, r = .yield l az ∧ d = .call f xs z ∧ callV (ev D fr f) (evs D fr xs) z = some r) ∨ ∃ g az f xs, r = .defr g az ∧ d = .defr f xs := by
  cases r with
  | val v => exact .inl ⟨_, _, rfl⟩
  | newO b mk => exact .inl ⟨_, _, rfl⟩
  | newT sz mk => exact .inl ⟨_, _, rfl⟩
  | eff v h' => exact .inl ⟨_, _, rfl⟩
  | call g az z =>
    right; left
    cases d <;> simp only [evalOp, convD, sliceD, appendD, copyD] at he
    case call f xs z' =>
      have : z = z' := by
        unfold callV at he
        split at he <;> cases he
        rfl
      subst this
      exact ⟨_, _, _, _, _, rfl, rfl, he⟩
    all_goals exfalso
    all_goals (repeat' first | (cases he; done) | (obtain ⟨_, _, h2⟩ := Option.map_eq_some_iff.1 he; cases h2; done) | split at he)
  | yield l az =>
    right; right; left
    cases d <;> simp only [evalOp, convD, sliceD, appendD, copyD] at he
    case call f xs z => exact ⟨_, _, _, _, _, rfl, rfl, he⟩
    all_goals exfalso
    all_goals (repeat' first | (cases he; done) | (obtain ⟨_, _, h2⟩ := Option.map_eq_some_iff.1 he; cases h2; done) | split at he)
  | defr g az =>
    right; right; right
    cases d <;> simp only [evalOp, convD, sliceD, appendD, copyD] at he
    case defr f xs => exact ⟨_, _, _, _, rfl, rfl⟩
    all_goals exfalso
    case call f xs z => unfold callV at he; split at he <;> cases he
    all_goals (repeat' first | (cases he; done) | (obtain ⟨_, _, h2⟩ := Option.map_eq_some_iff.1 he; cases h2; done) | split at he)

theorem semAt_of {r : Option Nat} {a : Act} {o : Oper} (h : ∀ cl, o.op = .defer cl → r = none) : o.semAt (FF r).round a.eval = execOp a.eval o := by
  cases r with
  | none => rfl
  | some l => exact Oper.semAt_eq _ _ _ fun cl e => by cases h cl e

theorem op_sound {E : Ex} (hCall : CallOk P CC base D (callD D E)) (hCode : CodeOk P CC base D E) {o : Oper} {ro : ROp} (hc : compOp P cfg mf o.op = some ro.op) (hd : ro.dst = o.dst) {fr' : Fr} {h' : Heap} (he : runOp D E ro fr h = some (fr', h'))
    {r : Option Nat} {k : Nat} {a : Act} (hg : GlobOk D c) (hfr : FrRel c r fr a) (hS : Sim CC base c h w.heap) {K : Act → World → Prop} {Q : Exit → Act → World → Prop}
    (hK : ∀ a' w' c', Out CC base c h w c' h' w' → FrRel c' r fr' a' → K a' w') : o.wpIn (FF r) k P a w K Q := by
  refine ⟨fun _ _ => trivial, ?_⟩
  unfold runOp at he
  cases hev : evalOp D fr h ro.op with
  | none => rw [hev] at he; cases he
  | some r0 =>
    rw [hev] at he
    rcases evalOp_cases hev with ⟨v, h1, hst⟩ | ⟨g, az, z, f, xs, rfl, hop, hcv⟩ | ⟨l, az, z, f, xs, rfl, hop, hcv⟩ | ⟨g, az, f, xs, rfl, hop⟩
    · -- no call
      have hstep : fr' = fr.put ro.dst v ∧ h' = h1 := by
        cases r0 <;> simp only [stepEv] at hst <;> cases hst <;> cases he <;> exact ⟨rfl, rfl⟩
      obtain ⟨rfl, rfl⟩ := hstep
      rw [semAt_of (fun cl e => by
        exfalso
        rw [e] at hc
        simp only [compOp] at hc
        split at hc <;> try (cases hc; done)
        split at hc <;> try (cases hc; done)
        have hop := Option.some.inj hc
        rw [← hop] at hev
        simp only [evalOp] at hev
        split at hev <;> try (cases hev; done)
        split at hev <;> cases hev
        cases hst)]
      obtain ⟨n, w', c', v', hrun, hn, ho, hv⟩ := eff_sound hc hg hfr.tmps hS hev hst
      rw [hrun]
      rcases hn with rfl | ⟨rfl, rfl⟩
      · rw [Oper.uponIn_value, ← hd]
        exact hK _ _ _ ho ((hfr.mono ho.le).put _ hv)
      · rw [Oper.uponIn_skip, ← hd]
        exact hK _ _ _ ho ((hfr.mono ho.le).put _ hv)
    · -- a call
      rw [hop] at hc
      obtain ⟨cl, f', hcl1, hcl2, hf', hxs⟩ := call_inv hc
      rw [semAt_of (fun cl' e => by rw [hcl1] at e; cases e)]
      have hfv := opd_rel hg hfr.tmps hf'
      have hav := opds_rel hg hfr.tmps hxs
      unfold callV at hcv
      split at hcv <;> try (cases hcv; done)
      rename_i g0 first caps hef
      cases hcv
      rw [hef] at hfv
      obtain ⟨g', first', caps', hgr, hfirst, hcaps, hval⟩ := hfv.fn_inv
      cases hgr
      simp only at he
      split at he <;> try (cases he; done)
      rename_i v h1 hcall
      have hvargs := (hfirst.append hav).append hcaps
      obtain ⟨gfn, hg1, hg2, hg3, hcalls⟩ := hCall _ _ _ _ _ hcall (k - 1) _ _ _ hg hvargs hS
      have hrun : (execOp a.eval o).run P w = .ok (.enter g (first' ++ cl.args.toList.map a.eval ++ caps').toArray) w := by
        have e1 : execOp a.eval o = (do let d ← resolve a.eval cl o.type; invoke d.target d.args) := by
          unfold execOp; rw [hcl1]
        have e2 : resolve a.eval cl o.type = Deferred.ofValue (a.eval f') (cl.args.map a.eval) := by
          unfold resolve; rw [hcl2]
        rw [e1, e2, hval]
        simp only [Deferred.ofValue, Sem.run_bind, Sem.run_pure, Result.andThen_ok, invoke]
        have e3 : first'.toArray ++ Array.map a.eval cl.args ++ caps'.toArray = (first' ++ cl.args.toList.map a.eval ++ caps').toArray := by
          apply Array.ext'; simp
        rw [e3]
        exact run_callFunc _ _ hg1 hg2 hg3
      rw [hrun, Oper.uponIn_enter]
      refine ⟨fun e => (by cases e), CallsIn.mono (FF_calls hcalls) ?_⟩
      rintro e w3 ⟨v', c3, rfl, o3, hv3⟩
      show K (a.put o.dst v') w3
      rw [← hd]
      split at he
      · obtain ⟨⟨v2, h2⟩, hfz, he2⟩ := Option.map_eq_some_iff.1 he
        cases he2
        obtain ⟨c4, o4, hv4⟩ := frz_sound o3.sim hv3 hfz
        exact hK _ _ _ (o3.trans o4) ((hfr.mono (o3.trans o4).le).put _ hv4)
      · cases he
        exact hK _ _ _ o3 ((hfr.mono o3.le).put _ hv3)
    · -- yield
      rw [hop] at hc
      obtain ⟨cl, f', hcl1, hcl2, hf', hxs⟩ := call_inv hc
      rw [semAt_of (fun cl' e => by rw [hcl1] at e; cases e)]
      have hfv := opd_rel hg hfr.tmps hf'
      have hav := opds_rel hg hfr.tmps hxs
      unfold callV at hcv
      split at hcv <;> try (cases hcv; done)
      rename_i l0 hef
      cases hcv
      rw [hef] at hfv
      obtain ⟨g', first', caps', hgr, hfirst, hcaps, hval⟩ := hfv.fn_inv
      cases hfirst; cases hcaps
      cases hgr with
      | yield hφ =>
        rename_i b o1 lim sz
        simp only at he
        obtain ⟨⟨v, h1⟩, hy, he2⟩ := Option.map_eq_some_iff.1 he
        cases he2
        obtain ⟨y, hrun1, hround⟩ := yield_sound hCode hy hφ hg hav hS r (k - 1)
        have hrun : (execOp a.eval o).run P w = .ok (.round b y.fn ((y.params.zip (cl.args.toList.map a.eval).toArray).foldl (fun tmps (t, a) => tmps.setIfInBounds t a) y.tmps) y.assign y.body) w := by
          have e1 : execOp a.eval o = (do let d ← resolve a.eval cl o.type; invoke d.target d.args) := by
            unfold execOp; rw [hcl1]
          have e2 : resolve a.eval cl o.type = Deferred.ofValue (a.eval f') (cl.args.map a.eval) := by
            unfold resolve; rw [hcl2]
          rw [e1, e2, hval]
          simp only [Deferred.ofValue, Sem.run_bind, Sem.run_pure, Result.andThen_ok, invoke]
          have e3 : ([] : List Value).toArray ++ Array.map a.eval cl.args = (cl.args.toList.map a.eval).toArray := by
            apply Array.ext'; simp
          rw [e3]
          exact hrun1
        rw [hrun, Oper.uponIn_round]
        refine ⟨fun e => (by cases e), RoundIn.mono hround ?_⟩
        rintro e w3 ⟨v', c3, rfl, o3, hv3⟩
        show K (a.put o.dst v') w3
        rw [← hd]
        exact hK _ _ _ o3 ((hfr.mono o3.le).put _ hv3)
    · -- defer
      rw [hop] at hc
      obtain ⟨cl, f', hcl1, hcl2, hf', hxs⟩ := defr_inv hc
      rw [hop] at hev
      simp only [evalOp] at hev
      split at hev
      case isTrue => cases hev
      rename_i hnr
      split at hev <;> try (cases hev; done)
      rename_i g0 first caps hef
      cases hev
      cases he
      have hr : r = none := by
        have := hfr.inr
        cases hi : fr.inr with
        | some l => rw [hi] at hnr; simp at hnr
        | none =>
          rw [hi] at this
          cases r with
          | none => rfl
          | some b => exact this.elim
      subst hr
      have hfv := opd_rel hg hfr.tmps hf'
      have hav := opds_rel hg hfr.tmps hxs
      rw [hef] at hfv
      obtain ⟨g', first', caps', hgr, hfirst, hcaps, hval⟩ := hfv.fn_inv
      cases hgr
      have hrun : ((o.semAt (FF none).round a.eval)).run P w = .ok (.defer { target := .fn (.func g) caps'.toArray, args := first'.toArray ++ cl.args.map a.eval }) w := by
        have e1 : o.semAt (FF none).round a.eval = (do pure (.defer (← resolve a.eval cl o.type))) := by
          show execOp a.eval o = _
          unfold execOp; rw [hcl1]
        have e2 : resolve a.eval cl o.type = Deferred.ofValue (a.eval f') (cl.args.map a.eval) := by
          unfold resolve; rw [hcl2]
        rw [e1, e2, hval]
        rfl
      rw [hrun, Oper.uponIn_defer, ← hd]
      refine hK _ _ _ (Out.refl hS) ((hfr.defer (.call ?_ .nil)).put _ .undef)
      have := (hfirst.append hav).append hcaps
      simpa using this

/-! ### a function -/
theorem results_rel (hS : Sim CC base c h w.heap) {ts : List DV} {us : Array Value} (ht : VRels c ts us.toList) {fr : Fr} (hfr : fr.tmps = ts) {g : ResultVar → Sem Value} (hg1 : ∀ t, g (.tmp t) = pure (us.getD t undef)) (hg2 : ∀ a t, g (.cell a t) = do loadVar t (← asAddr (us.getD a undef))) :
    ∀ (rs : List ResultVar) (ds : List DRes) (vs : List DV), compRes P rs = some ds → resD fr h ds = some vs → ∃ us', (rs.mapM (m := Sem) g).run P w = .ok us' w ∧ VRels c vs us' := by
  subst hfr
  intro rs
  induction rs with
  | nil => intro ds vs h1 h2; simp [compRes] at h1; subst h1; simp [resD] at h2; subst h2; exact ⟨[], by simp, .nil⟩
  | cons r rs ih =>
    intro ds vs h1 h2
    cases r with
    | tmp t =>
      simp only [compRes] at h1
      obtain ⟨ds', h3, rfl⟩ := Option.map_eq_some_iff.1 h1
      simp only [resD] at h2
      obtain ⟨vs', h4, rfl⟩ := Option.map_eq_some_iff.1 h2
      obtain ⟨us', h5, h6⟩ := ih _ _ h3 h4
      refine ⟨us.getD t undef :: us', ?_, .cons (by simpa using ht.getD t) h6⟩
      rw [List.mapM_cons]
      simp only [Sem.run_bind, hg1, Sem.run_pure, Result.andThen_ok, h5]
    | cell t ty =>
      simp only [compRes] at h1
      split at h1 <;> try (cases h1; done)
      rename_i sh ds' hsh h3
      cases h1
      simp only [resD] at h2
      split at h2 <;> try (cases h2; done)
      rename_i v vs' hv h4
      cases h2
      obtain ⟨us', h5, h6⟩ := ih _ _ h3 h4
      obtain ⟨u, h7, h8⟩ := load_rel (P := P) w hS hsh (ht.getD t) hv
      refine ⟨u :: us', ?_, .cons h8 h6⟩
      have h9 : ((do loadVar ty (← asAddr (us.getD t undef)) : Sem Value)).run P w = .ok u w := by
        have hval : ∃ a, us.getD t undef = .pointer (some a) := by
          have hr := ht.getD t
          generalize fr.tmps.getD t .undef = X at hr hv
          have e : us.toList.getD t undef = us.getD t undef := by simp
          rw [e] at hr
          cases X <;> simp only [loadD] at hv <;> try (cases hv; done)
          · obtain ⟨b, o, _, _, _, hv'⟩ := hr.ptr_inv; exact ⟨_, hv'⟩
          · obtain ⟨_, b, o, _, _, _, hv'⟩ := hr.elt_inv; exact ⟨_, hv'⟩
        obtain ⟨a, ha⟩ := hval
        rw [ha]
        have e : us.toList.getD t undef = us.getD t undef := by simp
        rw [e, ha] at h7
        simpa [Instr.loadAt, Instr.sureAddr, asAddr] using h7
      rw [List.mapM_cons, hg2]
      simp only [Sem.run_bind]
      simp only [Sem.run_bind] at h9
      simp only [h9, Result.andThen_ok, h5, Sem.run_pure]
theorem tup_rel {vs : List DV} {us : List Value} (hv : VRels c vs us) : VRel c (tupD vs) (if h : us.toArray.size = 1 then us.toArray[0] else .tuple us.toArray) := by
  cases hv with
  | nil => simpa [tupD] using VRel.tup .nil
  | cons h1 hs =>
    cases hs with
    | nil => simpa [tupD] using h1
    | cons h2 hs' =>
      have := VRel.tup (.cons h1 (.cons h2 hs'))
      simpa [tupD] using this
theorem results_sound (hS : Sim CC base c h w.heap) {fn : Func} {fr : Fr} {us : Array Value} (ht : VRels c fr.tmps us.toList) {ds : List DRes} {vs : List DV} (h1 : compRes P fn.results.toList = some ds) (h2 : resD fr h ds = some vs) :
    ∃ u, (results fn us).run P w = .ok u w ∧ VRel c (tupD vs) u := by
  obtain ⟨us', h3, h4⟩ := results_rel (P := P) hS ht rfl (g := fun
      | .tmp t => pure (us.getD t undef)
      | .cell a t => do loadVar t (← asAddr (us.getD a undef))) (fun _ => rfl) (fun _ _ => rfl) _ _ _ h1 h2
  refine ⟨_, ?_, tup_rel h4⟩
  simp only [results, Sem.run_bind]
  rw [Array.mapM_eq_mapM_toList]
  simp only [Sem.run_map]
  refine (congrArg (fun x => (Result.andThen x fun a w' => Result.ok a.toArray w').andThen fun a w' => Sem.run P (pure (if h : a.size = 1 then a[0] else Value.tuple a)) w') h3).trans ?_
  rfl
end
end Go.Dm
/- The D-machine (22): functions. -/
namespace Go.Dm
set_option linter.unusedSimpArgs false
set_option linter.unusedVariables false
set_option linter.unnecessarySimpa false

section
variable {P : Program} {cfg : Cfg} {CC : Code → DC → Prop} {base : Nat} {D : DProg} {c : Cor} {h : Heap} {w : World}

/-- The body of a function, entered. -/
theorem body_sound {E : Ex} (hE : CodeOk P CC base D E) (hCC : ∀ mf code dc, compC P cfg mf code = some dc → CC code dc) (hD : ∀ f df, D.fn f = some df → compF P cfg f = some df) {f : Nat} {args : List DV} {d : DFunc} {fr : Fr} {h' : Heap}
    (he : bodyD D E f args h = some (d, fr, h')) {vargs : List Value} (hg : GlobOk D c) (ha : VRels c args vargs) (hS : Sim CC base c h w.heap) (k : Nat) :
    ∃ fn code, P.funcs[f]? = some fn ∧ (fn.name == "runtime.NumGoroutine") = false ∧ fn.body = some code ∧ compRes P fn.results.toList = some d.res ∧
      code.wpIn Fence.wide k P (fun e a' w' => (e = .normal ∨ e = .ret) ∧ ∃ c', Out CC base c h w c' h' w' ∧ FrRel c' none fr a') { tmps := vargs.toArray ++ Array.replicate (fn.ntmps - vargs.toArray.size) undef, defers := [] } w := by
  unfold bodyD at he
  split at he <;> try (cases he; done)
  rename_i d0 hd
  have hcf := hD f d0 hd
  unfold compF at hcf
  split at hcf <;> try (cases hcf; done)
  rename_i fn hfn
  split at hcf <;> try (cases hcf; done)
  rename_i hname
  split at hcf <;> try (cases hcf; done)
  rename_i code hcode
  split at hcf <;> try (cases hcf; done)
  rename_i b rs hb hrs
  cases hcf
  have hname' : (fn.name == "runtime.NumGoroutine") = false := by simpa using hname
  have hfr : FrRel c none { tmps := args ++ List.replicate (fn.ntmps - args.length) .undef, defers := [], inr := none } { tmps := vargs.toArray ++ Array.replicate (fn.ntmps - vargs.toArray.size) undef, defers := [] } := by
    refine ⟨?_, .nil, trivial⟩
    have hl := ha.length_eq
    have := ha.append (VRels.replicate (c := c) (x := .undef) (v := undef) .undef (fn.ntmps - args.length))
    rw [hl] at this
    simpa [hl] using this
  have main : ∀ x fr1 h1, E b { tmps := args ++ List.replicate (fn.ntmps - args.length) .undef, defers := [], inr := none } h = some (x, fr1, h1) → (x = .normal ∨ x = .ret) →
      code.wpIn Fence.wide k P (fun e a' w' => (e = .normal ∨ e = .ret) ∧ ∃ c', Out CC base c h w c' h1 w' ∧ FrRel c' none fr1 a') { tmps := vargs.toArray ++ Array.replicate (fn.ntmps - vargs.toArray.size) undef, defers := [] } w := by
    intro x fr1 h1 hex hx
    refine wpIn_mono (hE _ _ (hCC _ _ _ hb) _ _ _ _ _ hex none k c _ w hg hfr hS) ?_
    rintro e a' w' ⟨rfl, hrest⟩
    exact ⟨by rcases hx with rfl | rfl <;> simp [DX.exitOf], hrest⟩
  simp only at he
  split at he
  · rename_i fr1 h1 hex
    cases he
    exact ⟨fn, code, hfn, hname', hcode, hrs, main _ _ _ hex (.inl rfl)⟩
  · rename_i fr1 h1 hex
    cases he
    exact ⟨fn, code, hfn, hname', hcode, hrs, main _ _ _ hex (.inr rfl)⟩
  · cases he

theorem leaves_sound {E : Ex} (hE : CodeOk P CC base D E) (hCC : ∀ mf code dc, compC P cfg mf code = some dc → CC code dc) (hD : ∀ f df, D.fn f = some df → compF P cfg f = some df) {fn : Func} {tmps : Array Value} {R : Ending → World → Prop} (k : Nat) :
    ∀ (ds : List DDef) (vs : List Deferred) (c : Cor) (h h' : Heap) (w : World), leaveD ds h (callDef D E) = some h' → DefRel c ds vs → GlobOk D c → Sim CC base c h w.heap →
      (∀ c' w', Out CC base c h w c' h' w' → ∃ v, (results fn tmps).run P w' = .ok v w' ∧ R (.returned v) w') → LeavesInM Fence.wide k P fn tmps R vs .returning w := by
  intro ds
  induction ds with
  | nil =>
    intro vs c h h' w he hd hg hS hR
    cases hd
    simp only [leaveD] at he
    cases he
    exact hR c w (Out.refl hS)
  | cons d ds ih =>
    intro vs c h h' w he hd hg hS hR
    cases hd with
    | mark hφ hs =>
      rename_i id b o lim sz vs
      simp only [leaveD] at he
      split at he <;> try (cases he; done)
      rename_i hob
      obtain ⟨hb0, hob'⟩ := hS.objs id _ b o lim sz hob hφ
      have hblk : w.heap[b]? = some (.deferred (some [])) := hob'
      have hA := (hS.drop id).alter (H' := (w.putObj b (.deferred none)).heap) (b := b) (fun i hi => World.putObj_heap_other hi) World.putObj_size (hS.noObj_drop hob hφ) (hS.noTag_obj hob hφ) (fun j v hk => by rw [hS.sep id _ b o lim sz hob hφ] at hk; cases hk)
      have o1 : Out CC base c h w c (h.drop id) (w.putObj b (.deferred none)) := ⟨Cor.le.refl c, hA, ⟨by simp, fun i hi => World.putObj_heap_other (by omega), rfl, rfl, rfl⟩, Nat.le_refl _, fun i _ hn => ⟨hn, by simp only [Heap.drop]; exact Tr.get_set_ne _ _ (fun e => by subst e; rw [hφ] at hn; cases hn)⟩, fun _ _ hn => ⟨hn, rfl⟩⟩
      refine ⟨by simp, .inl ⟨b, _, rfl, run_takeDeferred hblk, ?_⟩⟩
      exact ih _ c _ _ _ he hs hg o1.sim fun c' w' o2 => hR c' w' (o1.trans o2)
    | call ha hs =>
      rename_i f args az cap vs
      simp only [leaveD] at he
      obtain ⟨h1, hdef, hrest⟩ := Option.bind_eq_some_iff.1 he
      unfold callDef at hdef
      split at hdef <;> try (cases hdef; done)
      rename_i d fr h2 hbody
      split at hdef <;> try (cases hdef; done)
      rename_i hdf
      split at hdef <;> try (cases hdef; done)
      rename_i rv hres
      cases hdef
      obtain ⟨gfn, code, g1, g2, g3, g4, hwp⟩ := body_sound (cfg := cfg) hE hCC hD hbody hg ha hS (k - 1)
      have hargs : (az.toList ++ cap.toList).toArray = az ++ cap := by apply Array.ext'; simp
      rw [hargs] at hwp
      refine ⟨by simp, .inr ⟨fun e => (by cases e), .func f, cap, f, az ++ cap, rfl, ?_, fun _ _ => trivial, ?_⟩⟩
      · simp only [invoke]
        exact run_callFunc _ _ g1 g2 (by rw [g3]; rfl)
      · have hcd := callsDIn_of_wp (F := Fence.wide) (n := k - 1) (P := P) (f := f) (fn := gfn) (c := code) (args := az ++ cap) (u := .returning) (w := w) (R := fun e w' => ∃ v c', e = .returned v ∧ Out CC base c h w c' h1 w') g1 g3 trivial (wpIn_mono hwp fun e a' w' hq => by
          obtain ⟨hx, c', o1, f1⟩ := hq
          have hds : a'.defers = [] := by
            have := f1.defers
            rw [hdf] at this
            generalize a'.defers = vs' at this
            cases this; rfl
          obtain ⟨u, hu, hur⟩ := results_sound (P := P) o1.sim f1.tmps g4 hres
          rcases hx with rfl | rfl
          · exact ⟨hds, u, hu, u, c', rfl, o1⟩
          · exact ⟨hds, u, hu, u, c', rfl, o1⟩)
        refine ⟨hcd.1, fun c0 cs hm hroom => ?_⟩
        obtain ⟨e, u', w', fr', ⟨rfl, v, c', rfl, o1⟩, hrest2⟩ := hcd.2 c0 cs hm hroom
        exact ⟨_, _, w', fr', ih _ c' _ _ _ hrest (hs.mono o1.le) (hg.mono o1.le) o1.sim fun c2 w2 o2 => hR c2 w2 (o1.trans o2), hrest2⟩

theorem call_sound {E : Ex} (hE : CodeOk P CC base D E) (hCC : ∀ mf code dc, compC P cfg mf code = some dc → CC code dc) (hD : ∀ f df, D.fn f = some df → compF P cfg f = some df)
    (hprim : CallOk P CC base D (fun f args h => (D.prim f).bind fun p => p args h)) : CallOk P CC base D (callD D E) := by
  intro f args h v h' he k c w vargs hg ha hS
  unfold callD at he
  split at he
  · rename_i p hp
    exact hprim f args h v h' (by simp [hp, he]) k c w vargs hg ha hS
  · split at he <;> try (cases he; done)
    rename_i d fr h1 hbody
    split at he <;> try (cases he; done)
    rename_i h'' hleave
    obtain ⟨vs, hvs, hv⟩ := Option.map_eq_some_iff.1 he
    cases hv
    obtain ⟨fn, code, g1, g2, g3, g4, hwp⟩ := body_sound (cfg := cfg) hE hCC hD hbody hg ha hS k
    refine ⟨fn, g1, g2, by rw [g3]; rfl, callsIn_of_wp_marks (F := Fence.wide) g1 g3 trivial (wpIn_mono hwp fun e a' w' hq => ?_)⟩
    obtain ⟨hx, c', o1, f1⟩ := hq
    have hl : LeavesInM Fence.wide k P fn a'.tmps (RetOk CC base c h w (tupD vs) h') a'.defers .returning w' := by
      refine leaves_sound (cfg := cfg) hE hCC hD k _ _ c' _ _ _ hleave f1.defers (hg.mono o1.le) o1.sim fun c2 w2 o2 => ?_
      obtain ⟨u, hu, hur⟩ := results_sound (P := P) o2.sim (f1.tmps.mono o2.le) g4 hvs
      exact ⟨u, hu, u, c2, rfl, o1.trans o2, hur⟩
    rcases hx with rfl | rfl
    · exact hl
    · exact hl
end
end Go.Dm
/- The D-machine (23): regions: the list of their operations, in order or in our order. -/
namespace Go.Dm
set_option linter.unusedSimpArgs false
set_option linter.unusedVariables false
set_option linter.unnecessarySimpa false

section
variable {P : Program} {cfg : Cfg} {mf : Bool} {CC : Code → DC → Prop} {base : Nat} {D : DProg} {c : Cor} {h : Heap} {w : World}

theorem rop_some {ops : Array Oper} {o : Oper} {ro : ROp} (hc : compRop P cfg mf ops o = some ro) : compOp P cfg mf o.op = some ro.op ∧ ro.dst = o.dst ∧ ro.chk = [] ∧
    ((o.guard = none ∧ ro.guard = none) ∨ ∃ j b d, o.guard = some (j, b) ∧ ro.guard = some (d, b) ∧ (ops[j]?).bind (·.dst) = some d) := by
  unfold compRop at hc
  split at hc <;> try (cases hc; done)
  rename_i op hop
  split at hc
  · rename_i hg
    cases hc
    exact ⟨hop, rfl, rfl, .inl ⟨hg, rfl⟩⟩
  · rename_i j b hg
    split at hc <;> try (cases hc; done)
    rename_i d hd
    cases hc
    exact ⟨hop, rfl, rfl, .inr ⟨j, b, d, hg, rfl, hd⟩⟩
theorem wanted_rel {ops : Array Oper} {o : Oper} {ro : ROp} (hc : compRop P cfg mf ops o = some ro) {fr : Fr} {a : Act} (hf : VRels c fr.tmps a.tmps.toList) : Region.wanted o (yielded ops a.tmps) = wantedG ro.guard fr := by
  rcases (rop_some hc).2.2.2 with ⟨h1, h2⟩ | ⟨j, b, d, h1, h2, h3⟩
  · simp [Region.wanted, wantedG, h1, h2]
  · simp only [Region.wanted, wantedG, h1, h2, yielded, h3, Option.bind_some]
    cases hx : fr.tmps[d]? with
    | none =>
      have : a.tmps[d]? = none := by
        have h4 := hf.length_eq
        simp at hx h4 ⊢; omega
      rw [this, List.getD_eq_getElem?_getD, hx]
      simp
    | some x =>
      obtain ⟨v, h4, h5⟩ := hf.get d hx
      have h6 : a.tmps[d]? = some v := by simpa using h4
      rw [h6, List.getD_eq_getElem?_getD, hx]
      simp only [Option.getD_some]
      cases h5 <;> simp

/-- **A region in the order of its text.** -/
theorem seq_sound {E : Ex} (hCall : CallOk P CC base D (callD D E)) (hCode : CodeOk P CC base D E) {ops : Array Oper} {r : Option Nat} {k : Nat} {fr' : Fr} {h' : Heap} {Q : Exit → Act → World → Prop} :
    ∀ (l : List Oper) (rs : List ROp) (c : Cor) (fr : Fr) (h : Heap) (a : Act) (w : World), compRops P cfg mf ops l = some rs → runOps D E rs fr h = some (fr', h') → GlobOk D c → FrRel c r fr a → Sim CC base c h w.heap →
      (∀ a' w' c', Out CC base c h w c' h' w' → FrRel c' r fr' a' → Q .normal a' w') → wpListIn (FF r) k P ops Q l a w := by
  intro l
  induction l with
  | nil =>
    intro rs c fr h a w hc he hg hfr hS hQ
    simp [compRops] at hc; subst hc
    simp [runOps] at he
    obtain ⟨rfl, rfl⟩ := he
    exact hQ a w c (Out.refl hS) hfr
  | cons o l ih =>
    intro rs c fr h a w hc he hg hfr hS hQ
    simp only [compRops] at hc
    split at hc <;> try (cases hc; done)
    rename_i ro ros h1 h2
    cases hc
    obtain ⟨q1, q2, q3, _⟩ := rop_some h1
    simp only [wpListIn]
    rw [wanted_rel h1 hfr.tmps, show wantedG ro.guard fr = wantedD ro fr from rfl]
    simp only [runOps] at he
    split at he
    · rename_i hw
      rw [if_pos hw]
      split at he <;> try (cases he; done)
      rename_i fr1 hh1 hop
      split at he
      case isFalse => cases he
      exact op_sound hCall hCode q1 q2 hop hg hfr hS fun a' w' c' o1 f1 => ih ros c' fr1 hh1 a' w' h2 he (hg.mono o1.le) f1 o1.sim fun a2 w2 c2 o2 f2 => hQ a2 w2 c2 (o1.trans o2) f2
    · rename_i hw
      rw [if_neg hw, ← q2]
      exact ⟨fun _ _ => trivial, ih ros c _ h _ w h2 he hg (hfr.put _ .undef) hS hQ⟩

/-! ### an operation looks at its operands alone -/
theorem evs_congr {fr fr2 : Fr} : ∀ {xs : List Opd}, (∀ x ∈ xs, ev D fr x = ev D fr2 x) → evs D fr xs = evs D fr2 xs
  | [], _ => rfl
  | x :: xs, h => by
    simp only [evs, List.map_cons]
    rw [h x (by simp)]
    have := evs_congr (xs := xs) fun y hy => h y (by simp [hy])
    simp only [evs] at this
    rw [this]
theorem evO_congr {fr fr2 : Fr} {x : Option Opd} (h : ∀ y ∈ x.toList, ev D fr y = ev D fr2 y) : evO D fr x = evO D fr2 x := by
  cases x with
  | none => rfl
  | some y => simp [evO, h y (by simp)]
theorem evalOp_congr {fr fr2 : Fr} (d : DOp) (h1 : ∀ x ∈ d.opds, ev D fr x = ev D fr2 x) (h2 : fr.inr = fr2.inr) : evalOp D fr h d = evalOp D fr2 h d := by
  cases d
  case build zero ps =>
    have e : ps.map (fun p => (p.1, p.2.1, ev D fr p.2.2)) = ps.map fun p => (p.1, p.2.1, ev D fr2 p.2.2) := List.map_congr_left fun p hp => by
      rw [h1 p.2.2 (by simp only [DOp.opds, List.mem_map]; exact ⟨p, hp, rfl⟩)]
    simp only [evalOp, e]
  case mks mu sh zero len ps =>
    have e1 : ∀ p ∈ ps, ev D fr p.2 = ev D fr2 p.2 := fun p hp => h1 p.2 (by simp only [DOp.opds, List.mem_map]; exact ⟨p, hp, rfl⟩)
    have e : ps.map (fun p => (p.1, ev D fr p.2)) = ps.map fun p => (p.1, ev D fr2 p.2) := List.map_congr_left fun p hp => by rw [e1 p hp]
    have e2 : (∀ p ∈ ps, p.1 < len ∧ (ev D fr p.2).cells.length = sh.size ∧ (ev D fr p.2).okv = true) ↔ ∀ p ∈ ps, p.1 < len ∧ (ev D fr2 p.2).cells.length = sh.size ∧ (ev D fr2 p.2).okv = true := by
      constructor <;> intro hh p hp <;> have := hh p hp
      · rwa [e1 p hp] at this
      · rwa [← e1 p hp] at this
    simp only [evalOp, e, e2]
  case call f xs z =>
    have e1 := h1 f (by simp [DOp.opds])
    have e2 := evs_congr (D := D) (xs := xs) fun x hx => h1 x (by simp [DOp.opds, hx])
    simp only [evalOp, e1, e2]
  case defr f xs =>
    have e1 := h1 f (by simp [DOp.opds])
    have e2 := evs_congr (D := D) (xs := xs) fun x hx => h1 x (by simp [DOp.opds, hx])
    simp only [evalOp, e1, e2, h2]
  case mkfn f a b =>
    have e1 := evs_congr (D := D) (xs := a) fun x hx => h1 x (by simp [DOp.opds, hx])
    have e2 := evs_congr (D := D) (xs := b) fun x hx => h1 x (by simp [DOp.opds, hx])
    simp only [evalOp, e1, e2]
  case sliceStr x lo hi =>
    have e1 := h1 x (by simp [DOp.opds])
    have e2 := evO_congr (D := D) (x := lo) fun y hy => h1 y (by simp only [DOp.opds, List.mem_append, List.mem_cons]; exact .inl (.inr hy))
    have e3 := evO_congr (D := D) (x := hi) fun y hy => h1 y (by simp only [DOp.opds, List.mem_append, List.mem_cons]; exact .inr hy)
    simp only [evalOp, e1, e2, e3]
  case slice sz x lo hi mx =>
    have e1 := h1 x (by simp [DOp.opds])
    have e2 := evO_congr (D := D) (x := lo) fun y hy => h1 y (by simp only [DOp.opds, List.mem_append, List.mem_cons]; exact .inl (.inl (.inr hy)))
    have e3 := evO_congr (D := D) (x := hi) fun y hy => h1 y (by simp only [DOp.opds, List.mem_append, List.mem_cons]; exact .inl (.inr hy))
    have e4 := evO_congr (D := D) (x := mx) fun y hy => h1 y (by simp only [DOp.opds, List.mem_append, List.mem_cons]; exact .inr hy)
    simp only [evalOp, e1, e2, e3, e4]
  all_goals simp only [DOp.opds, List.mem_cons, List.not_mem_nil, or_false, forall_eq_or_imp, forall_eq] at h1
  all_goals simp only [evalOp]
  all_goals simp only [h1]
theorem ev_congr {fr fr2 : Fr} {x : Opd} (h1 : ∀ t, x.slot? = some t → fr.tmps.getD t .undef = fr2.tmps.getD t .undef) : ev D fr x = ev D fr2 x := by
  cases x <;> simp only [ev]
  exact h1 _ rfl
/-- Two frames alike where an operation looks. -/
def Alike (ro : ROp) (fr fr2 : Fr) : Prop := ∀ t ∈ ro.slots, fr.tmps.getD t .undef = fr2.tmps.getD t .undef
theorem Alike.opds {ro : ROp} {fr fr2 : Fr} (ha : Alike ro fr fr2) : ∀ x ∈ ro.op.opds, ev D fr x = ev D fr2 x := fun x hx => ev_congr fun t ht => ha t (by
  simp only [ROp.slots, List.mem_append, List.mem_filterMap]
  exact .inl (.inr ⟨x, hx, ht⟩))
theorem Alike.evalOp {ro : ROp} {fr fr2 : Fr} (ha : Alike ro fr fr2) (hi : fr.inr = fr2.inr) : evalOp D fr h ro.op = Dm.evalOp D fr2 h ro.op := evalOp_congr _ ha.opds hi
theorem Alike.wanted {ro : ROp} {fr fr2 : Fr} (ha : Alike ro fr fr2) : wantedG ro.guard fr = wantedG ro.guard fr2 := by
  cases hg : ro.guard with
  | none => rfl
  | some g =>
    obtain ⟨t, b⟩ := g
    have := ha t (by simp [ROp.slots, hg])
    simp only [wantedG, this]
theorem isDefr_not {ro : ROp} (hnd : isDefr ro = false) : ∀ f az, ro.op ≠ .defr f az := fun f az e => by simp [isDefr, e] at hnd
theorem runOp_congr {E : Ex} {ro : ROp} {fr fr2 fr' : Fr} {h' : Heap} (ha : Alike ro fr fr2) (hi : fr.inr = fr2.inr) (hnd : isDefr ro = false) (he : runOp D E ro fr h = some (fr', h')) :
    ∃ v, fr' = fr.put ro.dst v ∧ runOp D E ro fr2 h = some (fr2.put ro.dst v, h') := by
  unfold runOp at he ⊢
  rw [← ha.evalOp (D := D) (h := h) hi]
  cases hev : Dm.evalOp D fr h ro.op with
  | none => rw [hev] at he; cases he
  | some r0 =>
    rw [hev] at he
    rcases evalOp_cases hev with ⟨v, h1, hst⟩ | ⟨g, az, z, f, xs, rfl, hop, hcv⟩ | ⟨l, az, z, f, xs, rfl, hop, hcv⟩ | ⟨g, az, f, xs, rfl, hop⟩
    · cases r0 <;> simp only [stepEv] at hst <;> cases hst <;> cases he <;> exact ⟨_, rfl, rfl⟩
    · simp only at he ⊢
      split at he <;> try (cases he; done)
      rename_i v h1 hcall
      split at he
      · rename_i hz
        obtain ⟨⟨v2, h2⟩, hfz, he2⟩ := Option.map_eq_some_iff.1 he
        cases he2
        rw [if_pos hz, hfz]
        exact ⟨v2, rfl, rfl⟩
      · rename_i hz
        cases he
        rw [if_neg hz]
        exact ⟨v, rfl, rfl⟩
    · simp only at he ⊢
      obtain ⟨⟨v, h1⟩, hy, he2⟩ := Option.map_eq_some_iff.1 he
      cases he2
      rw [hy]
      exact ⟨v, rfl, rfl⟩
    · exact absurd hop (isDefr_not hnd f xs)

/-! ### a run, step by step -/
def StepAt (D : DProg) (E : Ex) (ro : ROp) (fr : Fr) (h : Heap) (fr' : Fr) (h' : Heap) : Prop :=
  (wantedG ro.guard fr = true ∧ runOp D E ro fr h = some (fr', h') ∧ chkOk D fr' h' ro.chk = true) ∨ (wantedG ro.guard fr = false ∧ fr' = fr.put ro.dst .undef ∧ h' = h)
theorem trace_of {E : Ex} : ∀ (rs : List ROp) (fr : Fr) (h : Heap) (fr' : Fr) (h' : Heap), runOps D E rs fr h = some (fr', h') →
    ∃ (F : Nat → Fr) (H : Nat → Heap), F 0 = fr ∧ H 0 = h ∧ F rs.length = fr' ∧ H rs.length = h' ∧ ∀ k ro, rs[k]? = some ro → StepAt D E ro (F k) (H k) (F (k + 1)) (H (k + 1))
  | [], fr, h, fr', h', he => by
    simp [runOps] at he
    obtain ⟨rfl, rfl⟩ := he
    exact ⟨fun _ => fr, fun _ => h, rfl, rfl, rfl, rfl, by simp⟩
  | o :: rs, fr, h, fr', h', he => by
    simp only [runOps] at he
    have key : ∀ fr1 h1, StepAt D E o fr h fr1 h1 → runOps D E rs fr1 h1 = some (fr', h') → ∃ (F : Nat → Fr) (H : Nat → Heap), F 0 = fr ∧ H 0 = h ∧ F (o :: rs).length = fr' ∧ H (o :: rs).length = h' ∧ ∀ k ro, (o :: rs)[k]? = some ro → StepAt D E ro (F k) (H k) (F (k + 1)) (H (k + 1)) := by
      intro fr1 h1 hst hrest
      obtain ⟨F, H, f0, h0, fm, hm, hs⟩ := trace_of rs fr1 h1 fr' h' hrest
      refine ⟨fun | 0 => fr | k + 1 => F k, fun | 0 => h | k + 1 => H k, rfl, rfl, fm, hm, fun k ro hk => ?_⟩
      cases k with
      | zero =>
        simp at hk; subst hk
        simp only [f0, h0]
        exact hst
      | succ k => exact hs k ro (by simpa using hk)
    split at he
    · rename_i hw
      split at he <;> try (cases he; done)
      rename_i fr1 h1 hop
      split at he
      case isFalse => cases he
      rename_i hck
      exact key fr1 h1 (.inl ⟨hw, hop, hck⟩) he
    · rename_i hw
      exact key _ h (.inr ⟨by simpa [wantedD] using hw, rfl, rfl⟩) he
end
end Go.Dm
/- The D-machine (24): what is known of a region in our order. -/
namespace Go.Dm
set_option linter.unusedSimpArgs false
set_option linter.unusedVariables false
set_option linter.unnecessarySimpa false

section
variable {P : Program} {cfg : Cfg} {mf : Bool}

theorem compRops_spec {ops : Array Oper} : ∀ (l : List Oper) (rs : List ROp), compRops P cfg mf ops l = some rs → rs.length = l.length ∧ ∀ (j : Nat) (ro : ROp), rs[j]? = some ro → ∃ o, l[j]? = some o ∧ compRop P cfg mf ops o = some ro
  | [], rs, h => by simp [compRops] at h; subst h; simp
  | o :: l, rs, h => by
    simp only [compRops] at h
    split at h <;> try (cases h; done)
    rename_i ro ros h1 h2
    cases h
    obtain ⟨h3, h4⟩ := compRops_spec l ros h2
    refine ⟨by simp [h3], fun j r hj => ?_⟩
    cases j with
    | zero => simp at hj; subst hj; exact ⟨o, rfl, h1⟩
    | succ j => simpa using h4 j r (by simpa using hj)

/-! ### the program's order, closed -/
def befG (acc : Array Nat) (o : Oper) : Nat := o.after.foldl (fun s e => if Region.binds .any e then s ||| 2 ^ e.on ||| acc.getD e.on 0 else s) 0
theorem befG_bit (acc : Array Nat) (i : Nat) : ∀ (es : List Edge) (s : Nat), (es.foldl (fun s e => if Region.binds .any e then s ||| 2 ^ e.on ||| acc.getD e.on 0 else s) s).testBit i = true →
    s.testBit i = true ∨ ∃ e ∈ es, Region.binds .any e = true ∧ (i = e.on ∨ (acc.getD e.on 0).testBit i = true)
  | [], s, h => .inl h
  | e :: es, s, h => by
    simp only [List.foldl_cons] at h
    rcases befG_bit acc i es _ h with h1 | ⟨e', he', h2⟩
    · split at h1
      · rename_i hb
        simp only [Nat.testBit_or, Bool.or_eq_true, Nat.testBit_two_pow, decide_eq_true_eq] at h1
        rcases h1 with (h1 | h1) | h1
        · exact .inl h1
        · exact .inr ⟨e, by simp, hb, .inl h1.symm⟩
        · exact .inr ⟨e, by simp, hb, .inr h1⟩
      · exact .inl h1
    · exact .inr ⟨e', by simp [he'], h2⟩
theorem befFold (l : List Oper) : ∀ (acc : Array Nat), (∀ j, j < acc.size → True) → (l.foldl (fun acc o => acc.push (befG acc o)) acc).size = acc.size + l.length ∧ (∀ j, j < acc.size → (l.foldl (fun acc o => acc.push (befG acc o)) acc)[j]? = acc[j]?) ∧
    ∀ (j : Nat) (o : Oper), l[j]? = some o → ∃ pre : Array Nat, pre.size = acc.size + j ∧ (∀ i, i < pre.size → (l.foldl (fun acc o => acc.push (befG acc o)) acc)[i]? = pre[i]?) ∧ (l.foldl (fun acc o => acc.push (befG acc o)) acc)[acc.size + j]? = some (befG pre o) := by
  induction l with
  | nil => intro acc _; simp
  | cons o l ih =>
    intro acc hacc
    obtain ⟨h1, h2, h3⟩ := ih (acc.push (befG acc o)) fun _ _ => trivial
    simp only [List.foldl_cons]
    refine ⟨by rw [h1]; simp; omega, fun j hj => ?_, fun j o' hj => ?_⟩
    · rw [h2 j (by simp; omega), Array.getElem?_push]
      simp [Nat.ne_of_lt hj]
    · cases j with
      | zero =>
        simp at hj; subst hj
        refine ⟨acc, rfl, fun i hi => ?_, ?_⟩
        · rw [h2 i (by simp; omega), Array.getElem?_push]
          simp [Nat.ne_of_lt hi]
        · rw [Nat.add_zero, h2 acc.size (by simp)]
          simp
      | succ j =>
        obtain ⟨pre, p1, p2, p3⟩ := h3 j o' (by simpa using hj)
        refine ⟨pre, by rw [p1]; simp; omega, p2, ?_⟩
        rw [show acc.size + (j + 1) = (acc.push (befG acc o)).size + j by simp; omega]
        exact p3
theorem before_spec (ops : Array Oper) (j : Nat) (o : Oper) (hj : ops[j]? = some o) (hed : ∀ e ∈ o.after, Region.binds .any e = true → e.on < j) (i : Nat) (hi : ordered (Region.before ops) i j = true) :
    ∃ e ∈ o.after, Region.binds .any e = true ∧ (i = e.on ∨ ordered (Region.before ops) i e.on = true) := by
  have hB : Region.before ops = ops.toList.foldl (fun acc o => acc.push (befG acc o)) #[] := by
    unfold Region.before
    rw [← Array.foldl_toList]
    rfl
  obtain ⟨_, _, h3⟩ := befFold ops.toList #[] fun _ _ => trivial
  obtain ⟨pre, p1, p2, p3⟩ := h3 j o (by simpa using hj)
  rw [← hB] at p2 p3
  simp only [Array.size_empty, Nat.zero_add] at p1 p3
  have hbit : (befG pre o).testBit i = true := by
    unfold ordered at hi
    rw [Array.getD_eq_getD_getElem?, p3] at hi
    exact hi
  unfold befG at hbit
  rw [← Array.foldl_toList] at hbit
  rcases befG_bit pre i _ _ hbit with h | ⟨e, he, hb, h⟩
  · simp at h
  · refine ⟨e, by simpa using he, hb, ?_⟩
    rcases h with h | h
    · exact .inl h
    · right
      have hlt := hed e (by simpa using he) hb
      unfold ordered
      rw [Array.getD_eq_getD_getElem?, p2 e.on (by omega), ← Array.getD_eq_getD_getElem?]
      exact h
theorem edgesOk_spec {ops : Array Oper} (h : edgesOk ops = true) (j : Nat) (o : Oper) (hj : ops[j]? = some o) (e : Edge) (he : e ∈ o.after) (hb : Region.binds .any e = true) : e.on < j := by
  unfold edgesOk at h
  rw [List.all_eq_true] at h
  have := h (o, j) (by
    rw [List.mem_zipIdx_iff_getElem?]
    simpa using hj)
  simp only [Array.all_eq_true_iff_forall_mem] at this
  have := this e he
  simpa [hb] using this

/-! ### what is laid -/
theorem lay_spec {ra : Array ROp} {bef : Array Nat} : ∀ (κ done : List Nat) (rops : List ROp), lay ra bef done κ = some rops → rops.length = κ.length ∧
    ∀ (k j : Nat), κ[k]? = some j → ∃ ro x, ra[j]? = some ro ∧ rops[k]? = some { ro with chk := x } ∧ (ro.op.effect = true → chkOf ra bef j ro.dst.toList ((κ.take k).reverse ++ done) = some x)
  | [], done, rops, h => by simp [lay] at h; subst h; simp
  | i :: κ, done, rops, h => by
    simp only [lay] at h
    split at h <;> try (cases h; done)
    rename_i ro hro
    split at h <;> try (cases h; done)
    rename_i x os hx hos
    cases h
    obtain ⟨h1, h2⟩ := lay_spec κ (i :: done) os hos
    refine ⟨by simp [h1], fun k j hk => ?_⟩
    cases k with
    | zero =>
      simp at hk; subst hk
      refine ⟨ro, x, hro, rfl, fun heff => ?_⟩
      rw [if_pos heff] at hx
      simpa using hx
    | succ k =>
      obtain ⟨ro', x', a1, a2, a3⟩ := h2 k j (by simpa using hk)
      exact ⟨ro', x', a1, by simpa using a2, fun heff => by simpa using a3 heff⟩
theorem chkOf_spec {ra : Array ROp} {bef : Array Nat} {j : Nat} : ∀ (l ws : List Nat) (x : List (Opd × Shape × Nat × Option (Nat × Bool))), chkOf ra bef j ws l = some x → ∀ (n i : Nat) (a : ROp) (e : Opd × Shape × Nat × Option (Nat × Bool)), l[n]? = some i → ra[i]? = some a → a.load? = some e →
    ordered bef i j = true ∨ (e ∈ x ∧ (∀ t ∈ ws, t ∉ a.slots) ∧ ∀ (n' i' : Nat) (a' : ROp), n' < n → l[n']? = some i' → ra[i']? = some a' → ∀ t, a'.dst = some t → t ∉ a.slots)
  | [], ws, x, h, n, i, a, e, hn, _, _ => by simp at hn
  | i0 :: l, ws, x, h, n, i, a, e, hn, ha, he => by
    simp only [chkOf] at h
    split at h <;> try (cases h; done)
    rename_i a0 ha0
    split at h <;> try (cases h; done)
    rename_i x0 hx0
    have hsub : ∀ y ∈ x0, y ∈ x := by
      split at h
      · split at h
        · cases h; exact fun y hy => hy
        · split at h <;> cases h
          exact fun y hy => by simp [hy]
      · cases h; exact fun y hy => hy
    cases n with
    | zero =>
      simp at hn; subst hn
      rw [ha0] at ha; cases ha
      rw [he] at h
      simp only at h
      split at h
      · exact .inl ‹_›
      · split at h
        · cases h
        · rename_i hno
          cases h
          right
          refine ⟨by simp, fun t ht hts => ?_, fun n' _ _ hn' => absurd hn' (Nat.not_lt_zero _)⟩
          apply hno
          rw [List.any_eq_true]
          exact ⟨t, ht, by simpa using hts⟩
    | succ n =>
      rcases chkOf_spec l _ x0 hx0 n i a e (by simpa using hn) ha he with h1 | ⟨h1, h2, h3⟩
      · exact .inl h1
      · right
        refine ⟨hsub _ h1, fun t ht => h2 t (by simp [ht]), fun n' i' a' hn' hi' ha' t ht => ?_⟩
        cases n' with
        | zero =>
          simp at hi'; subst hi'
          rw [ha0] at ha'; cases ha'
          exact h2 t (by simp [ht])
        | succ n' => exact h3 n' i' a' (by omega) (by simpa using hi') ha' t ht
theorem pairsOk_spec {ra : Array ROp} {bef : Array Nat} : ∀ (κ : List Nat), pairsOk ra bef κ = true → ∀ (i k a b : Nat), i < k → κ[i]? = some a → κ[k]? = some b → pairOk ra bef a b = true
  | [], _, i, k, a, b, _, h1, _ => by simp at h1
  | x :: κ, h, i, k, a, b, hik, h1, h2 => by
    simp only [pairsOk, Bool.and_eq_true, List.all_eq_true] at h
    cases k with
    | zero => omega
    | succ k =>
      cases i with
      | zero =>
        simp at h1; subst h1
        exact h.1 b (List.mem_of_getElem? (by simpa using h2))
      | succ i => exact pairsOk_spec κ h.2 i k a b (by omega) (by simpa using h1) (by simpa using h2)

variable {D : DProg} {E : Ex}
/-- All that is known of a region's operations in our order, and of their run. -/
structure Plan (P : Program) (cfg : Cfg) (mf : Bool) (D : DProg) (E : Ex) (ops : Array Oper) (bef : Array Nat) (κ : List Nat) (rops : List ROp) (F : Nat → Fr) (H : Nat → Heap) : Prop where
  κl : κ.length = ops.size
  κs : ∀ (k j : Nat), κ[k]? = some j → j < ops.size
  κi : ∀ (k k' j : Nat), κ[k]? = some j → κ[k']? = some j → k = k'
  κe : ∀ (j : Nat), j < ops.size → ∃ k : Nat, κ[k]? = some j
  rl : rops.length = κ.length
  op : ∀ (k j : Nat), κ[k]? = some j → ∃ ro o, rops[k]? = some ro ∧ ops[j]? = some o ∧ compOp P cfg mf o.op = some ro.op ∧ ro.dst = o.dst ∧ isDefr ro = false ∧ loadOk ro = true ∧
    ∀ (c : Cor) (fr : Fr) (a : Act), VRels c fr.tmps a.tmps.toList → Region.wanted o (yielded ops a.tmps) = wantedG ro.guard fr
  /-- what must come ahead -/
  ord : ∀ (i k a b : Nat) (ri rk : ROp), i < k → κ[i]? = some a → κ[k]? = some b → rops[i]? = some ri → rops[k]? = some rk → ordered bef b a = false ∧ ((ri.op.effect = true ∨ (∃ t, ri.dst = some t ∧ t ∈ rk.slots) ∨ ∃ t, rk.dst = some t ∧ t ∈ ri.slots) → ordered bef a b = true)
  ready : ∀ (j : Nat) (o : Oper) (i : Nat), ops[j]? = some o → ordered bef i j = true → ∃ e ∈ o.after, Region.binds .any e = true ∧ (i = e.on ∨ ordered bef i e.on = true)
  edge : ∀ (j : Nat) (o : Oper) (e : Edge), ops[j]? = some o → e ∈ o.after → Region.binds .any e = true → e.on < j
  chk : ∀ (i k a b : Nat) (ri rk : ROp) (e : Opd × Shape × Nat × Option (Nat × Bool)), i < k → κ[i]? = some a → κ[k]? = some b → rops[i]? = some ri → rops[k]? = some rk → rk.op.effect = true → ri.load? = some e →
    ordered bef a b = true ∨ (e ∈ rk.chk ∧ ∀ (l : Nat) (rl : ROp) (t : Nat), i < l → l ≤ k → rops[l]? = some rl → rl.dst = some t → t ∉ ri.slots)
  step : ∀ (k : Nat) (ro : ROp), rops[k]? = some ro → StepAt D E ro (F k) (H k) (F (k + 1)) (H (k + 1))

theorem plan_of {ops : Array Oper} {rops : List ROp} (hc : compRegion P cfg mf ops true = some rops) {fr fr' : Fr} {h h' : Heap} (he : runOps D E rops fr h = some (fr', h')) :
    ∃ (κ : List Nat) (F : Nat → Fr) (H : Nat → Heap), F 0 = fr ∧ H 0 = h ∧ F ops.size = fr' ∧ H ops.size = h' ∧ Plan P cfg mf D E ops (Region.before ops) κ rops F H := by
  unfold compRegion at hc
  split at hc <;> try (cases hc; done)
  rename_i rs hrs
  simp only [Bool.true_eq_false, if_false] at hc
  split at hc
  case isFalse => cases hc
  rename_i hcond
  obtain ⟨c1, c2, c3, c4, c5, c6, c7⟩ := hcond
  obtain ⟨s1, s2⟩ := compRops_spec _ _ hrs
  obtain ⟨l1, l2⟩ := lay_spec _ _ _ hc
  generalize canonGo ops (effAt rs.toArray) ops.size [] = κ at *
  obtain ⟨F, H, f0, h0, fm, hm, hstep⟩ := trace_of rops fr h fr' h' he
  rw [List.all_eq_true] at c2 c3 c7
  have hκ : ∀ (k j : Nat), κ[k]? = some j → ∃ ro0 x o, rs[j]? = some ro0 ∧ rops[k]? = some { ro0 with chk := x } ∧ ops[j]? = some o ∧ compRop P cfg mf ops o = some ro0 ∧ (ro0.op.effect = true → chkOf rs.toArray (Region.before ops) j ro0.dst.toList (κ.take k).reverse = some x) := by
    intro k j hk
    obtain ⟨ro0, x, a1, a2, a3⟩ := l2 k j hk
    have a1' : rs[j]? = some ro0 := by simpa using a1
    obtain ⟨o, b1, b2⟩ := s2 j ro0 a1'
    exact ⟨ro0, x, o, a1', a2, by simpa using b1, b2, fun heff => by simpa using a3 heff⟩
  refine ⟨κ, F, H, f0, h0, by rw [← fm, l1, c1], by rw [← hm, l1, c1], ?_⟩
  refine { κl := c1, κs := ?_, κi := ?_, κe := ?_, rl := l1, op := ?_, ord := ?_, ready := ?_, edge := ?_, chk := ?_, step := hstep }
  · intro k j hk
    simpa using c2 j (List.mem_of_getElem? hk)
  · intro k k' j hk hk'
    obtain ⟨q1, q2⟩ := List.getElem?_eq_some_iff.1 hk
    obtain ⟨q3, q4⟩ := List.getElem?_eq_some_iff.1 hk'
    have hp := List.pairwise_iff_getElem.1 c4
    rcases Nat.lt_trichotomy k k' with hlt | heq | hgt
    · exact absurd (q2.trans q4.symm) (hp k k' q1 q3 hlt)
    · exact heq
    · exact absurd (q4.trans q2.symm) (hp k' k q3 q1 hgt)
  · intro j hj
    have := c3 j (by simpa using hj)
    simp only [List.contains_eq_mem, decide_eq_true_eq] at this
    obtain ⟨k, hk⟩ := List.mem_iff_getElem?.1 this
    exact ⟨k, hk⟩
  · intro k j hk
    obtain ⟨ro0, x, o, a1, a2, a3, a4, a5⟩ := hκ k j hk
    obtain ⟨q1, q2, q3, q4⟩ := rop_some a4
    have hcl := c7 ro0 (List.mem_of_getElem? a1)
    simp only [Bool.and_eq_true, Bool.not_eq_true'] at hcl
    exact ⟨_, o, a2, a3, q1, q2, hcl.1, hcl.2, fun c fr a hv => wanted_rel a4 hv⟩
  · intro i k a b ri rk hik hi hk hri hrk
    obtain ⟨ro1, x1, o1, a1, a2, a3, a4, a5⟩ := hκ i a hi
    obtain ⟨ro2, x2, o2, b1, b2, b3, b4, b5⟩ := hκ k b hk
    rw [hri] at a2; cases a2
    rw [hrk] at b2; cases b2
    have hp := pairsOk_spec _ c5 i k a b hik hi hk
    have a1' : rs.toArray[a]? = some ro1 := by simpa using a1
    have b1' : rs.toArray[b]? = some ro2 := by simpa using b1
    simp only [pairOk, a1', b1', Bool.and_eq_true, Bool.not_eq_true', Bool.or_eq_true] at hp
    refine ⟨hp.1, fun hh => ?_⟩
    rcases hp.2 with h1 | h1
    · exfalso
      have h1' : (ro1.op.effect || slotConf ro1 ro2) = false := h1
      simp only [Bool.or_eq_false_iff, slotConf] at h1'
      obtain ⟨h2, h3, h4⟩ := h1'
      rcases hh with hh | ⟨t, ht, hts⟩ | ⟨t, ht, hts⟩
      · have : ro1.op.effect = true := hh
        rw [h2] at this; cases this
      · have ht' : ro1.dst = some t := ht
        rw [ht'] at h3
        simp only [writesIn, List.contains_eq_mem, decide_eq_false_iff_not] at h3
        exact h3 hts
      · have ht' : ro2.dst = some t := ht
        rw [ht'] at h4
        simp only [writesIn, List.contains_eq_mem, decide_eq_false_iff_not] at h4
        exact h4 hts
    · exact h1
  · intro j o i hj hi
    exact before_spec ops j o hj (fun e he hb => edgesOk_spec c6 j o hj e he hb) i hi
  · intro j o e hj he hb
    exact edgesOk_spec c6 j o hj e he hb
  · intro i k a b ri rk e hik hi hk hri hrk heff hload
    obtain ⟨ro1, x1, o1, a1, a2, a3, a4, a5⟩ := hκ i a hi
    obtain ⟨ro2, x2, o2, b1, b2, b3, b4, b5⟩ := hκ k b hk
    rw [hri] at a2; cases a2
    rw [hrk] at b2; cases b2
    have hki := (List.getElem?_eq_some_iff.1 hi).1
    have hkl := (List.getElem?_eq_some_iff.1 hk).1
    have hrev : ∀ l : Nat, l < k → (κ.take k).reverse[k - 1 - l]? = κ[l]? := fun l hl => by
      rw [List.getElem?_reverse (by simp; omega)]
      have : (κ.take k).length - 1 - (k - 1 - l) = l := by simp; omega
      rw [this, List.getElem?_take, if_pos hl]
    rcases chkOf_spec _ _ _ (b5 heff) (k - 1 - i) a ro1 e (by rw [hrev i hik]; exact hi) (by simpa using a1) hload with h1 | ⟨h1, h2, h3⟩
    · exact .inl h1
    · refine .inr ⟨h1, fun l rl t hil hlk hrl ht => ?_⟩
      by_cases hlk' : l = k
      · subst hlk'
        rw [hrk] at hrl; cases hrl
        have ht' : ro2.dst = some t := ht
        exact h2 t (by simp [ht'])
      · have hll : l < κ.length := by omega
        obtain ⟨ro3, x3, o3, d1, d2, d3, d4, d5⟩ := hκ l κ[l] (List.getElem?_eq_getElem hll)
        rw [hrl] at d2; cases d2
        exact h3 (k - 1 - l) κ[l] ro3 (by omega) (by rw [hrev l (by omega)]; exact List.getElem?_eq_getElem hll) (by simpa using d1) t ht
end
end Go.Dm
/- The D-machine (25): a region that draws its order. -/
namespace Go.Dm
set_option linter.unusedSimpArgs false
set_option linter.unusedVariables false
set_option linter.unnecessarySimpa false

def und : List Bool → Nat
  | [] => 0
  | b :: l => (if b then 0 else 1) + und l
theorem und_set : ∀ (l : List Bool) (j : Nat), l[j]? = some false → und (l.set j true) + 1 = und l
  | [], j, h => by simp at h
  | b :: l, 0, h => by simp at h; subst h; simp [und]; omega
  | b :: l, j + 1, h => by
    have := und_set l j (by simpa using h)
    simp only [List.set_cons_succ, und]; omega
theorem und_zero : ∀ (l : List Bool), und l = 0 → ∀ j : Nat, j < l.length → l[j]? = some true
  | b :: l, h, 0, _ => by cases b <;> simp_all [und]
  | b :: l, h, j + 1, hj => by
    have := und_zero l (by simp only [und] at h; omega) j (by simpa using hj)
    simpa using this
theorem und_replicate : ∀ n, und (List.replicate n false) = n
  | 0 => rfl
  | n + 1 => by simp [List.replicate_succ, und, und_replicate n]; omega

section
variable {P : Program} {cfg : Cfg} {mf : Bool} {CC : Code → DC → Prop} {base : Nat} {D : DProg} {E : Ex}

theorem Fr.put_get (fr : Fr) (dst : Option Nat) (v : DV) (t : Nat) (h : dst ≠ some t) : (fr.put dst v).tmps.getD t .undef = fr.tmps.getD t .undef := by
  cases dst with
  | none => rfl
  | some d =>
    have : d ≠ t := fun e => h (by rw [e])
    simp [Fr.put, List.getD_eq_getElem?_getD, List.getElem?_set, this]
theorem Fr.put_len (fr : Fr) (dst : Option Nat) (v : DV) : (fr.put dst v).tmps.length = fr.tmps.length := by
  cases dst <;> simp [Fr.put]
theorem Fr.put_inr (fr : Fr) (dst : Option Nat) (v : DV) : (fr.put dst v).inr = fr.inr := by cases dst <;> rfl
theorem Fr.put_defers (fr : Fr) (dst : Option Nat) (v : DV) : (fr.put dst v).defers = fr.defers := by cases dst <;> rfl
theorem Fr.put_same (fr : Fr) (d : Nat) (v : DV) (h : d < fr.tmps.length) : (fr.put (some d) v).tmps[d]? = some v := by
  simp [Fr.put, h]

theorem loadD_add {h : Heap} (hf : h.objs.get h.next = none) {sh : Shape} {x v : DV} (ob : HObj) (hl : loadD h sh x = some v) : loadD (h.add ob) sh x = some v := by
  cases x <;> simp only [loadD] at hl ⊢ <;> try (cases hl; done)
  case ptr id off =>
    cases hg : h.objs.get id with
    | none => rw [hg] at hl; cases hl
    | some o =>
      have hne : id ≠ h.next := fun e => by subst e; rw [hf] at hg; cases hg
      have : (h.add ob).objs.get id = h.objs.get id := by simp only [Heap.add]; exact Tr.get_set_ne _ _ hne
      rw [this]; rw [hg] at hl ⊢; exact hl
  case elt => exact hl

/-- An operation that is no effect. -/
theorem pure_cases {d : DOp} (hne : d.effect = false) {fr : Fr} {h : Heap} {r : EvR} (he : evalOp D fr h d = some r) : (∃ v, r = .val v) ∨ (∃ b mk, r = .newO b mk) ∨ ∃ sz mk, r = .newT sz mk := by
  cases r with
  | val v => exact .inl ⟨v, rfl⟩
  | newO b mk => exact .inr (.inl ⟨b, mk, rfl⟩)
  | newT sz mk => exact .inr (.inr ⟨sz, mk, rfl⟩)
  | eff v' h1 =>
    exfalso
    cases d <;> simp [DOp.effect] at hne <;> simp only [evalOp] at he
    all_goals first
      | (cases he; done)
      | (obtain ⟨_, _, h2⟩ := Option.map_eq_some_iff.1 he; cases h2; done)
      | (split at he <;> first | (cases he; done) | (obtain ⟨_, _, h2⟩ := Option.map_eq_some_iff.1 he; cases h2; done) | (split at he <;> first | (cases he; done) | (obtain ⟨_, _, h2⟩ := Option.map_eq_some_iff.1 he; cases h2; done) | (split at he <;> cases he; done)); done)
      | skip
    case conv k mu x =>
      unfold convD at he
      split at he <;> try (cases he; done)
      all_goals first
        | (obtain ⟨_, _, h2⟩ := Option.map_eq_some_iff.1 he; cases h2; done)
        | (split at he <;> first | (cases he; done) | (obtain ⟨_, _, h2⟩ := Option.map_eq_some_iff.1 he; cases h2; done) | (simp at he; split at he <;> cases he; done))
        | skip
      all_goals simp at hne
      all_goals simp [hne] at he
    case slice sz x lo hi mx =>
      unfold sliceD at he
      split at he <;> try (cases he; done)
      all_goals (split at he <;> first | (cases he; done) | (obtain ⟨_, _, h2⟩ := Option.map_eq_some_iff.1 he; cases h2; done))
  | call g az z =>
    rcases evalOp_cases he with ⟨v, h1, hst⟩ | ⟨_, _, _, f, xs, _, hop, _⟩ | ⟨_, _, _, _, _, h, _⟩ | ⟨_, _, _, _, h, _⟩
    · cases hst
    · subst hop; simp [DOp.effect] at hne
    · cases h
    · cases h
  | yield l az =>
    rcases evalOp_cases he with ⟨v, h1, hst⟩ | ⟨_, _, _, _, _, h, _⟩ | ⟨_, _, _, f, xs, _, hop, _⟩ | ⟨_, _, _, _, h, _⟩
    · cases hst
    · cases h
    · subst hop; simp [DOp.effect] at hne
    · cases h
  | defr g az =>
    rcases evalOp_cases he with ⟨v, h1, hst⟩ | ⟨_, _, _, _, _, h, _⟩ | ⟨_, _, _, _, _, h, _⟩ | ⟨_, _, _, _, _, hop⟩
    · cases hst
    · cases h
    · cases h
    · subst hop; simp [DOp.effect] at hne

def don (κ : List Nat) (listed : Array Bool) (k : Nat) : Bool := match κ[k]? with
  | some j => listed.getD j false
  | none => false

/-- What an operation that has not come yet, though ours has passed it, still finds. -/
def Owed (D : DProg) (c : Cor) (G : Heap) (ro : ROp) (fr : Fr) (h : Heap) : Prop := ∀ r, evalOp D fr h ro.op = some r →
  match r with
  | .newO b _ => c.φ h.next = none ∧ G.objs.get h.next = some b ∧ h.next < G.next
  | .newT sz _ => c.τ h.next = none ∧ G.tags.get h.next = some sz ∧ h.next < G.next
  | .val v => ∀ sh x, ro.op = .load sh x → loadD G sh (ev D fr x) = some v
  | _ => True

variable {ops : Array Oper} {bef : Array Nat} {κ : List Nat} {rops : List ROp} {F : Nat → Fr} {H : Nat → Heap}

structure Inv (CC : Code → DC → Prop) (base : Nat) (D : DProg) (ops : Array Oper) (bef : Array Nat) (κ : List Nat) (rops : List ROp) (F : Nat → Fr) (H : Nat → Heap) (r : Option Nat) (c0 : Cor) (w0 : World) (listed : Array Bool) (T : Nat) (c : Cor) (fv : Fr) (a : Act) (w : World) : Prop where
  size : listed.size = ops.size
  Tm : T ≤ ops.size
  effT : ∀ (k : Nat) (ro : ROp), rops[k]? = some ro → ro.op.effect = true → (don κ listed k = true ↔ k < T)
  ahead : ∀ k, T ≤ k → don κ listed k = false
  down : ∀ (i j a b : Nat), κ[i]? = some a → κ[j]? = some b → don κ listed j = true → ordered bef a b = true → don κ listed i = true
  out : Out CC base c0 (H 0) w0 c (H T) w
  fr : FrRel c r fv a
  inr : fv.inr = (F 0).inr
  defers : fv.defers = (F 0).defers
  len : fv.tmps.length = (F 0).tmps.length
  slots : ∀ t, ∃ p, p ≤ ops.size ∧ fv.tmps.getD t .undef = (F p).tmps.getD t .undef ∧ ∀ (k : Nat) (ro : ROp), rops[k]? = some ro → ro.dst = some t → (don κ listed k = true ↔ k < p)
  mono : ∀ i j, i ≤ j → j ≤ T → (H i).next ≤ (H j).next
  owed : ∀ (k : Nat) (ro : ROp), k < T → rops[k]? = some ro → don κ listed k = false → wantedG ro.guard (F k) = true → Owed D c (H T) ro (F k) (H k)

section
variable (hP : Plan P cfg mf D E ops bef κ rops F H)
include hP
theorem Plan.rget {k : Nat} {ro : ROp} (h : rops[k]? = some ro) : ∃ (j : Nat) (o : Oper), κ[k]? = some j ∧ ops[j]? = some o ∧ compOp P cfg mf o.op = some ro.op ∧ ro.dst = o.dst ∧ isDefr ro = false ∧ loadOk ro = true ∧
    ∀ (c : Cor) (fr : Fr) (a : Act), VRels c fr.tmps a.tmps.toList → Region.wanted o (yielded ops a.tmps) = wantedG ro.guard fr := by
  have hk := (List.getElem?_eq_some_iff.1 h).1
  rw [hP.rl] at hk
  have hj : κ[k]? = some κ[k] := List.getElem?_eq_getElem hk
  obtain ⟨ro', o, h1, h2, h3⟩ := hP.op k _ hj
  rw [h] at h1; cases h1
  exact ⟨_, o, hj, h2, h3⟩
theorem Plan.fstep {k : Nat} {ro : ROp} (h : rops[k]? = some ro) : ∃ v, F (k + 1) = (F k).put ro.dst v := by
  rcases hP.step k ro h with ⟨_, hr, _⟩ | ⟨_, hf, _⟩
  · obtain ⟨_, _, _, _, _, _, hnd, _⟩ := hP.rget h
    obtain ⟨v, hv, _⟩ := runOp_congr (fr2 := F k) (fun _ _ => rfl) rfl hnd hr
    exact ⟨v, hv⟩
  · exact ⟨_, hf⟩
theorem Plan.fkeep {t i j : Nat} (hij : i ≤ j) (hj : j ≤ ops.size) (hw : ∀ (k : Nat) (ro : ROp), i ≤ k → k < j → rops[k]? = some ro → ro.dst ≠ some t) : (F j).tmps.getD t .undef = (F i).tmps.getD t .undef := by
  induction j with
  | zero => have : i = 0 := by omega
            subst this; rfl
  | succ j ih =>
    by_cases e : i = j + 1
    · subst e; rfl
    · have hlt : j < rops.length := by rw [hP.rl, hP.κl]; omega
      obtain ⟨v, hv⟩ := hP.fstep (List.getElem?_eq_getElem hlt)
      rw [hv, Fr.put_get _ _ _ _ (hw j _ (by omega) (by omega) (List.getElem?_eq_getElem hlt))]
      exact ih (by omega) (by omega) fun k ro h1 h2 h3 => hw k ro h1 (by omega) h3
theorem Plan.fconst (j : Nat) (hj : j ≤ ops.size) : (F j).inr = (F 0).inr ∧ (F j).defers = (F 0).defers ∧ (F j).tmps.length = (F 0).tmps.length := by
  induction j with
  | zero => exact ⟨rfl, rfl, rfl⟩
  | succ j ih =>
    have hlt : j < rops.length := by rw [hP.rl, hP.κl]; omega
    obtain ⟨v, hv⟩ := hP.fstep (List.getElem?_eq_getElem hlt)
    obtain ⟨h1, h2, h3⟩ := ih (by omega)
    rw [hv, Fr.put_inr, Fr.put_defers, Fr.put_len]
    exact ⟨h1, h2, h3⟩
/-- What an operation that may come now finds in its slots. -/
theorem Plan.alike {r : Option Nat} {c0 c : Cor} {w0 w : World} {listed : Array Bool} {T : Nat} {fv : Fr} {a : Act} (hI : Inv CC base D ops bef κ rops F H r c0 w0 listed T c fv a w) {k j : Nat} {ro : ROp} (hk : κ[k]? = some j) (hro : rops[k]? = some ro)
    (hnd : don κ listed k = false) (hready : ∀ i a, κ[i]? = some a → ordered bef a j = true → don κ listed i = true) : Alike ro fv (F k) := by
  intro t ht
  obtain ⟨p, hp1, hp2, hp3⟩ := hI.slots t
  rw [hp2]
  have hkl : k < ops.size := by have := (List.getElem?_eq_some_iff.1 hk).1; rw [hP.κl] at this; exact this
  -- who writes t ahead of k has come; who writes it behind has not
  have before : ∀ (i : Nat) (ri : ROp), i < k → rops[i]? = some ri → ri.dst = some t → don κ listed i = true := fun i ri hik hri hd => by
    obtain ⟨b, o, hb, _⟩ := hP.rget hri
    exact hready i b hb ((hP.ord i k b j ri ro hik hb hk hri hro).2 (.inr (.inl ⟨t, hd, ht⟩)))
  have behind : ∀ (i : Nat) (ri : ROp), k < i → rops[i]? = some ri → ri.dst = some t → don κ listed i = false := fun i ri hki hri hd => by
    obtain ⟨b, o, hb, _⟩ := hP.rget hri
    have ho := (hP.ord k i j b ro ri hki hk hb hro hri).2 (.inr (.inr ⟨t, hd, ht⟩))
    cases hdon : don κ listed i with
    | false => rfl
    | true => have := hI.down k i j b hk hb hdon ho; rw [hnd] at this; cases this
  rcases Nat.le_total p k with h | h
  · refine (hP.fkeep h (by omega) fun i ri h1 h2 h3 h4 => ?_).symm
    have := before i ri h2 h3 h4
    have := (hp3 i ri h3 h4).1 this
    omega
  · refine hP.fkeep h hp1 fun i ri h1 h2 h3 h4 => ?_
    have hd := (hp3 i ri h3 h4).2 h2
    by_cases e : i = k
    · subst e; rw [hnd] at hd; cases hd
    · have := behind i ri (by omega) h3 h4
      rw [this] at hd; cases hd

theorem don_set {listed : Array Bool} (hs : listed.size = ops.size) {k j : Nat} (hk : κ[k]? = some j) (i : Nat) : don κ (listed.setIfInBounds j true) i = (don κ listed i || decide (i = k)) := by
  unfold don
  cases hi : κ[i]? with
  | none =>
    have : i ≠ k := fun e => by subst e; rw [hk] at hi; cases hi
    simp [this]
  | some b =>
    have hjs := hP.κs k j hk
    by_cases e : i = k
    · subst e; rw [hk] at hi; cases hi
      simp [Array.getD_eq_getD_getElem?, hs, hjs]
    · have hne : b ≠ j := fun e2 => by subst e2; exact e (hP.κi i k b hi hk)
      simp [Array.getD_eq_getD_getElem?, Array.getElem?_setIfInBounds_ne (Ne.symm hne), e]
end
end
end Go.Dm
/- The D-machine (26): a region that draws its order: whatever the order. -/
namespace Go.Dm
set_option linter.unusedSimpArgs false
set_option linter.unusedVariables false
set_option linter.unnecessarySimpa false

section
variable {P : Program} {cfg : Cfg} {mf : Bool} {CC : Code → DC → Prop} {base : Nat} {D : DProg} {E : Ex}
variable {ops : Array Oper} {bef : Array Nat} {κ : List Nat} {rops : List ROp} {F : Nat → Fr} {H : Nat → Heap}
variable {r : Option Nat} {c0 : Cor} {w0 : World}

theorem Out.add {c : Cor} {h : Heap} {w : World} (hS : Sim CC base c h w.heap) (ob : HObj) : Out CC base c h w c (h.add ob) w :=
  ⟨Cor.le.refl c, hS.add ob, Keeps.refl w, Nat.le_succ _, fun i hi hn => ⟨hn, by simp only [Heap.add]; exact Tr.get_set_ne _ _ (by omega)⟩, fun _ _ hn => ⟨hn, rfl⟩⟩
theorem Out.addTag {c : Cor} {h : Heap} {w : World} (hS : Sim CC base c h w.heap) (sz : Nat) : Out CC base c h w c (h.addTag sz) w :=
  ⟨Cor.le.refl c, hS.addTag sz, Keeps.refl w, Nat.le_succ _, fun _ _ hn => ⟨hn, rfl⟩, fun i hi hn => ⟨hn, by simp only [Heap.addTag]; exact Tr.get_set_ne _ _ (by omega)⟩⟩
theorem Owed.add {c : Cor} {G h : Heap} {ro : ROp} {fr : Fr} (ho : Owed D c G ro fr h) (hf : G.objs.get G.next = none) (ob : HObj) : Owed D c (G.add ob) ro fr h := by
  intro r hr
  have := ho r hr
  cases r with
  | val v => exact fun sh x e => loadD_add hf ob (this sh x e)
  | newO b mk => exact ⟨this.1, by simp only [Heap.add]; rw [Tr.get_set_ne _ _ (by omega)]; exact this.2.1, Nat.lt_succ_of_lt this.2.2⟩
  | newT sz mk => exact ⟨this.1, this.2.1, Nat.lt_succ_of_lt this.2.2⟩
  | eff _ _ => trivial
  | call _ _ _ => trivial
  | yield _ _ => trivial
  | defr _ _ => trivial
theorem Owed.addTag {c : Cor} {G h : Heap} {ro : ROp} {fr : Fr} (ho : Owed D c G ro fr h) (n : Nat) : Owed D c (G.addTag n) ro fr h := by
  intro r hr
  have := ho r hr
  cases r with
  | val v => exact this
  | newO b mk => exact ⟨this.1, this.2.1, Nat.lt_succ_of_lt this.2.2⟩
  | newT sz mk => exact ⟨this.1, by simp only [Heap.addTag]; rw [Tr.get_set_ne _ _ (by omega)]; exact this.2.1, Nat.lt_succ_of_lt this.2.2⟩
  | eff _ _ => trivial
  | call _ _ _ => trivial
  | yield _ _ => trivial
  | defr _ _ => trivial

theorem advance (hP : Plan P cfg mf D E ops bef κ rops F H) {listed : Array Bool} {c : Cor} {fv : Fr} {a : Act} {w : World} : ∀ (n T : Nat), ops.size - T = n → Inv CC base D ops bef κ rops F H r c0 w0 listed T c fv a w →
    ∃ T', T ≤ T' ∧ Inv CC base D ops bef κ rops F H r c0 w0 listed T' c fv a w ∧ ∀ ro, rops[T']? = some ro → ro.op.effect = true := by
  intro n
  induction n with
  | zero =>
    intro T hn hI
    refine ⟨T, Nat.le_refl _, hI, fun ro hro => ?_⟩
    have := (List.getElem?_eq_some_iff.1 hro).1
    rw [hP.rl, hP.κl] at this
    omega
  | succ n ih =>
    intro T hn hI
    have hlt : T < rops.length := by rw [hP.rl, hP.κl]; omega
    have hro : rops[T]? = some rops[T] := List.getElem?_eq_getElem hlt
    generalize rops[T] = ro at hro
    cases heff : ro.op.effect with
    | true => exact ⟨T, Nat.le_refl _, hI, fun ro' h' => by rw [hro] at h'; cases h'; exact heff⟩
    | false =>
      have hS := hI.out.sim
      -- what the step lays
      have key : Out CC base c (H T) w c (H (T + 1)) w ∧ (∀ (k : Nat) (rk : ROp), Owed D c (H T) rk (F k) (H k) → Owed D c (H (T + 1)) rk (F k) (H k)) ∧ (wantedG ro.guard (F T) = true → Owed D c (H (T + 1)) ro (F T) (H T)) := by
        rcases hP.step T ro hro with ⟨hw, hrun, _⟩ | ⟨hw, _, hH⟩
        · unfold runOp at hrun
          cases hev : evalOp D (F T) (H T) ro.op with
          | none => rw [hev] at hrun; cases hrun
          | some r0 =>
            rw [hev] at hrun
            rcases pure_cases heff hev with ⟨v, rfl⟩ | ⟨b, mk, rfl⟩ | ⟨sz, mk, rfl⟩
            · simp only [Option.some.injEq, Prod.mk.injEq] at hrun
              obtain ⟨_, hH⟩ := hrun
              rw [← hH]
              refine ⟨Out.refl hS, fun _ _ h => h, fun _ r1 hr1 => ?_⟩
              rw [hev] at hr1; cases hr1
              intro sh x e
              rw [e] at hev
              simp only [evalOp] at hev
              obtain ⟨y, h1, h2⟩ := Option.map_eq_some_iff.1 hev
              cases h2; exact h1
            · simp only [Option.some.injEq, Prod.mk.injEq] at hrun
              obtain ⟨_, hH⟩ := hrun
              rw [← hH]
              refine ⟨Out.add hS b, fun _ _ h => h.add (hS.fresh _ (Nat.le_refl _)).1 b, fun _ r1 hr1 => ?_⟩
              rw [hev] at hr1; cases hr1
              exact ⟨hS.φnext, by simp only [Heap.add]; exact Tr.get_set_same _ _ _, Nat.lt_succ_self _⟩
            · simp only [Option.some.injEq, Prod.mk.injEq] at hrun
              obtain ⟨_, hH⟩ := hrun
              rw [← hH]
              refine ⟨Out.addTag hS sz, fun _ _ h => h.addTag sz, fun _ r1 hr1 => ?_⟩
              rw [hev] at hr1; cases hr1
              exact ⟨hS.τnext, by simp only [Heap.addTag]; exact Tr.get_set_same _ _ _, Nat.lt_succ_self _⟩
        · rw [hH]
          exact ⟨Out.refl hS, fun _ _ h => h, fun hw' => by rw [hw] at hw'; cases hw'⟩
      obtain ⟨k1, k2, k3⟩ := key
      have hI' : Inv CC base D ops bef κ rops F H r c0 w0 listed (T + 1) c fv a w := by
        refine { size := hI.size, Tm := by omega, effT := fun k rk hk he => ?_, ahead := fun k hk => hI.ahead k (by omega), down := hI.down, out := hI.out.trans k1, fr := hI.fr, inr := hI.inr, defers := hI.defers, len := hI.len, slots := hI.slots, mono := fun i j hij hj => ?_, owed := fun k rk hk hrk hd hw => ?_ }
        · have hne : k ≠ T := fun e => by subst e; rw [hro] at hk; cases hk; rw [heff] at he; cases he
          rw [hI.effT k rk hk he]
          omega
        · by_cases e : j = T + 1
          · subst e
            by_cases e2 : i = T + 1
            · subst e2; exact Nat.le_refl _
            · exact Nat.le_trans (hI.mono i T (by omega) (Nat.le_refl _)) k1.next
          · exact hI.mono i j hij (by omega)
        · by_cases e : k = T
          · subst e; rw [hro] at hrk; cases hrk; exact k3 hw
          · exact k2 k rk (hI.owed k rk (by omega) hrk hd hw)
      obtain ⟨T', h1, h2, h3⟩ := ih (T + 1) (by omega) hI'
      exact ⟨T', by omega, h2, h3⟩

/-- One operation has come: what of the invariant turns by itself. -/
theorem inv_step (hP : Plan P cfg mf D E ops bef κ rops F H) {listed : Array Bool} {T : Nat} {c : Cor} {fv : Fr} {a : Act} {w : World} (hI : Inv CC base D ops bef κ rops F H r c0 w0 listed T c fv a w)
    {k j : Nat} {ro : ROp} (hk : κ[k]? = some j) (hro : rops[k]? = some ro) (hnd : don κ listed k = false) (hready : ∀ i a, κ[i]? = some a → ordered bef a j = true → don κ listed i = true) {v : DV} (hF : F (k + 1) = (F k).put ro.dst v)
    {T' : Nat} (hT : (k < T ∧ T' = T ∧ ro.op.effect = false) ∨ (k = T ∧ T' = T + 1)) {c' : Cor} {a' : Act} {w' : World} (hout : Out CC base c0 (H 0) w0 c' (H T') w') (hfr : FrRel c' r (fv.put ro.dst v) a')
    (hmono : ∀ i j, i ≤ j → j ≤ T' → (H i).next ≤ (H j).next)
    (howed : ∀ (k' : Nat) (rk : ROp), k' < T' → k' ≠ k → rops[k']? = some rk → don κ listed k' = false → wantedG rk.guard (F k') = true → Owed D c' (H T') rk (F k') (H k')) :
    Inv CC base D ops bef κ rops F H r c0 w0 (listed.setIfInBounds j true) T' c' (fv.put ro.dst v) a' w' := by
  have hset := don_set hP hI.size hk
  have hkl : k < ops.size := by have := (List.getElem?_eq_some_iff.1 hk).1; rw [hP.κl] at this; exact this
  have hslots := hP.alike hI hk hro hnd hready
  refine { size := by simp [hI.size], Tm := by have := hI.Tm; omega, effT := fun k' rk hrk he => ?_, ahead := fun k' hk' => ?_, down := fun i j' x y hi hj' hd ho => ?_, out := hout, fr := hfr, inr := by rw [Fr.put_inr]; exact hI.inr, defers := by rw [Fr.put_defers]; exact hI.defers,
           len := by rw [Fr.put_len]; exact hI.len, slots := fun t => ?_, mono := hmono, owed := fun k' rk hk' hrk hd hw => ?_ }
  · rw [hset, Bool.or_eq_true, hI.effT k' rk hrk he, decide_eq_true_eq]
    rcases hT with ⟨h1, rfl, h2⟩ | ⟨h1, rfl⟩
    · constructor
      · rintro (h | rfl)
        · exact h
        · exact h1
      · exact .inl
    · omega
  · rw [hset, hI.ahead k' (by omega)]
    simp; omega
  · rw [hset, Bool.or_eq_true, decide_eq_true_eq] at hd ⊢
    rcases hd with hd | rfl
    · exact .inl (hI.down i j' x y hi hj' hd ho)
    · rw [hk] at hj'; cases hj'
      exact .inl (hready i x hi ho)
  · by_cases ht : ro.dst = some t
    · refine ⟨k + 1, by omega, ?_, fun k' rk hrk hd => ?_⟩
      · rw [hF, ht]
        have hl1 := hI.len
        have hl2 := (hP.fconst k (by omega)).2.2
        by_cases hlt : t < fv.tmps.length
        · rw [List.getD_eq_getElem?_getD, List.getD_eq_getElem?_getD, Fr.put_same _ _ _ hlt, Fr.put_same _ _ _ (by omega)]
        · rw [List.getD_eq_getElem?_getD, List.getD_eq_getElem?_getD, List.getElem?_eq_none (by rw [Fr.put_len]; omega), List.getElem?_eq_none (by rw [Fr.put_len]; omega)]
      · rw [hset, Bool.or_eq_true, decide_eq_true_eq]
        obtain ⟨b, o, hb, _⟩ := hP.rget hrk
        have hts : t ∈ ro.slots := by simp [ROp.slots, ht]
        rcases Nat.lt_trichotomy k' k with hlt | heq | hgt
        · have := hready k' b hb ((hP.ord k' k b j rk ro hlt hb hk hrk hro).2 (.inr (.inl ⟨t, hd, hts⟩)))
          simp [this]; omega
        · subst heq; simp
        · have ho := (hP.ord k k' j b ro rk hgt hk hb hro hrk).2 (.inr (.inr ⟨t, hd, hts⟩))
          have : don κ listed k' = false := by
            cases hdon : don κ listed k' with
            | false => rfl
            | true => have := hI.down k k' j b hk hb hdon ho; rw [hnd] at this; cases this
          simp [this]; omega
    · obtain ⟨p, p1, p2, p3⟩ := hI.slots t
      refine ⟨p, p1, by rw [Fr.put_get _ _ _ _ ht]; exact p2, fun k' rk hrk hd => ?_⟩
      have hne : k' ≠ k := fun e => by subst e; rw [hro] at hrk; cases hrk; exact ht hd
      rw [hset, p3 k' rk hrk hd |> Bool.eq_iff_iff.2 ∘ fun h => (by simpa using h : don κ listed k' = true ↔ decide (k' < p) = true)]
      simp [hne]
  · rw [hset, Bool.or_eq_false_iff] at hd
    exact howed k' rk hk' (by simpa using hd.2) hrk hd.1 hw
end
end Go.Dm
/- The D-machine (27): every region; every code. -/
namespace Go.Dm
set_option linter.unusedSimpArgs false
set_option linter.unusedVariables false
set_option linter.unnecessarySimpa false

section
variable {P : Program} {cfg : Cfg} {mf : Bool} {CC : Code → DC → Prop} {base : Nat} {D : DProg} {E : Ex}
variable {ops : Array Oper} {bef : Array Nat} {κ : List Nat} {rops : List ROp} {F : Nat → Fr} {H : Nat → Heap}
variable {r : Option Nat} {c0 : Cor} {w0 : World}

theorem list_ext_getD {x y : List DV} (hl : x.length = y.length) (h : ∀ t, x.getD t .undef = y.getD t .undef) : x = y := by
  apply List.ext_getElem hl
  intro i h1 h2
  have := h i
  rw [List.getD_eq_getElem?_getD, List.getD_eq_getElem?_getD, List.getElem?_eq_getElem h1, List.getElem?_eq_getElem h2] at this
  exact this

theorem owed_chk (hP : Plan P cfg mf D E ops bef κ rops F H) {listed : Array Bool} {T : Nat} {c : Cor} {fv : Fr} {a : Act} {w : World} (hI : Inv CC base D ops bef κ rops F H r c0 w0 listed T c fv a w) {j : Nat} {ro : ROp} (hk : κ[T]? = some j) (hro : rops[T]? = some ro) (heff : ro.op.effect = true)
    (hck : chkOk D (F (T + 1)) (H (T + 1)) ro.chk = true) (hready : ∀ i a, κ[i]? = some a → ordered bef a j = true → don κ listed i = true) {k' : Nat} {rk : ROp} (hk' : k' < T) (hrk : rops[k']? = some rk) (hd : don κ listed k' = false) (hw : wantedG rk.guard (F k') = true)
    {sh : Shape} {x : Opd} {v : DV} (hop : rk.op = .load sh x) (hev : evalOp D (F k') (H k') rk.op = some (.val v)) : loadD (H (T + 1)) sh (ev D (F k') x) = some v := by
  obtain ⟨b, o, hb, _, _, _, hnd, hld, _⟩ := hP.rget hrk
  have hTl : T < ops.size := by have := (List.getElem?_eq_some_iff.1 hk).1; rw [hP.κl] at this; exact this
  have hld2 : ∃ d, rk.dst = some d ∧ x.slot? ≠ some d ∧ rk.guard.map (·.1) ≠ some d := by
    unfold loadOk at hld
    rw [hop] at hld
    simp only at hld
    split at hld
    · rename_i d hd
      simp only [Bool.and_eq_true, decide_eq_true_eq] at hld
      exact ⟨d, hd, hld.1, hld.2⟩
    · cases hld
  obtain ⟨d, hdst, hdx1, hdx2⟩ := hld2
  have hload : rk.load? = some (x, sh, d, rk.guard) := by simp [ROp.load?, hop, hdst]
  rcases hP.chk k' T b j rk ro _ hk' hb hk hrk hro heff hload with h | ⟨hmem, hno⟩
  · have := hready k' b hb h
    rw [hd] at this; cases this
  · -- its slots are az they were
    have hkeep : ∀ t ∈ rk.slots, ∀ i, k' + 1 ≤ i → i ≤ T + 1 → (F i).tmps.getD t .undef = (F (k' + 1)).tmps.getD t .undef := fun t ht i h1 h2 =>
      hP.fkeep h1 (by omega) fun l rl hl1 hl2 hrl hld => hno l rl t (by omega) (by omega) hrl hld ht
    have hstep := hP.step k' rk hrk
    rcases hstep with ⟨_, hrun, _⟩ | ⟨hw', _, _⟩
    case inr => rw [hw] at hw'; cases hw'
    have hF : F (k' + 1) = (F k').put rk.dst v := by
      unfold runOp at hrun
      rw [hev] at hrun
      simp only [Option.some.injEq, Prod.mk.injEq] at hrun
      exact hrun.1.symm
    have hmem2 := hck
    unfold chkOk at hmem2
    rw [List.all_eq_true] at hmem2
    have hent := hmem2 _ hmem
    simp only at hent
    have hdm : d ∈ rk.slots := by simp [ROp.slots, hdst]
    have hx : ev D (F (T + 1)) x = ev D (F k') x := ev_congr fun t ht => by
      have hne : t ≠ d := fun e => hdx1 (by rw [ht, e])
      rw [hkeep t (by simp only [ROp.slots, List.mem_append, List.mem_filterMap]; exact .inl (.inr ⟨x, by simp [hop, DOp.opds], ht⟩)) (T + 1) (by omega) (by omega), hF, hdst, Fr.put_get _ _ _ _ (by simpa using Ne.symm hne)]
    have hg : wantedG rk.guard (F (T + 1)) = wantedG rk.guard (F k') := by
      cases hgd : rk.guard with
      | none => rfl
      | some g =>
        obtain ⟨t, bb⟩ := g
        have hne : t ≠ d := fun e => hdx2 (by simp [hgd, e])
        have := hkeep t (by simp [ROp.slots, hgd]) (T + 1) (by omega) (by omega)
        rw [hF, hdst, Fr.put_get _ _ _ _ (by simpa using Ne.symm hne)] at this
        simp only [wantedG, this]
    rw [hg, hw] at hent
    simp only [Bool.not_true, Bool.false_or] at hent
    rw [hx] at hent
    split at hent
    · rename_i v1 u1 hv1 hu1
      have hbe := DV.eq_of_beq _ _ hent
      subst hbe
      rw [hv1]
      have h3 := hkeep d hdm (T + 1) (by omega) (by omega)
      rw [List.getD_eq_getElem?_getD, hu1, hF, hdst] at h3
      have hlt : d < (F k').tmps.length := by
        have h4 := (List.getElem?_eq_some_iff.1 hu1).1
        rw [(hP.fconst (T + 1) (by omega)).2.2] at h4
        rw [(hP.fconst k' (by omega)).2.2]
        exact h4
      rw [List.getD_eq_getElem?_getD, Fr.put_same _ _ _ hlt] at h3
      simpa using h3
    · cases hent

/-- What one operation lays is no other's. -/
theorem owed_other (hP : Plan P cfg mf D E ops bef κ rops F H) {listed : Array Bool} {T : Nat} {c c' : Cor} {fv : Fr} {a : Act} {w : World} (hI : Inv CC base D ops bef κ rops F H r c0 w0 listed T c fv a w) {k k' : Nat} {rk : ROp} {hk1 : Heap}
    (q6 : ∀ i, i ≠ (H k).next → c'.φ i = c.φ i ∧ c'.τ i = c.τ i) (hnext : hk1 = H (k + 1)) (h1 : k' < T) (hkT : k < T) (h2 : k' ≠ k) (h3 : rops[k']? = some rk) (h4 : don κ listed k' = false) (h5 : wantedG rk.guard (F k') = true) (hlt : (H k).next < hk1.next) : Owed D c' (H T) rk (F k') (H k') := by
  subst hnext
  have hold := hI.owed k' rk h1 h3 h4 h5
  intro r1 hr1
  have := hold r1 hr1
  -- if it lays something, it lays it elsewhere
  have hne : (∃ b mk, r1 = .newO b mk) ∨ (∃ sz mk, r1 = .newT sz mk) → (H k').next ≠ (H k).next := fun hl => by
    rcases Nat.lt_or_gt_of_ne h2 with hlt' | hgt
    · have hstep : (H k').next < (H (k' + 1)).next := by
        rcases hP.step k' rk h3 with ⟨_, hrun, _⟩ | ⟨hw', _, _⟩
        · unfold runOp at hrun
          rw [hr1] at hrun
          rcases hl with ⟨b, mk, rfl⟩ | ⟨sz, mk, rfl⟩
          · simp only [Option.some.injEq, Prod.mk.injEq] at hrun
            rw [← hrun.2]; exact Nat.lt_succ_self _
          · simp only [Option.some.injEq, Prod.mk.injEq] at hrun
            rw [← hrun.2]; exact Nat.lt_succ_self _
        · rw [h5] at hw'; cases hw'
      have := hI.mono (k' + 1) k (by omega) (by omega)
      omega
    · have := hI.mono (k + 1) k' (by omega) (by omega)
      omega
  cases r1 with
  | val v => exact this
  | newO b mk => exact ⟨by rw [(q6 _ (hne (.inl ⟨b, mk, rfl⟩))).1]; exact this.1, this.2⟩
  | newT sz mk => exact ⟨by rw [(q6 _ (hne (.inr ⟨sz, mk, rfl⟩))).2]; exact this.1, this.2⟩
  | eff _ _ => trivial
  | call _ _ _ => trivial
  | yield _ _ => trivial
  | defr _ _ => trivial

theorem any_sound (hP : Plan P cfg mf D E ops bef κ rops F H) (hCall : CallOk P CC base D (callD D E)) (hCode : CodeOk P CC base D E) (hg : GlobOk D c0) (hS0 : Sim CC base c0 (H 0) w0.heap) {n : Nat} {Q : Exit → Act → World → Prop}
    (hQ : ∀ a' w' c', Out CC base c0 (H 0) w0 c' (H ops.size) w' → FrRel c' r (F ops.size) a' → Q .normal a' w') :
    ∀ (fuel : Nat) (listed : Array Bool) (T : Nat) (c : Cor) (fv : Fr) (a : Act) (w : World), und listed.toList ≤ fuel → Inv CC base D ops bef κ rops F H r c0 w0 listed T c fv a w → (∀ ro, rops[T]? = some ro → ro.op.effect = true) →
      wpAnyIn (FF r) n P .any ops Q fuel listed a w := by
  -- all have come
  have last : ∀ (listed : Array Bool) (T : Nat) (c : Cor) (fv : Fr) (a : Act) (w : World), Inv CC base D ops bef κ rops F H r c0 w0 listed T c fv a w → (∀ ro, rops[T]? = some ro → ro.op.effect = true) → (∀ j, j < ops.size → listed.getD j false = true) → Q .normal a w := by
    intro listed T c fv a w hI hT hall
    have hdon : ∀ k, k < ops.size → don κ listed k = true := fun k hk => by
      have hk' : k < κ.length := by rw [hP.κl]; exact hk
      have := List.getElem?_eq_getElem hk'
      unfold don
      rw [this]
      exact hall _ (hP.κs k _ this)
    have hTm : T = ops.size := by
      by_cases h : T < ops.size
      · have := hI.ahead T (Nat.le_refl _)
        rw [hdon T h] at this; cases this
      · have := hI.Tm; omega
    subst hTm
    have hc := hP.fconst ops.size (Nat.le_refl _)
    have hfv : fv = F ops.size := by
      have ht : fv.tmps = (F ops.size).tmps := by
        refine list_ext_getD (by rw [hI.len, hc.2.2]) fun t => ?_
        obtain ⟨p, p1, p2, p3⟩ := hI.slots t
        rw [p2]
        refine (hP.fkeep p1 (Nat.le_refl _) fun k ro h1 h2 h3 h4 => ?_).symm
        have := (p3 k ro h3 h4).1 (hdon k h2)
        omega
      have h1 : fv.inr = (F ops.size).inr := hI.inr.trans hc.1.symm
      have h2 : fv.defers = (F ops.size).defers := hI.defers.trans hc.2.1.symm
      cases fv with
      | mk t d i =>
        cases hF : F ops.size with
        | mk t' d' i' =>
          rw [hF] at ht h1 h2
          simp only at ht h1 h2
          rw [ht, h1, h2]
    rw [hfv] at hI
    exact hQ a w c hI.out hI.fr
  -- nothing may come: all have
  have over : ∀ (listed : Array Bool), listed.size = ops.size → Region.ready .any ops listed = [] → ∀ j, j < ops.size → listed.getD j false = true := by
    intro listed hsz hnil j
    induction j using Nat.strongRecOn with
    | ind j ih =>
      intro hj
      cases hd : listed.getD j false with
      | true => rfl
      | false =>
        exfalso
        have hjm : j ∈ Region.ready .any ops listed := by
          rw [mem_ready]
          refine ⟨?_, ops[j], Array.getElem?_eq_getElem hj, fun e he hb => ?_⟩
          · have h1 : listed[j]? = some listed[j] := Array.getElem?_eq_getElem (by omega)
            rw [Array.getD_eq_getD_getElem?, h1] at hd ⊢
            simpa using hd
          · have := hP.edge j _ e (Array.getElem?_eq_getElem hj) he hb
            exact ih e.on this (by omega)
        rw [hnil] at hjm; cases hjm
  intro fuel
  induction fuel with
  | zero =>
    intro listed T c fv a w hu hI hT
    have hall : ∀ j, j < ops.size → listed.getD j false = true := fun j hj => by
      have := und_zero listed.toList (by omega) j (by simpa [hI.size] using hj)
      rw [Array.getD_eq_getD_getElem?]
      have h2 : listed[j]? = some true := by simpa using this
      rw [h2]; rfl
    refine ⟨?_, last listed T c fv a w hI hT hall⟩
    cases hr : Region.ready .any ops listed with
    | nil => rfl
    | cons j l =>
      exfalso
      have hj : j ∈ Region.ready .any ops listed := by rw [hr]; simp
      obtain ⟨h1, o, ho, _⟩ := mem_ready.1 hj
      have hjs := (Array.getElem?_eq_some_iff.1 ho).1
      have h2 := hall j hjs
      have hjl : j < listed.size := by rw [hI.size]; exact hjs
      have h3 : listed[j]? = some listed[j] := Array.getElem?_eq_getElem hjl
      rw [Array.getD_eq_getD_getElem?, h3] at h1 h2
      simp only [Option.getD_some] at h1 h2
      rw [h1] at h2; cases h2
  | succ fuel ih =>
    intro listed T c fv a w hu hI hT
    refine ⟨fun hnil => last listed T c fv a w hI hT (over listed hI.size hnil), fun j hj => ?_⟩
    obtain ⟨hun, o, ho, hedges⟩ := mem_ready.1 hj
    have hjs := (Array.getElem?_eq_some_iff.1 ho).1
    obtain ⟨k, hk⟩ := hP.κe j hjs
    obtain ⟨ro, o', hro, ho', hcomp, hdst, hndf, hld, hwant⟩ := hP.op k j hk
    rw [ho] at ho'; cases ho'
    have hlj : listed[j]? = some false := by
      have hjl : j < listed.size := by rw [hI.size]; exact hjs
      have h3 : listed[j]? = some listed[j] := Array.getElem?_eq_getElem hjl
      rw [Array.getD_eq_getD_getElem?, h3] at hun
      simp only [Option.getD_some] at hun
      rw [h3, hun]
    have hnd : don κ listed k = false := by
      unfold don
      rw [hk]
      simp only
      rw [Array.getD_eq_getD_getElem?, hlj]; rfl
    have hundone : und (listed.setIfInBounds j true).toList ≤ fuel := by
      have := und_set listed.toList j (by simpa using hlj)
      rw [Array.toList_setIfInBounds]
      omega
    -- what must come ahead has come
    have hdone : ∀ x, x < ops.size → listed.getD x false = true → ∀ i, κ[i]? = some x → don κ listed i = true := fun x _ hx i hi => by
      unfold don; rw [hi]; exact hx
    have hready : ∀ i x, κ[i]? = some x → ordered bef x j = true → don κ listed i = true := fun i x hi hox => by
      obtain ⟨e, he, hb, hcase⟩ := hP.ready j o x ho hox
      have hon := hP.edge j o e ho he hb
      have hlist := hedges e he hb
      rcases hcase with rfl | hcase
      · exact hdone _ (by omega) hlist i hi
      · obtain ⟨ke, hke⟩ := hP.κe e.on (by omega)
        exact hI.down i ke x e.on hi hke (hdone _ (by omega) hlist ke hke) hcase
    -- it is no later than the next effect
    have hkl : k < ops.size := by have := (List.getElem?_eq_some_iff.1 hk).1; rw [hP.κl] at this; exact this
    have hkT : k ≤ T := by
      by_cases h : k ≤ T
      · exact h
      · exfalso
        have hTl : T < rops.length := by rw [hP.rl, hP.κl]; omega
        have hrT : rops[T]? = some rops[T] := List.getElem?_eq_getElem hTl
        obtain ⟨b, oT, hb, _⟩ := hP.rget hrT
        have := hready T b hb ((hP.ord T k b j _ ro (by omega) hb hk hrT hro).2 (.inl (hT _ hrT)))
        rw [hI.ahead T (Nat.le_refl _)] at this; cases this
    have hal := hP.alike hI hk hro hnd hready
    have hinr : fv.inr = (F k).inr := hI.inr.trans (hP.fconst k (by omega)).1.symm
    have hstep := hP.step k ro hro
    -- behind it
    have go : ∀ {v : DV} {T' : Nat} {c' : Cor} {a' : Act} {w' : World}, F (k + 1) = (F k).put ro.dst v → ((k < T ∧ T' = T ∧ ro.op.effect = false) ∨ (k = T ∧ T' = T + 1)) → Out CC base c0 (H 0) w0 c' (H T') w' → FrRel c' r (fv.put ro.dst v) a' →
        (∀ i j, i ≤ j → j ≤ T' → (H i).next ≤ (H j).next) →
        (∀ (k' : Nat) (rk : ROp), k' < T' → k' ≠ k → rops[k']? = some rk → don κ listed k' = false → wantedG rk.guard (F k') = true → Owed D c' (H T') rk (F k') (H k')) →
        wpAnyIn (FF r) n P .any ops Q fuel (listed.setIfInBounds j true) a' w' := by
      intro v T' c' a' w' h1 h2 h3 h4 h5 h6
      have hI' := inv_step hP hI hk hro hnd hready h1 h2 h3 h4 h5 h6
      obtain ⟨T2, _, hI2, hT2⟩ := advance hP _ T' rfl hI'
      exact ih _ T2 _ _ _ _ hundone hI2 hT2
    have hgc : GlobOk D c := hg.mono hI.out.le
    unfold wpOpIn
    rw [ho]
    simp only
    rw [hwant c fv a hI.fr.tmps, hal.wanted]
    by_cases hkT' : k < T
    · -- ours has passed it: it is no effect
      have heff : ro.op.effect = false := by
        cases he : ro.op.effect with
        | false => rfl
        | true => have := (hI.effT k ro hro he).2 hkT'; rw [hnd] at this; cases this
      rcases hstep with ⟨hw, hrun, _⟩ | ⟨hw, hF, hH⟩
      · rw [if_pos hw]
        have hrun2 := hrun
        unfold runOp at hrun2
        cases hev : evalOp D (F k) (H k) ro.op with
        | none => rw [hev] at hrun2; cases hrun2
        | some r0 =>
          rw [hev] at hrun2
          have hev' : evalOp D fv (H k) ro.op = some r0 := by rw [hal.evalOp hinr]; exact hev
          have howe := hI.owed k ro hkT' hro hnd hw r0 hev
          have hsem : o.semAt (FF r).round a.eval = execOp a.eval o := semAt_of fun cl e => by
            exfalso
            rw [e] at hcomp
            simp only [compOp] at hcomp
            split at hcomp <;> try (cases hcomp; done)
            split at hcomp <;> try (cases hcomp; done)
            have := Option.some.inj hcomp
            rw [← this] at heff
            simp [DOp.effect] at heff
          refine ⟨fun _ _ => trivial, ?_⟩
          rw [hsem]
          rcases pure_cases heff hev with ⟨v, rfl⟩ | ⟨b, mk, rfl⟩ | ⟨sz, mk, rfl⟩
          · simp only [Option.some.injEq, Prod.mk.injEq] at hrun2
            obtain ⟨v', w', q1, q2, q3⟩ := val_sound (h := H k) (G := H T) w hcomp hgc hI.fr.tmps hI.out.sim heff hev' fun sh x e => by
              have := howe sh x e
              rwa [← ev_congr fun t ht => hal t (by simp only [ROp.slots, List.mem_append, List.mem_filterMap]; exact .inl (.inr ⟨x, by rw [e]; simp [DOp.opds], ht⟩))] at this
            rw [q1, Oper.uponIn_value, ← hdst]
            have hq := Out.quiet hI.out.sim q3
            exact go hrun2.1.symm (.inl ⟨hkT', rfl, heff⟩) (hI.out.trans hq) (hI.fr.put _ q2) hI.mono fun k' rk h1 h2 h3 h4 h5 => hI.owed k' rk h1 h3 h4 h5
          · simp only [Option.some.injEq, Prod.mk.injEq] at hrun2
            have h2le : 2 ≤ (H k).next := Nat.le_trans hS0.next (hI.mono 0 k (Nat.zero_le _) hkT)
            obtain ⟨v', w', c', q1, q2, q3, q4, q5, q6⟩ := new_sound (id := (H k).next) (G := H T) (v := mk (H k).next) w hcomp hgc hI.fr.tmps hI.out.sim heff hev' howe.2.2 h2le ⟨rfl, howe.1, howe.2.1⟩
            rw [q1, Oper.uponIn_value, ← hdst]
            have h0k : (H 0).next ≤ (H k).next := hI.mono 0 k (Nat.zero_le _) hkT
            have hout : Out CC base c0 (H 0) w0 c' (H T) w' := ⟨hI.out.le.trans q2, q3, hI.out.keeps.trans q5, hI.out.next,
              fun i hi hn => ⟨by rw [(q6 i (by omega)).1]; exact (hI.out.extφ i hi hn).1, (hI.out.extφ i hi hn).2⟩, fun i hi hn => ⟨by rw [(q6 i (by omega)).2]; exact (hI.out.extτ i hi hn).1, (hI.out.extτ i hi hn).2⟩⟩
            exact go hrun2.1.symm (.inl ⟨hkT', rfl, heff⟩) hout ((hI.fr.mono q2).put _ q4) hI.mono fun k' rk h1 h2 h3 h4 h5 => owed_other hP hI q6 hrun2.2 h1 hkT' h2 h3 h4 h5 (Nat.lt_succ_self _)
          · simp only [Option.some.injEq, Prod.mk.injEq] at hrun2
            have h2le : 2 ≤ (H k).next := Nat.le_trans hS0.next (hI.mono 0 k (Nat.zero_le _) hkT)
            obtain ⟨v', w', c', q1, q2, q3, q4, q5, q6⟩ := new_sound (id := (H k).next) (G := H T) (v := mk (H k).next) w hcomp hgc hI.fr.tmps hI.out.sim heff hev' howe.2.2 h2le ⟨rfl, howe.1, howe.2.1⟩
            rw [q1, Oper.uponIn_value, ← hdst]
            have h0k : (H 0).next ≤ (H k).next := hI.mono 0 k (Nat.zero_le _) hkT
            have hout : Out CC base c0 (H 0) w0 c' (H T) w' := ⟨hI.out.le.trans q2, q3, hI.out.keeps.trans q5, hI.out.next,
              fun i hi hn => ⟨by rw [(q6 i (by omega)).1]; exact (hI.out.extφ i hi hn).1, (hI.out.extφ i hi hn).2⟩, fun i hi hn => ⟨by rw [(q6 i (by omega)).2]; exact (hI.out.extτ i hi hn).1, (hI.out.extτ i hi hn).2⟩⟩
            exact go hrun2.1.symm (.inl ⟨hkT', rfl, heff⟩) hout ((hI.fr.mono q2).put _ q4) hI.mono fun k' rk h1 h2 h3 h4 h5 => owed_other hP hI q6 hrun2.2 h1 hkT' h2 h3 h4 h5 (Nat.lt_succ_self _)
      · rw [if_neg (by rw [hw]; simp), ← hdst]
        exact ⟨fun _ _ => trivial, go hF (.inl ⟨hkT', rfl, heff⟩) hI.out (hI.fr.put _ .undef) hI.mono fun k' rk h1 h2 h3 h4 h5 => hI.owed k' rk h1 h3 h4 h5⟩
    · -- it is the next effect
      have hkT2 : k = T := by omega
      subst hkT2
      have heff := hT ro hro
      rcases hstep with ⟨hw, hrun, hck⟩ | ⟨hw, hF, hH⟩
      · rw [if_pos hw]
        obtain ⟨v, hv1, hv2⟩ := runOp_congr (fr2 := fv) (fun t ht => (hal t ht).symm) hinr.symm hndf hrun
        refine op_sound hCall hCode hcomp hdst hv2 hgc hI.fr hI.out.sim fun a' w' c' o1 f1 => ?_
        refine go hv1 (.inr ⟨rfl, rfl⟩) (hI.out.trans o1) f1 (fun i j' hij hj' => ?_) fun k' rk h1 h2 h3 h4 h5 => ?_
        · by_cases e : j' = k + 1
          · subst e
            by_cases e2 : i = k + 1
            · subst e2; exact Nat.le_refl _
            · exact Nat.le_trans (hI.mono i k (by omega) (Nat.le_refl _)) o1.next
          · exact hI.mono i j' hij (by omega)
        · have hlt : k' < k := by omega
          have hold := hI.owed k' rk hlt h3 h4 h5
          intro r1 hr1
          have := hold r1 hr1
          cases r1 with
          | val v1 => exact fun sh x e => owed_chk hP hI hk hro heff hck hready hlt h3 h4 h5 e hr1
          | newO b mk => 
            have hx := o1.extφ _ this.2.2 this.1
            exact ⟨hx.1, hx.2.trans this.2.1, Nat.lt_of_lt_of_le this.2.2 o1.next⟩
          | newT sz mk =>
            have hx := o1.extτ _ this.2.2 this.1
            exact ⟨hx.1, hx.2.trans this.2.1, Nat.lt_of_lt_of_le this.2.2 o1.next⟩
          | eff _ _ => trivial
          | call _ _ _ => trivial
          | yield _ _ => trivial
          | defr _ _ => trivial
      · rw [if_neg (by rw [hw]; simp), ← hdst]
        refine ⟨fun _ _ => trivial, go hF (.inr ⟨rfl, rfl⟩) (by rw [hH]; exact hI.out) (hI.fr.put _ .undef) (fun i j' hij hj' => ?_) fun k' rk h1 h2 h3 h4 h5 => by rw [hH]; exact hI.owed k' rk (by omega) h3 h4 h5⟩
        by_cases e : j' = k + 1
        · subst e
          rw [hH]
          by_cases e2 : i = k + 1
          · subst e2; rw [hH]; exact Nat.le_refl _
          · exact hI.mono i k (by omega) (Nat.le_refl _)
        · exact hI.mono i j' hij (by omega)

/-- **A region, drawn or not.** -/
theorem region_sound (hm : P.follows .mixedOrders = true) (hCall : CallOk P CC base D (callD D E)) (hCode : CodeOk P CC base D E) {id : Nat} {ops : Array Oper} {draw : Bool} {rops : List ROp} (hc : compRegion P cfg mf ops draw = some rops) {fr fr' : Fr} {h h' : Heap} (he : runOps D E rops fr h = some (fr', h'))
    {k : Nat} {c : Cor} {a : Act} {w : World} (hg : GlobOk D c) (hfr : FrRel c r fr a) (hS : Sim CC base c h w.heap) :
    (Code.region id ops draw).wpIn (FF r) k P (fun e a' w' => e = .normal ∧ ∃ c', Out CC base c h w c' h' w' ∧ FrRel c' r fr' a') a w := by
  cases draw with
  | false =>
    have hrs : compRops P cfg mf ops ops.toList = some rops := by
      unfold compRegion at hc
      split at hc <;> try (cases hc; done)
      rename_i rs hrs
      simp only [if_true] at hc
      cases hc
      exact hrs
    exact wpIn_region_list (seq_sound hCall hCode ops.toList rops c fr h a w hrs he hg hfr hS fun a' w' c' o1 f1 => ⟨rfl, c', o1, f1⟩)
  | true =>
    obtain ⟨κ, F, H, f0, h0, fm, hm', hP⟩ := plan_of hc he
    refine wpIn_region_any hm ?_
    let w1 : World := { w with drawn := w.drawn + 1 }
    have hS1 : Sim CC base c (H 0) w1.heap := by rw [h0]; exact hS
    have hd0 : ∀ k, don κ (Array.replicate ops.size false) k = false := fun k => by
      unfold don
      split
      · rename_i j _
        rw [Array.getD_eq_getD_getElem?]
        cases hx : (Array.replicate ops.size false)[j]? with
        | none => rfl
        | some b => simp [Array.getElem?_replicate] at hx; simp [← hx.2]
      · rfl
    have hI : Inv CC base D ops (Region.before ops) κ rops F H r c w1 (Array.replicate ops.size false) 0 c fr a w1 := by
      have hdown : ∀ (i j a b : Nat), κ[i]? = some a → κ[j]? = some b → don κ (Array.replicate ops.size false) j = true → ordered (Region.before ops) a b = true → don κ (Array.replicate ops.size false) i = true := fun i j a b _ _ hd _ => by
        rw [hd0] at hd; cases hd
      refine { size := by simp, Tm := Nat.zero_le _, effT := fun k ro _ _ => by simp [hd0], ahead := fun k _ => hd0 k, down := hdown, out := ?_, fr := hfr, inr := by rw [f0], defers := by rw [f0], len := by rw [f0], slots := fun t => ⟨0, Nat.zero_le _, by rw [f0], fun k ro _ _ => by simp [hd0]⟩,
               mono := fun i j h1 h2 => ?_, owed := fun k ro h => absurd h (Nat.not_lt_zero _) }
      · exact Out.refl hS1
      have : i = j := by omega
      subst this; exact Nat.le_refl _
    obtain ⟨T, _, hI2, hT⟩ := advance hP _ 0 rfl hI
    have hdraw : Out CC base c h w c h w1 := Out.drew hS _
    refine any_sound hP hCall hCode hg hS1 (fun a' w' c' o1 f1 => ⟨rfl, c', ?_, ?_⟩) ops.size _ T c fr a w1 (by rw [Array.toList_replicate, und_replicate]; exact Nat.le_refl _) hI2 hT
    · rw [h0, hm'] at o1
      exact hdraw.trans o1
    · rw [fm] at f1; exact f1

/-- A loop of nothing never ends. -/
theorem loop_skip : ∀ (n : Nat) (fr : Fr) (h : Heap), exec D n (.loop .skip) fr h = none
  | 0, _, _ => rfl
  | n + 1, fr, h => by
    cases n with
    | zero => rfl
    | succ n =>
      have ih := loop_skip (n + 1) fr h
      exact ih
/-- **Whatever code ours runs, the model runs to the same end.** -/
theorem code_sound (hm : P.follows .mixedOrders = true) (hCC : CC = fun code dc => ∃ mf, compC P cfg mf code = some dc) (hD : ∀ f df, D.fn f = some df → compF P cfg f = some df)
    (hprim : CallOk P CC base D (fun f args h => (D.prim f).bind fun p => p args h)) : ∀ n, CodeOk P CC base D (exec D n) := by
  intro n
  induction n using Nat.strongRecOn with
  | ind n IH =>
    cases n with
    | zero => intro code dc _ fr h x fr' h' he; cases he
    | succ n =>
    have ih := IH n (Nat.lt_succ_self _)
    have hCall := call_sound (cfg := cfg) ih (fun mf code dc h => by rw [hCC]; exact ⟨mf, h⟩) hD hprim
    intro code dc hcc fr h x fr' h' he r k c a w hg hfr hS
    rw [hCC] at hcc
    obtain ⟨mf, hcomp⟩ := hcc
    have mk : ∀ {c1 d1}, compC P cfg mf c1 = some d1 → CC c1 d1 := fun h => by rw [hCC]; exact ⟨mf, h⟩
    have he' : stepD D (exec D n) dc fr h = some (x, fr', h') := he
    cases code <;> simp only [compC] at hcomp <;> try (cases hcomp; done)
    case skip =>
      cases hcomp
      simp only [stepD] at he'; cases he'
      exact wpIn_skip ⟨rfl, c, Out.refl hS, hfr⟩
    case region id ops draw =>
      split at hcomp <;> cases hcomp
      rotate_left
      · rw [loop_skip] at he; cases he
      rename_i rops hr
      simp only [stepD] at he'
      obtain ⟨⟨f1, h1⟩, hrun, hx⟩ := Option.map_eq_some_iff.1 he'
      cases hx
      exact region_sound (cfg := cfg) hm hCall ih hr hrun hg hfr hS
    case seq x1 y1 =>
      split at hcomp <;> try (cases hcomp; done)
      rename_i dx dy h1 h2
      cases hcomp
      simp only [stepD] at he'
      split at he'
      · rename_i fr1 hh1 hx1
        refine wpIn_seq (wpIn_mono (ih _ _ (mk h1) _ _ _ _ _ hx1 r k c a w hg hfr hS) ?_)
        rintro e a1 w1 ⟨rfl, c1, o1, f1⟩
        refine wpIn_mono (ih _ _ (mk h2) _ _ _ _ _ he' r k c1 a1 w1 (hg.mono o1.le) f1 o1.sim) ?_
        rintro e a2 w2 ⟨rfl, c2, o2, f2⟩
        exact ⟨rfl, c2, o1.trans o2, f2⟩
      · rename_i hne
        refine wpIn_seq (wpIn_mono (ih _ _ (mk h1) _ _ _ _ _ he' r k c a w hg hfr hS) ?_)
        rintro e a1 w1 ⟨rfl, hrest⟩
        cases x with
        | normal => exact absurd he' (hne _ _)
        | exit id => exact ⟨rfl, hrest⟩
        | ret => exact ⟨rfl, hrest⟩
    case cond cc x1 y1 =>
      split at hcomp <;> try (cases hcomp; done)
      rename_i dc dx dy h0 h1 h2
      cases hcomp
      have hv := opd_rel hg hfr.tmps h0
      simp only [stepD] at he'
      split at he' <;> try (cases he'; done)
      · rename_i hb
        rw [hb] at hv
        exact wpIn_cond_true hv.bool_inv (ih _ _ (mk h1) _ _ _ _ _ he' r k c a w hg hfr hS)
      · rename_i hb
        rw [hb] at hv
        exact wpIn_cond_false hv.bool_inv (ih _ _ (mk h2) _ _ _ _ _ he' r k c a w hg hfr hS)
    case block id b =>
      obtain ⟨db, hb, rfl⟩ := Option.map_eq_some_iff.1 hcomp
      simp only [stepD] at he'
      refine wpIn_block ?_
      split at he'
      · rename_i i fr1 hh1 hx1
        refine wpIn_mono (ih _ _ (mk hb) _ _ _ _ _ hx1 r k c a w hg hfr hS) ?_
        rintro e a1 w1 ⟨rfl, hrest⟩
        split at he' <;> cases he'
        · rename_i hid
          subst hid
          show Exit.inBlock i _ (.exit i) a1 w1
          simp only [Exit.inBlock, if_true]
          exact ⟨rfl, hrest⟩
        · rename_i hid
          show Exit.inBlock id _ (.exit i) a1 w1
          simp only [Exit.inBlock, hid, if_false]
          exact ⟨rfl, hrest⟩
      · rename_i hne
        refine wpIn_mono (ih _ _ (mk hb) _ _ _ _ _ he' r k c a w hg hfr hS) ?_
        rintro e a1 w1 ⟨rfl, hrest⟩
        cases x with
        | normal => exact ⟨rfl, hrest⟩
        | exit i => exact absurd he' (hne _ _ _)
        | ret => exact ⟨rfl, hrest⟩
    case loop b =>
      obtain ⟨db, hb, rfl⟩ := Option.map_eq_some_iff.1 hcomp
      let I : Nat → Act → World → Prop := fun m a1 w1 => m ≤ n + 1 ∧ ∃ c1 fr1 h1, exec D m (.loop db) fr1 h1 = some (x, fr', h') ∧ Out CC base c h w c1 h1 w1 ∧ FrRel c1 r fr1 a1
      refine wpIn_loop_ghost I (n + 1) ⟨Nat.le_refl _, c, fr, h, he, Out.refl hS, hfr⟩ ?_
      rintro m a1 w1 ⟨hmle, c1, fr1, h1, hex, o1, f1⟩
      cases m with
      | zero => cases hex
      | succ m =>
        have hbody := IH m (by omega)
        have hex' : stepD D (exec D m) (.loop db) fr1 h1 = some (x, fr', h') := hex
        simp only [stepD] at hex'
        split at hex'
        · rename_i fr2 hh2 hx1
          refine wpIn_mono (hbody _ _ (mk hb) _ _ _ _ _ hx1 r k c1 a1 w1 (hg.mono o1.le) f1 o1.sim) ?_
          rintro e a2 w2 ⟨rfl, c2, o2, f2⟩
          exact ⟨m, by omega, by omega, c2, fr2, hh2, hex', o1.trans o2, f2⟩
        · rename_i hne
          refine wpIn_mono (hbody _ _ (mk hb) _ _ _ _ _ hex' r k c1 a1 w1 (hg.mono o1.le) f1 o1.sim) ?_
          rintro e a2 w2 ⟨rfl, c2, o2, f2⟩
          cases x with
          | normal => exact absurd hex' (hne _ _)
          | exit id => exact ⟨rfl, c2, o1.trans o2, f2⟩
          | ret => exact ⟨rfl, c2, o1.trans o2, f2⟩
    case rangeFunc f ps asg body =>
      split at hcomp <;> try (cases hcomp; done)
      rename_i df dasg dbody h0 h1 h2
      cases hcomp
      simp only [stepD] at he'
      exact range_sound hCall h0 (mk h1) (mk h2) he' hg hfr hS
    case exit id =>
      cases hcomp
      simp only [stepD] at he'; cases he'
      exact wpIn_exit ⟨rfl, c, Out.refl hS, hfr⟩
    case ret =>
      cases hcomp
      simp only [stepD] at he'; cases he'
      exact wpIn_ret ⟨rfl, c, Out.refl hS, hfr⟩
end
end Go.Dm
/- The D-machine (28): its runs, put together piece by piece. -/
namespace Go.Dm
set_option linter.unusedSimpArgs false
set_option linter.unusedVariables false
set_option linter.unnecessarySimpa false

def ExLe (E E' : Ex) : Prop := ∀ dc fr h r, E dc fr h = some r → E' dc fr h = some r
section
variable {D : DProg} {E E' : Ex}
theorem bodyD_le (hE : ExLe E E') {f : Nat} {args : List DV} {h : Heap} {r} (he : bodyD D E f args h = some r) : bodyD D E' f args h = some r := by
  unfold bodyD at he ⊢
  split at he <;> try (cases he; done)
  split at he <;> try (cases he; done)
  · rename_i hx
    simp only [hE _ _ _ _ hx]; exact he
  · rename_i hx
    simp only [hE _ _ _ _ hx]; exact he
theorem callDef_le (hE : ExLe E E') {f : Nat} {args : List DV} {h : Heap} {r} (he : callDef D E f args h = some r) : callDef D E' f args h = some r := by
  unfold callDef at he ⊢
  split at he <;> try (cases he; done)
  rename_i hx
  simp only [bodyD_le hE hx]; exact he
theorem leaveD_le {C C' : Nat → List DV → Heap → Option Heap} (hC : ∀ f a h r, C f a h = some r → C' f a h = some r) : ∀ {ds : List DDef} {h : Heap} {r}, leaveD ds h C = some r → leaveD ds h C' = some r
  | [], h, r, he => he
  | .mark m :: ds, h, r, he => by
    simp only [leaveD] at he ⊢
    split at he <;> try (cases he; done)
    exact leaveD_le hC he
  | .call f args :: ds, h, r, he => by
    simp only [leaveD] at he ⊢
    obtain ⟨h1, h2, h3⟩ := Option.bind_eq_some_iff.1 he
    rw [hC _ _ _ _ h2]
    exact leaveD_le hC h3
theorem callD_le (hE : ExLe E E') {f : Nat} {args : List DV} {h : Heap} {r} (he : callD D E f args h = some r) : callD D E' f args h = some r := by
  unfold callD at he ⊢
  split at he
  · exact he
  · split at he <;> try (cases he; done)
    rename_i hx
    simp only [bodyD_le hE hx]
    split at he <;> try (cases he; done)
    rename_i hy
    simp only [leaveD_le (fun f a h r => callDef_le hE) hy]
    exact he
theorem yieldD_le (hE : ExLe E E') {l : Nat} {args : List DV} {h : Heap} {r} (he : yieldD E l args h = some r) : yieldD E' l args h = some r := by
  unfold yieldD at he ⊢
  split at he <;> try (cases he; done)
  split at he
  case isFalse => cases he
  rename_i hc
  rw [if_pos hc]
  split at he <;> try (cases he; done)
  rename_i hx
  simp only [hE _ _ _ _ hx]
  split at he <;> try (cases he; done)
  split at he
  case isFalse => cases he
  rename_i hc2
  rw [if_pos hc2]
  split at he <;> try (cases he; done)
  rename_i hy
  simp only [hE _ _ _ _ hy]
  exact he
theorem runOp_le (hE : ExLe E E') {o : ROp} {fr : Fr} {h : Heap} {r} (he : runOp D E o fr h = some r) : runOp D E' o fr h = some r := by
  unfold runOp at he ⊢
  split at he <;> try exact he
  · split at he <;> try (cases he; done)
    rename_i hx
    simp only [callD_le hE hx]; exact he
  · obtain ⟨a, h1, h2⟩ := Option.map_eq_some_iff.1 he
    rw [yieldD_le hE h1, ← h2]; rfl
theorem runOps_le (hE : ExLe E E') : ∀ {os : List ROp} {fr : Fr} {h : Heap} {r}, runOps D E os fr h = some r → runOps D E' os fr h = some r
  | [], _, _, _, he => he
  | o :: os, fr, h, r, he => by
    simp only [runOps] at he ⊢
    split at he
    · rename_i hw
      rw [if_pos hw]
      split at he <;> try (cases he; done)
      rename_i hx
      simp only [runOp_le hE hx]
      split at he
      case isFalse => cases he
      rename_i hk
      rw [if_pos hk]
      exact runOps_le hE he
    · rename_i hw
      rw [if_neg hw]
      exact runOps_le hE he
theorem rangeD_le (hE : ExLe E E') {f : Opd} {ps : List Nat} {asg body : DC} {fr : Fr} {h : Heap} {r} (he : rangeD D E f ps asg body fr h = some r) : rangeD D E' f ps asg body fr h = some r := by
  unfold rangeD at he ⊢
  split at he <;> try (cases he; done)
  simp only at he ⊢
  split at he <;> try (cases he; done)
  split at he <;> try (cases he; done)
  rename_i hx
  simp only [callD_le hE hx]; exact he
theorem stepD_le (hE : ExLe E E') : ExLe (stepD D E) (stepD D E') := by
  intro dc fr h r he
  cases dc with
  | skip => exact he
  | region ops =>
    simp only [stepD] at he ⊢
    obtain ⟨a, h1, h2⟩ := Option.map_eq_some_iff.1 he
    rw [runOps_le hE h1, ← h2]; rfl
  | seq a b =>
    simp only [stepD] at he ⊢
    split at he
    · rename_i hx
      simp only [hE _ _ _ _ hx]
      exact hE _ _ _ _ he
    · rename_i hne
      rw [hE _ _ _ _ he]
      obtain ⟨x, fr', h'⟩ := r
      cases x with
      | normal => exact absurd he (hne _ _)
      | exit i => rfl
      | ret => rfl
  | cond c a b =>
    simp only [stepD] at he ⊢
    split at he
    · exact hE _ _ _ _ he
    · exact hE _ _ _ _ he
    · cases he
  | block id b =>
    simp only [stepD] at he ⊢
    split at he
    · rename_i hx
      simp only [hE _ _ _ _ hx]; exact he
    · rename_i hne
      rw [hE _ _ _ _ he]
      obtain ⟨x, fr', h'⟩ := r
      cases x with
      | normal => rfl
      | exit i => exact absurd he (hne _ _ _)
      | ret => rfl
  | loop b =>
    simp only [stepD] at he ⊢
    split at he
    · rename_i hx
      simp only [hE _ _ _ _ hx]
      exact hE _ _ _ _ he
    · rename_i hne
      rw [hE _ _ _ _ he]
      obtain ⟨x, fr', h'⟩ := r
      cases x with
      | normal => exact absurd he (hne _ _)
      | exit i => rfl
      | ret => rfl
  | range f ps asg body => exact rangeD_le hE he
  | exit id => exact he
  | ret => exact he
theorem exec_succ (D : DProg) : ∀ n, ExLe (exec D n) (exec D (n + 1))
  | 0 => fun _ _ _ _ h => by cases h
  | n + 1 => stepD_le (exec_succ D n)
theorem exec_le {n m : Nat} (h : n ≤ m) : ExLe (exec D n) (exec D m) := by
  induction h with
  | refl => exact fun _ _ _ _ h => h
  | step _ ih => exact fun dc fr h r he => exec_succ D _ dc fr h r (ih dc fr h r he)
end

/-! ### runs of whatever length -/
section
variable (D : DProg)
def Runs (f : Nat) (args : List DV) (h : Heap) (v : DV) (h' : Heap) : Prop := ∃ n, run D n f args h = some (v, h')
def Wp (dc : DC) (fr : Fr) (h : Heap) (Q : DX → Fr → Heap → Prop) : Prop := ∃ n x fr' h', exec D n dc fr h = some (x, fr', h') ∧ Q x fr' h'
def WpOps (os : List ROp) (fr : Fr) (h : Heap) (K : Fr → Heap → Prop) : Prop := ∃ n fr' h', runOps D (exec D n) os fr h = some (fr', h') ∧ K fr' h'
variable {D}
theorem Runs.mono {f : Nat} {args : List DV} {h h' : Heap} {v : DV} (hr : Runs D f args h v h') : ∃ n, ∀ m, n ≤ m → callD D (exec D m) f args h = some (v, h') :=
  let ⟨n, hn⟩ := hr; ⟨n, fun _ hm => callD_le (exec_le hm) hn⟩
theorem Wp.mono {dc : DC} {fr : Fr} {h : Heap} {Q Q' : DX → Fr → Heap → Prop} (hw : Wp D dc fr h Q) (hq : ∀ x fr' h', Q x fr' h' → Q' x fr' h') : Wp D dc fr h Q' :=
  let ⟨n, x, fr', h', h1, h2⟩ := hw; ⟨n, x, fr', h', h1, hq _ _ _ h2⟩
theorem Wp.skip {fr : Fr} {h : Heap} {Q : DX → Fr → Heap → Prop} (hq : Q .normal fr h) : Wp D .skip fr h Q := ⟨1, _, _, _, rfl, hq⟩
theorem Wp.exit {i : Nat} {fr : Fr} {h : Heap} {Q : DX → Fr → Heap → Prop} (hq : Q (.exit i) fr h) : Wp D (.exit i) fr h Q := ⟨1, _, _, _, rfl, hq⟩
theorem Wp.ret {fr : Fr} {h : Heap} {Q : DX → Fr → Heap → Prop} (hq : Q .ret fr h) : Wp D .ret fr h Q := ⟨1, _, _, _, rfl, hq⟩
/-- What follows in a sequence. -/
def Then (K : Fr → Heap → Prop) (Q : DX → Fr → Heap → Prop) : DX → Fr → Heap → Prop
  | .normal, fr, h => K fr h
  | x, fr, h => Q x fr h
theorem Wp.seq {a b : DC} {fr : Fr} {h : Heap} {Q : DX → Fr → Heap → Prop} (hw : Wp D a fr h (Then (fun fr' h' => Wp D b fr' h' Q) Q)) : Wp D (.seq a b) fr h Q := by
  obtain ⟨n, x, fr', h', h1, h2⟩ := hw
  cases x with
  | normal =>
    obtain ⟨m, x2, fr2, hh2, h3, h4⟩ := h2
    refine ⟨max n m + 1, x2, fr2, hh2, ?_, h4⟩
    show stepD D (exec D (max n m)) (.seq a b) fr h = _
    simp only [stepD, exec_le (Nat.le_max_left n m) _ _ _ _ h1]
    exact exec_le (Nat.le_max_right n m) _ _ _ _ h3
  | exit i =>
    refine ⟨n + 1, .exit i, fr', h', ?_, h2⟩
    show stepD D (exec D n) (.seq a b) fr h = _
    simp only [stepD, h1]
  | ret =>
    refine ⟨n + 1, .ret, fr', h', ?_, h2⟩
    show stepD D (exec D n) (.seq a b) fr h = _
    simp only [stepD, h1]
theorem Wp.cond {c : Opd} {a b : DC} {fr : Fr} {h : Heap} {Q : DX → Fr → Heap → Prop} {t : Bool} (hc : ev D fr c = .bool t) (hw : if t then Wp D a fr h Q else Wp D b fr h Q) : Wp D (.cond c a b) fr h Q := by
  cases t with
  | true =>
    obtain ⟨n, x, fr', h', h1, h2⟩ := hw
    refine ⟨n + 1, x, fr', h', ?_, h2⟩
    show stepD D (exec D n) (.cond c a b) fr h = _
    simp only [stepD, hc, h1]
  | false =>
    obtain ⟨n, x, fr', h', h1, h2⟩ := hw
    refine ⟨n + 1, x, fr', h', ?_, h2⟩
    show stepD D (exec D n) (.cond c a b) fr h = _
    simp only [stepD, hc, h1]
def InBlock (id : Nat) (Q : DX → Fr → Heap → Prop) : DX → Fr → Heap → Prop
  | .exit i, fr, h => if i = id then Q .normal fr h else Q (.exit i) fr h
  | x, fr, h => Q x fr h
theorem Wp.block {id : Nat} {b : DC} {fr : Fr} {h : Heap} {Q : DX → Fr → Heap → Prop} (hw : Wp D b fr h (InBlock id Q)) : Wp D (.block id b) fr h Q := by
  obtain ⟨n, x, fr', h', h1, h2⟩ := hw
  cases x with
  | normal =>
    refine ⟨n + 1, .normal, fr', h', ?_, h2⟩
    show stepD D (exec D n) (.block id b) fr h = _
    simp only [stepD, h1]
  | exit i =>
    by_cases e : i = id
    · subst e
      simp only [InBlock, if_true] at h2
      refine ⟨n + 1, .normal, fr', h', ?_, h2⟩
      show stepD D (exec D n) (.block i b) fr h = _
      simp only [stepD, h1, if_true]
    · simp only [InBlock, e, if_false] at h2
      refine ⟨n + 1, .exit i, fr', h', ?_, h2⟩
      show stepD D (exec D n) (.block id b) fr h = _
      simp only [stepD, h1, e, if_false]
  | ret =>
    refine ⟨n + 1, .ret, fr', h', ?_, h2⟩
    show stepD D (exec D n) (.block id b) fr h = _
    simp only [stepD, h1]
theorem Wp.loop1 {b : DC} {fr : Fr} {h : Heap} {Q : DX → Fr → Heap → Prop} (hw : Wp D b fr h (Then (fun fr' h' => Wp D (.loop b) fr' h' Q) Q)) : Wp D (.loop b) fr h Q := by
  obtain ⟨n, x, fr', h', h1, h2⟩ := hw
  cases x with
  | normal =>
    obtain ⟨m, x2, fr2, hh2, h3, h4⟩ := h2
    refine ⟨max n m + 1, x2, fr2, hh2, ?_, h4⟩
    show stepD D (exec D (max n m)) (.loop b) fr h = _
    simp only [stepD, exec_le (Nat.le_max_left n m) _ _ _ _ h1]
    exact exec_le (Nat.le_max_right n m) _ _ _ _ h3
  | exit i =>
    refine ⟨n + 1, .exit i, fr', h', ?_, h2⟩
    show stepD D (exec D n) (.loop b) fr h = _
    simp only [stepD, h1]
  | ret =>
    refine ⟨n + 1, .ret, fr', h', ?_, h2⟩
    show stepD D (exec D n) (.loop b) fr h = _
    simp only [stepD, h1]
/-- A loop that does a list's elements, one a round, or whatever else grows less. -/
theorem Wp.loop {b : DC} {Q : DX → Fr → Heap → Prop} (I : Nat → Fr → Heap → Prop) (round : ∀ n fr h, I n fr h → Wp D b fr h (Then (fun fr' h' => ∃ m, m < n ∧ I m fr' h') Q)) : ∀ (n : Nat) (fr : Fr) (h : Heap), I n fr h → Wp D (.loop b) fr h Q := by
  intro n
  induction n using Nat.strongRecOn with
  | ind n ih =>
    intro fr h hI
    refine Wp.loop1 ((round n fr h hI).mono fun x fr' h' hq => ?_)
    cases x with
    | normal => obtain ⟨m, hm, hI'⟩ := hq; exact ih m hm fr' h' hI'
    | exit i => exact hq
    | ret => exact hq
theorem Wp.region {os : List ROp} {fr : Fr} {h : Heap} {Q : DX → Fr → Heap → Prop} (hw : WpOps D os fr h fun fr' h' => Q .normal fr' h') : Wp D (.region os) fr h Q := by
  obtain ⟨n, fr', h', h1, h2⟩ := hw
  refine ⟨n + 1, .normal, fr', h', ?_, h2⟩
  show stepD D (exec D n) (.region os) fr h = _
  simp only [stepD, h1, Option.map_some]
theorem WpOps.nil {fr : Fr} {h : Heap} {K : Fr → Heap → Prop} (hk : K fr h) : WpOps D [] fr h K := ⟨0, _, _, rfl, hk⟩
/-- An operation that is no call. -/
theorem WpOps.op {o : ROp} {os : List ROp} {fr : Fr} {h : Heap} {K : Fr → Heap → Prop} {r : EvR} {v : DV} {h1 : Heap} (hw : wantedG o.guard fr = true) (he : evalOp D fr h o.op = some r) (hs : stepEv h r = some (v, h1)) (hc : chkOk D (fr.put o.dst v) h1 o.chk = true)
    (hk : WpOps D os (fr.put o.dst v) h1 K) : WpOps D (o :: os) fr h K := by
  obtain ⟨n, fr', h', q1, q2⟩ := hk
  refine ⟨n, fr', h', ?_, q2⟩
  have hrun : runOp D (exec D n) o fr h = some (fr.put o.dst v, h1) := by
    unfold runOp
    rw [he]
    cases r <;> simp only [stepEv] at hs <;> cases hs <;> rfl
  simp only [runOps, wantedD, hw, if_true, hrun, hc, q1]
theorem WpOps.off {o : ROp} {os : List ROp} {fr : Fr} {h : Heap} {K : Fr → Heap → Prop} (hw : wantedG o.guard fr = false) (hk : WpOps D os (fr.put o.dst .undef) h K) : WpOps D (o :: os) fr h K := by
  obtain ⟨n, fr', h', q1, q2⟩ := hk
  refine ⟨n, fr', h', ?_, q2⟩
  simp only [runOps, wantedD, hw, Bool.false_eq_true, if_false, q1]
theorem WpOps.call {o : ROp} {os : List ROp} {fr : Fr} {h : Heap} {K : Fr → Heap → Prop} {f : Nat} {args : List DV} {v : DV} {h1 : Heap} (hw : wantedG o.guard fr = true) (he : evalOp D fr h o.op = some (.call f args false)) (hr : Runs D f args h v h1) (hc : chkOk D (fr.put o.dst v) h1 o.chk = true)
    (hk : WpOps D os (fr.put o.dst v) h1 K) : WpOps D (o :: os) fr h K := by
  obtain ⟨n, fr', h', q1, q2⟩ := hk
  obtain ⟨m, hm⟩ := hr.mono
  refine ⟨max n m, fr', h', ?_, q2⟩
  have hrun : runOp D (exec D (max n m)) o fr h = some (fr.put o.dst v, h1) := by
    unfold runOp
    rw [he]
    simp only [hm _ (Nat.le_max_right n m), Bool.false_eq_true, if_false]
  simp only [runOps, wantedD, hw, if_true, hrun, hc, runOps_le (exec_le (Nat.le_max_left n m)) q1]
theorem WpOps.callF {o : ROp} {os : List ROp} {fr : Fr} {h : Heap} {K : Fr → Heap → Prop} {f : Nat} {args : List DV} {v v2 : DV} {h1 h2 : Heap} (hw : wantedG o.guard fr = true) (he : evalOp D fr h o.op = some (.call f args true)) (hr : Runs D f args h v h1) (hz : frzV h1 v = some (v2, h2)) (hc : chkOk D (fr.put o.dst v2) h2 o.chk = true)
    (hk : WpOps D os (fr.put o.dst v2) h2 K) : WpOps D (o :: os) fr h K := by
  obtain ⟨n, fr', h', q1, q2⟩ := hk
  obtain ⟨m, hm⟩ := hr.mono
  refine ⟨max n m, fr', h', ?_, q2⟩
  have hrun : runOp D (exec D (max n m)) o fr h = some (fr.put o.dst v2, h2) := by
    unfold runOp
    rw [he]
    simp only [hm _ (Nat.le_max_right n m), if_true, hz, Option.map_some]
  simp only [runOps, wantedD, hw, if_true, hrun, hc, runOps_le (exec_le (Nat.le_max_left n m)) q1]
end
end Go.Dm
/- The D-machine (30): from a run of ours to the model's call. -/
namespace Go.Dm
set_option linter.unusedSimpArgs false
set_option linter.unusedVariables false
set_option linter.unnecessarySimpa false
open Go.RowKit

/-- Where nothing is ours yet: all that lies in the memory stays. -/
def Cor.start (W : World) : Cor := { φ := fun _ => none, τ := fun _ => none, kp := fun b o => W.cell? ⟨b, o, none⟩ }
def Heap.start : Heap := { next := 2, objs := .nil, tags := .nil }
theorem start_sim {CC : Code → DC → Prop} (W : World) : Sim CC W.heap.size (Cor.start W) Heap.start W.heap := by
  refine ⟨?_, ?_, ?_, ?_, ?_, ?_, ?_, ?_, ?_, ?_, Nat.le_refl _, Nat.le_refl _, ?_⟩
  · intro _ _ _ _ _ _ _ h; cases h
  · intro _ _ _ _ _ _ _ _ _ _ _ _ _ h; cases h
  · intro b o v h
    have h' : W.cell? ⟨b, o, none⟩ = some v := h
    unfold World.cell? at h'
    split at h'
    · rename_i c e f hb
      exact ⟨c, e, f, hb, by simpa using h'⟩
    · cases h'
  · intro _ _ _ _ _ _ _ h; cases h
  · intro _ _ _ _ _ _ _ h; cases h
  · intro _ _ _ _ _ _ _ _ _ _ _ _ _ h; cases h
  · intro _ _ _ _ _ _ _ _ _ _ _ _ h; cases h
  · intro _ _ h; cases h
  · intro _ _ h; cases h
  · intro _ _ _ _ _ h; cases h
  · intro id _; exact ⟨rfl, rfl⟩
theorem Keeps.but {W W' : World} (h : Keeps W.heap.size W W') (may : MemPlace → Prop) : W.keptBut W' may := by
  refine ⟨h.os, h.output, fun i hi => ?_⟩
  have := h.old i hi
  rw [this]
  cases hx : W.heap[i]? with
  | none => trivial
  | some o => cases o <;> first | exact ⟨rfl, rfl, rfl, fun _ _ => rfl⟩ | exact .inr ⟨rfl, rfl⟩ | rfl

/-- What the parts that are not run az code do is what the model's do. -/
def PrimOk (P : Program) (cfg : Cfg) (D : DProg) : Prop := ∀ base, CallOk P (fun code dc => ∃ mf, compC P cfg mf code = some dc) base D (fun f args h => (D.prim f).bind fun p => p args h)
theorem primOk_none {P : Program} {cfg : Cfg} {D : DProg} (hprim : ∀ f, D.prim f = none) : PrimOk P cfg D := by
  intro base f args h v h' he
  simp only [hprim, Option.bind_none] at he
  cases he
theorem calls_of_runs {P : Program} {cfg : Cfg} {D : DProg} (hm : P.follows .mixedOrders = true) (hD : ∀ f df, D.fn f = some df → compF P cfg f = some df) (hprim : PrimOk P cfg D) {f : Nat} {args : List DV} {v : DV} {h' : Heap} (hr : Runs D f args Heap.start v h')
    {W : World} {vargs : Array Value} (hv : VRels (Cor.start W) args vargs.toList) (hg : GlobOk D (Cor.start W)) : Calls P f vargs W fun e W' => ∃ v' c', e = .returned v' ∧ VRel c' v v' ∧ Keeps W.heap.size W W' := by
  obtain ⟨n, hn⟩ := hr
  let CC : Code → DC → Prop := fun code dc => ∃ mf, compC P cfg mf code = some dc
  have hp : CallOk P CC W.heap.size D (fun f args h => (D.prim f).bind fun p => p args h) := hprim _
  have hcode := code_sound (base := W.heap.size) hm (CC := CC) rfl hD hp n
  have hcall := call_sound (cfg := cfg) hcode (fun mf code dc h => ⟨mf, h⟩) hD hp
  obtain ⟨fn, _, _, _, hcs⟩ := hcall f args Heap.start v h' hn 0 (Cor.start W) W vargs.toList hg hv (start_sim W)
  have hcs' := callsIn_wide.1 hcs
  rw [Array.toArray_toList] at hcs'
  exact Calls.mono hcs' fun e W' ⟨v', c', he, ho, hv'⟩ => ⟨v', c', he, hv', ho.keeps⟩
theorem calls_true {P : Program} {cfg : Cfg} {D : DProg} (hm : P.follows .mixedOrders = true) (hD : ∀ f df, D.fn f = some df → compF P cfg f = some df) (hprim : PrimOk P cfg D) {f : Nat} {args : List DV} {h' : Heap} (hr : Runs D f args Heap.start (.bool true) h')
    {W : World} {vargs : Array Value} (hv : VRels (Cor.start W) args vargs.toList) (hg : GlobOk D (Cor.start W)) : Calls P f vargs W fun e W' => e = .returned (.bool true) ∧ Keeps W.heap.size W W' :=
  (calls_of_runs hm hD hprim hr hv hg).mono fun _ _ ⟨_, _, he, hv', hk⟩ => ⟨by rw [he, hv'.bool_inv], hk⟩
end Go.Dm
/- The table of the functions. -/
namespace Go.Proofs.YtfgghapmgdgaeaaGreatDoor.Code
set_option linter.unusedSimpArgs false
set_option linter.unusedVariables false
set_option maxRecDepth 100000
open Go.Dm
def tab : NT := (.node (.node (.node (.node tb1 23 k23 tb2) 45 k45 tb3) 68 k68 (.node (.node tb4 91 k91 tb5) 112 k112 tb6)) 133 k133 (.node (.node (.node tb7 154 k154 tb8) 175 k175 tb9) 196 k196 (.node (.node tb10 217 k217 tb11) 241 k241 tb12)))
theorem tabOk : tab.Ok Tryz.prog cfg := (.node (.node (.node (.node tk1 ke23 tk2) ke45 tk3) ke68 (.node (.node tk4 ke91 tk5) ke112 tk6)) ke133 (.node (.node (.node tk7 ke154 tk8) ke175 tk9) ke196 (.node (.node tk10 ke217 tk11) ke241 tk12)))
def gl_tree_breaks : List DV := [(.lst 1 1 [(.str [98]), (.str [98, 105, 103]), (.str [98, 108, 111, 99, 107, 113, 117, 111, 116, 101]), (.str [98, 111, 100, 121]), (.str [98, 114]), (.str [99, 101, 110, 116, 101, 114]), (.str [99, 111, 100, 101]), (.str [100, 100]), (.str [100, 105, 118]), (.str [100, 108]), (.str [100, 116]), (.str [101, 109]), (.str [101, 109, 98, 101, 100]), (.str [104, 49]), (.str [104, 50]), (.str [104, 51]), (.str [104, 52]), (.str [104, 53]), (.str [104, 54]), (.str [104, 101, 97, 100]), (.str [104, 114]), (.str [105]), (.str [105, 109, 103]), (.str [108, 105]), (.str [108, 105, 115, 116, 105, 110, 103]), (.str [109, 101, 110, 117]), (.str [109, 101, 116, 97]), (.str [110, 111, 98, 114]), (.str [111, 108]), (.str [112]), (.str [112, 114, 101]), (.str [114, 117, 98, 121]), (.str [115]), (.str [115, 109, 97, 108, 108]), (.str [115, 112, 97, 110]), (.str [115, 116, 114, 111, 110, 103]), (.str [115, 116, 114, 105, 107, 101]), (.str [115, 117, 98]), (.str [115, 117, 112]), (.str [116, 97, 98, 108, 101]), (.str [116, 116]), (.str [117]), (.str [117, 108]), (.str [118, 97, 114])])]
def gl_tree_names : List DV := [(.lst 1 2 [(.agg [(.str [102, 111, 114, 101, 105, 103, 110, 111, 98, 106, 101, 99, 116]), (.str [102, 111, 114, 101, 105, 103, 110, 79, 98, 106, 101, 99, 116])]), (.agg [(.str [99, 108, 105, 112, 112, 97, 116, 104]), (.str [99, 108, 105, 112, 80, 97, 116, 104])]), (.agg [(.str [108, 105, 110, 101, 97, 114, 103, 114, 97, 100, 105, 101, 110, 116]), (.str [108, 105, 110, 101, 97, 114, 71, 114, 97, 100, 105, 101, 110, 116])]), (.agg [(.str [114, 97, 100, 105, 97, 108, 103, 114, 97, 100, 105, 101, 110, 116]), (.str [114, 97, 100, 105, 97, 108, 71, 114, 97, 100, 105, 101, 110, 116])]), (.agg [(.str [116, 101, 120, 116, 112, 97, 116, 104]), (.str [116, 101, 120, 116, 80, 97, 116, 104])])])]
def gl_tree_tables : List DV := [(.lst 1 1 [(.str [99, 97, 112, 116, 105, 111, 110]), (.str [99, 111, 108]), (.str [99, 111, 108, 103, 114, 111, 117, 112]), (.str [116, 98, 111, 100, 121]), (.str [116, 100]), (.str [116, 102, 111, 111, 116]), (.str [116, 104]), (.str [116, 104, 101, 97, 100]), (.str [116, 114])])]
def windows : List Int := [8364, 129, 8218, 402, 8222, 8230, 8224, 8225, 710, 8240, 352, 8249, 338, 141, 381, 143, 144, 8216, 8217, 8220, 8221, 8226, 8211, 8212, 732, 8482, 353, 8250, 339, 157, 382, 376]
def gl_tree_blocks : List DV := [(.lst 1 1 [(.str [97, 100, 100, 114, 101, 115, 115]), (.str [97, 114, 116, 105, 99, 108, 101]), (.str [97, 115, 105, 100, 101]), (.str [98, 108, 111, 99, 107, 113, 117, 111, 116, 101]), (.str [99, 101, 110, 116, 101, 114]), (.str [100, 101, 116, 97, 105, 108, 115]), (.str [100, 105, 97, 108, 111, 103]), (.str [100, 105, 114]), (.str [100, 105, 118]), (.str [100, 108]), (.str [102, 105, 101, 108, 100, 115, 101, 116]), (.str [102, 105, 103, 99, 97, 112, 116, 105, 111, 110]), (.str [102, 105, 103, 117, 114, 101]), (.str [102, 111, 111, 116, 101, 114]), (.str [104, 101, 97, 100, 101, 114]), (.str [104, 103, 114, 111, 117, 112]), (.str [109, 97, 105, 110]), (.str [109, 101, 110, 117]), (.str [110, 97, 118]), (.str [111, 108]), (.str [112]), (.str [115, 101, 97, 114, 99, 104]), (.str [115, 101, 99, 116, 105, 111, 110]), (.str [115, 117, 109, 109, 97, 114, 121]), (.str [117, 108])])]
def gl_tree_heads : List DV := [(.lst 1 1 [(.str [104, 49]), (.str [104, 50]), (.str [104, 51]), (.str [104, 52]), (.str [104, 53]), (.str [104, 54])])]
def gl_tree_shaping : List DV := [(.lst 1 1 [(.str [97]), (.str [98]), (.str [98, 105, 103]), (.str [99, 111, 100, 101]), (.str [101, 109]), (.str [102, 111, 110, 116]), (.str [105]), (.str [110, 111, 98, 114]), (.str [115]), (.str [115, 109, 97, 108, 108]), (.str [115, 116, 114, 105, 107, 101]), (.str [115, 116, 114, 111, 110, 103]), (.str [116, 116]), (.str [117])])]
def gl_open_implied : List DV := [(.lst 1 1 [(.str [100, 100]), (.str [100, 116]), (.str [108, 105]), (.str [111, 112, 116, 103, 114, 111, 117, 112]), (.str [111, 112, 116, 105, 111, 110]), (.str [112]), (.str [114, 98]), (.str [114, 112]), (.str [114, 116]), (.str [114, 116, 99])])]
def gl_open_usual : List DV := [(.lst 1 1 [(.str [97, 112, 112, 108, 101, 116]), (.str [99, 97, 112, 116, 105, 111, 110]), (.str [104, 116, 109, 108]), (.str [116, 97, 98, 108, 101]), (.str [116, 100]), (.str [116, 104]), (.str [109, 97, 114, 113, 117, 101, 101]), (.str [111, 98, 106, 101, 99, 116]), (.str [116, 101, 109, 112, 108, 97, 116, 101])])]
def gl_tree_special : List DV := [(.lst 1 1 [(.str [97, 100, 100, 114, 101, 115, 115]), (.str [97, 112, 112, 108, 101, 116]), (.str [97, 114, 101, 97]), (.str [97, 114, 116, 105, 99, 108, 101]), (.str [97, 115, 105, 100, 101]), (.str [98, 97, 115, 101]), (.str [98, 97, 115, 101, 102, 111, 110, 116]), (.str [98, 103, 115, 111, 117, 110, 100]), (.str [98, 108, 111, 99, 107, 113, 117, 111, 116, 101]), (.str [98, 111, 100, 121]), (.str [98, 114]), (.str [98, 117, 116, 116, 111, 110]), (.str [99, 97, 112, 116, 105, 111, 110]), (.str [99, 101, 110, 116, 101, 114]), (.str [99, 111, 108]), (.str [99, 111, 108, 103, 114, 111, 117, 112]), (.str [100, 100]), (.str [100, 101, 116, 97, 105, 108, 115]), (.str [100, 105, 114]), (.str [100, 105, 118]), (.str [100, 108]), (.str [100, 116]), (.str [101, 109, 98, 101, 100]), (.str [102, 105, 101, 108, 100, 115, 101, 116]), (.str [102, 105, 103, 99, 97, 112, 116, 105, 111, 110]), (.str [102, 105, 103, 117, 114, 101]), (.str [102, 111, 111, 116, 101, 114]), (.str [102, 111, 114, 109]), (.str [102, 114, 97, 109, 101]), (.str [102, 114, 97, 109, 101, 115, 101, 116]), (.str [104, 49]), (.str [104, 50]), (.str [104, 51]), (.str [104, 52]), (.str [104, 53]), (.str [104, 54]), (.str [104, 101, 97, 100]), (.str [104, 101, 97, 100, 101, 114]), (.str [104, 103, 114, 111, 117, 112]), (.str [104, 114]), (.str [104, 116, 109, 108]), (.str [105, 102, 114, 97, 109, 101]), (.str [105, 109, 103]), (.str [105, 110, 112, 117, 116]), (.str [107, 101, 121, 103, 101, 110]), (.str [108, 105]), (.str [108, 105, 110, 107]), (.str [108, 105, 115, 116, 105, 110, 103]), (.str [109, 97, 105, 110]), (.str [109, 97, 114, 113, 117, 101, 101]), (.str [109, 101, 110, 117]), (.str [109, 101, 116, 97]), (.str [110, 97, 118]), (.str [110, 111, 101, 109, 98, 101, 100]), (.str [110, 111, 102, 114, 97, 109, 101, 115]), (.str [110, 111, 115, 99, 114, 105, 112, 116]), (.str [111, 98, 106, 101, 99, 116]), (.str [111, 108]), (.str [112]), (.str [112, 97, 114, 97, 109]), (.str [112, 108, 97, 105, 110, 116, 101, 120, 116]), (.str [112, 114, 101]), (.str [115, 99, 114, 105, 112, 116]), (.str [115, 101, 97, 114, 99, 104]), (.str [115, 101, 99, 116, 105, 111, 110]), (.str [115, 101, 108, 101, 99, 116]), (.str [115, 111, 117, 114, 99, 101]), (.str [115, 116, 121, 108, 101]), (.str [115, 117, 109, 109, 97, 114, 121]), (.str [116, 97, 98, 108, 101]), (.str [116, 98, 111, 100, 121]), (.str [116, 100]), (.str [116, 101, 109, 112, 108, 97, 116, 101]), (.str [116, 101, 120, 116, 97, 114, 101, 97]), (.str [116, 102, 111, 111, 116]), (.str [116, 104]), (.str [116, 104, 101, 97, 100]), (.str [116, 105, 116, 108, 101]), (.str [116, 114]), (.str [116, 114, 97, 99, 107]), (.str [117, 108]), (.str [119, 98, 114]), (.str [120, 109, 112])])]
def glob (g : Nat) : Option (List DV) := match Nat.beq g 0 with
  | true => some gl_tree_breaks
  | false => match Nat.beq g 1 with
  | true => some gl_tree_names
  | false => match Nat.beq g 2 with
  | true => some gl_tree_tables
  | false => match Nat.beq g 3 with
  | true => some (windows.map (DV.int .i32))
  | false => match Nat.beq g 4 with
  | true => some gl_tree_blocks
  | false => match Nat.beq g 5 with
  | true => some gl_tree_heads
  | false => match Nat.beq g 6 with
  | true => some gl_tree_shaping
  | false => match Nat.beq g 7 with
  | true => some gl_open_implied
  | false => match Nat.beq g 8 with
  | true => some gl_open_usual
  | false => match Nat.beq g 12 with
  | true => some gl_tree_special
  | false => none
def D : DProg := ⟨fun f => (tab.get f).map Nu.df, glob, fun _ => none⟩
theorem hP : PrimOk Tryz.prog cfg D := primOk_none fun _ => rfl
theorem hD : ∀ f df, D.fn f = some df → compF Tryz.prog cfg f = some df := fun _ _ h => tabOk.get h
theorem hm : Tryz.prog.follows .mixedOrders = true := by kernel_rfl
end Go.Proofs.YtfgghapmgdgaeaaGreatDoor.Code
/- The D-machine (31): symbolic runs: frames by entries, heaps by pieces; what they mean. -/
namespace Go.Dm
set_option linter.unusedSimpArgs false
set_option linter.unusedVariables false
set_option linter.unnecessarySimpa false

/-- What a slot holds; 'g': under that guard (else nothing). -/
structure En where
  s : Nat
  g : Option (Nat × Bool)
  v : DV
def memN (n : Nat) : List Nat → Bool
  | [] => false
  | m :: r => match Nat.beq n m with
    | true => true
    | false => memN n r
def eqB : Bool → Bool → Bool
  | c, true => c
  | c, false => !c
def memT (n : Nat) (b : Bool) : List (Nat × Bool) → Bool
  | [] => false
  | m :: r => match Nat.beq n m.1, b, m.2 with
    | true, true, true => true
    | true, false, false => true
    | _, _, _ => memT n b r
/-- A slot's value, under some guards; the newest entry first. -/
def lk (A : List (Nat × Bool)) : List Nat → List En → Nat → Option DV
  | _, [], _ => none
  | seen, ⟨s, g, v⟩ :: r, n => match Nat.beq s n with
    | true => match g with
      | none => some v
      | some (t, b) => match memT t b A, memN t (s :: seen) with
        | true, false => some v
        | _, _ => none
    | false => lk A (s :: seen) r n
def tg : List Nat → List En → Nat → Option (DV × Option (Nat × Bool))
  | _, [], _ => none
  | seen, ⟨s, g, v⟩ :: r, n => match Nat.beq s n with
    | true => match g with
      | none => some (v, none)
      | some (t, b) => match memN t (s :: seen) with
        | true => none
        | false => some (v, some (t, b))
    | false => tg (s :: seen) r n
/-- A guard's guards, and what it says. -/
def gate (es : List En) : Nat → Option (Nat × Bool) → Option (List (Nat × Bool) × Bool)
  | _, none => some ([], true)
  | 0, some _ => none
  | f + 1, some (t, b) => match tg [] es t with
    | some (.bool c, g) => match gate es f g with
      | some (A, p) => some ((t, b) :: A, p && eqB c b)
      | none => none
    | some (.undef, _) => some ([(t, b)], false)
    | _ => none

def EnOk (fr : List DV) (seen : List Nat) (e : En) : Prop :=
  memN e.s seen = false → match e.g with
    | none => fr.getD e.s .undef = e.v
    | some (t, b) => memN t (e.s :: seen) = false → (fr.getD t .undef = .bool b → fr.getD e.s .undef = e.v) ∧ (fr.getD t .undef ≠ .bool b → fr.getD e.s .undef = .undef)
def Ag (fr : List DV) : List Nat → List En → Prop
  | _, [] => True
  | seen, e :: r => EnOk fr seen e ∧ Ag fr (e.s :: seen) r

structure St where
  nt : Nat
  es : List En
  ds : List DDef
  ir : Option Nat
structure AgS (fr : Fr) (st : St) : Prop where
  len : fr.tmps.length = st.nt
  es : Ag fr.tmps [] st.es
  ds : fr.defers = st.ds
  ir : fr.inr = st.ir
def St.putO : St → Option Nat → DV → St
  | ⟨nt, es, ds, ir⟩, some d, v => ⟨nt, ⟨d, none, v⟩ :: es, ds, ir⟩
  | ⟨nt, es, ds, ir⟩, none, _ => ⟨nt, es, ds, ir⟩
/-- A side of a step that is reckoned. -/
@[irreducible] def Arith (p : Prop) : Prop := p
theorem Arith.mk {p : Prop} (h : p) : Arith p := by unfold Arith; exact h
theorem Arith.out {p : Prop} (h : Arith p) : p := by unfold Arith at h; exact h
def dstOk (nt : Nat) : Option Nat → Bool
  | none => true
  | some d => Nat.blt d nt

/-- Pieces of a heap. -/
structure HP where
  foot : Nat → Prop
  ok : (Nat → Option HObj) → (Nat → Option Nat) → Prop
  loc : ∀ o t o' t', (∀ i, foot i → o i = o' i ∧ t i = t' i) → ok o t → ok o' t'
inductive Ck where
  | obj (id : Nat) (o : HObj)
  | own (t sz : Nat) (xs : List DV)
  | pr (p : HP)
def Ck.foot : Ck → Nat → Prop
  | .obj id _ => fun i => i = id
  | .own t _ _ => fun i => i = t ∧ 2 ≤ t
  | .pr p => p.foot
def Ck.ok (h : Heap) : Ck → Prop
  | .obj id o => h.objs.get id = some o
  | .own t sz xs => (t = 0 ∧ xs = []) ∨ (2 ≤ t ∧ h.tags.get t = some sz)
  | .pr p => p.ok h.objs.get h.tags.get
structure Sat (h : Heap) (cs : List Ck) : Prop where
  two : 2 ≤ h.next
  ok : ∀ c ∈ cs, c.ok h ∧ ∀ i, c.foot i → i < h.next
  sep : cs.Pairwise fun a b => ∀ i, ¬(a.foot i ∧ b.foot i)

theorem Ck.ok_loc {h h' : Heap} {c : Ck} (hl : ∀ i, c.foot i → h.objs.get i = h'.objs.get i ∧ h.tags.get i = h'.tags.get i) (hc : c.ok h) : c.ok h' := by
  cases c with
  | obj id o => show h'.objs.get id = some o; rw [← (hl id rfl).1]; exact hc
  | own t sz xs =>
    rcases hc with h0 | ⟨h2, ht⟩
    · exact .inl h0
    · exact .inr ⟨h2, by rw [← (hl t ⟨rfl, h2⟩).2]; exact ht⟩
  | pr p => exact p.loc _ _ _ _ hl hc

/-- A piece in a place of the list. -/
inductive Me (c : Ck) : List Ck → Prop where
  | head {r : List Ck} : Me c (c :: r)
  | tail {x : Ck} {r : List Ck} : Me c r → Me c (x :: r)
inductive Upd {α : Type} (c : Ck) (n : α → Ck) : List Ck → (α → List Ck) → Prop where
  | head {r : List Ck} : Upd c n (c :: r) (fun a => n a :: r)
  | tail {x : Ck} {r : List Ck} {r' : α → List Ck} : Upd c n r r' → Upd c n (x :: r) (fun a => x :: r' a)
inductive Upd1 (c n : Ck) : List Ck → List Ck → Prop where
  | head {r : List Ck} : Upd1 c n (c :: r) (n :: r)
  | tail {x : Ck} {r r' : List Ck} : Upd1 c n r r' → Upd1 c n (x :: r) (x :: r')
inductive Rem (c : Ck) : List Ck → List Ck → Prop where
  | head {r : List Ck} : Rem c (c :: r) r
  | tail {x : Ck} {r r' : List Ck} : Rem c r r' → Rem c (x :: r) (x :: r')
theorem Me.mem {c : Ck} : ∀ {cs : List Ck}, Me c cs → c ∈ cs
  | _, .head => by simp
  | _, .tail h => by simp [h.mem]
theorem Upd.one {α : Type} {c : Ck} {n : α → Ck} {cs : List Ck} {cs' : α → List Ck} (h : Upd c n cs cs') (a : α) : Upd1 c (n a) cs (cs' a) := by
  induction h with
  | head => exact .head
  | tail _ ih => exact .tail ih
theorem Upd1.mem {c n : Ck} {cs cs' : List Ck} (h : Upd1 c n cs cs') : c ∈ cs := by
  induction h with
  | head => simp
  | tail _ ih => simp [ih]
theorem Rem.mem {c : Ck} {cs cs' : List Ck} (h : Rem c cs cs') : c ∈ cs := by
  induction h with
  | head => simp
  | tail _ ih => simp [ih]
theorem Sat.get {h : Heap} {cs : List Ck} {c : Ck} (hs : Sat h cs) (hm : Me c cs) : c.ok h := (hs.ok c hm.mem).1
theorem Sat.obj {h : Heap} {cs : List Ck} {id : Nat} {o : HObj} (hs : Sat h cs) (hm : Me (.obj id o) cs) : h.objs.get id = some o := hs.get hm

theorem upd1_sub {c n : Ck} {cs cs' : List Ck} (h : Upd1 c n cs cs') : ∀ x ∈ cs', x = n ∨ x ∈ cs := by
  induction h with
  | head => intro x hx; simp at hx; rcases hx with rfl | hx <;> simp_all
  | tail _ ih => intro x hx; simp at hx; rcases hx with rfl | hx <;> simp; rcases ih x hx with h | h <;> simp [h]
/-- A piece becomes another one in its own place; the others lie apart from it. -/
theorem Sat.upd {h h' : Heap} {cs cs' : List Ck} {c n : Ck} (hs : Sat h cs) (hu : Upd1 c n cs cs') (hnext : h.next ≤ h'.next)
    (hn : n.ok h') (hfn : ∀ i, n.foot i → i < h'.next) (hfoot : ∀ i, n.foot i → c.foot i ∨ h.next ≤ i)
    (hk : ∀ i, i < h.next → ¬ c.foot i → h'.objs.get i = h.objs.get i ∧ h'.tags.get i = h.tags.get i) : Sat h' cs' := by
  refine ⟨Nat.le_trans hs.two hnext, ?_, ?_⟩
  · have aux : ∀ {cs cs' : List Ck}, Upd1 c n cs cs' → (∀ x ∈ cs, x.ok h ∧ ∀ i, x.foot i → i < h.next) → cs.Pairwise (fun a b => ∀ i, ¬(a.foot i ∧ b.foot i)) → ∀ x ∈ cs', x.ok h' ∧ ∀ i, x.foot i → i < h'.next := by
      intro cs cs' hu
      have keep : ∀ x : Ck, x.ok h ∧ (∀ i, x.foot i → i < h.next) → (∀ i, ¬(c.foot i ∧ x.foot i)) → x.ok h' ∧ ∀ i, x.foot i → i < h'.next := fun x hx hd =>
        ⟨Ck.ok_loc (fun i hi => by have := hk i (hx.2 i hi) (fun hc => hd i ⟨hc, hi⟩); exact ⟨this.1.symm, this.2.symm⟩) hx.1, fun i hi => Nat.lt_of_lt_of_le (hx.2 i hi) hnext⟩
      induction hu with
      | head =>
        intro hok hsep x hx
        rcases List.mem_cons.1 hx with rfl | hx
        · exact ⟨hn, hfn⟩
        · exact keep x (hok x (by simp [hx])) ((List.pairwise_cons.1 hsep).1 x hx)
      | tail hu ih =>
        intro hok hsep x hx
        rcases List.mem_cons.1 hx with rfl | hx
        · exact keep x (hok x (by simp)) (fun i ⟨h1, h2⟩ => (List.pairwise_cons.1 hsep).1 c hu.mem i ⟨h2, h1⟩)
        · exact ih (fun y hy => hok y (by simp [hy])) (List.pairwise_cons.1 hsep).2 x hx
    exact aux hu hs.ok hs.sep
  · have aux : ∀ {cs cs' : List Ck}, Upd1 c n cs cs' → (∀ x ∈ cs, x.ok h ∧ ∀ i, x.foot i → i < h.next) → cs.Pairwise (fun a b => ∀ i, ¬(a.foot i ∧ b.foot i)) → cs'.Pairwise (fun a b => ∀ i, ¬(a.foot i ∧ b.foot i)) := by
      intro cs cs' hu
      induction hu with
      | head =>
        intro hok hsep
        obtain ⟨h1, h2⟩ := List.pairwise_cons.1 hsep
        refine List.pairwise_cons.2 ⟨fun x hx i ⟨ha, hb⟩ => ?_, h2⟩
        rcases hfoot i ha with hc | hge
        · exact h1 x hx i ⟨hc, hb⟩
        · exact absurd ((hok x (by simp [hx])).2 i hb) (by omega)
      | @tail x r r' hu ih =>
        intro hok hsep
        obtain ⟨h1, h2⟩ := List.pairwise_cons.1 hsep
        refine List.pairwise_cons.2 ⟨fun y hy i ⟨ha, hb⟩ => ?_, ih (fun y hy => hok y (by simp [hy])) h2⟩
        rcases upd1_sub hu y hy with rfl | hy
        · rcases hfoot i hb with hc | hge
          · exact h1 c hu.mem i ⟨ha, hc⟩
          · exact absurd ((hok x (by simp)).2 i ha) (by omega)
        · exact h1 y hy i ⟨ha, hb⟩
    exact aux hu hs.ok hs.sep
theorem Sat.add {h h' : Heap} {cs : List Ck} {n : Ck} (hs : Sat h cs) (hnext : h.next ≤ h'.next) (hn : n.ok h') (hfn : ∀ i, n.foot i → i < h'.next) (hfoot : ∀ i, n.foot i → h.next ≤ i)
    (hk : ∀ i, i < h.next → h'.objs.get i = h.objs.get i ∧ h'.tags.get i = h.tags.get i) : Sat h' (n :: cs) := by
  refine ⟨Nat.le_trans hs.two hnext, fun x hx => ?_, List.pairwise_cons.2 ⟨fun x hx i ⟨ha, hb⟩ => absurd ((hs.ok x hx).2 i hb) (by have := hfoot i ha; omega), hs.sep⟩⟩
  rcases List.mem_cons.1 hx with rfl | hx
  · exact ⟨hn, hfn⟩
  · have := hs.ok x hx
    exact ⟨Ck.ok_loc (fun i hi => by have := hk i (this.2 i hi); exact ⟨this.1.symm, this.2.symm⟩) this.1, fun i hi => Nat.lt_of_lt_of_le (this.2 i hi) hnext⟩
theorem rem_sub {c : Ck} {cs cs' : List Ck} (h : Rem c cs cs') : ∀ x ∈ cs', x ∈ cs := by
  induction h with
  | head => intro x hx; simp [hx]
  | tail _ ih => intro x hx; simp at hx; rcases hx with rfl | hx <;> simp; simp [ih x hx]
theorem Sat.sub {h : Heap} {cs cs' : List Ck} (hs : Sat h cs) (hr : cs'.Sublist cs) : Sat h cs' := ⟨hs.two, fun x hx => hs.ok x (hr.subset hx), hs.sep.sublist hr⟩
theorem Rem.sublist {c : Ck} {cs cs' : List Ck} (h : Rem c cs cs') : cs'.Sublist cs := by
  induction h with
  | head => exact List.sublist_cons_self _ _
  | tail _ ih => exact ih.cons_cons _
theorem Sat.perm {h : Heap} {cs cs' : List Ck} (hs : Sat h cs) (hp : cs.Perm cs') : Sat h cs' :=
  ⟨hs.two, fun x hx => hs.ok x (hp.mem_iff.2 hx), (hp.pairwise_iff (fun hab i hi => hab i ⟨hi.2, hi.1⟩)).1 hs.sep⟩
/-- A piece is turned where it lies: the heap stays, or turns in that place alone; others turn not. -/
theorem Rem.keep {c : Ck} {cs cs' : List Ck} (hr : Rem c cs cs') {h h' : Heap} (hs : Sat h cs) (hnext : h.next ≤ h'.next) (hk : ∀ i, i < h.next → ¬ c.foot i → h'.objs.get i = h.objs.get i ∧ h'.tags.get i = h.tags.get i) : Sat h' cs' := by
  have hsep : ∀ x ∈ cs', ∀ i, ¬(c.foot i ∧ x.foot i) := by
    have hs' := hs.sep
    clear hs
    induction hr with
    | head => exact (List.pairwise_cons.1 hs').1
    | tail hr ih =>
      intro x hx i ⟨ha, hb⟩
      obtain ⟨h1, h2⟩ := List.pairwise_cons.1 hs'
      rcases List.mem_cons.1 hx with rfl | hx
      · exact h1 c hr.mem i ⟨hb, ha⟩
      · exact ih h2 x hx i ⟨ha, hb⟩
  refine ⟨Nat.le_trans hs.two hnext, fun x hx => ?_, hs.sep.sublist hr.sublist⟩
  have := hs.ok x (rem_sub hr x hx)
  exact ⟨Ck.ok_loc (fun i hi => by have := hk i (this.2 i hi) (fun hc => hsep x hx i ⟨hc, hi⟩); exact ⟨this.1.symm, this.2.symm⟩) this.1, fun i hi => Nat.lt_of_lt_of_le (this.2 i hi) hnext⟩

/-- Pieces that are kept, in their order. -/
inductive KK : List Ck → List Ck → Prop where
  | refl {r : List Ck} : KK r r
  | keep {c : Ck} {r r' : List Ck} : KK r r' → KK (c :: r) (c :: r')
  | drop {c : Ck} {r r' : List Ck} : KK r r' → KK (c :: r) r'
theorem KK.sublist {a b : List Ck} (h : KK a b) : b.Sublist a := by
  induction h with
  | refl => exact List.Sublist.refl _
  | keep _ ih => exact ih.cons_cons _
  | drop _ ih => exact ih.cons _
/-- What holds of some of the pieces. -/
@[irreducible] def Pst (Q : List Ck → Prop) (cs : List Ck) : Prop := ∃ cs', (∀ h, Sat h cs → Sat h cs') ∧ Q cs'
theorem Pst.mk {Q : List Ck → Prop} {cs cs' : List Ck} (hq : Q cs') (hk : KK cs cs') : Pst Q cs := by unfold Pst; exact ⟨cs', fun _ hs => hs.sub hk.sublist, hq⟩
theorem Pst.out {Q : List Ck → Prop} {cs : List Ck} (h : Pst Q cs) : ∃ cs', (∀ h, Sat h cs → Sat h cs') ∧ Q cs' := by unfold Pst at h; exact h
theorem Sat.nilOwn {h : Heap} {cs : List Ck} (hs : Sat h cs) (sz : Nat) : Sat h (.own 0 sz [] :: cs) :=
  hs.add (Nat.le_refl _) (.inl ⟨rfl, rfl⟩) (fun i hi => absurd hi.2 (by have := hi.1; omega)) (fun i hi => absurd hi.2 (by have := hi.1; omega)) (fun i _ => ⟨rfl, rfl⟩)

/-! ### frames -/
theorem memN_cons (n m : Nat) (l : List Nat) : memN n (m :: l) = (decide (n = m) || memN n l) := by
  simp only [memN]
  cases h : Nat.beq n m with
  | true => have := Nat.eq_of_beq_eq_true h; simp [this]
  | false => have : n ≠ m := Nat.ne_of_beq_eq_false h; simp [this]
theorem memT_mem {n : Nat} {b : Bool} : ∀ {l : List (Nat × Bool)}, memT n b l = true → (n, b) ∈ l
  | [], h => by cases h
  | ⟨m, c⟩ :: r, h => by
    simp only [memT] at h
    cases hb : Nat.beq n m <;> cases b <;> cases c <;> simp only [hb] at h <;>
      first
        | (have := Nat.eq_of_beq_eq_true hb; subst this; exact List.mem_cons_self)
        | exact List.mem_cons_of_mem _ (memT_mem h)
theorem lk_ok {fr : List DV} {A : List (Nat × Bool)} (hA : ∀ t b, (t, b) ∈ A → fr.getD t .undef = .bool b) : ∀ {es : List En} {seen : List Nat} {n : Nat} {v : DV}, Ag fr seen es → memN n seen = false → lk A seen es n = some v → fr.getD n .undef = v
  | [], _, _, _, _, _, h => by cases h
  | ⟨s, g, w⟩ :: r, seen, n, v, ha, hn, h => by
    simp only [lk] at h
    obtain ⟨he, hr⟩ := ha
    cases hb : Nat.beq s n with
    | true =>
      have hs := Nat.eq_of_beq_eq_true hb
      subst hs
      simp only [hb] at h
      have he' := he hn
      cases g with
      | none => simp only [Option.some.injEq] at h; subst h; exact he'
      | some p =>
        obtain ⟨t, b⟩ := p
        simp only at h
        split at h <;> try (cases h; done)
        rename_i h1 h2
        simp only [Option.some.injEq] at h; subst h
        exact (he' h2).1 (hA t b (memT_mem h1))
    | false =>
      simp only [hb] at h
      have hs : s ≠ n := Nat.ne_of_beq_eq_false hb
      exact lk_ok hA hr (by rw [memN_cons, hn]; simp [Ne.symm hs]) h
theorem tg_ok {fr : List DV} : ∀ {es : List En} {seen : List Nat} {n : Nat} {v : DV} {g : Option (Nat × Bool)}, Ag fr seen es → memN n seen = false → tg seen es n = some (v, g) →
    match g with
    | none => fr.getD n .undef = v
    | some (t, b) => (fr.getD t .undef = .bool b → fr.getD n .undef = v) ∧ (fr.getD t .undef ≠ .bool b → fr.getD n .undef = .undef)
  | [], _, _, _, _, _, _, h => by cases h
  | ⟨s, g, w⟩ :: r, seen, n, v, g', ha, hn, h => by
    simp only [tg] at h
    obtain ⟨he, hr⟩ := ha
    cases hb : Nat.beq s n with
    | true =>
      have hs := Nat.eq_of_beq_eq_true hb
      subst hs
      simp only [hb] at h
      have he' := he hn
      cases g with
      | none => simp only [Option.some.injEq, Prod.mk.injEq] at h; obtain ⟨rfl, rfl⟩ := h; exact he'
      | some p =>
        obtain ⟨t, b⟩ := p
        simp only at h
        split at h <;> try (cases h; done)
        rename_i h2
        simp only [Option.some.injEq, Prod.mk.injEq] at h; obtain ⟨rfl, rfl⟩ := h
        exact he' h2
    | false =>
      simp only [hb] at h
      have hs : s ≠ n := Nat.ne_of_beq_eq_false hb
      exact tg_ok hr (by rw [memN_cons, hn]; simp [Ne.symm hs]) h
theorem wanted_bool {fr : Fr} {t : Nat} {b : Bool} : wantedG (some (t, b)) fr = true ↔ fr.tmps.getD t .undef = .bool b := by
  simp only [wantedG]
  cases h : fr.tmps.getD t .undef <;> simp
theorem gate_ok {fr : Fr} {es : List En} (ha : Ag fr.tmps [] es) : ∀ {f : Nat} {g : Option (Nat × Bool)} {A : List (Nat × Bool)} {p : Bool}, gate es f g = some (A, p) →
    (wantedG g fr = true → p = true ∧ ∀ t b, (t, b) ∈ A → fr.tmps.getD t .undef = .bool b) ∧ (p = true → wantedG g fr = true)
  | f, none, A, p, h => by
    cases f <;> (simp only [gate, Option.some.injEq, Prod.mk.injEq] at h; obtain ⟨rfl, rfl⟩ := h; exact ⟨fun _ => ⟨rfl, fun t b hm => by cases hm⟩, fun _ => rfl⟩)
  | 0, some _, A, p, h => by simp [gate] at h
  | f + 1, some (t, b), A, p, h => by
    simp only [gate] at h
    split at h <;> try (cases h; done)
    rotate_left
    · rename_i g ht
      simp only [Option.some.injEq, Prod.mk.injEq] at h; obtain ⟨rfl, rfl⟩ := h
      have h1 := tg_ok ha rfl ht
      have hu : fr.tmps.getD t .undef = .undef := by
        cases g with
        | none => exact h1
        | some q =>
          by_cases hq : fr.tmps.getD q.1 .undef = .bool q.2
          · exact h1.1 hq
          · exact h1.2 hq
      rw [wanted_bool, hu]
      exact ⟨fun hw => (by cases hw), fun hp => (by cases hp)⟩
    rename_i c g ht
    split at h <;> try (cases h; done)
    rename_i A' p' hg
    simp only [Option.some.injEq, Prod.mk.injEq] at h; obtain ⟨rfl, rfl⟩ := h
    have h1 := tg_ok ha rfl ht
    obtain ⟨h2, h3⟩ := gate_ok ha hg
    rw [wanted_bool]
    have heq : eqB c b = true ↔ c = b := by cases c <;> cases b <;> simp [eqB]
    cases g with
    | none =>
      simp only at h1
      obtain ⟨hp, hA⟩ := h2 rfl
      rw [h1]
      refine ⟨fun hw => ?_, fun hp' => ?_⟩
      · simp only [DV.bool.injEq] at hw
        refine ⟨by rw [hp, heq.2 hw]; rfl, fun t' b' hm => ?_⟩
        rcases List.mem_cons.1 hm with he | hm
        · simp only [Prod.mk.injEq] at he; obtain ⟨rfl, rfl⟩ := he; rw [h1, hw]
        · exact hA t' b' hm
      · simp only [Bool.and_eq_true] at hp'; rw [heq.1 hp'.2]
    | some q =>
      obtain ⟨t', b'⟩ := q
      simp only at h1
      rw [wanted_bool] at h2 h3
      refine ⟨fun hw => ?_, fun hp' => ?_⟩
      · by_cases hx : fr.tmps.getD t' .undef = .bool b'
        · obtain ⟨hp, hA⟩ := h2 hx
          have := h1.1 hx
          rw [hw] at this
          simp only [DV.bool.injEq] at this
          refine ⟨by rw [hp, heq.2 this.symm]; rfl, fun t2 b2 hm => ?_⟩
          rcases List.mem_cons.1 hm with he | hm
          · simp only [Prod.mk.injEq] at he; obtain ⟨rfl, rfl⟩ := he; exact hw
          · exact hA t2 b2 hm
        · have := h1.2 hx
          rw [hw] at this; cases this
      · simp only [Bool.and_eq_true] at hp'
        rw [h1.1 (h3 hp'.1), heq.1 hp'.2]
theorem getD_set_ne {fr : List DV} {d n : Nat} {x : DV} (h : n ≠ d) : (fr.set d x).getD n .undef = fr.getD n .undef := by
  rw [List.getD_eq_getElem?_getD, List.getD_eq_getElem?_getD, List.getElem?_set_ne (Ne.symm h)]
theorem getD_set_same {fr : List DV} {d : Nat} {x : DV} (h : d < fr.length) : (fr.set d x).getD d .undef = x := by
  rw [List.getD_eq_getElem?_getD, List.getElem?_set_self h]; rfl
theorem Ag.set {fr : List DV} {d : Nat} {x : DV} : ∀ {es : List En} {seen seen' : List Nat}, (∀ n, memN n seen' = false → memN n seen = false ∧ n ≠ d) → Ag fr seen es → Ag (fr.set d x) seen' es
  | [], _, _, _, _ => trivial
  | e :: r, seen, seen', hs, ⟨he, hr⟩ => by
    refine ⟨fun hn => ?_, Ag.set (seen := e.s :: seen) (fun n hn => ?_) hr⟩
    · obtain ⟨h1, h2⟩ := hs _ hn
      have he' := he h1
      cases hg : e.g with
      | none => rw [hg] at he'; simp only at he' ⊢; rw [getD_set_ne h2]; exact he'
      | some p =>
        obtain ⟨t, b⟩ := p
        rw [hg] at he'
        intro ht
        rw [memN_cons] at ht
        simp only [Bool.or_eq_false_iff, decide_eq_false_iff_not] at ht
        obtain ⟨h3, h4⟩ := hs _ ht.2
        rw [getD_set_ne h2, getD_set_ne h4]
        exact he' (by rw [memN_cons]; simp [ht.1, h3])
    · rw [memN_cons] at hn ⊢
      simp only [Bool.or_eq_false_iff, decide_eq_false_iff_not] at hn ⊢
      exact ⟨⟨hn.1, (hs n hn.2).1⟩, (hs n hn.2).2⟩
theorem Ag.put {fr : List DV} {es : List En} {d : Nat} {x v : DV} (ha : Ag fr [] es) (hd : d < fr.length) (hx : x = v) : Ag (fr.set d x) [] (⟨d, none, v⟩ :: es) := by
  refine ⟨fun _ => ?_, ha.set (seen := []) fun n hn => ?_⟩
  · show (fr.set d x).getD d .undef = v
    rw [getD_set_same hd, hx]
  · rw [memN_cons] at hn
    simp only [Bool.or_eq_false_iff, decide_eq_false_iff_not] at hn
    exact ⟨rfl, hn.1⟩
theorem Ag.putG {fr : List DV} {es : List En} {d t : Nat} {b : Bool} {x v : DV} (ha : Ag fr [] es) (hd : d < fr.length) (h1 : fr.getD t .undef = .bool b → x = v) (h2 : fr.getD t .undef ≠ .bool b → x = .undef) : Ag (fr.set d x) [] (⟨d, some (t, b), v⟩ :: es) := by
  refine ⟨fun _ ht => ?_, ha.set (seen := []) fun n hn => ?_⟩
  · rw [memN_cons] at ht
    simp only [Bool.or_eq_false_iff, decide_eq_false_iff_not] at ht
    show ((fr.set d x).getD t .undef = .bool b → (fr.set d x).getD d .undef = v) ∧ _
    rw [getD_set_ne ht.1, getD_set_same hd]
    exact ⟨h1, h2⟩
  · rw [memN_cons] at hn
    simp only [Bool.or_eq_false_iff, decide_eq_false_iff_not] at hn
    exact ⟨rfl, hn.1⟩
theorem AgS.put {fr : Fr} {st : St} {d : Option Nat} {v : DV} (ha : AgS fr st) (hd : dstOk st.nt d = true) : AgS (fr.put d v) (st.putO d v) := by
  obtain ⟨nt, es, ds, ir⟩ := st
  cases d with
  | none => exact ha
  | some d =>
    refine ⟨?_, ?_, ha.ds, ha.ir⟩
    · show (fr.tmps.set d v).length = _; rw [List.length_set]; exact ha.len
    · refine Ag.put ha.es ?_ rfl
      rw [ha.len]; simp only [dstOk] at hd; exact Nat.le_of_ble_eq_true hd
/-- Entries that are among others. -/
def Sub (es : List En) : List (Nat × DV) → Prop
  | [] => True
  | (n, v) :: r => lk [] [] es n = some v ∧ Sub es r
def ents : List (Nat × DV) → List En
  | [] => []
  | (n, v) :: r => ⟨n, none, v⟩ :: ents r
theorem Sub.ag {fr : List DV} {es : List En} (ha : Ag fr [] es) : ∀ {l : List (Nat × DV)}, Sub es l → ∀ seen, Ag fr seen (ents l)
  | [], _, _ => trivial
  | (n, v) :: r, ⟨h, hr⟩, seen => ⟨fun _ => lk_ok (A := []) (fun _ _ h => by cases h) ha rfl h, Sub.ag ha hr _⟩
end Go.Dm
/- The D-machine (32): the rules of symbolic runs. -/
namespace Go.Dm
set_option linter.unusedSimpArgs false
set_option linter.unusedVariables false
set_option linter.unnecessarySimpa false

/-- A post that is opened by hand. -/
def Hold (p : Prop) : Prop := p
inductive It where
  | code (c : DC)
  | ops (os : List ROp)
  | chk (l : List (Opd × Shape × Nat × Option (Nat × Bool)))
  | blk (id : Nat)
  | lp (b : DC)
/-- Where an exit leads. -/
def unw : List It → Nat → Option (List It)
  | [], _ => none
  | .blk j :: k, i => match Nat.beq i j with
    | true => some k
    | false => unw k i
  | .code _ :: k, i => unw k i
  | .ops _ :: k, i => unw k i
  | .chk _ :: k, i => unw k i
  | .lp _ :: k, i => unw k i

/-- What is left to do, from an outcome on. -/
def WpK (D : DProg) : List It → DX → Fr → Heap → (DX → Fr → Heap → Prop) → Prop
  | [], x, fr, h, Q => Q x fr h
  | .code c :: k, .normal, fr, h, Q => Wp D c fr h fun x fr' h' => WpK D k x fr' h' Q
  | .code _ :: k, x, fr, h, Q => WpK D k x fr h Q
  | .ops os :: k, .normal, fr, h, Q => WpOps D os fr h fun fr' h' => WpK D k .normal fr' h' Q
  | .ops _ :: k, x, fr, h, Q => WpK D k x fr h Q
  | .chk l :: k, .normal, fr, h, Q => chkOk D fr h l = true ∧ WpK D k .normal fr h Q
  | .chk _ :: k, x, fr, h, Q => WpK D k x fr h Q
  | .blk j :: k, .exit i, fr, h, Q => if i = j then WpK D k .normal fr h Q else WpK D k (.exit i) fr h Q
  | .blk _ :: k, x, fr, h, Q => WpK D k x fr h Q
  | .lp b :: k, .normal, fr, h, Q => Wp D (.loop b) fr h fun x fr' h' => WpK D k x fr' h' Q
  | .lp _ :: k, x, fr, h, Q => WpK D k x fr h Q
/-- What a symbolic run means. -/
def RS (D : DProg) (k : List It) (st : St) (cs : List Ck) (Q : DX → St → List Ck → Prop) : Prop :=
  ∀ fr h, AgS fr st → Sat h cs → WpK D k .normal fr h fun x fr' h' => ∃ st' cs', AgS fr' st' ∧ Sat h' cs' ∧ Q x st' cs'

section
variable (D : DProg)
/-- What a function does. -/
def F (f : Nat) (args : List DV) (cs : List Ck) (P : DV → List Ck → Prop) : Prop := ∀ h, Sat h cs → ∃ v h' cs', Runs D f args h v h' ∧ Sat h' cs' ∧ P v cs'
/-- What a loop's body does that is called. -/
def Y (l : Nat) (args : List DV) (cs : List Ck) (P : Bool → List Ck → Prop) : Prop := ∀ h, Sat h cs → ∃ n b h' cs', yieldD (exec D n) l args h = some (.bool b, h') ∧ Sat h' cs' ∧ P b cs'
def FC (x : DV) (args : List DV) (cs : List Ck) (P : DV → List Ck → Prop) : Prop :=
  match x with
  | .fn (.func g) first caps => F D g (first ++ args ++ caps) cs P
  | .fn (.yield l) [] [] => Y D l args cs fun b => P (.bool b)
  | _ => False
/-- The same where what comes out is written into no more. -/
def FZ1 (g : Nat) (args : List DV) (cs : List Ck) (P : DV → List Ck → Prop) : Prop := ∀ h, Sat h cs → ∃ v h' v2 h2 cs', Runs D g args h v h' ∧ frzV h' v = some (v2, h2) ∧ Sat h2 cs' ∧ P v2 cs'
def FZ (x : DV) (args : List DV) (cs : List Ck) (P : DV → List Ck → Prop) : Prop :=
  match x with
  | .fn (.func g) first caps => FZ1 D g (first ++ args ++ caps) cs P
  | _ => False

def lo (es : List En) (A : List (Nat × Bool)) : Opd → Option DV
  | .t n => lk A [] es n
  | .c v => some v
  | .g n => match D.glob n with
    | some cs => some (.elt cs)
    | none => none
  | .f n => some (.fn (.func n) [] [])
/-- The values of operands, in their order. -/
inductive LoS (es : List En) (A : List (Nat × Bool)) : List Opd → List DV → Prop where
  | nil : LoS es A [] []
  | cons {x : Opd} {v : DV} {xs : List Opd} {vs : List DV} : lo D es A x = some v → LoS es A xs vs → LoS es A (x :: xs) (v :: vs)
inductive LoO (es : List En) (A : List (Nat × Bool)) : Option Opd → Option DV → Prop where
  | none : LoO es A none none
  | some {x : Opd} {v : DV} : lo D es A x = some v → LoO es A (some x) (some v)

def wid : IntKind → Int
  | .i8 => 8 | .u8 => 8 | .i16 => 16 | .u16 => 16 | .i32 => 32 | .u32 => 32 | .i64 => 64 | .u64 => 64
def top : IntKind → Int
  | .i8 => -1 | .u8 => 255 | .i16 => -1 | .u16 => 65535 | .i32 => 2147483647 | .u32 => 4294967295 | .i64 => 9223372036854775807 | .u64 => 18446744073709551615
inductive BI (p : Bool) : BinOp → EqK → DV → DV → DV → Prop where
  | addL {k : EqK} {a b : Int} : Arith (p = true → -9223372036854775808 ≤ a + b ∧ a + b ≤ 9223372036854775807) → BI p .add k (.int .i64 a) (.int .i64 b) (.int .i64 (a + b))
  | subL {k : EqK} {a b : Int} : Arith (p = true → -9223372036854775808 ≤ a - b ∧ a - b ≤ 9223372036854775807) → BI p .sub k (.int .i64 a) (.int .i64 b) (.int .i64 (a - b))
  | mulL {k : EqK} {a b : Int} : Arith (p = true → -9223372036854775808 ≤ a * b ∧ a * b ≤ 9223372036854775807) → BI p .mul k (.int .i64 a) (.int .i64 b) (.int .i64 (a * b))
  | addI {k : EqK} {a b : Int} : Arith (p = true → -2147483648 ≤ a + b ∧ a + b ≤ 2147483647) → BI p .add k (.int .i32 a) (.int .i32 b) (.int .i32 (a + b))
  | subI {k : EqK} {a b : Int} : Arith (p = true → -2147483648 ≤ a - b ∧ a - b ≤ 2147483647) → BI p .sub k (.int .i32 a) (.int .i32 b) (.int .i32 (a - b))
  | addS {k : EqK} {a b : List UInt8} : Arith (p = true → a.length + b.length ≤ 9223372036854775807) → BI p .add k (.str a) (.str b) (.str (a ++ b))
  | and {q : EqK} {k : IntKind} {a b : Int} : Arith (p = true → (0 ≤ a ∧ a ≤ top k) ∧ (0 ≤ b ∧ b ≤ top k)) → BI p .and q (.int k a) (.int k b) (.int k ((a.toNat &&& b.toNat : Nat) : Int))
  | or {q : EqK} {k : IntKind} {a b : Int} : Arith (p = true → (0 ≤ a ∧ a ≤ top k) ∧ (0 ≤ b ∧ b ≤ top k)) → BI p .or q (.int k a) (.int k b) (.int k ((a.toNat ||| b.toNat : Nat) : Int))
  | shl {q : EqK} {k k' : IntKind} {a b : Int} : Arith (p = true → 0 ≤ b ∧ b ≤ wid k ∧ 0 ≤ a ∧ a * 2 ^ b.toNat ≤ top k) → BI p .shl q (.int k a) (.int k' b) (.int k (a * 2 ^ b.toNat))
  | shr {q : EqK} {k k' : IntKind} {a b : Int} : Arith (p = true → 0 ≤ b ∧ b ≤ wid k ∧ 0 ≤ a) → BI p .shr q (.int k a) (.int k' b) (.int k (a / 2 ^ b.toNat))
  | offL {op : BinOp} {k : EqK} {b : DV} : Arith (p = true → False) → BI p op k .undef b (.bool false)
  | offR {op : BinOp} {k : EqK} {a : DV} : Arith (p = true → False) → BI p op k a .undef (.bool false)
  | gen {op : BinOp} {k : EqK} {a b v : DV} : binD op k a b = some v → BI p op k a b v

inductive UN (p : Bool) : UnOp → DV → DV → Prop where
  | off {op : UnOp} : Arith (p = true → False) → UN p op .undef (.bool false)
  | gen {op : UnOp} {a v : DV} : unD op a = some v → UN p op a v
/-- A list of bytes az what it holds. -/
inductive BL : List DV → List UInt8 → Prop where
  | bytes {s : List UInt8} : BL (bytesV s) s
  | map {s : List UInt8} : BL (s.map ofByte) s
  | nil : BL [] []
  | app {a b : List DV} {s t : List UInt8} : BL a s → BL b t → BL (a ++ b) (s ++ t)
  | drop {a : List DV} {s : List UInt8} {n : Nat} : BL a s → BL (a.drop n) (s.drop n)
  | take {a : List DV} {s : List UInt8} {n : Nat} : BL a s → BL (a.take n) (s.take n)
  | cons {b : UInt8} {a : List DV} {s : List UInt8} : BL a s → BL (.int .u8 (b.toNat : Int) :: a) (b :: s)
  | lit {n : Int} {a : List DV} {s : List UInt8} : Arith (0 ≤ n ∧ n < 256) → BL a s → BL (.int .u8 n :: a) (UInt8.ofNat n.toNat :: s)
abbrev I32 (n : Int) : DV := .int .i32 n
abbrev I64 (n : Int) : DV := .int .i64 n
def runeBytes (rs : List Int) : List UInt8 := rs.flatMap fun r => (Utf8.encode r).data.toList
inductive CV (p : Bool) : ConvK → Bool → DV → DV → Prop where
  | iBb {mu : Bool} {b : UInt8} : CV p (.int .i32) mu (.int .u8 (b.toNat : Int)) (.int .i32 (b.toNat : Int))
  | lBb {mu : Bool} {b : UInt8} : CV p (.int .i64) mu (.int .u8 (b.toNat : Int)) (.int .i64 (b.toNat : Int))
  | lI {mu : Bool} {n : Int} : Arith (p = true → -9223372036854775808 ≤ n ∧ n ≤ 9223372036854775807) → CV p (.int .i64) mu (.int .i32 n) (.int .i64 n)
  | lB {mu : Bool} {n : Int} : Arith (p = true → -9223372036854775808 ≤ n ∧ n ≤ 9223372036854775807) → CV p (.int .i64) mu (.int .u8 n) (.int .i64 n)
  | lU {mu : Bool} {n : Int} : Arith (p = true → -9223372036854775808 ≤ n ∧ n ≤ 9223372036854775807) → CV p (.int .i64) mu (.int .u32 n) (.int .i64 n)
  | iB {mu : Bool} {n : Int} : Arith (p = true → -2147483648 ≤ n ∧ n ≤ 2147483647) → CV p (.int .i32) mu (.int .u8 n) (.int .i32 n)
  | ii {mu : Bool} {n : Int} : Arith (p = true → -2147483648 ≤ n ∧ n ≤ 2147483647) → CV p (.int .i32) mu (.int .i32 n) (.int .i32 n)
  | ll {mu : Bool} {n : Int} : Arith (p = true → -9223372036854775808 ≤ n ∧ n ≤ 9223372036854775807) → CV p (.int .i64) mu (.int .i64 n) (.int .i64 n)
  | wrap {k k' : IntKind} {mu : Bool} {n : Int} : CV p (.int k) mu (.int k' n) (.int k (k.wrap n))
  | same {mu : Bool} {s : List UInt8} : CV p .same mu (.str s) (.str s)
  | bytesStr {t z : Nat} {xs : List DV} {s : List UInt8} : BL xs s → CV p .bytesStr false (.lst t z xs) (.str s)
  | runesStr {mu : Bool} {t z : Nat} {rs : List Int} : CV p .runesStr mu (.lst t z (rs.map I32)) (.str (runeBytes rs))

inductive Cut : List DV → Nat → Nat → List DV → Prop where
  | zero {cs : List DV} : Cut cs 0 0 []
  | take {c : DV} {cs : List DV} {n : Nat} {r : List DV} : Cut cs 0 n r → Cut (c :: cs) 0 (n + 1) (c :: r)
  | skip {c : DV} {cs : List DV} {o n : Nat} {r : List DV} : Cut cs o n r → Cut (c :: cs) (o + 1) n r
inductive LDv (cs : List DV) (off : Nat) : Shape → DV → Prop where
  | one {v : DV} : cs[off]? = some v → LDv cs off none v
  | agg {n : Nat} {r : List DV} : Cut cs off n r → LDv cs off (some n) (.agg r)
inductive LD (cs : List Ck) (sh : Shape) : DV → DV → Prop where
  | ptr {id off : Nat} {c : List DV} {s : Shape} {v : DV} : Me (.obj id (.cells c s)) cs → LDv c off sh v → LD cs sh (.ptr id off) v
  | elt {c : List DV} {v : DV} : LDv c 0 sh v → LD cs sh (.elt c) v
  | sem {a v : DV} : (∀ h, Sat h cs → loadD h sh a = some v) → LD cs sh a v
/-- A store into a piece that is taken az a whole. -/
structure StS (cs : List Ck) (n id off : Nat) (v : DV) (cs' : List Ck) : Prop where
  ok : ∀ h, Sat h cs → ∃ h', storeD h n (.ptr id off) v = some h' ∧ Sat h' cs'
inductive ZK : Nat → Nat → Nat → Prop where
  | zof {t sz : Nat} : ZK t (zOf t sz) sz
  | lit {t sz : Nat} : ZK t sz sz
inductive IA (cs : List Ck) (p : Bool) (sz : Nat) : DV → DV → DV → Prop where
  | map {α : Type} [Inhabited α] {t z : Nat} {f : α → DV} {ys : List α} {k : IntKind} {n : Int} : ZK t z sz → Arith (p = true → 0 ≤ n ∧ n < ys.length) → IA cs p sz (.lst t z (ys.map f)) (.int k n) (.elt (f (ys.getD n.toNat default)).cells)
  | gen {t z : Nat} {xs : List DV} {k : IntKind} {n : Int} {w : DV} : ZK t z sz → Arith (p = true → 0 ≤ n ∧ xs[n.toNat]? = some w) → IA cs p sz (.lst t z xs) (.int k n) (.elt w.cells)
  | arr {id o len : Nat} {k : IntKind} {n : Int} : Arith (p = true → 0 ≤ n ∧ n < len) → IA cs p sz (.arr id sz o len) (.int k n) (.ptr id (o + n.toNat * sz))
inductive SL (cs : List Ck) (p : Bool) (sz : Nat) : DV → Option DV → Option DV → DV → Prop where
  | loM {α : Type} {t z : Nat} {f : α → DV} {xs : List α} {k : IntKind} {l : Int} : ZK t z sz → Arith (p = true → 0 ≤ l ∧ l ≤ xs.length) → SL cs p sz (.lst t z (xs.map f)) (some (.int k l)) none (.lst t (zOf t sz) ((xs.drop l.toNat).map f))
  | hiM {α : Type} {t z : Nat} {f : α → DV} {xs : List α} {k : IntKind} {r : Int} : ZK t z sz → Arith (p = true → 0 ≤ r ∧ r ≤ xs.length) → SL cs p sz (.lst t z (xs.map f)) none (some (.int k r)) (.lst (cutT t r.toNat xs.length) (zOf (cutT t r.toNat xs.length) sz) ((xs.take r.toNat).map f))
  | bothM {α : Type} {t z : Nat} {f : α → DV} {xs : List α} {k k' : IntKind} {l r : Int} : ZK t z sz → Arith (p = true → 0 ≤ l ∧ l ≤ r ∧ r ≤ xs.length) → SL cs p sz (.lst t z (xs.map f)) (some (.int k l)) (some (.int k' r)) (.lst (cutT t r.toNat xs.length) (zOf (cutT t r.toNat xs.length) sz) (((xs.drop l.toNat).take (r.toNat - l.toNat)).map f))
  | lo {t z : Nat} {xs : List DV} {k : IntKind} {l : Int} : ZK t z sz → Arith (p = true → 0 ≤ l ∧ l ≤ xs.length) → SL cs p sz (.lst t z xs) (some (.int k l)) none (.lst t (zOf t sz) (xs.drop l.toNat))
  | hi {t z : Nat} {xs : List DV} {k : IntKind} {r : Int} : ZK t z sz → Arith (p = true → 0 ≤ r ∧ r ≤ xs.length) → SL cs p sz (.lst t z xs) none (some (.int k r)) (.lst (cutT t r.toNat xs.length) (zOf (cutT t r.toNat xs.length) sz) (xs.take r.toNat))
  | both {t z : Nat} {xs : List DV} {k k' : IntKind} {l r : Int} : ZK t z sz → Arith (p = true → 0 ≤ l ∧ l ≤ r ∧ r ≤ xs.length) → SL cs p sz (.lst t z xs) (some (.int k l)) (some (.int k' r)) (.lst (cutT t r.toNat xs.length) (zOf (cutT t r.toNat xs.length) sz) ((xs.drop l.toNat).take (r.toNat - l.toNat)))
  | arrLo {i o n : Nat} {k : IntKind} {l : Int} : Arith (p = true → 0 ≤ l ∧ l ≤ n) → SL cs p sz (.arr i sz o n) (some (.int k l)) none (.arr i sz (o + l.toNat * sz) (n - l.toNat))
  | arrHi {i o n : Nat} {k : IntKind} {r : Int} : Arith (p = true → 0 ≤ r ∧ r ≤ n) → SL cs p sz (.arr i sz o n) none (some (.int k r)) (.arr i sz o r.toNat)
  | arrBoth {i o n : Nat} {k k' : IntKind} {l r : Int} : Arith (p = true → 0 ≤ l ∧ l ≤ r ∧ r ≤ n) → SL cs p sz (.arr i sz o n) (some (.int k l)) (some (.int k' r)) (.arr i sz (o + l.toNat * sz) (r.toNat - l.toNat))
inductive SS (p : Bool) : List UInt8 → Option DV → Option DV → List UInt8 → Prop where
  | all {s : List UInt8} : SS p s none none s
  | lo {s : List UInt8} {k : IntKind} {l : Int} : Arith (p = true → 0 ≤ l ∧ l ≤ s.length) → SS p s (some (.int k l)) none (s.drop l.toNat)
  | hi {s : List UInt8} {k : IntKind} {r : Int} : Arith (p = true → 0 ≤ r ∧ r ≤ s.length) → SS p s none (some (.int k r)) (s.take r.toNat)
  | both {s : List UInt8} {k k' : IntKind} {l r : Int} : Arith (p = true → 0 ≤ l ∧ l ≤ r ∧ r ≤ s.length) → SS p s (some (.int k l)) (some (.int k' r)) ((s.drop l.toNat).take (r.toNat - l.toNat))
inductive FA (off : Nat) : DV → DV → Prop where
  | z {i : Nat} : FA off (.ptr i 0) (.ptr i off)
  | ptr {i o : Nat} : FA off (.ptr i o) (.ptr i (o + off))
  | elt {cs : List DV} : FA off (.elt cs) (.elt (cs.drop off))
inductive NC : DV → Prop where
  | ptr {i o : Nat} : NC (.ptr i o)
  | elt {cs : List DV} : NC (.elt cs)
inductive LN : Bool → DV → Int → Prop where
  | str {s : List UInt8} : LN false (.str s) s.length
  | map {α : Type} {t z : Nat} {f : α → DV} {xs : List α} : LN true (.lst t z (xs.map f)) xs.length
  | lst {t z : Nat} {xs : List DV} : LN true (.lst t z xs) xs.length
  | arr {i z o n : Nat} : LN true (.arr i z o n) n
/-- Parts of a struct that all lie in their order, or not all. -/
inductive BP (es : List En) (A : List (Nat × Bool)) : List (Nat × Nat × Opd) → List (Nat × Nat × DV) → Prop where
  | nil : BP es A [] []
  | cons {o n : Nat} {x : Opd} {v : DV} {r : List (Nat × Nat × Opd)} {vs : List (Nat × Nat × DV)} : lo D es A x = some v → BP es A r vs → BP es A ((o, n, x) :: r) ((o, n, v) :: vs)
/-- A value's cells, its number of cells given. -/
inductive CL : Nat → DV → List DV → Prop where
  | int {k : IntKind} {n : Int} : CL 1 (.int k n) [.int k n]
  | bool {b : Bool} : CL 1 (.bool b) [.bool b]
  | str {s : List UInt8} : CL 1 (.str s) [.str s]
  | lst {t z : Nat} {xs : List DV} : CL 1 (.lst t z xs) [.lst t z xs]
  | nilp : CL 1 .nilp [.nilp]
  | ptr {i o : Nat} : CL 1 (.ptr i o) [.ptr i o]
  | elt {cs : List DV} : CL 1 (.elt cs) [.elt cs]
  | arr {i z o n : Nat} : CL 1 (.arr i z o n) [.arr i z o n]
  | fn {f : Fn} {a b : List DV} : CL 1 (.fn f a b) [.fn f a b]
  | nilfn : CL 1 .nilfn [.nilfn]
  | agg {n : Nat} {cs : List DV} : cs.length = n → CL n (.agg cs) cs
  | gen {n : Nat} {v : DV} : v.cells.length = n → v.okv = true → CL n v v.cells
inductive Ow : List DV → Nat → List DV → List DV → Prop where
  | nil {cs : List DV} : Ow cs 0 [] cs
  | put {c x : DV} {cs xs r : List DV} : Ow cs 0 xs r → Ow (c :: cs) 0 (x :: xs) (x :: r)
  | skip {c : DV} {cs xs r : List DV} {o : Nat} : Ow cs o xs r → Ow (c :: cs) (o + 1) xs (c :: r)
inductive BLd : List DV → List (Nat × Nat × DV) → List DV → Prop where
  | nil {cs : List DV} : BLd cs [] cs
  | cons {cs c cs' out : List DV} {o n : Nat} {v : DV} {r : List (Nat × Nat × DV)} : CL n v c → Ow cs o c cs' → BLd cs' r out → BLd cs ((o, n, v) :: r) out

/-- The second side of an 'or', an 'and': it may be that nobody asked for it. -/
inductive LO2 (p q w : Bool) : DV → Bool → Prop where
  | val {b : Bool} : LO2 p q w (.bool b) b
  | off : Arith (p = true → q = w) → LO2 p q w .undef false
/-- A choice, its first operand's value given. -/
inductive PK (es : List En) (A : List (Nat × Bool)) (p : Bool) (t : Nat) : DV → Opd → Opd → DV → Prop where
  | or {y : Opd} {q b : Bool} {A1 : List (Nat × Bool)} {q1 : Bool} {z : DV} : gate es 12 (some (t, false)) = some (A1, q1) → lo D es (A1 ++ A) y = some z → LO2 p q true z b → PK es A p t (.bool q) (.c (.bool true)) y (.bool (q || b))
  | and {y : Opd} {q b : Bool} {A1 : List (Nat × Bool)} {q1 : Bool} {z : DV} : gate es 12 (some (t, true)) = some (A1, q1) → lo D es (A1 ++ A) y = some z → LO2 p q false z b → PK es A p t (.bool q) y (.c (.bool false)) (.bool (q && b))
  | pick {x y : Opd} {q : Bool} {a b : DV} : lo D es A x = some a → lo D es A y = some b → PK es A p t (.bool q) x y (bif q then a else b)
  | off {x y : Opd} : Arith (p = true → False) → PK es A p t .undef x y (.bool false)
/-- What an operation gives that turns nothing, if 'p'. -/
inductive VO (es : List En) (cs : List Ck) (A : List (Nat × Bool)) (p : Bool) : DOp → DV → Prop where
  | mv {x : Opd} {v : DV} : lo D es A x = some v → VO es cs A p (.mv x) v
  | load {sh : Shape} {x : Opd} {a v : DV} : lo D es A x = some a → LD cs sh a v → VO es cs A p (.load sh x) v
  | nilc {x : Opd} {v : DV} : lo D es A x = some v → NC v → VO es cs A p (.nilc x) v
  | faddr {off : Nat} {x : Opd} {v w : DV} : lo D es A x = some v → FA off v w → VO es cs A p (.faddr off x) w
  | bin {op : BinOp} {k : EqK} {x y : Opd} {a b v : DV} : lo D es A x = some a → lo D es A y = some b → BI p op k a b v → VO es cs A p (.bin op k x y) v
  | pickk {t : Nat} {x y : Opd} {w v : DV} : lo D es A (.t t) = some w → PK D es A p t w x y v → VO es cs A p (.pick (.t t) x y) v
  | un {op : UnOp} {x : Opd} {a v : DV} : lo D es A x = some a → UN p op a v → VO es cs A p (.un op x) v
  | iaddr {sz : Nat} {x i : Opd} {a b v : DV} : lo D es A x = some a → lo D es A i = some b → IA cs p sz a b v → VO es cs A p (.iaddr sz x i) v
  | len {sl : Bool} {x : Opd} {a : DV} {n : Int} : lo D es A x = some a → LN sl a n → VO es cs A p (.len sl x) (.int .i64 n)
  | extract {x : Opd} {i : Nat} {vs : List DV} {v : DV} : lo D es A x = some (.tup vs) → vs[i]? = some v → VO es cs A p (.extract x i) v
  | field {off : Nat} {sh : Shape} {x : Opd} {c : List DV} {v : DV} : lo D es A x = some (.agg c) → LDv c off sh v → VO es cs A p (.field off sh x) v
  | conv {k : ConvK} {mu : Bool} {x : Opd} {a v : DV} : lo D es A x = some a → CV p k mu a v → VO es cs A p (.conv k mu x) v
  | idxStr {x i : Opd} {s : List UInt8} {k : IntKind} {n : Int} : lo D es A x = some (.str s) → lo D es A i = some (.int k n) → Arith (p = true → 0 ≤ n ∧ n < s.length) → VO es cs A p (.idxStr x i) (.int .u8 ((s.getD n.toNat 0).toNat : Int))
  | sliceStr {x : Opd} {lo1 hi1 : Option Opd} {a b : Option DV} {s r : List UInt8} : lo D es A x = some (.str s) → LoO D es A lo1 a → LoO D es A hi1 b → SS p s a b r → VO es cs A p (.sliceStr x lo1 hi1) (.str r)
  | slice {sz : Nat} {x : Opd} {lo1 hi1 : Option Opd} {a b : Option DV} {s v : DV} : lo D es A x = some s → LoO D es A lo1 a → LoO D es A hi1 b → SL cs p sz s a b v → VO es cs A p (.slice sz x lo1 hi1 none) v
  | build {zero : List DV} {parts : List (Nat × Nat × Opd)} {vs : List (Nat × Nat × DV)} {c : List DV} : BP D es A parts vs → BLd zero vs c → VO es cs A p (.build zero parts) (.agg c)
  | mkfn {f : Fn} {first caps : List Opd} {a b : List DV} : LoS D es A first a → LoS D es A caps b → VO es cs A p (.mkfn f first caps) (.fn f a b)
  | iaddrArrE {sz len : Nat} {x i : Opd} {c : List DV} {k : IntKind} {n : Int} : lo D es A x = some (.elt c) → lo D es A i = some (.int k n) → Arith (p = true → 0 ≤ n ∧ n < len) → VO es cs A p (.iaddrArr sz len x i) (.elt (c.drop (n.toNat * sz)))
  | idxArr {sh : Shape} {len : Nat} {x i : Opd} {c : List DV} {k : IntKind} {n : Int} {v : DV} : lo D es A x = some (.agg c) → lo D es A i = some (.int k n) → Arith (p = true → 0 ≤ n ∧ n < len ∧ LDv c (n.toNat * sh.size) sh v) → VO es cs A p (.idxArr sh len x i) v
  | min {x y : Opd} {k k' : IntKind} {a b : Int} : lo D es A x = some (.int k a) → lo D es A y = some (.int k' b) → VO es cs A p (.minmax false x y) (.int k (min a b))
  | max {x y : Opd} {k k' : IntKind} {a b : Int} : lo D es A x = some (.int k a) → lo D es A y = some (.int k' b) → VO es cs A p (.minmax true x y) (.int k (max a b))

/-- A list by a function on another one's elements. -/
inductive MapL {α : Type} (f : α → DV) : List DV → List α → Prop where
  | nil : MapL f [] []
  | cons {y : α} {r : List DV} {r' : List α} : MapL f r r' → MapL f (f y :: r) (y :: r')
  | map {ys : List α} : MapL f (ys.map f) ys
inductive JO : List DV → List DV → List DV → Prop where
  | nil {ys : List DV} : JO [] ys ys
  | bytes {s t : List UInt8} {ys : List DV} : BL ys t → JO (bytesV s) ys (bytesV (s ++ t))
  | map {α : Type} {f : α → DV} {xs ys' : List α} {ys : List DV} : MapL f ys ys' → JO (xs.map f) ys ((xs ++ ys').map f)
  | gen {xs ys : List DV} : JO xs ys (xs ++ ys)
/-- The elements of a slice or string. -/
inductive EL (cs : List Ck) (sh : Shape) : DV → List DV → Prop where
  | str {s : List UInt8} : sh.size = 1 → EL cs sh (.str s) (bytesV s)
  | lst {t z : Nat} {xs : List DV} : ZK t z sh.size → EL cs sh (.lst t z xs) xs
/-- A literal slice, all its elements in their order. -/
inductive Sq (es : List En) (A : List (Nat × Bool)) (sz : Nat) : Nat → List (Nat × Opd) → List DV → Prop where
  | nil {i : Nat} : Sq es A sz i [] []
  | cons {i : Nat} {x : Opd} {v : DV} {c : List DV} {r : List (Nat × Opd)} {vs : List DV} : lo D es A x = some v → CL sz v c → Sq es A sz (i + 1) r vs → Sq es A sz i ((i, x) :: r) (v :: vs)
/-- What was loaded ahead reads so still. -/
inductive CKs (nt : Nat) (es : List En) (cs : List Ck) : List (Opd × Shape × Nat × Option (Nat × Bool)) → Prop where
  | nil : CKs nt es cs []
  | cons {a : Opd} {sh : Shape} {t : Nat} {g : Option (Nat × Bool)} {r : List (Opd × Shape × Nat × Option (Nat × Bool))} {A : List (Nat × Bool)} {p : Bool} {av v : DV} : gate es 12 g = some (A, p) → lo D es A a = some av → LD cs sh av v → lk A [] es t = some v → Nat.blt t nt = true → CKs nt es cs r → CKs nt es cs ((a, sh, t, g) :: r)
def untag (A : List (Nat × Bool)) : List Nat → List En → List En
  | _, [] => []
  | seen, ⟨s, g, v⟩ :: r => match g with
    | none => ⟨s, none, v⟩ :: untag A (s :: seen) r
    | some (t, b) => match memT t b A, memN t (s :: seen) with
      | true, false => ⟨s, none, v⟩ :: untag A (s :: seen) r
      | _, _ => ⟨s, some (t, b), v⟩ :: untag A (s :: seen) r

/-- Symbolic runs. -/
inductive RR : List It → St → List Ck → (DX → St → List Ck → Prop) → Prop where
  | seq {a b : DC} {k : List It} {st : St} {cs : List Ck} {Q : DX → St → List Ck → Prop} : RR (.code a :: .code b :: k) st cs Q → RR (.code (.seq a b) :: k) st cs Q
  | region {os : List ROp} {k : List It} {st : St} {cs : List Ck} {Q : DX → St → List Ck → Prop} : RR (.ops os :: k) st cs Q → RR (.code (.region os) :: k) st cs Q
  | opsnil {k : List It} {st : St} {cs : List Ck} {Q : DX → St → List Ck → Prop} : RR k st cs Q → RR (.ops [] :: k) st cs Q
  | cond {c : Opd} {x y : DC} {k : List It} {nt : Nat} {es : List En} {ds : List DDef} {ir : Option Nat} {cs : List Ck} {Q : DX → St → List Ck → Prop} {b : Bool} : lo D es [] c = some (.bool b) → (b = true → RR (.code x :: k) ⟨nt, es, ds, ir⟩ cs Q) → (b = false → RR (.code y :: k) ⟨nt, es, ds, ir⟩ cs Q) → RR (.code (.cond c x y) :: k) ⟨nt, es, ds, ir⟩ cs Q
  | skip {k : List It} {st : St} {cs : List Ck} {Q : DX → St → List Ck → Prop} : RR k st cs Q → RR (.code .skip :: k) st cs Q
  | block {id : Nat} {b : DC} {k : List It} {st : St} {cs : List Ck} {Q : DX → St → List Ck → Prop} : RR (.code b :: .blk id :: k) st cs Q → RR (.code (.block id b) :: k) st cs Q
  | blk {id : Nat} {k : List It} {st : St} {cs : List Ck} {Q : DX → St → List Ck → Prop} : RR k st cs Q → RR (.blk id :: k) st cs Q
  | exit {id : Nat} {k k' : List It} {st : St} {cs : List Ck} {Q : DX → St → List Ck → Prop} : unw k id = some k' → RR k' st cs Q → RR (.code (.exit id) :: k) st cs Q
  | ret {k : List It} {st : St} {cs : List Ck} {Q : DX → St → List Ck → Prop} : Q .ret st cs → RR (.code .ret :: k) st cs Q
  | nil {st : St} {cs : List Ck} {Q : DX → St → List Ck → Prop} : Q .normal st cs → RR [] st cs Q
  | chk {l : List (Opd × Shape × Nat × Option (Nat × Bool))} {k : List It} {nt : Nat} {es : List En} {ds : List DDef} {ir : Option Nat} {cs : List Ck} {Q : DX → St → List Ck → Prop} : CKs D nt es cs l → RR k ⟨nt, es, ds, ir⟩ cs Q → RR (.chk l :: k) ⟨nt, es, ds, ir⟩ cs Q
  | call {d : Option Nat} {x : Opd} {az : List Opd} {c : List (Opd × Shape × Nat × Option (Nat × Bool))} {os : List ROp} {k : List It} {nt : Nat} {es : List En} {ds : List DDef} {ir : Option Nat} {cs : List Ck} {Q : DX → St → List Ck → Prop} {xv : DV} {vs : List DV} {P : DV → List Ck → Prop} :
      lo D es [] x = some xv → LoS D es [] az vs → dstOk nt d = true → FC D xv vs cs P → (∀ v cs', P v cs' → RR (.chk c :: .ops os :: k) (St.putO ⟨nt, es, ds, ir⟩ d v) cs' Q) → RR (.ops (⟨d, .call x az false, none, c⟩ :: os) :: k) ⟨nt, es, ds, ir⟩ cs Q
  | callZ {d : Option Nat} {x : Opd} {az : List Opd} {c : List (Opd × Shape × Nat × Option (Nat × Bool))} {os : List ROp} {k : List It} {nt : Nat} {es : List En} {ds : List DDef} {ir : Option Nat} {cs : List Ck} {Q : DX → St → List Ck → Prop} {xv : DV} {vs : List DV} {P : DV → List Ck → Prop} :
      lo D es [] x = some xv → LoS D es [] az vs → dstOk nt d = true → FZ D xv vs cs P → (∀ v cs', P v cs' → RR (.chk c :: .ops os :: k) (St.putO ⟨nt, es, ds, ir⟩ d v) cs' Q) → RR (.ops (⟨d, .call x az true, none, c⟩ :: os) :: k) ⟨nt, es, ds, ir⟩ cs Q
  | store {d : Option Nat} {n : Nat} {x y : Opd} {c : List (Opd × Shape × Nat × Option (Nat × Bool))} {os : List ROp} {k : List It} {nt : Nat} {es : List En} {ds : List DDef} {ir : Option Nat} {cs cs' : List Ck} {Q : DX → St → List Ck → Prop} {id off : Nat} {cells vc cells' : List DV} {s : Shape} {v : DV} :
      lo D es [] x = some (.ptr id off) → lo D es [] y = some v → CL n v vc → Upd1 (.obj id (.cells cells s)) (.obj id (.cells cells' s)) cs cs' → Ow cells off vc cells' → dstOk nt d = true → RR (.chk c :: .ops os :: k) (St.putO ⟨nt, es, ds, ir⟩ d .undef) cs' Q → RR (.ops (⟨d, .store n x y, none, c⟩ :: os) :: k) ⟨nt, es, ds, ir⟩ cs Q
  | storeS {d : Option Nat} {n : Nat} {x y : Opd} {c : List (Opd × Shape × Nat × Option (Nat × Bool))} {os : List ROp} {k : List It} {nt : Nat} {es : List En} {ds : List DDef} {ir : Option Nat} {cs cs' : List Ck} {Q : DX → St → List Ck → Prop} {id off : Nat} {v : DV} :
      lo D es [] x = some (.ptr id off) → lo D es [] y = some v → StS cs n id off v cs' → dstOk nt d = true → RR (.chk c :: .ops os :: k) (St.putO ⟨nt, es, ds, ir⟩ d .undef) cs' Q → RR (.ops (⟨d, .store n x y, none, c⟩ :: os) :: k) ⟨nt, es, ds, ir⟩ cs Q
  | append {d : Option Nat} {sh : Shape} {bytes : Nat} {x y : Opd} {c : List (Opd × Shape × Nat × Option (Nat × Bool))} {os : List ROp} {k : List It} {nt : Nat} {es : List En} {ds : List DDef} {ir : Option Nat} {cs : List Ck} {cs' : Nat → List Ck} {Q : DX → St → List Ck → Prop} {t z : Nat} {xs ys zs : List DV} {yv : DV} :
      lo D es [] x = some (.lst t z xs) → lo D es [] y = some yv → z = zOf t sh.size → EL cs sh yv ys → JO xs ys zs → Upd (.own t sh.size xs) (fun a => .own a sh.size zs) cs cs' → Nat.ble 1 bytes = true → Arith ((xs.length + ys.length) * bytes ≤ 140737488355328) → dstOk nt d = true →
      (∀ t', RR (.chk c :: .ops os :: k) (St.putO ⟨nt, es, ds, ir⟩ d (.lst t' (zOf t' sh.size) zs)) (cs' t') Q) → RR (.ops (⟨d, .append false sh bytes x y, none, c⟩ :: os) :: k) ⟨nt, es, ds, ir⟩ cs Q
  | mks {d : Option Nat} {sh : Shape} {zero : DV} {len : Nat} {ps : List (Nat × Opd)} {c : List (Opd × Shape × Nat × Option (Nat × Bool))} {os : List ROp} {k : List It} {nt : Nat} {es : List En} {ds : List DDef} {ir : Option Nat} {cs : List Ck} {Q : DX → St → List Ck → Prop} {vs : List DV} :
      Sq D es [] sh.size 0 ps vs → Nat.beq ps.length len = true → Nat.ble (len * sh.size) 16777216 = true → dstOk nt d = true → (∀ t, 2 ≤ t → RR (.chk c :: .ops os :: k) (St.putO ⟨nt, es, ds, ir⟩ d (.lst t (zOf t sh.size) vs)) (.own t sh.size vs :: cs) Q) → RR (.ops (⟨d, .mks false sh zero len ps, none, c⟩ :: os) :: k) ⟨nt, es, ds, ir⟩ cs Q
  | box {d : Option Nat} {x : Opd} {n : Nat} {c : List (Opd × Shape × Nat × Option (Nat × Bool))} {os : List ROp} {k : List It} {nt : Nat} {es : List En} {ds : List DDef} {ir : Option Nat} {cs : List Ck} {Q : DX → St → List Ck → Prop} {v : DV} {vc : List DV} :
      lo D es [] x = some v → CL n v vc → dstOk nt d = true → (∀ id, 2 ≤ id → RR (.chk c :: .ops os :: k) (St.putO ⟨nt, es, ds, ir⟩ d (.ptr id 0)) (.obj id (.cells vc none) :: cs) Q) → RR (.ops (⟨d, .box x n, none, c⟩ :: os) :: k) ⟨nt, es, ds, ir⟩ cs Q
  | alloc {d : Option Nat} {zero : List DV} {sh : Shape} {c : List (Opd × Shape × Nat × Option (Nat × Bool))} {os : List ROp} {k : List It} {nt : Nat} {es : List En} {ds : List DDef} {ir : Option Nat} {cs : List Ck} {Q : DX → St → List Ck → Prop} :
      dstOk nt d = true → (∀ id, 2 ≤ id → RR (.chk c :: .ops os :: k) (St.putO ⟨nt, es, ds, ir⟩ d (.ptr id 0)) (.obj id (.cells zero sh) :: cs) Q) → RR (.ops (⟨d, .alloc zero sh, none, c⟩ :: os) :: k) ⟨nt, es, ds, ir⟩ cs Q
  | strBytes {d : Option Nat} {x : Opd} {c : List (Opd × Shape × Nat × Option (Nat × Bool))} {os : List ROp} {k : List It} {nt : Nat} {es : List En} {ds : List DDef} {ir : Option Nat} {cs : List Ck} {Q : DX → St → List Ck → Prop} {s : List UInt8} :
      lo D es [] x = some (.str s) → Arith (s.length ≤ 140737488355328) → dstOk nt d = true → (∀ t, 2 ≤ t → RR (.chk c :: .ops os :: k) (St.putO ⟨nt, es, ds, ir⟩ d (.lst t (zOf t 1) (bytesV s))) (.own t 1 (bytesV s) :: cs) Q) → RR (.ops (⟨d, .conv .strBytes false x, none, c⟩ :: os) :: k) ⟨nt, es, ds, ir⟩ cs Q
  | strBytesM {d : Option Nat} {x : Opd} {c : List (Opd × Shape × Nat × Option (Nat × Bool))} {os : List ROp} {k : List It} {nt : Nat} {es : List En} {ds : List DDef} {ir : Option Nat} {cs : List Ck} {Q : DX → St → List Ck → Prop} {s : List UInt8} :
      lo D es [] x = some (.str s) → Arith (s.length ≤ 140737488355328) → dstOk nt d = true → (∀ id, 2 ≤ id → RR (.chk c :: .ops os :: k) (St.putO ⟨nt, es, ds, ir⟩ d (.arr id 1 0 s.length)) (.obj id (.cells (bytesV s) none) :: cs) Q) → RR (.ops (⟨d, .conv .strBytes true x, none, c⟩ :: os) :: k) ⟨nt, es, ds, ir⟩ cs Q
  | range {d : Option Nat} {x : Opd} {c : List (Opd × Shape × Nat × Option (Nat × Bool))} {os : List ROp} {k : List It} {nt : Nat} {es : List En} {ds : List DDef} {ir : Option Nat} {cs : List Ck} {Q : DX → St → List Ck → Prop} {s : List UInt8} :
      lo D es [] x = some (.str s) → dstOk nt d = true → (∀ id, 2 ≤ id → RR (.chk c :: .ops os :: k) (St.putO ⟨nt, es, ds, ir⟩ d (.ptr id 0)) (.obj id (.siter s 0) :: cs) Q) → RR (.ops (⟨d, .range x, none, c⟩ :: os) :: k) ⟨nt, es, ds, ir⟩ cs Q
  | next {d : Option Nat} {x : Opd} {c : List (Opd × Shape × Nat × Option (Nat × Bool))} {os : List ROp} {k : List It} {nt : Nat} {es : List En} {ds : List DDef} {ir : Option Nat} {cs cs' : List Ck} {Q : DX → St → List Ck → Prop} {id pos : Nat} {s : List UInt8} :
      lo D es [] x = some (.ptr id 0) → Upd1 (.obj id (.siter s pos)) (.obj id (.siter s (pos + (Utf8.decode ⟨s.toArray⟩ pos).2))) cs cs' → dstOk nt d = true →
      (pos < s.length → RR (.chk c :: .ops os :: k) (St.putO ⟨nt, es, ds, ir⟩ d (.tup [.bool true, .int .i64 pos, .int .i32 (Utf8.decode ⟨s.toArray⟩ pos).1])) cs' Q) → (s.length ≤ pos → RR (.chk c :: .ops os :: k) (St.putO ⟨nt, es, ds, ir⟩ d (.tup [.bool false])) cs Q) → RR (.ops (⟨d, .next x, none, c⟩ :: os) :: k) ⟨nt, es, ds, ir⟩ cs Q
  | defr {d : Option Nat} {x : Opd} {az : List Opd} {c : List (Opd × Shape × Nat × Option (Nat × Bool))} {os : List ROp} {k : List It} {nt : Nat} {es : List En} {ds : List DDef} {cs : List Ck} {Q : DX → St → List Ck → Prop} {g : Nat} {first caps vs : List DV} :
      lo D es [] x = some (.fn (.func g) first caps) → LoS D es [] az vs → dstOk nt d = true → RR (.chk c :: .ops os :: k) (St.putO ⟨nt, es, .call g (first ++ vs ++ caps) :: ds, none⟩ d .undef) cs Q → RR (.ops (⟨d, .defr x az, none, c⟩ :: os) :: k) ⟨nt, es, ds, none⟩ cs Q
  | gcall {d : Nat} {x : Opd} {az : List Opd} {fz : Bool} {t : Nat} {b : Bool} {c : List (Opd × Shape × Nat × Option (Nat × Bool))} {os : List ROp} {k : List It} {nt : Nat} {es : List En} {ds : List DDef} {ir : Option Nat} {cs : List Ck} {Q : DX → St → List Ck → Prop} {A : List (Nat × Bool)} {p : Bool} :
      gate es 12 (some (t, b)) = some (A, p) → Nat.blt d nt = true → (p = true → RR (.ops (⟨some d, .call x az fz, none, c⟩ :: os) :: k) ⟨nt, untag A [] es, ds, ir⟩ cs Q) → (p = false → RR (.ops os :: k) ⟨nt, ⟨d, none, .undef⟩ :: es, ds, ir⟩ cs Q) → RR (.ops (⟨some d, .call x az fz, some (t, b), c⟩ :: os) :: k) ⟨nt, es, ds, ir⟩ cs Q
  | gmks {d : Nat} {mu : Bool} {sh : Shape} {zero : DV} {len : Nat} {ps : List (Nat × Opd)} {t : Nat} {b : Bool} {c : List (Opd × Shape × Nat × Option (Nat × Bool))} {os : List ROp} {k : List It} {nt : Nat} {es : List En} {ds : List DDef} {ir : Option Nat} {cs : List Ck} {Q : DX → St → List Ck → Prop} {A : List (Nat × Bool)} {p : Bool} :
      gate es 12 (some (t, b)) = some (A, p) → Nat.blt d nt = true → (p = true → RR (.ops (⟨some d, .mks mu sh zero len ps, none, c⟩ :: os) :: k) ⟨nt, untag A [] es, ds, ir⟩ cs Q) → (p = false → RR (.ops os :: k) ⟨nt, ⟨d, none, .undef⟩ :: es, ds, ir⟩ cs Q) → RR (.ops (⟨some d, .mks mu sh zero len ps, some (t, b), c⟩ :: os) :: k) ⟨nt, es, ds, ir⟩ cs Q
  | val {d : Nat} {op : DOp} {g : Option (Nat × Bool)} {os : List ROp} {k : List It} {nt : Nat} {es : List En} {ds : List DDef} {ir : Option Nat} {cs : List Ck} {Q : DX → St → List Ck → Prop} {A : List (Nat × Bool)} {p : Bool} {v : DV} :
      gate es 12 g = some (A, p) → VO D es cs A p op v → Nat.blt d nt = true → RR (.ops os :: k) ⟨nt, ⟨d, g, v⟩ :: es, ds, ir⟩ cs Q → RR (.ops (⟨some d, op, g, []⟩ :: os) :: k) ⟨nt, es, ds, ir⟩ cs Q
  | sem {k : List It} {st : St} {cs : List Ck} {Q : DX → St → List Ck → Prop} : RS D k st cs Q → RR k st cs Q
end
end Go.Dm
/- The D-machine (33): symbolic runs are runs. -/
namespace Go.Dm
set_option linter.unusedSimpArgs false
set_option linter.unusedVariables false
set_option linter.unnecessarySimpa false

theorem wrap_i64_in {x : Int} (h : -9223372036854775808 ≤ x ∧ x ≤ 9223372036854775807) : IntKind.i64.wrap x = x := by rw [IntKind.wrap_i64]; omega
theorem wrap_i32_in {x : Int} (h : -2147483648 ≤ x ∧ x ≤ 2147483647) : IntKind.i32.wrap x = x := by rw [IntKind.wrap_i32]; omega
section
variable {D : DProg} {es : List En} {cs : List Ck} {A : List (Nat × Bool)} {p : Bool} {fr : Fr} {h : Heap}
abbrev Tags (fr : Fr) (A : List (Nat × Bool)) : Prop := ∀ t b, (t, b) ∈ A → fr.tmps.getD t .undef = .bool b
theorem Tags.nil : Tags fr [] := fun _ _ h => by cases h
theorem lo_ok (ha : Ag fr.tmps [] es) (hA : Tags fr A) {x : Opd} {v : DV} (hl : lo D es A x = some v) : ev D fr x = v := by
  cases x with
  | t n => exact lk_ok hA ha rfl hl
  | c w => exact Option.some.inj hl
  | g n =>
    simp only [lo] at hl
    simp only [ev]
    cases hg : D.glob n with
    | none => rw [hg] at hl; cases hl
    | some cs => rw [hg] at hl; simpa using hl
  | f n => exact Option.some.inj hl
theorem LoS.ok (ha : Ag fr.tmps [] es) (hA : Tags fr A) {xs : List Opd} {vs : List DV} (hl : LoS D es A xs vs) : evs D fr xs = vs := by
  induction hl with
  | nil => rfl
  | cons h1 _ ih => simp only [evs, List.map_cons, lo_ok ha hA h1] at ih ⊢; rw [ih]
theorem LoO.ok (ha : Ag fr.tmps [] es) (hA : Tags fr A) {x : Option Opd} {v : Option DV} (hl : LoO D es A x v) : evO D fr x = v := by
  cases hl with
  | none => rfl
  | some h1 => simp only [evO, Option.map_some, lo_ok ha hA h1]
theorem top_wrap {k : IntKind} {x : Int} (h0 : 0 ≤ x) (h1 : x ≤ top k) : k.wrap x = x := by
  cases k <;> simp only [top] at h1
  · omega
  · omega
  · rw [IntKind.wrap_i32]; omega
  · rw [IntKind.wrap_i64]; omega
  · show x % 256 = x; omega
  · show x % 65536 = x; omega
  · show x % 4294967296 = x; omega
  · show x % 18446744073709551616 = x; omega
theorem top_bits (k : IntKind) : top k < 2 ^ k.bits ∧ wid k = k.bits ∧ (∀ a b : Nat, (a : Int) ≤ top k → (b : Int) ≤ top k → ((a ||| b : Nat) : Int) ≤ top k) := by
  have aux : ∀ n (t : Int), t = 2 ^ n - 1 → ∀ a b : Nat, (a : Int) ≤ t → (b : Int) ≤ t → ((a ||| b : Nat) : Int) ≤ t := by
    intro n t ht a b ha hb
    have e : (2 ^ n : Int) = ((2 ^ n : Nat) : Int) := by simp
    have hp : 0 < 2 ^ n := Nat.pow_pos (by omega)
    have := Nat.or_lt_two_pow (x := a) (y := b) (n := n) (by omega) (by omega)
    omega
  cases k
  · exact ⟨by decide, rfl, fun a b ha _ => by simp only [top] at ha; omega⟩
  · exact ⟨by decide, rfl, fun a b ha _ => by simp only [top] at ha; omega⟩
  · exact ⟨by decide, rfl, aux 31 _ rfl⟩
  · exact ⟨by decide, rfl, aux 63 _ rfl⟩
  · exact ⟨by decide, rfl, aux 8 _ rfl⟩
  · exact ⟨by decide, rfl, aux 16 _ rfl⟩
  · exact ⟨by decide, rfl, aux 32 _ rfl⟩
  · exact ⟨by decide, rfl, aux 64 _ rfl⟩
theorem ofInt_top {k : IntKind} {a : Int} (h0 : 0 ≤ a) (h1 : a ≤ top k) : (BitVec.ofInt k.bits a).toNat = a.toNat := by
  have h2 := (top_bits k).1
  rw [BitVec.toNat_ofInt]
  have e : (2 ^ k.bits : Int) = ((2 ^ k.bits : Nat) : Int) := by simp
  congr 1
  apply Int.emod_eq_of_lt h0
  omega
theorem BI.ok (hp : p = true) {op : BinOp} {k : EqK} {a b v : DV} (hb : BI p op k a b v) : binD op k a b = some v := by
  cases hb with
  | addL h1 => simp [binD, intBin, wrap_i64_in (h1.out hp)]
  | subL h1 => simp [binD, intBin, wrap_i64_in (h1.out hp)]
  | mulL h1 => simp [binD, intBin, wrap_i64_in (h1.out hp)]
  | addI h1 => simp [binD, intBin, wrap_i32_in (h1.out hp)]
  | subI h1 => simp [binD, intBin, wrap_i32_in (h1.out hp)]
  | addS h1 => have := h1.out hp; simp [binD, strBin, this]
  | @and q k a b h1 =>
    obtain ⟨⟨a0, a1⟩, b0, b1⟩ := h1.out hp
    have e : (BitVec.ofInt k.bits a &&& BitVec.ofInt k.bits b).toNat = a.toNat &&& b.toNat := by
      rw [BitVec.toNat_and, ofInt_top a0 a1, ofInt_top b0 b1]
    have hle : a.toNat &&& b.toNat ≤ a.toNat := Nat.and_le_left
    simp only [binD, if_true, intBin, e]
    rw [top_wrap (by omega) (by omega)]
  | @or q k a b h1 =>
    obtain ⟨⟨a0, a1⟩, b0, b1⟩ := h1.out hp
    have e : (BitVec.ofInt k.bits a ||| BitVec.ofInt k.bits b).toNat = a.toNat ||| b.toNat := by
      rw [BitVec.toNat_or, ofInt_top a0 a1, ofInt_top b0 b1]
    have hle := (top_bits k).2.2 a.toNat b.toNat (by omega) (by omega)
    simp only [binD, if_true, intBin, e]
    rw [top_wrap (by omega) hle]
  | @shl q k k' a b h1 =>
    obtain ⟨b0, b1, a0, h2⟩ := h1.out hp
    have hb := (top_bits k).2.1
    have hm : min b.toNat k.bits = b.toNat := by omega
    simp only [binD]
    rw [if_neg (by omega), hm, top_wrap (Int.mul_nonneg a0 (Int.pow_nonneg (by omega))) h2]
  | @shr q k k' a b h1 =>
    obtain ⟨b0, b1, a0⟩ := h1.out hp
    have hb := (top_bits k).2.1
    have hm : min b.toNat k.bits = b.toNat := by omega
    simp only [binD]
    rw [if_neg (by omega), hm, Int.fdiv_eq_ediv_of_nonneg _ (Int.pow_nonneg (by omega))]
  | offL h1 => exact (h1.out hp).elim
  | offR h1 => exact (h1.out hp).elim
  | gen h1 => exact h1
theorem byte_ofByte (b : UInt8) : byte? (ofByte b) = some b := by
  have := b.toNat_lt
  simp only [ofByte, byte?]
  rw [if_pos (by omega)]
  simp
theorem toStr_bytesV (s : List UInt8) : toStr? (bytesV s) = some s := by
  induction s with
  | nil => rfl
  | cons b s ih => simp only [bytesV, List.map_cons, toStr?] at ih ⊢; rw [byte_ofByte, ih]
theorem toStr_append {a b : List DV} {s t : List UInt8} (h1 : toStr? a = some s) (h2 : toStr? b = some t) : toStr? (a ++ b) = some (s ++ t) := by
  induction a generalizing s with
  | nil => simp only [toStr?, Option.some.injEq] at h1; subst h1; exact h2
  | cons x a ih =>
    simp only [toStr?] at h1
    split at h1 <;> try (cases h1; done)
    rename_i b1 s1 hb hs
    simp only [Option.some.injEq] at h1; subst h1
    simp only [List.cons_append, toStr?, hb, ih hs]
theorem toStr_len {a : List DV} {s : List UInt8} (h1 : toStr? a = some s) : a = bytesV s := by
  induction a generalizing s with
  | nil => simp only [toStr?, Option.some.injEq] at h1; subst h1; rfl
  | cons x a ih =>
    simp only [toStr?] at h1
    split at h1 <;> try (cases h1; done)
    rename_i b1 s1 hb hs
    simp only [Option.some.injEq] at h1; subst h1
    have := ih hs
    subst this
    unfold byte? at hb
    split at hb <;> try (cases hb; done)
    rename_i n
    split at hb <;> try (cases hb; done)
    rename_i hn
    simp only [Option.some.injEq] at hb; subst hb
    simp only [bytesV, List.map_cons, ofByte]
    congr 2
    rw [UInt8.toNat_ofNat']
    omega
theorem BL.ok {xs : List DV} {s : List UInt8} (hb : BL xs s) : toStr? xs = some s := by
  induction hb with
  | bytes => exact toStr_bytesV _
  | map => exact toStr_bytesV _
  | nil => rfl
  | app _ _ h1 h2 => exact toStr_append h1 h2
  | drop _ h1 => rw [toStr_len h1]; simp only [bytesV, ← List.map_drop]; exact toStr_bytesV _
  | take _ h1 => rw [toStr_len h1]; simp only [bytesV, ← List.map_take]; exact toStr_bytesV _
  | @cons b a s _ h1 => have := byte_ofByte b; simp only [ofByte] at this; simp only [toStr?, this, h1]
  | lit hn _ h1 => have hn := hn.out; simp only [toStr?, byte?, hn, and_self, if_true, h1]
theorem runes_ok (rs : List Int) : runesStr? (rs.map I32) = some (runeBytes rs) := by
  induction rs with
  | nil => rfl
  | cons r rs ih => simp only [List.map_cons, runesStr?, rune?, ih]; rfl
theorem CV.ok (hp : p = true) {k : ConvK} {mu : Bool} {a v : DV} (hc : CV p k mu a v) : convD h k mu a = some (.val v) := by
  cases hc with
  | @iBb _ b => have := b.toNat_lt; simp [convD, wrap_i32_in (x := (b.toNat : Int)) (by omega)]
  | @lBb _ b => have := b.toNat_lt; simp [convD, wrap_i64_in (x := (b.toNat : Int)) (by omega)]
  | lI h1 => simp [convD, wrap_i64_in (h1.out hp)]
  | lB h1 => simp [convD, wrap_i64_in (h1.out hp)]
  | lU h1 => simp [convD, wrap_i64_in (h1.out hp)]
  | iB h1 => simp [convD, wrap_i32_in (h1.out hp)]
  | ii h1 => simp [convD, wrap_i32_in (h1.out hp)]
  | ll h1 => simp [convD, wrap_i64_in (h1.out hp)]
  | wrap => rfl
  | same => rfl
  | bytesStr h1 => simp [convD, h1.ok]
  | runesStr => simp [convD, runes_ok]
theorem Cut.ok {cs : List DV} {o n : Nat} {r : List DV} (hc : Cut cs o n r) : cut cs o n = some r := by
  induction hc with
  | zero => simp [cut]
  | take _ ih =>
    unfold cut at ih ⊢
    split at ih <;> cases ih
    rename_i hl
    rw [if_pos (by simp only [List.length_cons]; omega)]
    simp
  | skip _ ih =>
    unfold cut at ih ⊢
    split at ih <;> cases ih
    rename_i hl
    rw [if_pos (by simp only [List.length_cons]; omega)]
    simp
theorem LDv.ok {c : List DV} {off : Nat} {sh : Shape} {v : DV} (hl : LDv c off sh v) : (cut c off sh.size).bind (mkv sh) = some v := by
  cases hl with
  | one h1 =>
    have hlt := (List.getElem?_eq_some_iff.1 h1).1
    have hv := (List.getElem?_eq_some_iff.1 h1).2
    have hc : cut c off 1 = some [v] := by
      unfold cut
      rw [if_pos (by omega), List.drop_eq_getElem_cons hlt, hv]; rfl
    show (cut c off 1).bind (mkv none) = some v
    rw [hc]; rfl
  | agg h1 => simp only [Shape.size, Option.getD_some, h1.ok, Option.bind_some, mkv]
theorem LD.ok (hs : Sat h cs) {sh : Shape} {a v : DV} (hl : LD cs sh a v) : loadD h sh a = some v := by
  cases hl with
  | ptr hm hv => simp only [loadD, hs.obj hm, hv.ok]
  | elt hv => simp only [loadD, hv.ok]
  | sem hv => exact hv h hs
theorem ZK.ok {t z sz : Nat} (hz : ZK t z sz) : t = 0 ∨ z = sz := by
  cases hz with
  | lit => exact .inr rfl
  | zof => cases t with
    | zero => exact .inl rfl
    | succ t => exact .inr rfl
theorem zOf_two {t sz : Nat} (h : 2 ≤ t) : zOf t sz = sz := by
  cases t with
  | zero => omega
  | succ t => rfl
theorem take_drop_all {α : Type} (xs : List α) (n : Nat) : (xs.drop n).take (xs.length - n) = xs.drop n := List.take_of_length_le (by simp)
theorem bounds_lo {n : Nat} {k : IntKind} {l : Int} (h1 : 0 ≤ l ∧ l ≤ n) : bounds n (some (.int k l)) none = some (l.toNat, n) := by simp only [bounds]; rw [if_pos h1]
theorem bounds_hi {n : Nat} {k : IntKind} {r : Int} (h1 : 0 ≤ r ∧ r ≤ n) : bounds n none (some (.int k r)) = some (0, r.toNat) := by simp only [bounds]; rw [if_pos h1]
theorem bounds_both {n : Nat} {k k' : IntKind} {l r : Int} (h1 : 0 ≤ l ∧ l ≤ r ∧ r ≤ n) : bounds n (some (.int k l)) (some (.int k' r)) = some (l.toNat, r.toNat) := by simp only [bounds]; rw [if_pos h1]
theorem SL.ok (hp : p = true) {sz : Nat} {s v : DV} {a b : Option DV} (hl : SL cs p sz s a b v) : sliceD sz s a b none = some (.val v) := by
  have hc : ∀ t n : Nat, cutT t n n = t := fun t n => by simp [cutT]
  cases hl with
  | loM hz h1 =>
    have h1 := h1.out hp
    simp only [sliceD]
    rw [if_pos hz.ok, List.length_map, bounds_lo h1]
    simp [Option.map_some, hc, List.take_of_length_le]
  | hiM hz h1 =>
    have h1 := h1.out hp
    simp only [sliceD]
    rw [if_pos hz.ok, List.length_map, bounds_hi h1]
    simp [Option.map_some]
  | bothM hz h1 =>
    have h1 := h1.out hp
    simp only [sliceD]
    rw [if_pos hz.ok, List.length_map, bounds_both h1]
    simp [Option.map_some]
  | lo hz h1 =>
    have h1 := h1.out hp
    simp only [sliceD]
    rw [if_pos hz.ok, bounds_lo h1]
    simp [Option.map_some, take_drop_all, hc]
  | hi hz h1 =>
    have h1 := h1.out hp
    simp only [sliceD]
    rw [if_pos hz.ok, bounds_hi h1]
    simp [Option.map_some]
  | both hz h1 =>
    have h1 := h1.out hp
    simp only [sliceD]
    rw [if_pos hz.ok, bounds_both h1]
    simp [Option.map_some]
  | arrLo h1 => have h1 := h1.out hp; simp only [sliceD, if_true]; rw [bounds_lo h1]; simp
  | arrHi h1 => have h1 := h1.out hp; simp only [sliceD, if_true]; rw [bounds_hi h1]; simp
  | arrBoth h1 => have h1 := h1.out hp; simp only [sliceD, if_true]; rw [bounds_both h1]; simp
theorem SS.ok (hp : p = true) {s r : List UInt8} {a b : Option DV} (hl : SS p s a b r) : (bounds s.length a b).map (fun (l, r) => EvR.val (.str ((s.drop l).take (r - l)))) = some (.val (.str r)) := by
  cases hl with
  | all => simp [bounds]
  | lo h1 => rw [bounds_lo (h1.out hp)]; simp [take_drop_all]
  | hi h1 => rw [bounds_hi (h1.out hp)]; simp
  | both h1 => rw [bounds_both (h1.out hp)]; simp
theorem BP.ok (ha : Ag fr.tmps [] es) (hA : Tags fr A) {ps : List (Nat × Nat × Opd)} {vs : List (Nat × Nat × DV)} (hb : BP D es A ps vs) : (ps.map fun q => (q.1, q.2.1, ev D fr q.2.2)) = vs := by
  induction hb with
  | nil => rfl
  | cons h1 _ ih => simp only [List.map_cons, lo_ok ha hA h1, ih]
theorem CL.ok {n : Nat} {v : DV} {c : List DV} (hc : CL n v c) : v.cells = c ∧ c.length = n ∧ v.okv = true := by
  cases hc with
  | agg h1 => exact ⟨rfl, h1, rfl⟩
  | gen h1 h2 => exact ⟨rfl, h1, h2⟩
  | _ => exact ⟨rfl, rfl, rfl⟩
theorem Ow.ok {cs xs r : List DV} {o : Nat} (ho : Ow cs o xs r) : overwrite cs o xs = r ∧ o + xs.length ≤ cs.length := by
  induction ho with
  | nil => simp [overwrite]
  | put _ ih =>
    obtain ⟨h1, h2⟩ := ih
    simp only [overwrite, List.take_zero, List.nil_append, Nat.zero_add] at h1
    constructor
    · simp only [overwrite, List.take_zero, List.nil_append, List.length_cons, Nat.zero_add, List.drop_succ_cons, List.cons_append, h1]
    · simp only [List.length_cons]; omega
  | skip _ ih =>
    obtain ⟨h1, h2⟩ := ih
    constructor
    · have : ∀ (c : DV) (cs xs : List DV) (o : Nat), overwrite (c :: cs) (o + 1) xs = c :: overwrite cs o xs := by
        intro c cs xs o
        simp only [overwrite, List.take_succ_cons, List.cons_append]
        rw [show o + 1 + xs.length = (o + xs.length) + 1 by omega, List.drop_succ_cons]
      rw [this, h1]
    · simp only [List.length_cons]; omega
theorem BLd.ok {cs out : List DV} {ps : List (Nat × Nat × DV)} (hb : BLd cs ps out) : buildL cs ps = some out := by
  induction hb with
  | nil => rfl
  | cons hc ho _ ih =>
    obtain ⟨h1, h2, h3⟩ := hc.ok
    obtain ⟨h4, h5⟩ := ho.ok
    simp only [buildL]
    rw [if_pos ⟨by rw [h1, h2], by omega, h3⟩, h1, h4, ih]
theorem VO.ok (ha : Ag fr.tmps [] es) (hs : Sat h cs) (hA : Tags fr A) (hp : p = true) {op : DOp} {v : DV} (hv : VO D es cs A p op v) : evalOp D fr h op = some (.val v) := by
  cases hv with
  | mv h1 => simp only [evalOp, lo_ok ha hA h1]
  | load h1 h2 => simp only [evalOp, lo_ok ha hA h1, h2.ok hs, Option.map_some]
  | nilc h1 h2 => simp only [evalOp, lo_ok ha hA h1]; cases h2 <;> rfl
  | faddr h1 h2 => simp only [evalOp, lo_ok ha hA h1]; cases h2 <;> simp
  | bin h1 h2 h3 => simp only [evalOp, lo_ok ha hA h1, lo_ok ha hA h2, h3.ok hp, Option.map_some]
  | @pickk t x y w v h1 h2 =>
    have e1 : ev D fr (.t t) = w := lo_ok ha hA h1
    cases h2 with
    | @or y q b A1 q1 z h2 h3 h4 =>
      cases q with
      | true => simp only [evalOp, e1]; rfl
      | false =>
        have hw : wantedG (some (t, false)) fr = true := wanted_bool.2 e1
        have hA1 := ((gate_ok ha h2).1 hw).2
        have e3 : ev D fr y = z := lo_ok (A := A1 ++ A) ha (fun t b hm => (List.mem_append.1 hm).elim (hA1 t b) (hA t b)) h3
        cases h4 with
        | val => simp only [evalOp, e1, e3, Bool.false_or]
        | off h5 => exact absurd (h5.out hp) (by decide)
    | @and _ q b A1 q1 z h2 h3 h4 =>
      cases q with
      | false => simp only [evalOp, e1]; rfl
      | true =>
        have hw : wantedG (some (t, true)) fr = true := wanted_bool.2 e1
        have hA1 := ((gate_ok ha h2).1 hw).2
        have e3 : ev D fr x = z := lo_ok (A := A1 ++ A) ha (fun t b hm => (List.mem_append.1 hm).elim (hA1 t b) (hA t b)) h3
        cases h4 with
        | val => simp only [evalOp, e1, e3, Bool.true_and]
        | off h5 => exact absurd (h5.out hp) (by decide)
    | @pick x y q a b h2 h3 =>
      have e2 : ev D fr x = a := lo_ok ha hA h2
      have e3 : ev D fr y = b := lo_ok ha hA h3
      cases q <;> simp only [evalOp, e1, e2, e3, cond_true, cond_false]
    | off h2 => exact (h2.out hp).elim
  | un h1 h2 =>
    cases h2 with
    | off h3 => exact (h3.out hp).elim
    | gen h3 => simp only [evalOp, lo_ok ha hA h1, h3, Option.map_some]
  | iaddr h1 h2 h3 =>
    simp only [evalOp, lo_ok ha hA h1, lo_ok ha hA h2]
    cases h3 with
    | @map α _ t z f ys k n hz hb =>
      have hb := hb.out hp
      have hn : n.toNat < ys.length := by omega
      have hget : (ys.map f)[n.toNat]? = some (f (ys.getD n.toNat default)) := by
        rw [List.getElem?_map, List.getD_eq_getElem?_getD, List.getElem?_eq_getElem hn]; rfl
      dsimp only
      rw [if_pos ⟨hb.1, hz.ok⟩, hget]; rfl
    | @gen t z xs k n w hz hb =>
      have hb := hb.out hp
      dsimp only
      rw [if_pos ⟨hb.1, hz.ok⟩, hb.2]; rfl
    | arr hb => have hb := hb.out hp; dsimp only; rw [if_pos ⟨hb.1, hb.2, rfl⟩]
  | len h1 h2 => simp only [evalOp, lo_ok ha hA h1]; cases h2 <;> simp
  | extract h1 h2 => simp only [evalOp, lo_ok ha hA h1, h2, Option.map_some]
  | field h1 h2 => simp only [evalOp, lo_ok ha hA h1, h2.ok, Option.map_some]
  | conv h1 h2 => simp only [evalOp, lo_ok ha hA h1]; exact h2.ok hp
  | @idxStr x i s k n h1 h2 hb =>
    have hb := hb.out hp
    have hn : n.toNat < s.length := by omega
    simp only [evalOp, lo_ok ha hA h1, lo_ok ha hA h2]
    rw [if_pos hb.1, List.getElem?_eq_getElem hn, List.getD_eq_getElem?_getD, List.getElem?_eq_getElem hn]
    rfl
  | sliceStr h1 h2 h3 h4 => simp only [evalOp, lo_ok ha hA h1, h2.ok ha hA, h3.ok ha hA]; exact h4.ok hp
  | slice h1 h2 h3 h4 => simp only [evalOp, lo_ok ha hA h1, h2.ok ha hA, h3.ok ha hA]; exact h4.ok hp
  | build h1 h2 => simp only [evalOp, h1.ok ha hA, h2.ok, Option.map_some]
  | mkfn h1 h2 => simp only [evalOp, h1.ok ha hA, h2.ok ha hA]
  | iaddrArrE h1 h2 hb => have hb := hb.out hp; simp only [evalOp, lo_ok ha hA h1, lo_ok ha hA h2]; rw [if_pos hb]
  | idxArr h1 h2 hb => have hb := hb.out hp; simp only [evalOp, lo_ok ha hA h1, lo_ok ha hA h2]; rw [if_pos ⟨hb.1, hb.2.1⟩, hb.2.2.ok]; rfl
  | @min x y k k' a b h1 h2 =>
    simp only [evalOp, lo_ok ha hA h1, lo_ok ha hA h2]
    simp only [Bool.false_eq_true, if_false, Option.some.injEq, EvR.val.injEq, DV.int.injEq, true_and]
    split <;> omega
  | @max x y k k' a b h1 h2 =>
    simp only [evalOp, lo_ok ha hA h1, lo_ok ha hA h2]
    simp only [if_true, Option.some.injEq, EvR.val.injEq, DV.int.injEq, true_and]
    split <;> omega
end
end Go.Dm
