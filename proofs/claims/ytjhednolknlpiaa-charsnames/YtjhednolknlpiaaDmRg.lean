/- The D-machine (37): symbolic runs of ranges over functions. -/
import Derived.Test.YtjhednolknlpiaaDmRf
namespace Go.Dm
set_option linter.unusedSimpArgs false
set_option linter.unusedVariables false
set_option linter.unnecessarySimpa false

/-- A loop's record: of its frame some entries are known. -/
def LoopP (l nt : Nat) (es : List En) (ps : List Nat) (asg body : DC) (st : LState) (pend : Option DX) : HP where
  foot i := i = l
  ok o _ := ∃ tmps, o l = some (.loop ⟨tmps, ps, asg, body, st, pend⟩) ∧ tmps.length = nt ∧ Ag tmps [] es
  loc := fun o t o' t' h ⟨tmps, h1, h2⟩ => ⟨tmps, by rw [← (h l rfl).1]; exact h1, h2⟩
abbrev Lp (l nt : Nat) (es : List En) (ps : List Nat) (asg body : DC) (st : LState) (pend : Option DX) : Ck := .pr (LoopP l nt es ps asg body st pend)
section
variable {D : DProg}
def psE : List Nat → List DV → List En → List En
  | p :: ps, v :: vs, es => psE ps vs (⟨p, none, v⟩ :: es)
  | _, _, es => es
theorem psE_ag : ∀ {ps : List Nat} {vs tmps : List DV} {es : List En} {nt : Nat}, tmps.length = nt → ps.all (fun p => Nat.blt p nt) = true → Ag tmps [] es →
    ((ps.zip vs).foldl (fun ts (q : Nat × DV) => ts.set q.1 q.2) tmps).length = nt ∧ Ag ((ps.zip vs).foldl (fun ts (q : Nat × DV) => ts.set q.1 q.2) tmps) [] (psE ps vs es)
  | [], vs, tmps, es, nt, hl, _, ha => ⟨hl, ha⟩
  | p :: ps, [], tmps, es, nt, hl, _, ha => ⟨hl, ha⟩
  | p :: ps, v :: vs, tmps, es, nt, hl, hp, ha => by
    simp only [List.all_cons, Bool.and_eq_true] at hp
    have hlt : p < tmps.length := by rw [hl]; exact Nat.le_of_ble_eq_true hp.1
    simp only [List.zip_cons_cons, List.foldl_cons, psE]
    exact psE_ag (tmps := tmps.set p v) (by rw [List.length_set]; exact hl) hp.2 (ha.put hlt rfl)
/-- How a round's body may end. Lr: the loop's record where a round may begin, Lb: within one, Ld: behind an exit. -/
inductive YB (Lr Lb : Ck) (Ld : DX → Ck) (P : Bool → List Ck → Prop) : DX → St → List Ck → Prop where
  | normal {n2 : Nat} {es2 : List En} {ir : Option Nat} {cs cs3 : List Ck} : Upd1 Lb Lr cs cs3 → Pst (P true) cs3 → YB Lr Lb Ld P .normal ⟨n2, es2, [], ir⟩ cs
  | exit {i n2 : Nat} {es2 : List En} {ir : Option Nat} {cs cs3 : List Ck} : Upd1 Lb (Ld (.exit i)) cs cs3 → Pst (P false) cs3 → YB Lr Lb Ld P (.exit i) ⟨n2, es2, [], ir⟩ cs
  | ret {n2 : Nat} {es2 : List En} {ir : Option Nat} {cs cs3 : List Ck} : Upd1 Lb (Ld .ret) cs cs3 → Pst (P false) cs3 → YB Lr Lb Ld P .ret ⟨n2, es2, [], ir⟩ cs
variable (D) in
inductive YA (l : Nat) (Lr Lb : Ck) (Ld : DX → Ck) (body : DC) (P : Bool → List Ck → Prop) : DX → St → List Ck → Prop where
  | mk {n2 : Nat} {es1 : List En} {cs1 csb : List Ck} : Upd1 Lr Lb cs1 csb → RR D [.code body] ⟨n2, es1, [], some l⟩ csb (YB Lr Lb Ld P) → YA l Lr Lb Ld body P .normal ⟨n2, es1, [], some l⟩ cs1
theorem sat_loop {h : Heap} {cs cs' : List Ck} {l nt : Nat} {es : List En} {ps : List Nat} {asg body : DC} {st st' : LState} {pend pend' : Option DX} (hs : Sat h cs) (hu : Upd1 (Lp l nt es ps asg body st pend) (Lp l nt es ps asg body st' pend') cs cs') :
    ∃ tmps, h.objs.get l = some (.loop ⟨tmps, ps, asg, body, st, pend⟩) ∧ tmps.length = nt ∧ Ag tmps [] es ∧ Sat (h.put l (.loop ⟨tmps, ps, asg, body, st', pend'⟩)) cs' := by
  obtain ⟨tmps, h1, h2, h3⟩ := hs.get (Me.mem' hu.mem)
  exact ⟨tmps, h1, h2, h3, hs.upd hu (Nat.le_refl _) ⟨tmps, put_get h l _, h2, h3⟩ (fun i hi => by cases hi; exact (hs.ok _ hu.mem).2 _ rfl) (fun i hi => .inl hi) (fun i _ hn => put_keep h l _ (fun e => hn e))⟩
theorem Y.of {l nt : Nat} {es : List En} {ps : List Nat} {asg body : DC} {args : List DV} {cs : List Ck} {P : Bool → List Ck → Prop} (hm : Me (Lp l nt es ps asg body .ready none) cs) (hl : Nat.beq args.length ps.length = true) (hps : ps.all (fun p => Nat.blt p nt) = true)
    (hr : RR D [.code asg] ⟨nt, psE ps args es, [], some l⟩ cs (YA D l (Lp l nt es ps asg body .ready none) (Lp l nt es ps asg body .busy none) (fun x => Lp l nt es ps asg body .done (some x)) body P)) : Y D l args cs P := by
  intro h hs
  obtain ⟨tmps, h1, h2, h3⟩ := hs.get hm
  obtain ⟨q1, q2⟩ := psE_ag (vs := args) h2 hps h3
  obtain ⟨n, x, fr1, ha1, r1, st1, cs1, a1, a2, a3⟩ := hr.sound { tmps := (ps.zip args).foldl (fun ts (q : Nat × DV) => ts.set q.1 q.2) tmps, defers := [], inr := some l } h ⟨q1, q2, rfl, rfl⟩ hs
  cases a3 with
  | @mk n2 es1 _ csb hu hb =>
    obtain ⟨tmps1, b1, b2, b3, b4⟩ := sat_loop a2 hu
    obtain ⟨n3, x2, fr2, hb2, r2, st2, cs2, c1, c2, c3⟩ := hb.sound fr1 _ a1 b4
    have e1 := exec_le (Nat.le_max_left n n3) _ _ _ _ r1
    have e2 := exec_le (Nat.le_max_right n n3) _ _ _ _ r2
    have hlen := Nat.eq_of_beq_eq_true hl
    cases c3 with
    | normal hu2 hp =>
      obtain ⟨cs4, hk4, hp⟩ := hp.out
      obtain ⟨tmps2, d1, d2, d3, d4⟩ := sat_loop c2 hu2
      have hds : fr2.defers = [] := c1.ds
      refine ⟨max n n3, true, _, _, ?_, hk4 _ d4, hp⟩
      unfold yieldD
      rw [h1]; dsimp only
      rw [if_pos ⟨rfl, hlen⟩]
      simp only [e1, b1, if_true, e2, d1, hds]
    | @exit i n2 es2 ir _ cs3 hu2 hp =>
      obtain ⟨cs4, hk4, hp⟩ := hp.out
      obtain ⟨tmps2, d1, d2, d3, d4⟩ := sat_loop c2 hu2
      have hds : fr2.defers = [] := c1.ds
      refine ⟨max n n3, false, _, _, ?_, hk4 _ d4, hp⟩
      unfold yieldD
      rw [h1]; dsimp only
      rw [if_pos ⟨rfl, hlen⟩]
      simp only [e1, b1, if_true, e2, d1, hds]
    | ret hu2 hp =>
      obtain ⟨cs4, hk4, hp⟩ := hp.out
      obtain ⟨tmps2, d1, d2, d3, d4⟩ := sat_loop c2 hu2
      have hds : fr2.defers = [] := c1.ds
      refine ⟨max n n3, false, _, _, ?_, hk4 _ d4, hp⟩
      unfold yieldD
      rw [h1]; dsimp only
      rw [if_pos ⟨rfl, hlen⟩]
      simp only [e1, b1, if_true, e2, d1, hds]
/-- How a range over a function goes on. -/
inductive RG (Lr : Ck) (Ld : DX → Ck) (K : DX → List Ck → Prop) : DV → List Ck → Prop where
  | ready {v : DV} {cs cs2 : List Ck} : Rem Lr cs cs2 → K .normal cs2 → RG Lr Ld K v cs
  | done {v : DV} {x : DX} {cs cs2 : List Ck} : Rem (Ld x) cs cs2 → K x cs2 → RG Lr Ld K v cs
theorem RG.ok {l nt : Nat} {es : List En} {ps : List Nat} {asg body : DC} {K : DX → List Ck → Prop} {v : DV} {cs : List Ck} {h : Heap} (hs : Sat h cs) (hr : RG (Lp l nt es ps asg body .ready none) (fun x => Lp l nt es ps asg body .done (some x)) K v cs) :
    ∃ r cs2 x, h.objs.get l = some (.loop r) ∧ r.st ≠ .busy ∧ (r.pend = none ∧ x = .normal ∨ r.pend = some x) ∧ Sat (h.put l (.loop { r with st := .over })) cs2 ∧ K x cs2 := by
  cases hr with
  | @ready _ cs2 hm hk =>
    obtain ⟨tmps, h1, h2, h3⟩ := hs.get (Me.mem' hm.mem)
    exact ⟨_, cs2, .normal, h1, by simp, .inl ⟨rfl, rfl⟩, hm.keep hs (Nat.le_refl _) fun i _ hn => put_keep h l _ (fun e => hn e), hk⟩
  | @done x _ cs2 hm hk =>
    obtain ⟨tmps, h1, h2, h3⟩ := hs.get (Me.mem' hm.mem)
    exact ⟨_, cs2, x, h1, by simp, .inr rfl, hm.keep hs (Nat.le_refl _) fun i _ hn => put_keep h l _ (fun e => hn e), hk⟩
def xIt : DX → List It → List It
  | .normal, k => k
  | .exit i, k => .code (.exit i) :: k
  | .ret, k => .code .ret :: k
theorem xIt_wp {x : DX} {k : List It} {fr : Fr} {h : Heap} {Q : DX → Fr → Heap → Prop} (hw : WpK D (xIt x k) .normal fr h Q) : WpK D k x fr h Q := by
  cases x with
  | normal => exact hw
  | exit i =>
    obtain ⟨n, x2, fr2, h2, q1, q2⟩ := hw
    cases n with
    | zero => cases q1
    | succ n => simp only [exec, stepD, Option.some.injEq, Prod.mk.injEq] at q1; obtain ⟨rfl, rfl, rfl⟩ := q1; exact q2
  | ret =>
    obtain ⟨n, x2, fr2, h2, q1, q2⟩ := hw
    cases n with
    | zero => cases q1
    | succ n => simp only [exec, stepD, Option.some.injEq, Prod.mk.injEq] at q1; obtain ⟨rfl, rfl, rfl⟩ := q1; exact q2
theorem sat_newloop {h : Heap} {cs : List Ck} {fr : Fr} {st : St} (hs : Sat h cs) (ha : AgS fr st) (ps : List Nat) (asg body : DC) : Sat (h.add (.loop ⟨fr.tmps, ps, asg, body, .ready, none⟩)) (Lp h.next st.nt st.es ps asg body .ready none :: cs) :=
  hs.add (Nat.le_succ _) ⟨fr.tmps, add_get h _, ha.len, ha.es⟩ (fun i hi => by cases hi; exact Nat.lt_succ_self _) (fun i hi => by cases hi; exact Nat.le_refl _) (fun i hi => add_keep h _ hi)
/-- A range over a function, in no other one. -/
theorem RS.rangeN {f : Opd} {ps : List Nat} {asg body : DC} {k : List It} {nt : Nat} {es : List En} {ds : List DDef} {cs : List Ck} {Q : DX → St → List Ck → Prop} {g : Nat} {first caps : List DV} (h1 : lo D es [] f = some (.fn (.func g) first caps))
    (hF : ∀ m l, 2 ≤ m → 2 ≤ l → F D g (first ++ [.fn (.yield l) [] []] ++ caps) (Lp l nt es ps asg body .ready none :: .obj m .mark :: cs) (RG (Lp l nt es ps asg body .ready none) (fun x => Lp l nt es ps asg body .done (some x)) fun x cs2 => RR D (xIt x k) ⟨nt, es, .mark m :: ds, none⟩ cs2 Q)) :
    RS D (.code (.range f ps asg body) :: k) ⟨nt, es, ds, none⟩ cs Q := by
  intro fr h ha hs
  have e1 := lo_ok (D := D) ha.es Tags.nil h1
  have hir : fr.inr = none := ha.ir
  have hs1 := hs.addO .mark
  have hs2 := sat_newloop hs1 ha ps asg body
  obtain ⟨v, h2, cs', r1, r2, r3⟩ := hF h.next (h.add .mark).next hs.two hs1.two _ hs2
  obtain ⟨r, cs2, x, q1, q2, q3, q4, q5⟩ := r3.ok r2
  obtain ⟨n, hn⟩ := r1.mono
  have ha' : AgS { fr with defers := .mark h.next :: fr.defers } ⟨nt, es, .mark h.next :: ds, none⟩ := ⟨ha.len, ha.es, by rw [show fr.defers = ds from ha.ds], ha.ir⟩
  refine ⟨n + 1, x, { fr with defers := .mark h.next :: fr.defers }, h2.put (h.add .mark).next (.loop { r with st := .over }), ?_, xIt_wp (q5.sound _ _ ha' q4)⟩
  show rangeD D (exec D n) f ps asg body fr h = _
  unfold rangeD
  rw [e1]; dsimp only
  unfold startD
  rw [hir]; dsimp only
  rw [hn n (Nat.le_refl _)]; dsimp only
  rw [q1]; dsimp only
  rw [if_neg q2]
  rcases q3 with ⟨q3, rfl⟩ | q3 <;> rw [q3]
/-- The same within another one's body. -/
theorem RS.rangeI {f : Opd} {ps : List Nat} {asg body : DC} {k : List It} {nt l0 : Nat} {es : List En} {ds : List DDef} {cs : List Ck} {Q : DX → St → List Ck → Prop} {g : Nat} {first caps : List DV} (h1 : lo D es [] f = some (.fn (.func g) first caps))
    (hm : ∀ {h : Heap}, Sat h cs → ∃ r, h.objs.get l0 = some (.loop r))
    (hF : ∀ l, 2 ≤ l → F D g (first ++ [.fn (.yield l) [] []] ++ caps) (Lp l nt es ps asg body .ready none :: cs) (RG (Lp l nt es ps asg body .ready none) (fun x => Lp l nt es ps asg body .done (some x)) fun x cs2 => RR D (xIt x k) ⟨nt, es, ds, some l0⟩ cs2 Q)) :
    RS D (.code (.range f ps asg body) :: k) ⟨nt, es, ds, some l0⟩ cs Q := by
  intro fr h ha hs
  have e1 := lo_ok (D := D) ha.es Tags.nil h1
  have hir : fr.inr = some l0 := ha.ir
  obtain ⟨r0, h0⟩ := hm hs
  have hs2 := sat_newloop hs ha ps asg body
  obtain ⟨v, h2, cs', r1, r2, r3⟩ := hF h.next hs.two _ hs2
  obtain ⟨r, cs2, x, q1, q2, q3, q4, q5⟩ := r3.ok r2
  obtain ⟨n, hn⟩ := r1.mono
  refine ⟨n + 1, x, fr, h2.put h.next (.loop { r with st := .over }), ?_, xIt_wp (q5.sound _ _ ha q4)⟩
  show rangeD D (exec D n) f ps asg body fr h = _
  unfold rangeD
  rw [e1]; dsimp only
  unfold startD
  rw [hir]; dsimp only
  rw [h0]; dsimp only
  rw [hn n (Nat.le_refl _)]; dsimp only
  rw [q1]; dsimp only
  rw [if_neg q2]
  rcases q3 with ⟨q3, rfl⟩ | q3 <;> rw [q3]
/-- Of a loop's record that is taken as a whole. -/
structure Loopy (D : DProg) (l nt : Nat) (es : List En) (ps : List Nat) (asg body : DC) (Lr Lb : Ck) (Ld : DX → Ck) : Prop where
  y : ∀ {args : List DV} {cs : List Ck} {P : Bool → List Ck → Prop}, Me Lr cs → Nat.beq args.length ps.length = true → RR D [.code asg] ⟨nt, psE ps args es, [], some l⟩ cs (YA D l Lr Lb Ld body P) → Y D l args cs P
  loop : ∀ {h : Heap} {cs : List Ck}, Me Lb cs → Sat h cs → ∃ r, h.objs.get l = some (.loop r)
theorem loopy {l nt : Nat} {es : List En} {ps : List Nat} {asg body : DC} (hps : ps.all (fun p => Nat.blt p nt) = true) : Loopy D l nt es ps asg body (Lp l nt es ps asg body .ready none) (Lp l nt es ps asg body .busy none) (fun x => Lp l nt es ps asg body .done (some x)) :=
  ⟨fun hm hl hr => Y.of hm hl hps hr, fun hm hs => let ⟨_, h1, _, _⟩ := hs.get hm; ⟨_, h1⟩⟩
theorem RS.rangeO {f : Opd} {ps : List Nat} {asg body : DC} {k : List It} {nt : Nat} {es : List En} {ds : List DDef} {cs : List Ck} {Q : DX → St → List Ck → Prop} {g : Nat} {first caps : List DV} (h1 : lo D es [] f = some (.fn (.func g) first caps)) (hps : ps.all (fun p => Nat.blt p nt) = true)
    (hF : ∀ m l Lr Lb Ld, Loopy D l nt es ps asg body Lr Lb Ld → F D g (first ++ [.fn (.yield l) [] []] ++ caps) (Lr :: .obj m .mark :: cs) (RG Lr Ld fun x cs2 => RR D (xIt x k) ⟨nt, es, .mark m :: ds, none⟩ cs2 Q)) :
    RS D (.code (.range f ps asg body) :: k) ⟨nt, es, ds, none⟩ cs Q :=
  RS.rangeN h1 fun m l _ _ => hF m l _ _ _ (loopy hps)
theorem RS.rangeOI {f : Opd} {ps : List Nat} {asg body : DC} {k : List It} {nt l0 nt0 : Nat} {es es0 : List En} {ps0 : List Nat} {asg0 body0 : DC} {Lr0 Lb0 : Ck} {Ld0 : DX → Ck} {ds : List DDef} {cs : List Ck} {Q : DX → St → List Ck → Prop} {g : Nat} {first caps : List DV} (h1 : lo D es [] f = some (.fn (.func g) first caps)) (hps : ps.all (fun p => Nat.blt p nt) = true)
    (h0 : Loopy D l0 nt0 es0 ps0 asg0 body0 Lr0 Lb0 Ld0) (hm : Me Lb0 cs)
    (hF : ∀ l Lr Lb Ld, Loopy D l nt es ps asg body Lr Lb Ld → F D g (first ++ [.fn (.yield l) [] []] ++ caps) (Lr :: cs) (RG Lr Ld fun x cs2 => RR D (xIt x k) ⟨nt, es, ds, some l0⟩ cs2 Q)) :
    RS D (.code (.range f ps asg body) :: k) ⟨nt, es, ds, some l0⟩ cs Q :=
  RS.rangeI h1 (fun hs => h0.loop hm hs) fun l _ => hF l _ _ _ (loopy hps)
end
end Go.Dm
