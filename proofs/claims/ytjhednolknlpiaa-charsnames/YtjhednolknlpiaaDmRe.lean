/- The D-machine (35): symbolic runs are runs (3); functions by their bodies. -/
import Derived.Test.YtjhednolknlpiaaDmRd
namespace Go.Dm
set_option linter.unusedSimpArgs false
set_option linter.unusedVariables false
set_option linter.unnecessarySimpa false

section
variable {D : DProg}
theorem EL.ok {h : Heap} {cs : List Ck} (hs : Sat h cs) {sh : Shape} {yv : DV} {ys : List DV} (he : EL cs sh yv ys) : elems h sh yv = some ys := by
  cases he with
  | str h1 => simp only [elems, h1, if_true]
  | lst hz => simp only [elems]; rw [if_pos hz.ok]
theorem Sq.ok {es : List En} {A : List (Nat × Bool)} {fr : Fr} (ha : Ag fr.tmps [] es) (hA : Tags fr A) {sz : Nat} : ∀ {i : Nat} {ps : List (Nat × Opd)} {vs : List DV}, Sq D es A sz i ps vs →
    ps.map (fun p => (p.1, ev D fr p.2)) = (vs.zipIdx i).map (fun q => (q.2, q.1)) ∧ ps.length = vs.length ∧ (∀ p ∈ ps, i ≤ p.1 ∧ p.1 < i + ps.length ∧ (ev D fr p.2).cells.length = sz ∧ (ev D fr p.2).okv = true)
  | _, _, _, .nil => ⟨rfl, rfl, fun _ h => by cases h⟩
  | _, _, _, .cons h1 h2 h3 => by
    obtain ⟨e1, e2, e3⟩ := Sq.ok ha hA h3
    have ev1 := lo_ok ha hA h1
    obtain ⟨c1, c2, c3⟩ := h2.ok
    refine ⟨by simp only [List.map_cons, ev1, e1, List.zipIdx_cons], by simp [e2], fun q hq => ?_⟩
    rcases List.mem_cons.1 hq with rfl | hq
    · refine ⟨Nat.le_refl _, by simp only [List.length_cons]; omega, ?_, ?_⟩
      · show (ev D fr _).cells.length = sz
        rw [ev1, c1, c2]
      · show (ev D fr _).okv = true
        rw [ev1, c3]
    · obtain ⟨a, b, c⟩ := e3 q hq
      simp only [List.length_cons]
      exact ⟨by omega, by omega, c⟩
theorem fill_seq : ∀ (vs pre : List DV) (zero : DV), fillL (pre ++ List.replicate vs.length zero) ((vs.zipIdx pre.length).map fun q => (q.2, q.1)) = pre ++ vs
  | [], pre, zero => by simp [fillL]
  | v :: vs, pre, zero => by
    simp only [List.zipIdx_cons, List.map_cons, fillL, List.length_cons, List.replicate_succ]
    have := fill_seq vs (pre ++ [v]) zero
    simp only [List.length_append, List.length_cons, List.length_nil, Nat.zero_add, List.append_assoc, List.cons_append, List.nil_append] at this
    rw [List.set_append_right _ _ (Nat.le_refl _), Nat.sub_self, List.set_cons_zero]
    exact this
theorem RR.sound {k : List It} {st : St} {cs : List Ck} {Q : DX → St → List Ck → Prop} (hr : RR D k st cs Q) : RS D k st cs Q := by
  induction hr with
  | seq _ ih =>
    intro fr h ha hs
    have := ih fr h ha hs
    refine Wp.seq ?_
    refine Wp.mono this fun x fr' h' hq => ?_
    cases x with
    | normal => exact hq
    | exit i => exact hq
    | ret => exact hq
  | region _ ih => intro fr h ha hs; exact Wp.region (ih fr h ha hs)
  | opsnil _ ih => intro fr h ha hs; exact WpOps.nil (ih fr h ha hs)
  | @cond c x y k nt es ds ir cs Q b h1 _ _ ih1 ih2 =>
    intro fr h ha hs
    refine Wp.cond (lo_ok ha.es Tags.nil h1) ?_
    cases b with
    | true => exact ih1 rfl fr h ha hs
    | false => exact ih2 rfl fr h ha hs
  | skip _ ih => intro fr h ha hs; exact Wp.skip (ih fr h ha hs)
  | @block id b k st cs Q _ ih =>
    intro fr h ha hs
    refine Wp.block (Wp.mono (ih fr h ha hs) fun x fr' h' hq => ?_)
    cases x with
    | normal => exact hq
    | exit i =>
      simp only [WpK] at hq
      simp only [InBlock]
      split
      · rename_i e; rw [if_pos e] at hq; exact hq
      · rename_i e; rw [if_neg e] at hq; exact hq
    | ret => exact hq
  | blk _ ih => intro fr h ha hs; exact ih fr h ha hs
  | exit hu _ ih => intro fr h ha hs; exact Wp.exit (unw_ok hu (ih fr h ha hs))
  | ret hq => intro fr h ha hs; exact Wp.ret (WpK_ret ⟨_, _, ha, hs, hq⟩)
  | nil hq => intro fr h ha hs; exact ⟨_, _, ha, hs, hq⟩
  | chk hc _ ih => intro fr h ha hs; exact ⟨hc.ok ha.es ha.len hs, ih fr h ha hs⟩
  | @call d x as c os k nt es ds ir cs Q xv vs P h1 h2 hd hF _ ih =>
    intro fr h ha hs
    have e1 := lo_ok (D := D) ha.es Tags.nil h1
    have e2 := h2.ok ha.es Tags.nil
    have he : evalOp D fr h (.call x as false) = callV xv vs false := by simp only [evalOp, e1, e2]
    unfold FC at hF
    split at hF
    · rename_i g first caps
      obtain ⟨v, h', cs', r1, r2, r3⟩ := hF h hs
      obtain ⟨hc, hk⟩ := ih v cs' r3 (fr.put d v) h' (ha.put hd) r2
      exact WpOps.call rfl (by rw [he]; rfl) r1 hc hk
    · rename_i l
      obtain ⟨n, b, h', cs', r1, r2, r3⟩ := hF h hs
      obtain ⟨hc, n2, fr2, h2', q1, q2⟩ := ih (.bool b) cs' r3 (fr.put d (.bool b)) h' (ha.put hd) r2
      refine ⟨max n n2, fr2, h2', ?_, q2⟩
      have hrun : runOp D (exec D (max n n2)) ⟨d, .call x as false, none, c⟩ fr h = some (fr.put d (.bool b), h') := by
        unfold runOp
        simp only [he, callV, yieldD_le (exec_le (Nat.le_max_left n n2)) r1, Option.map_some]
      simp only [runOps, wantedD, wantedG, if_true, hrun, hc, runOps_le (exec_le (Nat.le_max_right n n2)) q1]
    · exact hF.elim
  | @callZ d x as c os k nt es ds ir cs Q xv vs P h1 h2 hd hF _ ih =>
    intro fr h ha hs
    have e1 := lo_ok (D := D) ha.es Tags.nil h1
    have e2 := h2.ok ha.es Tags.nil
    have he : evalOp D fr h (.call x as true) = callV xv vs true := by simp only [evalOp, e1, e2]
    unfold FZ at hF
    split at hF
    · rename_i g first caps
      obtain ⟨v, h', v2, h2', cs', r1, rz, r2, r3⟩ := hF h hs
      obtain ⟨hc, hk⟩ := ih v2 cs' r3 (fr.put d v2) h2' (ha.put hd) r2
      exact WpOps.callF rfl (by rw [he]; rfl) r1 rz hc hk
    · exact hF.elim
  | @store d n x y c os k nt es ds ir cs cs' Q id off cells vc cells' s v h1 h2 hc hu ho hd _ ih =>
    intro fr h ha hs
    have e1 := lo_ok (D := D) ha.es Tags.nil h1
    have e2 := lo_ok (D := D) ha.es Tags.nil h2
    obtain ⟨c1, c2, c3⟩ := hc.ok
    obtain ⟨o1, o2⟩ := ho.ok
    have hg : h.objs.get id = some (.cells cells s) := hs.obj (Me.mem' hu.mem)
    refine ops_ev ha (r := .eff .undef (h.put id (.cells cells' s))) (h1 := h.put id (.cells cells' s)) (v := .undef) ?_ rfl hd (hs.put hu) ih
    simp only [evalOp, e1, e2, storeD, hg, c1]
    rw [if_pos ⟨c2, by rw [← c2]; exact o2, c3⟩, o1]; rfl
  | @append d sh bytes x y c os k nt es ds ir cs cs' Q t z xs ys zs yv h1 h2 hz he hj hu hb hl hd _ ih =>
    intro fr h ha hs
    have e1 := lo_ok (D := D) ha.es Tags.nil h1
    have e2 := lo_ok (D := D) ha.es Tags.nil h2
    obtain ⟨r, v, h1', t', q1, q2, q3, q4⟩ := hs.append hz (he.ok hs) hj hu (Nat.le_of_ble_eq_true hb) hl.out
    subst q3
    exact ops_ev ha (by simp only [evalOp, e1, e2]; exact q1) q2 hd q4 (ih t')
  | @mks d sh zero len ps c os k nt es ds ir cs Q vs hq hl hb hd _ ih =>
    intro fr h ha hs
    obtain ⟨q1, q2, q3⟩ := hq.ok (D := D) ha.es Tags.nil
    have hlen := Nat.eq_of_beq_eq_true hl
    have hf := fill_seq vs [] zero
    simp only [List.nil_append, List.length_nil] at hf
    refine ops_ev ha (r := .newT sh.size fun t => .lst t sh.size vs) ?_ (show stepEv h (.newT sh.size fun t => .lst t sh.size vs) = some (.lst h.next (zOf h.next sh.size) vs, _) by rw [zOf_two hs.two]; rfl) hd (hs.addT sh.size vs) (ih h.next hs.two)
    simp only [evalOp]
    rw [if_pos ⟨Nat.le_of_ble_eq_true hb, fun p hp => by obtain ⟨_, b2, b3, b4⟩ := q3 p hp; exact ⟨by omega, b3, b4⟩⟩, q1, ← hlen, q2, hf]
    simp
  | @box d x n c os k nt es ds ir cs Q v vc h1 hc hd _ ih =>
    intro fr h ha hs
    have e1 := lo_ok (D := D) ha.es Tags.nil h1
    obtain ⟨c1, c2, c3⟩ := hc.ok
    refine ops_ev ha (r := .newO (.cells vc none) fun i => .ptr i 0) ?_ rfl hd (hs.addO _) (ih h.next hs.two)
    simp only [evalOp, e1, c1]
    rw [if_pos ⟨c2, c3⟩]
  | @alloc d zero sh c os k nt es ds ir cs Q hd _ ih =>
    intro fr h ha hs
    exact ops_ev ha (r := .newO (.cells zero sh) fun i => .ptr i 0) rfl rfl hd (hs.addO _) (ih h.next hs.two)
  | @strBytes d x c os k nt es ds ir cs Q s h1 hl hd _ ih =>
    intro fr h ha hs
    have e1 := lo_ok (D := D) ha.es Tags.nil h1
    refine ops_ev ha (r := .newT 1 fun t => .lst t 1 (bytesV s)) ?_ (show stepEv h (.newT 1 fun t => .lst t 1 (bytesV s)) = some (.lst h.next (zOf h.next 1) (bytesV s), _) by rw [zOf_two hs.two]; rfl) hd (hs.addT 1 (bytesV s)) (ih h.next hs.two)
    simp only [evalOp, e1, convD]
    rw [if_pos hl.out]; rfl
  | @strBytesM d x c os k nt es ds ir cs Q s h1 hl hd _ ih =>
    intro fr h ha hs
    have e1 := lo_ok (D := D) ha.es Tags.nil h1
    refine ops_ev ha (r := .newO (.cells (bytesV s) none) fun i => .arr i 1 0 s.length) ?_ rfl hd (hs.addO _) (ih h.next hs.two)
    simp only [evalOp, e1, convD]
    rw [if_pos hl.out]; rfl
  | @range d x c os k nt es ds ir cs Q s h1 hd _ ih =>
    intro fr h ha hs
    have e1 := lo_ok (D := D) ha.es Tags.nil h1
    exact ops_ev ha (r := .newO (.siter s 0) fun i => .ptr i 0) (by simp only [evalOp, e1]) rfl hd (hs.addO _) (ih h.next hs.two)
  | @next d x c os k nt es ds ir cs cs' Q id pos s h1 hu hd _ _ ih1 ih2 =>
    intro fr h ha hs
    have e1 := lo_ok (D := D) ha.es Tags.nil h1
    have hg : h.objs.get id = some (.siter s pos) := hs.obj (Me.mem' hu.mem)
    by_cases hp : pos < s.length
    · refine ops_ev ha (r := .eff _ _) ?_ rfl hd (hs.put hu) (ih1 hp)
      simp only [evalOp, e1, hg]
      rw [if_pos hp]
    · refine ops_ev ha (r := .eff (.tup [.bool false]) h) ?_ rfl hd hs (ih2 (by omega))
      simp only [evalOp, e1, hg]
      rw [if_neg hp]
  | @defr d x as c os k nt es ds cs Q g first caps vs h1 h2 hd _ ih =>
    intro fr h ha hs
    have e1 := lo_ok (D := D) ha.es Tags.nil h1
    have e2 := h2.ok ha.es Tags.nil
    have hir : fr.inr = none := ha.ir
    have ha' : AgS { fr with defers := .call g (first ++ vs ++ caps) :: fr.defers } ⟨nt, es, .call g (first ++ vs ++ caps) :: ds, none⟩ := ⟨ha.len, ha.es, by rw [show fr.defers = ds from ha.ds], ha.ir⟩
    obtain ⟨hc, n, fr2, h2', q1, q2⟩ := ih (Fr.put { fr with defers := .call g (first ++ vs ++ caps) :: fr.defers } d .undef) h (ha'.put hd) hs
    refine ⟨n, fr2, h2', ?_, q2⟩
    have hrun : runOp D (exec D n) ⟨d, .defr x as, none, c⟩ fr h = some (Fr.put { fr with defers := .call g (first ++ vs ++ caps) :: fr.defers } d .undef, h) := by
      unfold runOp
      have he : evalOp D fr h (.defr x as) = some (.defr g (first ++ vs ++ caps)) := by simp only [evalOp, hir, e1, e2]; rfl
      simp only [he]
    simp only [runOps, wantedD, wantedG, if_true, hrun, hc, q1]
  | @gcall d x as fz t b c os k nt es ds ir cs Q A p hg hd _ _ ih1 ih2 =>
    intro fr h ha hs
    have hgo := gate_ok ha.es hg
    cases hw : wantedG (some (t, b)) fr with
    | true =>
      obtain ⟨hp, hA⟩ := hgo.1 hw
      obtain ⟨n, fr2, h2, q1, q2⟩ := ih1 hp fr h ⟨ha.len, untag_ok hA ha.es, ha.ds, ha.ir⟩ hs
      refine ⟨n, fr2, h2, ?_, q2⟩
      simp only [runOps, wantedD, hw, if_true]
      simp only [runOps, wantedD, wantedG, if_true] at q1
      exact q1
    | false =>
      have hp : p = false := by
        cases p with
        | false => rfl
        | true => have := hgo.2 rfl; rw [hw] at this; cases this
      exact WpOps.off hw (ih2 hp (fr.put (some d) .undef) h (ha.put (d := some d) (v := .undef) hd) hs)
  | @gmks d mu sh zero len ps t b c os k nt es ds ir cs Q A p hg hd _ _ ih1 ih2 =>
    intro fr h ha hs
    have hgo := gate_ok ha.es hg
    cases hw : wantedG (some (t, b)) fr with
    | true =>
      obtain ⟨hp, hA⟩ := hgo.1 hw
      obtain ⟨n, fr2, h2, q1, q2⟩ := ih1 hp fr h ⟨ha.len, untag_ok hA ha.es, ha.ds, ha.ir⟩ hs
      refine ⟨n, fr2, h2, ?_, q2⟩
      simp only [runOps, wantedD, hw, if_true]
      simp only [runOps, wantedD, wantedG, if_true] at q1
      exact q1
    | false =>
      have hp : p = false := by
        cases p with
        | false => rfl
        | true => have := hgo.2 rfl; rw [hw] at this; cases this
      exact WpOps.off hw (ih2 hp (fr.put (some d) .undef) h (ha.put (d := some d) (v := .undef) hd) hs)
  | @val d op g os k nt es ds ir cs Q A p v hg hv hd _ ih =>
    intro fr h ha hs
    have hgo := gate_ok ha.es hg
    have hdl : d < fr.tmps.length := by rw [ha.len]; exact Nat.le_of_ble_eq_true hd
    cases hw : wantedG g fr with
    | true =>
      obtain ⟨hp, hA⟩ := hgo.1 hw
      have he := hv.ok ha.es hs hA hp
      refine WpOps.op (v := v) (h1 := h) hw he rfl rfl (ih (fr.put (some d) v) h ⟨?_, ?_, ha.ds, ha.ir⟩ hs)
      · show (fr.tmps.set d v).length = _; rw [List.length_set]; exact ha.len
      · cases g with
        | none => exact ha.es.put hdl rfl
        | some tb => exact ha.es.putG hdl (fun _ => rfl) (fun hne => absurd (wanted_bool.1 hw) hne)
    | false =>
      refine WpOps.off hw (ih (fr.put (some d) .undef) h ⟨?_, ?_, ha.ds, ha.ir⟩ hs)
      · show (fr.tmps.set d .undef).length = _; rw [List.length_set]; exact ha.len
      · cases g with
        | none => cases hw
        | some tb => exact ha.es.putG hdl (fun e => by rw [wanted_bool.2 e] at hw; cases hw) (fun _ => rfl)
  | sem h => exact h
theorem RS.loop {b : DC} {k : List It} {st : St} {cs : List Ck} {Q : DX → St → List Ck → Prop} (hr : RR D (.code b :: .lp b :: k) st cs Q) : RS D (.code (.loop b) :: k) st cs Q := by
  intro fr h ha hs
  refine Wp.loop1 (Wp.mono (hr.sound fr h ha hs) fun x fr' h' hq => ?_)
  cases x with
  | normal => exact hq
  | exit i => exact hq
  | ret => exact hq
theorem RS.lp {b : DC} {k : List It} {st : St} {cs : List Ck} {Q : DX → St → List Ck → Prop} (hr : RS D (.code (.loop b) :: k) st cs Q) : RS D (.lp b :: k) st cs Q := fun fr h ha hs => hr fr h ha hs
theorem RS.weak {k : List It} {nt : Nat} {es : List En} {ds : List DDef} {ir : Option Nat} {cs cs' : List Ck} {Q : DX → St → List Ck → Prop} (l : List (Nat × DV)) (hr : RS D k ⟨nt, ents l, ds, ir⟩ cs' Q) (hsub : Sub es l) (hk : KK cs cs') : RS D k ⟨nt, es, ds, ir⟩ cs Q :=
  fun fr h ha hs => hr fr h ⟨ha.len, hsub.ag ha.es [], ha.ds, ha.ir⟩ (hs.sub hk.sublist)
theorem RS.nilOwn {k : List It} {st : St} {cs : List Ck} {Q : DX → St → List Ck → Prop} (sz : Nat) (hr : RS D k st (.own 0 sz [] :: cs) Q) : RS D k st cs Q := fun fr h ha hs => hr fr h ha (hs.nilOwn sz)
theorem RS.perm {k : List It} {st : St} {cs cs' : List Ck} {Q : DX → St → List Ck → Prop} (hp : cs.Perm cs') (hr : RS D k st cs' Q) : RS D k st cs Q := fun fr h ha hs => hr fr h ha (hs.perm hp)
/-- A loop: what it goes over (E: the slots, C: the pieces), what grows less (μ). -/
theorem RS.loopW {α : Type} (E : α → List (Nat × DV)) (C : α → List Ck) (Inv : α → Prop) (μ : α → Nat) (a0 : α) {b : DC} {k : List It} {nt : Nat} {es : List En} {ds : List DDef} {ir : Option Nat} {cs : List Ck} {Q : DX → St → List Ck → Prop}
    (h0 : Inv a0) (hsub : Sub es (E a0)) (hk : KK cs (C a0))
    (step : ∀ a, Inv a → (∀ (es' : List En) (cs' : List Ck) (a' : α), Inv a' → μ a' < μ a → Sub es' (E a') → KK cs' (C a') → RS D (.lp b :: k) ⟨nt, es', ds, ir⟩ cs' Q) → RR D (.code b :: .lp b :: k) ⟨nt, ents (E a), ds, ir⟩ (C a) Q) : RS D (.code (.loop b) :: k) ⟨nt, es, ds, ir⟩ cs Q := by
  refine RS.weak (E a0) ?_ hsub hk
  suffices h : ∀ n a, μ a = n → Inv a → RS D (.code (.loop b) :: k) ⟨nt, ents (E a), ds, ir⟩ (C a) Q from h _ a0 rfl h0
  intro n
  induction n using Nat.strongRecOn with
  | ind n ih =>
    intro a hn hi
    refine RS.loop (step a hi fun es' cs' a' hi' hlt hsub' hk' => RS.lp (RS.weak (E a') (ih (μ a') (by omega) a' rfl hi') hsub' hk'))
theorem RR.loop {b : DC} {k : List It} {st : St} {cs : List Ck} {Q : DX → St → List Ck → Prop} (hr : RR D (.code b :: .lp b :: k) st cs Q) : RR D (.code (.loop b) :: k) st cs Q := .sem (.loop hr)
/-- Less is known; another order of the pieces. -/
theorem RR.weak {k : List It} {nt : Nat} {es : List En} {ds : List DDef} {ir : Option Nat} {cs : List Ck} {Q : DX → St → List Ck → Prop} (l : List (Nat × DV)) (hr : RR D k ⟨nt, ents l, ds, ir⟩ cs Q) (hsub : Sub es l) : RR D k ⟨nt, es, ds, ir⟩ cs Q :=
  .sem fun fr h ha hs => hr.sound fr h ⟨ha.len, hsub.ag ha.es [], ha.ds, ha.ir⟩ hs
theorem RR.perm {k : List It} {st : St} {cs cs' : List Ck} {Q : DX → St → List Ck → Prop} (hp : cs.Perm cs') (hr : RR D k st cs' Q) : RR D k st cs Q := .sem fun fr h ha hs => hr.sound fr h ha (hs.perm hp)
theorem RR.drop {k : List It} {st : St} {cs cs' : List Ck} {Q : DX → St → List Ck → Prop} (hp : cs'.Sublist cs) (hr : RR D k st cs' Q) : RR D k st cs Q := .sem fun fr h ha hs => hr.sound fr h ha (hs.sub hp)
theorem RR.pure {k : List It} {st : St} {cs : List Ck} {Q : DX → St → List Ck → Prop} {X : Prop} (hx : ∀ h, Sat h cs → X) (hr : X → RR D k st cs Q) : RR D k st cs Q := .sem fun fr h ha hs => (hr (hx h hs)).sound fr h ha hs

/-! functions -/
variable (D) in
inductive RE (es : List En) (cs : List Ck) : DRes → DV → Prop where
  | tmp {t : Nat} {v : DV} : lk [] [] es t = some v → RE es cs (.tmp t) v
  | cell {t : Nat} {sh : Shape} {a v : DV} : lk [] [] es t = some a → LD cs sh a v → RE es cs (.cell t sh) v
inductive Done : DX → Prop where
  | ret : Done .ret
  | normal : Done .normal
variable (D) in
/-- What a call does that was put off. -/
def FD (f : Nat) (args : List DV) (cs : List Ck) (P : List Ck → Prop) : Prop := ∀ h, Sat h cs → ∃ n h' cs', callDef D (exec D n) f args h = some h' ∧ Sat h' cs' ∧ P cs'
variable (D) in
inductive Fin (P : DV → List Ck → Prop) : List DRes → DX → St → List Ck → Prop where
  | one {x : DX} {nt : Nat} {es : List En} {ir : Option Nat} {cs : List Ck} {r : DRes} {v : DV} : Done x → RE es cs r v → Pst (P v) cs → Fin P [r] x ⟨nt, es, [], ir⟩ cs
  | zero {x : DX} {nt : Nat} {es : List En} {ir : Option Nat} {cs : List Ck} : Done x → Pst (P (.tup [])) cs → Fin P [] x ⟨nt, es, [], ir⟩ cs
  | two {x : DX} {nt : Nat} {es : List En} {ir : Option Nat} {cs : List Ck} {r s : DRes} {v w : DV} : Done x → RE es cs r v → RE es cs s w → Pst (P (.tup [v, w])) cs → Fin P [r, s] x ⟨nt, es, [], ir⟩ cs
  | three {x : DX} {nt : Nat} {es : List En} {ir : Option Nat} {cs : List Ck} {r s t : DRes} {v w u : DV} : Done x → RE es cs r v → RE es cs s w → RE es cs t u → Pst (P (.tup [v, w, u])) cs → Fin P [r, s, t] x ⟨nt, es, [], ir⟩ cs
  | four {x : DX} {nt : Nat} {es : List En} {ir : Option Nat} {cs : List Ck} {r s t q : DRes} {v w u y : DV} : Done x → RE es cs r v → RE es cs s w → RE es cs t u → RE es cs q y → Pst (P (.tup [v, w, u, y])) cs → Fin P [r, s, t, q] x ⟨nt, es, [], ir⟩ cs
  | dfr {x : DX} {nt : Nat} {es : List En} {ds : List DDef} {ir : Option Nat} {cs : List Ck} {res : List DRes} {g : Nat} {as : List DV} {P1 : List Ck → Prop} : Done x → FD D g as cs P1 → (∀ cs', P1 cs' → Fin P res x ⟨nt, es, ds, ir⟩ cs') → Fin P res x ⟨nt, es, .call g as :: ds, ir⟩ cs
  | mark {x : DX} {nt : Nat} {es : List En} {ds : List DDef} {ir : Option Nat} {cs cs' : List Ck} {res : List DRes} {m : Nat} : Rem (.obj m .mark) cs cs' → Fin P res x ⟨nt, es, ds, ir⟩ cs' → Fin P res x ⟨nt, es, .mark m :: ds, ir⟩ cs
theorem RE.ok {es : List En} {cs : List Ck} {fr : Fr} {h : Heap} (ha : Ag fr.tmps [] es) (hs : Sat h cs) {r : DRes} {v : DV} (hr : RE es cs r v) {rs : List DRes} {vs : List DV} (h2 : resD fr h rs = some vs) : resD fr h (r :: rs) = some (v :: vs) := by
  cases hr with
  | tmp h1 => simp only [resD, h2, Option.map_some, lk_ok Tags.nil ha rfl h1]
  | cell h1 hl => simp only [resD, lk_ok Tags.nil ha rfl h1, hl.ok hs, h2]
theorem Fin.ok {P : DV → List Ck → Prop} {res : List DRes} {x : DX} {st : St} {cs : List Ck} (hf : Fin D P res x st cs) : ∀ {fr : Fr} {h : Heap}, AgS fr st → Sat h cs →
    Done x ∧ ∃ n h' cs' vs, leaveD st.ds h (callDef D (exec D n)) = some h' ∧ resD fr h' res = some vs ∧ Sat h' cs' ∧ P (tupD vs) cs' := by
  induction hf with
  | one hd h1 hp => intro fr h ha hs; obtain ⟨cs', hk, hp⟩ := hp.out; exact ⟨hd, 0, _, _, _, rfl, h1.ok ha.es hs rfl, hk _ hs, hp⟩
  | zero hd hp => intro fr h ha hs; obtain ⟨cs', hk, hp⟩ := hp.out; exact ⟨hd, 0, _, _, _, rfl, rfl, hk _ hs, hp⟩
  | two hd h1 h2 hp => intro fr h ha hs; obtain ⟨cs', hk, hp⟩ := hp.out; exact ⟨hd, 0, _, _, _, rfl, h1.ok ha.es hs (h2.ok ha.es hs rfl), hk _ hs, hp⟩
  | three hd h1 h2 h3 hp => intro fr h ha hs; obtain ⟨cs', hk, hp⟩ := hp.out; exact ⟨hd, 0, _, _, _, rfl, h1.ok ha.es hs (h2.ok ha.es hs (h3.ok ha.es hs rfl)), hk _ hs, hp⟩
  | four hd h1 h2 h3 h4 hp => intro fr h ha hs; obtain ⟨cs', hk, hp⟩ := hp.out; exact ⟨hd, 0, _, _, _, rfl, h1.ok ha.es hs (h2.ok ha.es hs (h3.ok ha.es hs (h4.ok ha.es hs rfl))), hk _ hs, hp⟩
  | @dfr x nt es ds ir cs res g as P1 hd hF _ ih =>
    intro fr h ha hs
    obtain ⟨n, h1, cs1, q1, q2, q3⟩ := hF h hs
    have ha' : AgS { fr with defers := ds } ⟨nt, es, ds, ir⟩ := ⟨ha.len, ha.es, rfl, ha.ir⟩
    obtain ⟨_, n2, h2, cs2, vs, r1, r2, r3, r4⟩ := ih cs1 q3 ha' q2
    refine ⟨hd, max n n2, h2, cs2, vs, ?_, ?_, r3, r4⟩
    · simp only [leaveD, callDef_le (exec_le (Nat.le_max_left n n2)) q1, Option.bind_some]
      exact leaveD_le (fun f a h r => callDef_le (exec_le (Nat.le_max_right n n2))) r1
    · have : ∀ (rs : List DRes), resD { fr with defers := ds } h2 rs = resD fr h2 rs := by
        intro rs
        induction rs with
        | nil => rfl
        | cons r rs ih2 => cases r <;> simp only [resD, ih2]
      exact (this _).symm.trans r2
  | @mark x nt es ds ir cs cs' res m hr _ ih =>
    intro fr h ha hs
    have hg : h.objs.get m = some .mark := hs.obj (Me.mem' hr.mem)
    have hs' : Sat (h.drop m) cs' := hr.keep hs (Nat.le_refl _) fun i _ hne => ⟨by
      simp only [Heap.drop, Tr.get_set]; rw [if_neg (show ¬ i = m from hne)], rfl⟩
    have ha' : AgS { fr with defers := ds } ⟨nt, es, ds, ir⟩ := ⟨ha.len, ha.es, rfl, ha.ir⟩
    obtain ⟨hd, n2, h2, cs2, vs, r1, r2, r3, r4⟩ := ih ha' hs'
    refine ⟨hd, n2, h2, cs2, vs, ?_, ?_, r3, r4⟩
    · simp only [leaveD, hg]; exact r1
    · have : ∀ (rs : List DRes), resD { fr with defers := ds } h2 rs = resD fr h2 rs := by
        intro rs
        induction rs with
        | nil => rfl
        | cons r rs ih2 => cases r <;> simp only [resD, ih2]
      exact (this _).symm.trans r2
def pars : Nat → List DV → List En
  | _, [] => []
  | i, v :: r => ⟨i, none, v⟩ :: pars (i + 1) r
theorem pars_ag : ∀ {args pre rest : List DV} {seen : List Nat}, Ag (pre ++ args ++ rest) seen (pars pre.length args)
  | [], _, _, _ => trivial
  | v :: r, pre, rest, seen => by
    refine ⟨fun _ => ?_, ?_⟩
    · show (pre ++ v :: r ++ rest).getD pre.length .undef = v
      rw [List.getD_eq_getElem?_getD, List.append_assoc, List.getElem?_append_right (Nat.le_refl _), Nat.sub_self]; rfl
    · have := pars_ag (args := r) (pre := pre ++ [v]) (rest := rest) (seen := pre.length :: seen)
      simpa [List.append_assoc] using this
theorem F.of {f : Nat} {args : List DV} {cs : List Ck} {P : DV → List Ck → Prop} {nt : Nat} {body : DC} {res : List DRes} (hp : D.prim f = none) (hd : D.fn f = some ⟨nt, body, res⟩) (hl : Nat.ble args.length nt = true) (hr : RR D [.code body] ⟨nt, pars 0 args, [], none⟩ cs (Fin D P res)) : F D f args cs P := by
  intro h hs
  have hl' := Nat.le_of_ble_eq_true hl
  obtain ⟨n, x, fr', h1, q1, q2⟩ := hr.sound { tmps := args ++ List.replicate (nt - args.length) .undef, defers := [], inr := none } h
    ⟨by simp; omega, by have := pars_ag (args := args) (pre := []) (rest := List.replicate (nt - args.length) .undef) (seen := []); simpa using this, rfl, rfl⟩ hs
  obtain ⟨st', cs1, a1, a2, a3⟩ := q2
  obtain ⟨hdn, n2, h2, cs2, vs, r1, r2, r3, r4⟩ := a3.ok a1 a2
  refine ⟨tupD vs, h2, cs2, ⟨max n n2, ?_⟩, r3, r4⟩
  have hb : bodyD D (exec D (max n n2)) f args h = some (⟨nt, body, res⟩, fr', h1) := by
    unfold bodyD
    rw [hd]
    simp only [exec_le (Nat.le_max_left n n2) _ _ _ _ q1]
    cases hdn <;> rfl
  unfold run callD
  rw [hp]
  have hds : fr'.defers = st'.ds := a1.ds
  simp only [hb, hds, leaveD_le (fun f a h r => callDef_le (exec_le (Nat.le_max_right n n2))) r1, r2, Option.map_some]
theorem FD.of {f : Nat} {args : List DV} {cs : List Ck} {P : List Ck → Prop} {nt : Nat} {body : DC} {res : List DRes} (hd : D.fn f = some ⟨nt, body, res⟩) (hl : Nat.ble args.length nt = true) (hr : RR D [.code body] ⟨nt, pars 0 args, [], none⟩ cs (fun x st cs' => st.ds = [] ∧ Fin D (fun _ => P) res x st cs')) : FD D f args cs P := by
  intro h hs
  have hl' := Nat.le_of_ble_eq_true hl
  obtain ⟨n, x, fr', h1, q1, q2⟩ := hr.sound { tmps := args ++ List.replicate (nt - args.length) .undef, defers := [], inr := none } h
    ⟨by simp; omega, by have := pars_ag (args := args) (pre := []) (rest := List.replicate (nt - args.length) .undef) (seen := []); simpa using this, rfl, rfl⟩ hs
  obtain ⟨st', cs1, a1, a2, a3⟩ := q2
  obtain ⟨hds0, a3⟩ := a3
  obtain ⟨hdn, n2, h2, cs2, vs, r1, r2, r3, r4⟩ := a3.ok a1 a2
  rw [hds0] at r1
  simp only [leaveD, Option.some.injEq] at r1
  subst r1
  refine ⟨n, h1, cs2, ?_, r3, r4⟩
  have hb : bodyD D (exec D n) f args h = some (⟨nt, body, res⟩, fr', h1) := by
    unfold bodyD
    rw [hd]
    simp only [q1]
    cases hdn <;> rfl
  have hds : fr'.defers = [] := by rw [a1.ds, hds0]
  unfold callDef
  simp only [hb, hds, r2]
theorem Hold.mk {p : Prop} (h : p) : Hold p := h
theorem Hold.out {p : Prop} (h : Hold p) : p := h
/-- What comes of a round. -/
inductive YPost (P : Bool → List Ck → Prop) : DV → List Ck → Prop where
  | mk {b : Bool} {cs : List Ck} : P b cs → YPost P (.bool b) cs
theorem FC.yield {l : Nat} {args : List DV} {cs : List Ck} {P : Bool → List Ck → Prop} (h : Y D l args cs P) : FC D (.fn (.yield l) [] []) args cs (YPost P) := fun h0 hs =>
  let ⟨n, b, h', cs', r1, r2, r3⟩ := h h0 hs; ⟨n, b, h', cs', r1, r2, .mk r3⟩
theorem F.perm {f : Nat} {args : List DV} {cs cs' : List Ck} {P : DV → List Ck → Prop} (hp : cs.Perm cs') (hf : F D f args cs' P) : F D f args cs P := fun h hs => hf h (hs.perm hp)
/-- What comes behind in another order. -/
theorem F.post {f : Nat} {args : List DV} {cs : List Ck} {P P' : DV → List Ck → Prop} (hf : F D f args cs P) (hp : ∀ v cs', P v cs' → ∃ cs2, cs'.Perm cs2 ∧ P' v cs2) : F D f args cs P' := fun h hs =>
  let ⟨v, h', cs', r1, r2, r3⟩ := hf h hs; let ⟨cs2, q1, q2⟩ := hp _ _ r3; ⟨v, h', cs2, r1, r2.perm q1, q2⟩
theorem Y.perm {l : Nat} {args : List DV} {cs cs' : List Ck} {P : Bool → List Ck → Prop} (hp : cs.Perm cs') (hf : Y D l args cs' P) : Y D l args cs P := fun h hs => hf h (hs.perm hp)
theorem Y.post {l : Nat} {args : List DV} {cs : List Ck} {P P' : Bool → List Ck → Prop} (hf : Y D l args cs P) (hp : ∀ v cs', P v cs' → ∃ cs2, cs'.Perm cs2 ∧ P' v cs2) : Y D l args cs P' := fun h hs =>
  let ⟨n, v, h', cs', r1, r2, r3⟩ := hf h hs; let ⟨cs2, q1, q2⟩ := hp _ _ r3; ⟨n, v, h', cs2, r1, r2.perm q1, q2⟩
/-- Another function's contract, less known of it. -/
theorem F.mono {f : Nat} {args : List DV} {cs : List Ck} {P P' : DV → List Ck → Prop} (hf : F D f args cs P) (hp : ∀ v cs', P v cs' → P' v cs') : F D f args cs P' := fun h hs =>
  let ⟨v, h', cs', r1, r2, r3⟩ := hf h hs; ⟨v, h', cs', r1, r2, hp _ _ r3⟩
end
end Go.Dm
