/- FindLinks returns true for every input: part 5 of the proof (several texts joined). -/
import Derived.Test.YtfgghapmgdgaeaaGreatDoorJ4
/- The D-machine (34): symbolic runs are runs (2); functions. -/
namespace Go.Dm
set_option linter.unusedSimpArgs false
set_option linter.unusedVariables false
set_option linter.unnecessarySimpa false

section
variable {D : DProg}
theorem unw_ok {k k' : List It} {i : Nat} {fr : Fr} {h : Heap} {Q : DX → Fr → Heap → Prop} (hu : unw k i = some k') (hw : WpK D k' .normal fr h Q) : WpK D k (.exit i) fr h Q := by
  induction k with
  | nil => cases hu
  | cons a k ih =>
    cases a with
    | blk j =>
      simp only [unw] at hu
      simp only [WpK]
      cases hb : Nat.beq i j with
      | true =>
        rw [hb] at hu
        simp only [Option.some.injEq] at hu; subst hu
        rw [if_pos (Nat.eq_of_beq_eq_true hb)]; exact hw
      | false =>
        rw [hb] at hu
        rw [if_neg (Nat.ne_of_beq_eq_false hb)]; exact ih hu
    | code c => exact ih hu
    | ops c => exact ih hu
    | chk c => exact ih hu
    | lp c => exact ih hu
theorem WpK_ret {k : List It} {fr : Fr} {h : Heap} {Q : DX → Fr → Heap → Prop} (hw : Q .ret fr h) : WpK D k .ret fr h Q := by
  induction k with
  | nil => exact hw
  | cons a k ih => cases a <;> exact ih
theorem CKs.ok {nt : Nat} {es : List En} {cs : List Ck} {fr : Fr} {h : Heap} (ha : Ag fr.tmps [] es) (hl : fr.tmps.length = nt) (hs : Sat h cs) {l : List (Opd × Shape × Nat × Option (Nat × Bool))} (hc : CKs D nt es cs l) : chkOk D fr h l = true := by
  induction hc with
  | nil => rfl
  | @cons a sh t g r A p av v h1 h2 h3 h4 h5 _ ih =>
    simp only [chkOk, List.all_cons, Bool.and_eq_true] at ih ⊢
    refine ⟨?_, ih⟩
    cases hw : wantedG g fr with
    | false => rfl
    | true =>
      obtain ⟨_, hA⟩ := (gate_ok ha h1).1 hw
      have e1 : ev D fr a = av := lo_ok ha hA h2
      have e2 := lk_ok hA ha rfl h4
      have hlt : t < fr.tmps.length := by rw [hl]; exact Nat.le_of_ble_eq_true h5
      rw [List.getD_eq_getElem?_getD, List.getElem?_eq_getElem hlt] at e2
      simp only [Option.getD_some] at e2
      simp only [e1, h3.ok hs, List.getElem?_eq_getElem hlt, e2, DV.beq_refl, Bool.not_true, Bool.false_or]
theorem ops_ev {st : St} {fr : Fr} {h h1 : Heap} {d : Option Nat} {op : DOp} {c : List (Opd × Shape × Nat × Option (Nat × Bool))} {os : List ROp} {k : List It} {r : EvR} {v : DV} {cs' : List Ck} {Q : DX → St → List Ck → Prop}
    (ha : AgS fr st) (he : evalOp D fr h op = some r) (hst : stepEv h r = some (v, h1)) (hd : dstOk st.nt d = true) (hs : Sat h1 cs') (hr : RS D (.chk c :: .ops os :: k) (st.putO d v) cs' Q) :
    WpK D (.ops (⟨d, op, none, c⟩ :: os) :: k) .normal fr h fun x fr' h' => ∃ st' cs', AgS fr' st' ∧ Sat h' cs' ∧ Q x st' cs' := by
  obtain ⟨hc, hk⟩ := hr (fr.put d v) h1 (ha.put hd) hs
  exact WpOps.op rfl he hst hc hk
theorem untag_ok {fr : List DV} {A : List (Nat × Bool)} (hA : ∀ t b, (t, b) ∈ A → fr.getD t .undef = .bool b) : ∀ {es : List En} {seen : List Nat}, Ag fr seen es → Ag fr seen (untag A seen es)
  | [], _, _ => trivial
  | ⟨s, g, v⟩ :: r, seen, ⟨he, hr⟩ => by
    have ih := untag_ok hA hr
    cases g with
    | none => exact ⟨he, ih⟩
    | some p =>
      obtain ⟨t, b⟩ := p
      simp only [untag]
      cases hm : memT t b A with
      | true =>
        cases ht : memN t (s :: seen) with
        | false => exact ⟨fun hn => (he hn ht).1 (hA t b (memT_mem hm)), ih⟩
        | true => exact ⟨he, ih⟩
      | false => exact ⟨he, ih⟩
theorem Me.mem' {c : Ck} {cs : List Ck} (h : c ∈ cs) : Me c cs := by
  induction cs with
  | nil => cases h
  | cons a r ih =>
    rcases List.mem_cons.1 h with rfl | h
    · exact .head
    · exact .tail (ih h)
theorem Upd.mem' {α : Type} {c : Ck} {n : α → Ck} {cs : List Ck} {cs' : α → List Ck} (h : Upd c n cs cs') : c ∈ cs := by
  induction h with
  | head => simp
  | tail _ ih => simp [ih]
theorem add_get (h : Heap) (o : HObj) : (h.add o).objs.get h.next = some o := by simp [Heap.add, Tr.get_set]
theorem add_keep (h : Heap) (o : HObj) {i : Nat} (hi : i < h.next) : (h.add o).objs.get i = h.objs.get i ∧ (h.add o).tags.get i = h.tags.get i := by
  refine ⟨?_, rfl⟩
  simp only [Heap.add, Tr.get_set]; rw [if_neg (by omega)]
theorem addTag_keep (h : Heap) (z : Nat) {i : Nat} (hi : i < h.next) : (h.addTag z).objs.get i = h.objs.get i ∧ (h.addTag z).tags.get i = h.tags.get i := by
  refine ⟨rfl, ?_⟩
  simp only [Heap.addTag, Tr.get_set]; rw [if_neg (by omega)]
theorem put_keep (h : Heap) (j : Nat) (o : HObj) {i : Nat} (hi : i ≠ j) : (h.put j o).objs.get i = h.objs.get i ∧ (h.put j o).tags.get i = h.tags.get i := by
  refine ⟨?_, rfl⟩
  simp only [Heap.put, Tr.get_set]; rw [if_neg hi]
theorem put_get (h : Heap) (j : Nat) (o : HObj) : (h.put j o).objs.get j = some o := by simp [Heap.put, Tr.get_set]
theorem Sat.addO {h : Heap} {cs : List Ck} (hs : Sat h cs) (o : HObj) : Sat (h.add o) (.obj h.next o :: cs) :=
  hs.add (Nat.le_succ _) (add_get h o) (fun i hi => by cases hi; exact Nat.lt_succ_self _) (fun i hi => by cases hi; exact Nat.le_refl _) (fun i hi => add_keep h o hi)
theorem Sat.addT {h : Heap} {cs : List Ck} (hs : Sat h cs) (z : Nat) (xs : List DV) : Sat (h.addTag z) (.own h.next z xs :: cs) :=
  hs.add (Nat.le_succ _) (.inr ⟨hs.two, by simp [Heap.addTag, Tr.get_set]⟩) (fun i hi => by cases hi.1; exact Nat.lt_succ_self _) (fun i hi => by cases hi.1; exact Nat.le_refl _) (fun i hi => addTag_keep h z hi)
theorem Sat.put {h : Heap} {cs cs' : List Ck} {id : Nat} {o o' : HObj} (hs : Sat h cs) (hu : Upd1 (.obj id o) (.obj id o') cs cs') : Sat (h.put id o') cs' :=
  hs.upd hu (Nat.le_refl _) (put_get h id o') (fun i hi => by cases hi; exact (hs.ok _ hu.mem).2 _ rfl) (fun i hi => .inl hi) (fun i _ hn => put_keep h id o' (fun e => hn e))
theorem MapL.ok {α : Type} {f : α → DV} {ys : List DV} {ys' : List α} (h : MapL f ys ys') : ys = ys'.map f := by
  induction h with
  | nil => rfl
  | cons _ ih => simp [ih]
  | map => rfl
theorem JO.ok {xs ys zs : List DV} (h : JO xs ys zs) : zs = xs ++ ys := by
  cases h with
  | nil => rfl
  | bytes h1 => rw [toStr_len h1.ok]; simp [bytesV]
  | map h1 => rw [h1.ok]; simp
  | gen => rfl
/-- What is owned is appended to. -/
theorem Sat.append {h : Heap} {cs : List Ck} {cs' : Nat → List Ck} {sh : Shape} {bytes t z : Nat} {xs ys zs : List DV} {yv : DV} (hs : Sat h cs) (hz : z = zOf t sh.size) (he : elems h sh yv = some ys) (hj : JO xs ys zs) (hu : Upd (.own t sh.size xs) (fun a => .own a sh.size zs) cs cs')
    (hb : 1 ≤ bytes) (hl : (xs.length + ys.length) * bytes ≤ 140737488355328) : ∃ r v h1 t', appendD h false sh bytes (.lst t z xs) yv = some r ∧ stepEv h r = some (v, h1) ∧ v = .lst t' (zOf t' sh.size) zs ∧ Sat h1 (cs' t') := by
  obtain rfl := hj.ok
  have hn : xs.length + ys.length ≤ 9223372036854775807 := by
    have : xs.length + ys.length ≤ (xs.length + ys.length) * bytes := Nat.le_mul_of_pos_right _ hb
    omega
  by_cases hy : ys = []
  · subst hy
    refine ⟨_, _, _, t, by unfold appendD; rw [he]; dsimp only; rw [if_pos rfl], rfl, by simp [hz], ?_⟩
    have := hu.one t
    simp only [List.append_nil] at this
    have hE : ∀ {cs cs' : List Ck} {c : Ck}, Upd1 c c cs cs' → cs' = cs := by
      intro cs cs' c h1
      induction h1 with
      | head => rfl
      | tail _ ih => rw [ih]
    rw [hE this]; exact hs
  · rcases hs.get (Me.mem' hu.mem') with ⟨h0, hx⟩ | ⟨h2, ht⟩
    · subst h0; subst hx
      refine ⟨.newT sh.size fun u => .lst u sh.size ys, _, _, h.next, ?_, rfl, ?_, ?_⟩
      · unfold appendD; rw [he]; dsimp only
        rw [if_neg hy, if_pos ⟨.inl rfl, hl, hn⟩]
        simp
      · rw [zOf_two hs.two]; rfl
      · refine hs.upd (hu.one h.next) (Nat.le_succ _) (.inr ⟨hs.two, by simp [Heap.addTag, Tr.get_set]⟩) (fun i hi => by cases hi.1; exact Nat.lt_succ_self _) (fun i hi => .inr (by cases hi.1; exact Nat.le_refl _)) (fun i hi _ => addTag_keep h _ hi)
    · have hlt : t < h.next := (hs.ok _ hu.mem').2 t ⟨rfl, h2⟩
      refine ⟨.eff (.lst h.next sh.size (xs ++ ys)) ((h.spend t).addTag sh.size), _, _, h.next, ?_, rfl, by rw [zOf_two hs.two], ?_⟩
      · unfold appendD; rw [he]; dsimp only
        rw [if_neg hy, if_pos ⟨.inr (by rw [hz, zOf_two h2]), hl, hn⟩]
        simp only [Bool.false_eq_true, if_false]
        rw [if_neg (by omega), if_pos ⟨h2, ht⟩]
      · refine hs.upd (hu.one h.next) (Nat.le_succ _) (.inr ⟨hs.two, ?_⟩) (fun i hi => by cases hi.1; exact Nat.lt_succ_self _) (fun i hi => .inr (by cases hi.1; exact Nat.le_refl _)) (fun i hi hne => ⟨rfl, ?_⟩)
        · show (((h.spend t).addTag sh.size).tags.get h.next) = _
          simp [Heap.addTag, Heap.spend, Tr.get_set]
        · simp only [Heap.addTag, Heap.spend, Tr.get_set]
          rw [if_neg (by omega), if_neg (fun e => hne ⟨e, h2⟩)]
end
end Go.Dm
/- The D-machine (35): symbolic runs are runs (3); functions by their bodies. -/
namespace Go.Dm
set_option linter.unusedSimpArgs false
set_option linter.unusedVariables false
set_option linter.unnecessarySimpa false

section
variable {D : DProg}
theorem EL.ok {h : Heap} {cs : List Ck} (hs : Sat h cs) {sh : Shape} {yv : DV} {ys : List DV} (he : EL cs sh yv ys) : elems h sh yv = some ys := by
  cases he with
  | str h1 => simp only [elems, h1, if_true]
  | lst hz => simp only [elems]; rw [if_pos hz.ok]
theorem Sq.ok {es : List En} {A : List (Nat × Bool)} {fr : Fr} (ha : Ag fr.tmps [] es) (hA : Tags fr A) {sz : Nat} : ∀ {i : Nat} {ps : List (Nat × Opd)} {vs : List DV}, Sq D es A sz i ps vs →
    ps.map (fun p => (p.1, ev D fr p.2)) = (vs.zipIdx i).map (fun q => (q.2, q.1)) ∧ ps.length = vs.length ∧ (∀ p ∈ ps, i ≤ p.1 ∧ p.1 < i + ps.length ∧ (ev D fr p.2).cells.length = sz ∧ (ev D fr p.2).okv = true)
  | _, _, _, .nil => ⟨rfl, rfl, fun _ h => by cases h⟩
  | _, _, _, .cons h1 h2 h3 => by
    obtain ⟨e1, e2, e3⟩ := Sq.ok ha hA h3
    have ev1 := lo_ok ha hA h1
    obtain ⟨c1, c2, c3⟩ := h2.ok
    refine ⟨by simp only [List.map_cons, ev1, e1, List.zipIdx_cons], by simp [e2], fun q hq => ?_⟩
    rcases List.mem_cons.1 hq with rfl | hq
    · refine ⟨Nat.le_refl _, by simp only [List.length_cons]; omega, ?_, ?_⟩
      · show (ev D fr _).cells.length = sz
        rw [ev1, c1, c2]
      · show (ev D fr _).okv = true
        rw [ev1, c3]
    · obtain ⟨a, b, c⟩ := e3 q hq
      simp only [List.length_cons]
      exact ⟨by omega, by omega, c⟩
theorem fill_seq : ∀ (vs pre : List DV) (zero : DV), fillL (pre ++ List.replicate vs.length zero) ((vs.zipIdx pre.length).map fun q => (q.2, q.1)) = pre ++ vs
  | [], pre, zero => by simp [fillL]
  | v :: vs, pre, zero => by
    simp only [List.zipIdx_cons, List.map_cons, fillL, List.length_cons, List.replicate_succ]
    have := fill_seq vs (pre ++ [v]) zero
    simp only [List.length_append, List.length_cons, List.length_nil, Nat.zero_add, List.append_assoc, List.cons_append, List.nil_append] at this
    rw [List.set_append_right _ _ (Nat.le_refl _), Nat.sub_self, List.set_cons_zero]
    exact this
theorem RR.sound {k : List It} {st : St} {cs : List Ck} {Q : DX → St → List Ck → Prop} (hr : RR D k st cs Q) : RS D k st cs Q := by
  induction hr with
  | seq _ ih =>
    intro fr h ha hs
    have := ih fr h ha hs
    refine Wp.seq ?_
    refine Wp.mono this fun x fr' h' hq => ?_
    cases x with
    | normal => exact hq
    | exit i => exact hq
    | ret => exact hq
  | region _ ih => intro fr h ha hs; exact Wp.region (ih fr h ha hs)
  | opsnil _ ih => intro fr h ha hs; exact WpOps.nil (ih fr h ha hs)
  | @cond c x y k nt es ds ir cs Q b h1 _ _ ih1 ih2 =>
    intro fr h ha hs
    refine Wp.cond (lo_ok ha.es Tags.nil h1) ?_
    cases b with
    | true => exact ih1 rfl fr h ha hs
    | false => exact ih2 rfl fr h ha hs
  | skip _ ih => intro fr h ha hs; exact Wp.skip (ih fr h ha hs)
  | @block id b k st cs Q _ ih =>
    intro fr h ha hs
    refine Wp.block (Wp.mono (ih fr h ha hs) fun x fr' h' hq => ?_)
    cases x with
    | normal => exact hq
    | exit i =>
      simp only [WpK] at hq
      simp only [InBlock]
      split
      · rename_i e; rw [if_pos e] at hq; exact hq
      · rename_i e; rw [if_neg e] at hq; exact hq
    | ret => exact hq
  | blk _ ih => intro fr h ha hs; exact ih fr h ha hs
  | exit hu _ ih => intro fr h ha hs; exact Wp.exit (unw_ok hu (ih fr h ha hs))
  | ret hq => intro fr h ha hs; exact Wp.ret (WpK_ret ⟨_, _, ha, hs, hq⟩)
  | nil hq => intro fr h ha hs; exact ⟨_, _, ha, hs, hq⟩
  | chk hc _ ih => intro fr h ha hs; exact ⟨hc.ok ha.es ha.len hs, ih fr h ha hs⟩
  | @call d x az c os k nt es ds ir cs Q xv vs P h1 h2 hd hF _ ih =>
    intro fr h ha hs
    have e1 := lo_ok (D := D) ha.es Tags.nil h1
    have e2 := h2.ok ha.es Tags.nil
    have he : evalOp D fr h (.call x az false) = callV xv vs false := by simp only [evalOp, e1, e2]
    unfold FC at hF
    split at hF
    · rename_i g first caps
      obtain ⟨v, h', cs', r1, r2, r3⟩ := hF h hs
      obtain ⟨hc, hk⟩ := ih v cs' r3 (fr.put d v) h' (ha.put hd) r2
      exact WpOps.call rfl (by rw [he]; rfl) r1 hc hk
    · rename_i l
      obtain ⟨n, b, h', cs', r1, r2, r3⟩ := hF h hs
      obtain ⟨hc, n2, fr2, h2', q1, q2⟩ := ih (.bool b) cs' r3 (fr.put d (.bool b)) h' (ha.put hd) r2
      refine ⟨max n n2, fr2, h2', ?_, q2⟩
      have hrun : runOp D (exec D (max n n2)) ⟨d, .call x az false, none, c⟩ fr h = some (fr.put d (.bool b), h') := by
        unfold runOp
        simp only [he, callV, yieldD_le (exec_le (Nat.le_max_left n n2)) r1, Option.map_some]
      simp only [runOps, wantedD, wantedG, if_true, hrun, hc, runOps_le (exec_le (Nat.le_max_right n n2)) q1]
    · exact hF.elim
  | @callZ d x az c os k nt es ds ir cs Q xv vs P h1 h2 hd hF _ ih =>
    intro fr h ha hs
    have e1 := lo_ok (D := D) ha.es Tags.nil h1
    have e2 := h2.ok ha.es Tags.nil
    have he : evalOp D fr h (.call x az true) = callV xv vs true := by simp only [evalOp, e1, e2]
    unfold FZ at hF
    split at hF
    · rename_i g first caps
      obtain ⟨v, h', v2, h2', cs', r1, rz, r2, r3⟩ := hF h hs
      obtain ⟨hc, hk⟩ := ih v2 cs' r3 (fr.put d v2) h2' (ha.put hd) r2
      exact WpOps.callF rfl (by rw [he]; rfl) r1 rz hc hk
    · exact hF.elim
  | @store d n x y c os k nt es ds ir cs cs' Q id off cells vc cells' s v h1 h2 hc hu ho hd _ ih =>
    intro fr h ha hs
    have e1 := lo_ok (D := D) ha.es Tags.nil h1
    have e2 := lo_ok (D := D) ha.es Tags.nil h2
    obtain ⟨c1, c2, c3⟩ := hc.ok
    obtain ⟨o1, o2⟩ := ho.ok
    have hg : h.objs.get id = some (.cells cells s) := hs.obj (Me.mem' hu.mem)
    refine ops_ev ha (r := .eff .undef (h.put id (.cells cells' s))) (h1 := h.put id (.cells cells' s)) (v := .undef) ?_ rfl hd (hs.put hu) ih
    simp only [evalOp, e1, e2, storeD, hg, c1]
    rw [if_pos ⟨c2, by rw [← c2]; exact o2, c3⟩, o1]; rfl
  | @storeS d n x y c os k nt es ds ir cs cs' Q id off v h1 h2 hst hd _ ih =>
    intro fr h ha hs
    have e1 := lo_ok (D := D) ha.es Tags.nil h1
    have e2 := lo_ok (D := D) ha.es Tags.nil h2
    obtain ⟨h', s1, s2⟩ := hst.ok h hs
    refine ops_ev ha (r := .eff .undef h') (h1 := h') (v := .undef) ?_ rfl hd s2 ih
    simp only [evalOp, e1, e2, s1]; rfl
  | @append d sh bytes x y c os k nt es ds ir cs cs' Q t z xs ys zs yv h1 h2 hz he hj hu hb hl hd _ ih =>
    intro fr h ha hs
    have e1 := lo_ok (D := D) ha.es Tags.nil h1
    have e2 := lo_ok (D := D) ha.es Tags.nil h2
    obtain ⟨r, v, h1', t', q1, q2, q3, q4⟩ := hs.append hz (he.ok hs) hj hu (Nat.le_of_ble_eq_true hb) hl.out
    subst q3
    exact ops_ev ha (by simp only [evalOp, e1, e2]; exact q1) q2 hd q4 (ih t')
  | @mks d sh zero len ps c os k nt es ds ir cs Q vs hq hl hb hd _ ih =>
    intro fr h ha hs
    obtain ⟨q1, q2, q3⟩ := hq.ok (D := D) ha.es Tags.nil
    have hlen := Nat.eq_of_beq_eq_true hl
    have hf := fill_seq vs [] zero
    simp only [List.nil_append, List.length_nil] at hf
    refine ops_ev ha (r := .newT sh.size fun t => .lst t sh.size vs) ?_ (show stepEv h (.newT sh.size fun t => .lst t sh.size vs) = some (.lst h.next (zOf h.next sh.size) vs, _) by rw [zOf_two hs.two]; rfl) hd (hs.addT sh.size vs) (ih h.next hs.two)
    simp only [evalOp]
    rw [if_pos ⟨Nat.le_of_ble_eq_true hb, fun p hp => by obtain ⟨_, b2, b3, b4⟩ := q3 p hp; exact ⟨by omega, b3, b4⟩⟩, q1, ← hlen, q2, hf]
    simp
  | @box d x n c os k nt es ds ir cs Q v vc h1 hc hd _ ih =>
    intro fr h ha hs
    have e1 := lo_ok (D := D) ha.es Tags.nil h1
    obtain ⟨c1, c2, c3⟩ := hc.ok
    refine ops_ev ha (r := .newO (.cells vc none) fun i => .ptr i 0) ?_ rfl hd (hs.addO _) (ih h.next hs.two)
    simp only [evalOp, e1, c1]
    rw [if_pos ⟨c2, c3⟩]
  | @alloc d zero sh c os k nt es ds ir cs Q hd _ ih =>
    intro fr h ha hs
    exact ops_ev ha (r := .newO (.cells zero sh) fun i => .ptr i 0) rfl rfl hd (hs.addO _) (ih h.next hs.two)
  | @strBytes d x c os k nt es ds ir cs Q s h1 hl hd _ ih =>
    intro fr h ha hs
    have e1 := lo_ok (D := D) ha.es Tags.nil h1
    refine ops_ev ha (r := .newT 1 fun t => .lst t 1 (bytesV s)) ?_ (show stepEv h (.newT 1 fun t => .lst t 1 (bytesV s)) = some (.lst h.next (zOf h.next 1) (bytesV s), _) by rw [zOf_two hs.two]; rfl) hd (hs.addT 1 (bytesV s)) (ih h.next hs.two)
    simp only [evalOp, e1, convD]
    rw [if_pos hl.out]; rfl
  | @strBytesM d x c os k nt es ds ir cs Q s h1 hl hd _ ih =>
    intro fr h ha hs
    have e1 := lo_ok (D := D) ha.es Tags.nil h1
    refine ops_ev ha (r := .newO (.cells (bytesV s) none) fun i => .arr i 1 0 s.length) ?_ rfl hd (hs.addO _) (ih h.next hs.two)
    simp only [evalOp, e1, convD]
    rw [if_pos hl.out]; rfl
  | @range d x c os k nt es ds ir cs Q s h1 hd _ ih =>
    intro fr h ha hs
    have e1 := lo_ok (D := D) ha.es Tags.nil h1
    exact ops_ev ha (r := .newO (.siter s 0) fun i => .ptr i 0) (by simp only [evalOp, e1]) rfl hd (hs.addO _) (ih h.next hs.two)
  | @next d x c os k nt es ds ir cs cs' Q id pos s h1 hu hd _ _ ih1 ih2 =>
    intro fr h ha hs
    have e1 := lo_ok (D := D) ha.es Tags.nil h1
    have hg : h.objs.get id = some (.siter s pos) := hs.obj (Me.mem' hu.mem)
    by_cases hp : pos < s.length
    · refine ops_ev ha (r := .eff _ _) ?_ rfl hd (hs.put hu) (ih1 hp)
      simp only [evalOp, e1, hg]
      rw [if_pos hp]
    · refine ops_ev ha (r := .eff (.tup [.bool false]) h) ?_ rfl hd hs (ih2 (by omega))
      simp only [evalOp, e1, hg]
      rw [if_neg hp]
  | @defr d x az c os k nt es ds cs Q g first caps vs h1 h2 hd _ ih =>
    intro fr h ha hs
    have e1 := lo_ok (D := D) ha.es Tags.nil h1
    have e2 := h2.ok ha.es Tags.nil
    have hir : fr.inr = none := ha.ir
    have ha' : AgS { fr with defers := .call g (first ++ vs ++ caps) :: fr.defers } ⟨nt, es, .call g (first ++ vs ++ caps) :: ds, none⟩ := ⟨ha.len, ha.es, by rw [show fr.defers = ds from ha.ds], ha.ir⟩
    obtain ⟨hc, n, fr2, h2', q1, q2⟩ := ih (Fr.put { fr with defers := .call g (first ++ vs ++ caps) :: fr.defers } d .undef) h (ha'.put hd) hs
    refine ⟨n, fr2, h2', ?_, q2⟩
    have hrun : runOp D (exec D n) ⟨d, .defr x az, none, c⟩ fr h = some (Fr.put { fr with defers := .call g (first ++ vs ++ caps) :: fr.defers } d .undef, h) := by
      unfold runOp
      have he : evalOp D fr h (.defr x az) = some (.defr g (first ++ vs ++ caps)) := by simp only [evalOp, hir, e1, e2]; rfl
      simp only [he]
    simp only [runOps, wantedD, wantedG, if_true, hrun, hc, q1]
  | @gcall d x az fz t b c os k nt es ds ir cs Q A p hg hd _ _ ih1 ih2 =>
    intro fr h ha hs
    have hgo := gate_ok ha.es hg
    cases hw : wantedG (some (t, b)) fr with
    | true =>
      obtain ⟨hp, hA⟩ := hgo.1 hw
      obtain ⟨n, fr2, h2, q1, q2⟩ := ih1 hp fr h ⟨ha.len, untag_ok hA ha.es, ha.ds, ha.ir⟩ hs
      refine ⟨n, fr2, h2, ?_, q2⟩
      simp only [runOps, wantedD, hw, if_true]
      simp only [runOps, wantedD, wantedG, if_true] at q1
      exact q1
    | false =>
      have hp : p = false := by
        cases p with
        | false => rfl
        | true => have := hgo.2 rfl; rw [hw] at this; cases this
      exact WpOps.off hw (ih2 hp (fr.put (some d) .undef) h (ha.put (d := some d) (v := .undef) hd) hs)
  | @gmks d mu sh zero len ps t b c os k nt es ds ir cs Q A p hg hd _ _ ih1 ih2 =>
    intro fr h ha hs
    have hgo := gate_ok ha.es hg
    cases hw : wantedG (some (t, b)) fr with
    | true =>
      obtain ⟨hp, hA⟩ := hgo.1 hw
      obtain ⟨n, fr2, h2, q1, q2⟩ := ih1 hp fr h ⟨ha.len, untag_ok hA ha.es, ha.ds, ha.ir⟩ hs
      refine ⟨n, fr2, h2, ?_, q2⟩
      simp only [runOps, wantedD, hw, if_true]
      simp only [runOps, wantedD, wantedG, if_true] at q1
      exact q1
    | false =>
      have hp : p = false := by
        cases p with
        | false => rfl
        | true => have := hgo.2 rfl; rw [hw] at this; cases this
      exact WpOps.off hw (ih2 hp (fr.put (some d) .undef) h (ha.put (d := some d) (v := .undef) hd) hs)
  | @val d op g os k nt es ds ir cs Q A p v hg hv hd _ ih =>
    intro fr h ha hs
    have hgo := gate_ok ha.es hg
    have hdl : d < fr.tmps.length := by rw [ha.len]; exact Nat.le_of_ble_eq_true hd
    cases hw : wantedG g fr with
    | true =>
      obtain ⟨hp, hA⟩ := hgo.1 hw
      have he := hv.ok ha.es hs hA hp
      refine WpOps.op (v := v) (h1 := h) hw he rfl rfl (ih (fr.put (some d) v) h ⟨?_, ?_, ha.ds, ha.ir⟩ hs)
      · show (fr.tmps.set d v).length = _; rw [List.length_set]; exact ha.len
      · cases g with
        | none => exact ha.es.put hdl rfl
        | some tb => exact ha.es.putG hdl (fun _ => rfl) (fun hne => absurd (wanted_bool.1 hw) hne)
    | false =>
      refine WpOps.off hw (ih (fr.put (some d) .undef) h ⟨?_, ?_, ha.ds, ha.ir⟩ hs)
      · show (fr.tmps.set d .undef).length = _; rw [List.length_set]; exact ha.len
      · cases g with
        | none => cases hw
        | some tb => exact ha.es.putG hdl (fun e => by rw [wanted_bool.2 e] at hw; cases hw) (fun _ => rfl)
  | sem h => exact h
theorem RS.loop {b : DC} {k : List It} {st : St} {cs : List Ck} {Q : DX → St → List Ck → Prop} (hr : RR D (.code b :: .lp b :: k) st cs Q) : RS D (.code (.loop b) :: k) st cs Q := by
  intro fr h ha hs
  refine Wp.loop1 (Wp.mono (hr.sound fr h ha hs) fun x fr' h' hq => ?_)
  cases x with
  | normal => exact hq
  | exit i => exact hq
  | ret => exact hq
theorem RS.lp {b : DC} {k : List It} {st : St} {cs : List Ck} {Q : DX → St → List Ck → Prop} (hr : RS D (.code (.loop b) :: k) st cs Q) : RS D (.lp b :: k) st cs Q := fun fr h ha hs => hr fr h ha hs
theorem RS.weak {k : List It} {nt : Nat} {es : List En} {ds : List DDef} {ir : Option Nat} {cs cs' : List Ck} {Q : DX → St → List Ck → Prop} (l : List (Nat × DV)) (hr : RS D k ⟨nt, ents l, ds, ir⟩ cs' Q) (hsub : Sub es l) (hk : KK cs cs') : RS D k ⟨nt, es, ds, ir⟩ cs Q :=
  fun fr h ha hs => hr fr h ⟨ha.len, hsub.ag ha.es [], ha.ds, ha.ir⟩ (hs.sub hk.sublist)
theorem RS.nilOwn {k : List It} {st : St} {cs : List Ck} {Q : DX → St → List Ck → Prop} (sz : Nat) (hr : RS D k st (.own 0 sz [] :: cs) Q) : RS D k st cs Q := fun fr h ha hs => hr fr h ha (hs.nilOwn sz)
theorem RS.perm {k : List It} {st : St} {cs cs' : List Ck} {Q : DX → St → List Ck → Prop} (hp : cs.Perm cs') (hr : RS D k st cs' Q) : RS D k st cs Q := fun fr h ha hs => hr fr h ha (hs.perm hp)
/-- A loop: what it goes over (E: the slots, C: the pieces), what grows less (μ). -/
theorem RS.loopW {α : Type} (E : α → List (Nat × DV)) (C : α → List Ck) (Inv : α → Prop) (μ : α → Nat) (a0 : α) {b : DC} {k : List It} {nt : Nat} {es : List En} {ds : List DDef} {ir : Option Nat} {cs : List Ck} {Q : DX → St → List Ck → Prop}
    (h0 : Inv a0) (hsub : Sub es (E a0)) (hk : KK cs (C a0))
    (step : ∀ a, Inv a → (∀ (es' : List En) (cs' : List Ck) (a' : α), Inv a' → μ a' < μ a → Sub es' (E a') → KK cs' (C a') → RS D (.lp b :: k) ⟨nt, es', ds, ir⟩ cs' Q) → RR D (.code b :: .lp b :: k) ⟨nt, ents (E a), ds, ir⟩ (C a) Q) : RS D (.code (.loop b) :: k) ⟨nt, es, ds, ir⟩ cs Q := by
  refine RS.weak (E a0) ?_ hsub hk
  suffices h : ∀ n a, μ a = n → Inv a → RS D (.code (.loop b) :: k) ⟨nt, ents (E a), ds, ir⟩ (C a) Q from h _ a0 rfl h0
  intro n
  induction n using Nat.strongRecOn with
  | ind n ih =>
    intro a hn hi
    refine RS.loop (step a hi fun es' cs' a' hi' hlt hsub' hk' => RS.lp (RS.weak (E a') (ih (μ a') (by omega) a' rfl hi') hsub' hk'))
theorem RR.loop {b : DC} {k : List It} {st : St} {cs : List Ck} {Q : DX → St → List Ck → Prop} (hr : RR D (.code b :: .lp b :: k) st cs Q) : RR D (.code (.loop b) :: k) st cs Q := .sem (.loop hr)
/-- Less is known; another order of the pieces. -/
theorem RR.weak {k : List It} {nt : Nat} {es : List En} {ds : List DDef} {ir : Option Nat} {cs : List Ck} {Q : DX → St → List Ck → Prop} (l : List (Nat × DV)) (hr : RR D k ⟨nt, ents l, ds, ir⟩ cs Q) (hsub : Sub es l) : RR D k ⟨nt, es, ds, ir⟩ cs Q :=
  .sem fun fr h ha hs => hr.sound fr h ⟨ha.len, hsub.ag ha.es [], ha.ds, ha.ir⟩ hs
theorem RR.perm {k : List It} {st : St} {cs cs' : List Ck} {Q : DX → St → List Ck → Prop} (hp : cs.Perm cs') (hr : RR D k st cs' Q) : RR D k st cs Q := .sem fun fr h ha hs => hr.sound fr h ha (hs.perm hp)
theorem RR.drop {k : List It} {st : St} {cs cs' : List Ck} {Q : DX → St → List Ck → Prop} (hp : cs'.Sublist cs) (hr : RR D k st cs' Q) : RR D k st cs Q := .sem fun fr h ha hs => hr.sound fr h ha (hs.sub hp)
theorem RR.pure {k : List It} {st : St} {cs : List Ck} {Q : DX → St → List Ck → Prop} {X : Prop} (hx : ∀ h, Sat h cs → X) (hr : X → RR D k st cs Q) : RR D k st cs Q := .sem fun fr h ha hs => (hr (hx h hs)).sound fr h ha hs

/-! functions -/
variable (D) in
inductive RE (es : List En) (cs : List Ck) : DRes → DV → Prop where
  | tmp {t : Nat} {v : DV} : lk [] [] es t = some v → RE es cs (.tmp t) v
  | cell {t : Nat} {sh : Shape} {a v : DV} : lk [] [] es t = some a → LD cs sh a v → RE es cs (.cell t sh) v
inductive Done : DX → Prop where
  | ret : Done .ret
  | normal : Done .normal
variable (D) in
/-- What a call does that was put off. -/
def FD (f : Nat) (args : List DV) (cs : List Ck) (P : List Ck → Prop) : Prop := ∀ h, Sat h cs → ∃ n h' cs', callDef D (exec D n) f args h = some h' ∧ Sat h' cs' ∧ P cs'
variable (D) in
inductive Fin (P : DV → List Ck → Prop) : List DRes → DX → St → List Ck → Prop where
  | one {x : DX} {nt : Nat} {es : List En} {ir : Option Nat} {cs : List Ck} {r : DRes} {v : DV} : Done x → RE es cs r v → Pst (P v) cs → Fin P [r] x ⟨nt, es, [], ir⟩ cs
  | zero {x : DX} {nt : Nat} {es : List En} {ir : Option Nat} {cs : List Ck} : Done x → Pst (P (.tup [])) cs → Fin P [] x ⟨nt, es, [], ir⟩ cs
  | two {x : DX} {nt : Nat} {es : List En} {ir : Option Nat} {cs : List Ck} {r s : DRes} {v w : DV} : Done x → RE es cs r v → RE es cs s w → Pst (P (.tup [v, w])) cs → Fin P [r, s] x ⟨nt, es, [], ir⟩ cs
  | three {x : DX} {nt : Nat} {es : List En} {ir : Option Nat} {cs : List Ck} {r s t : DRes} {v w u : DV} : Done x → RE es cs r v → RE es cs s w → RE es cs t u → Pst (P (.tup [v, w, u])) cs → Fin P [r, s, t] x ⟨nt, es, [], ir⟩ cs
  | four {x : DX} {nt : Nat} {es : List En} {ir : Option Nat} {cs : List Ck} {r s t q : DRes} {v w u y : DV} : Done x → RE es cs r v → RE es cs s w → RE es cs t u → RE es cs q y → Pst (P (.tup [v, w, u, y])) cs → Fin P [r, s, t, q] x ⟨nt, es, [], ir⟩ cs
  | dfr {x : DX} {nt : Nat} {es : List En} {ds : List DDef} {ir : Option Nat} {cs : List Ck} {res : List DRes} {g : Nat} {az : List DV} {P1 : List Ck → Prop} : Done x → FD D g az cs P1 → (∀ cs', P1 cs' → Fin P res x ⟨nt, es, ds, ir⟩ cs') → Fin P res x ⟨nt, es, .call g az :: ds, ir⟩ cs
  | mark {x : DX} {nt : Nat} {es : List En} {ds : List DDef} {ir : Option Nat} {cs cs' : List Ck} {res : List DRes} {m : Nat} : Rem (.obj m .mark) cs cs' → Fin P res x ⟨nt, es, ds, ir⟩ cs' → Fin P res x ⟨nt, es, .mark m :: ds, ir⟩ cs
theorem RE.ok {es : List En} {cs : List Ck} {fr : Fr} {h : Heap} (ha : Ag fr.tmps [] es) (hs : Sat h cs) {r : DRes} {v : DV} (hr : RE es cs r v) {rs : List DRes} {vs : List DV} (h2 : resD fr h rs = some vs) : resD fr h (r :: rs) = some (v :: vs) := by
  cases hr with
  | tmp h1 => simp only [resD, h2, Option.map_some, lk_ok Tags.nil ha rfl h1]
  | cell h1 hl => simp only [resD, lk_ok Tags.nil ha rfl h1, hl.ok hs, h2]
theorem Fin.ok {P : DV → List Ck → Prop} {res : List DRes} {x : DX} {st : St} {cs : List Ck} (hf : Fin D P res x st cs) : ∀ {fr : Fr} {h : Heap}, AgS fr st → Sat h cs →
    Done x ∧ ∃ n h' cs' vs, leaveD st.ds h (callDef D (exec D n)) = some h' ∧ resD fr h' res = some vs ∧ Sat h' cs' ∧ P (tupD vs) cs' := by
  induction hf with
  | one hd h1 hp => intro fr h ha hs; obtain ⟨cs', hk, hp⟩ := hp.out; exact ⟨hd, 0, _, _, _, rfl, h1.ok ha.es hs rfl, hk _ hs, hp⟩
  | zero hd hp => intro fr h ha hs; obtain ⟨cs', hk, hp⟩ := hp.out; exact ⟨hd, 0, _, _, _, rfl, rfl, hk _ hs, hp⟩
  | two hd h1 h2 hp => intro fr h ha hs; obtain ⟨cs', hk, hp⟩ := hp.out; exact ⟨hd, 0, _, _, _, rfl, h1.ok ha.es hs (h2.ok ha.es hs rfl), hk _ hs, hp⟩
  | three hd h1 h2 h3 hp => intro fr h ha hs; obtain ⟨cs', hk, hp⟩ := hp.out; exact ⟨hd, 0, _, _, _, rfl, h1.ok ha.es hs (h2.ok ha.es hs (h3.ok ha.es hs rfl)), hk _ hs, hp⟩
  | four hd h1 h2 h3 h4 hp => intro fr h ha hs; obtain ⟨cs', hk, hp⟩ := hp.out; exact ⟨hd, 0, _, _, _, rfl, h1.ok ha.es hs (h2.ok ha.es hs (h3.ok ha.es hs (h4.ok ha.es hs rfl))), hk _ hs, hp⟩
  | @dfr x nt es ds ir cs res g az P1 hd hF _ ih =>
    intro fr h ha hs
    obtain ⟨n, h1, cs1, q1, q2, q3⟩ := hF h hs
    have ha' : AgS { fr with defers := ds } ⟨nt, es, ds, ir⟩ := ⟨ha.len, ha.es, rfl, ha.ir⟩
    obtain ⟨_, n2, h2, cs2, vs, r1, r2, r3, r4⟩ := ih cs1 q3 ha' q2
    refine ⟨hd, max n n2, h2, cs2, vs, ?_, ?_, r3, r4⟩
    · simp only [leaveD, callDef_le (exec_le (Nat.le_max_left n n2)) q1, Option.bind_some]
      exact leaveD_le (fun f a h r => callDef_le (exec_le (Nat.le_max_right n n2))) r1
    · have : ∀ (rs : List DRes), resD { fr with defers := ds } h2 rs = resD fr h2 rs := by
        intro rs
        induction rs with
        | nil => rfl
        | cons r rs ih2 => cases r <;> simp only [resD, ih2]
      exact (this _).symm.trans r2
  | @mark x nt es ds ir cs cs' res m hr _ ih =>
    intro fr h ha hs
    have hg : h.objs.get m = some .mark := hs.obj (Me.mem' hr.mem)
    have hs' : Sat (h.drop m) cs' := hr.keep hs (Nat.le_refl _) fun i _ hne => ⟨by
      simp only [Heap.drop, Tr.get_set]; rw [if_neg (show ¬ i = m from hne)], rfl⟩
    have ha' : AgS { fr with defers := ds } ⟨nt, es, ds, ir⟩ := ⟨ha.len, ha.es, rfl, ha.ir⟩
    obtain ⟨hd, n2, h2, cs2, vs, r1, r2, r3, r4⟩ := ih ha' hs'
    refine ⟨hd, n2, h2, cs2, vs, ?_, ?_, r3, r4⟩
    · simp only [leaveD, hg]; exact r1
    · have : ∀ (rs : List DRes), resD { fr with defers := ds } h2 rs = resD fr h2 rs := by
        intro rs
        induction rs with
        | nil => rfl
        | cons r rs ih2 => cases r <;> simp only [resD, ih2]
      exact (this _).symm.trans r2
def pars : Nat → List DV → List En
  | _, [] => []
  | i, v :: r => ⟨i, none, v⟩ :: pars (i + 1) r
theorem pars_ag : ∀ {args pre rest : List DV} {seen : List Nat}, Ag (pre ++ args ++ rest) seen (pars pre.length args)
  | [], _, _, _ => trivial
  | v :: r, pre, rest, seen => by
    refine ⟨fun _ => ?_, ?_⟩
    · show (pre ++ v :: r ++ rest).getD pre.length .undef = v
      rw [List.getD_eq_getElem?_getD, List.append_assoc, List.getElem?_append_right (Nat.le_refl _), Nat.sub_self]; rfl
    · have := pars_ag (args := r) (pre := pre ++ [v]) (rest := rest) (seen := pre.length :: seen)
      simpa [List.append_assoc] using this
theorem F.of {f : Nat} {args : List DV} {cs : List Ck} {P : DV → List Ck → Prop} {nt : Nat} {body : DC} {res : List DRes} (hp : D.prim f = none) (hd : D.fn f = some ⟨nt, body, res⟩) (hl : Nat.ble args.length nt = true) (hr : RR D [.code body] ⟨nt, pars 0 args, [], none⟩ cs (Fin D P res)) : F D f args cs P := by
  intro h hs
  have hl' := Nat.le_of_ble_eq_true hl
  obtain ⟨n, x, fr', h1, q1, q2⟩ := hr.sound { tmps := args ++ List.replicate (nt - args.length) .undef, defers := [], inr := none } h
    ⟨by simp; omega, by have := pars_ag (args := args) (pre := []) (rest := List.replicate (nt - args.length) .undef) (seen := []); simpa using this, rfl, rfl⟩ hs
  obtain ⟨st', cs1, a1, a2, a3⟩ := q2
  obtain ⟨hdn, n2, h2, cs2, vs, r1, r2, r3, r4⟩ := a3.ok a1 a2
  refine ⟨tupD vs, h2, cs2, ⟨max n n2, ?_⟩, r3, r4⟩
  have hb : bodyD D (exec D (max n n2)) f args h = some (⟨nt, body, res⟩, fr', h1) := by
    unfold bodyD
    rw [hd]
    simp only [exec_le (Nat.le_max_left n n2) _ _ _ _ q1]
    cases hdn <;> rfl
  unfold run callD
  rw [hp]
  have hds : fr'.defers = st'.ds := a1.ds
  simp only [hb, hds, leaveD_le (fun f a h r => callDef_le (exec_le (Nat.le_max_right n n2))) r1, r2, Option.map_some]
theorem FD.of {f : Nat} {args : List DV} {cs : List Ck} {P : List Ck → Prop} {nt : Nat} {body : DC} {res : List DRes} (hd : D.fn f = some ⟨nt, body, res⟩) (hl : Nat.ble args.length nt = true) (hr : RR D [.code body] ⟨nt, pars 0 args, [], none⟩ cs (fun x st cs' => st.ds = [] ∧ Fin D (fun _ => P) res x st cs')) : FD D f args cs P := by
  intro h hs
  have hl' := Nat.le_of_ble_eq_true hl
  obtain ⟨n, x, fr', h1, q1, q2⟩ := hr.sound { tmps := args ++ List.replicate (nt - args.length) .undef, defers := [], inr := none } h
    ⟨by simp; omega, by have := pars_ag (args := args) (pre := []) (rest := List.replicate (nt - args.length) .undef) (seen := []); simpa using this, rfl, rfl⟩ hs
  obtain ⟨st', cs1, a1, a2, a3⟩ := q2
  obtain ⟨hds0, a3⟩ := a3
  obtain ⟨hdn, n2, h2, cs2, vs, r1, r2, r3, r4⟩ := a3.ok a1 a2
  rw [hds0] at r1
  simp only [leaveD, Option.some.injEq] at r1
  subst r1
  refine ⟨n, h1, cs2, ?_, r3, r4⟩
  have hb : bodyD D (exec D n) f args h = some (⟨nt, body, res⟩, fr', h1) := by
    unfold bodyD
    rw [hd]
    simp only [q1]
    cases hdn <;> rfl
  have hds : fr'.defers = [] := by rw [a1.ds, hds0]
  unfold callDef
  simp only [hb, hds, r2]
theorem Hold.mk {p : Prop} (h : p) : Hold p := h
theorem Hold.out {p : Prop} (h : Hold p) : p := h
/-- What comes of a round. -/
inductive YPost (P : Bool → List Ck → Prop) : DV → List Ck → Prop where
  | mk {b : Bool} {cs : List Ck} : P b cs → YPost P (.bool b) cs
theorem FC.yield {l : Nat} {args : List DV} {cs : List Ck} {P : Bool → List Ck → Prop} (h : Y D l args cs P) : FC D (.fn (.yield l) [] []) args cs (YPost P) := fun h0 hs =>
  let ⟨n, b, h', cs', r1, r2, r3⟩ := h h0 hs; ⟨n, b, h', cs', r1, r2, .mk r3⟩
theorem F.perm {f : Nat} {args : List DV} {cs cs' : List Ck} {P : DV → List Ck → Prop} (hp : cs.Perm cs') (hf : F D f args cs' P) : F D f args cs P := fun h hs => hf h (hs.perm hp)
/-- What comes behind in another order. -/
theorem F.post {f : Nat} {args : List DV} {cs : List Ck} {P P' : DV → List Ck → Prop} (hf : F D f args cs P) (hp : ∀ v cs', P v cs' → ∃ cs2, cs'.Perm cs2 ∧ P' v cs2) : F D f args cs P' := fun h hs =>
  let ⟨v, h', cs', r1, r2, r3⟩ := hf h hs; let ⟨cs2, q1, q2⟩ := hp _ _ r3; ⟨v, h', cs2, r1, r2.perm q1, q2⟩
theorem Y.perm {l : Nat} {args : List DV} {cs cs' : List Ck} {P : Bool → List Ck → Prop} (hp : cs.Perm cs') (hf : Y D l args cs' P) : Y D l args cs P := fun h hs => hf h (hs.perm hp)
theorem Y.post {l : Nat} {args : List DV} {cs : List Ck} {P P' : Bool → List Ck → Prop} (hf : Y D l args cs P) (hp : ∀ v cs', P v cs' → ∃ cs2, cs'.Perm cs2 ∧ P' v cs2) : Y D l args cs P' := fun h hs =>
  let ⟨n, v, h', cs', r1, r2, r3⟩ := hf h hs; let ⟨cs2, q1, q2⟩ := hp _ _ r3; ⟨n, v, h', cs2, r1, r2.perm q1, q2⟩
/-- Another function's contract, less known of it. -/
theorem F.mono {f : Nat} {args : List DV} {cs : List Ck} {P P' : DV → List Ck → Prop} (hf : F D f args cs P) (hp : ∀ v cs', P v cs' → P' v cs') : F D f args cs P' := fun h hs =>
  let ⟨v, h', cs', r1, r2, r3⟩ := hf h hs; ⟨v, h', cs', r1, r2, hp _ _ r3⟩
end
end Go.Dm
/- The D-machine (36): short names for code; tables of functions. -/
namespace Go.Dm
namespace C
@[reducible] def v (d : Nat) (op : DOp) : ROp := ⟨some d, op, none, []⟩
@[reducible] def w (d : Nat) (op : DOp) (t : Nat) (b : Bool) : ROp := ⟨some d, op, some (t, b), []⟩
@[reducible] def m (d s : Nat) : ROp := ⟨some d, .mv (.t s), none, []⟩
@[reducible] def u (op : DOp) : ROp := ⟨none, op, none, []⟩
end C
inductive BT where
  | nil
  | node (l : BT) (k : Nat) (d : DFunc) (r : BT)
def BT.get : BT → Nat → Option DFunc
  | .nil, _ => none
  | .node l k d r, n => match Nat.beq n k with
    | true => some d
    | false => match Nat.blt n k with
      | true => l.get n
      | false => r.get n
inductive BT.All (P : Nat → DFunc → Prop) : BT → Prop where
  | nil : BT.All P .nil
  | node {l : BT} {k : Nat} {d : DFunc} {r : BT} : BT.All P l → P k d → BT.All P r → BT.All P (.node l k d r)
theorem BT.All.get {P : Nat → DFunc → Prop} {t : BT} (ha : BT.All P t) {n : Nat} {d : DFunc} (hg : t.get n = some d) : P n d := by
  induction ha with
  | nil => cases hg
  | node _ hk _ ih1 ih2 =>
    simp only [BT.get] at hg
    split at hg
    · rename_i hb
      have := Nat.eq_of_beq_eq_true hb
      simp only [Option.some.injEq] at hg
      subst this; subst hg; exact hk
    · split at hg
      · exact ih1 hg
      · exact ih2 hg
end Go.Dm
/- The D-machine (37): symbolic runs of ranges over functions. -/
namespace Go.Dm
set_option linter.unusedSimpArgs false
set_option linter.unusedVariables false
set_option linter.unnecessarySimpa false

/-- A loop's record: of its frame some entries are known. -/
def LoopP (l nt : Nat) (es : List En) (ps : List Nat) (asg body : DC) (st : LState) (pend : Option DX) : HP where
  foot i := i = l
  ok o _ := ∃ tmps, o l = some (.loop ⟨tmps, ps, asg, body, st, pend⟩) ∧ tmps.length = nt ∧ Ag tmps [] es
  loc := fun o t o' t' h ⟨tmps, h1, h2⟩ => ⟨tmps, by rw [← (h l rfl).1]; exact h1, h2⟩
abbrev Lp (l nt : Nat) (es : List En) (ps : List Nat) (asg body : DC) (st : LState) (pend : Option DX) : Ck := .pr (LoopP l nt es ps asg body st pend)
section
variable {D : DProg}
def psE : List Nat → List DV → List En → List En
  | p :: ps, v :: vs, es => psE ps vs (⟨p, none, v⟩ :: es)
  | _, _, es => es
theorem psE_ag : ∀ {ps : List Nat} {vs tmps : List DV} {es : List En} {nt : Nat}, tmps.length = nt → ps.all (fun p => Nat.blt p nt) = true → Ag tmps [] es →
    ((ps.zip vs).foldl (fun ts (q : Nat × DV) => ts.set q.1 q.2) tmps).length = nt ∧ Ag ((ps.zip vs).foldl (fun ts (q : Nat × DV) => ts.set q.1 q.2) tmps) [] (psE ps vs es)
  | [], vs, tmps, es, nt, hl, _, ha => ⟨hl, ha⟩
  | p :: ps, [], tmps, es, nt, hl, _, ha => ⟨hl, ha⟩
  | p :: ps, v :: vs, tmps, es, nt, hl, hp, ha => by
    simp only [List.all_cons, Bool.and_eq_true] at hp
    have hlt : p < tmps.length := by rw [hl]; exact Nat.le_of_ble_eq_true hp.1
    simp only [List.zip_cons_cons, List.foldl_cons, psE]
    exact psE_ag (tmps := tmps.set p v) (by rw [List.length_set]; exact hl) hp.2 (ha.put hlt rfl)
/-- How a round's body may end. Lr: the loop's record where a round may begin, Lb: within one, Ld: behind an exit. -/
inductive YB (Lr Lb : Ck) (Ld : DX → Ck) (P : Bool → List Ck → Prop) : DX → St → List Ck → Prop where
  | normal {n2 : Nat} {es2 : List En} {ir : Option Nat} {cs cs3 : List Ck} : Upd1 Lb Lr cs cs3 → Pst (P true) cs3 → YB Lr Lb Ld P .normal ⟨n2, es2, [], ir⟩ cs
  | exit {i n2 : Nat} {es2 : List En} {ir : Option Nat} {cs cs3 : List Ck} : Upd1 Lb (Ld (.exit i)) cs cs3 → Pst (P false) cs3 → YB Lr Lb Ld P (.exit i) ⟨n2, es2, [], ir⟩ cs
  | ret {n2 : Nat} {es2 : List En} {ir : Option Nat} {cs cs3 : List Ck} : Upd1 Lb (Ld .ret) cs cs3 → Pst (P false) cs3 → YB Lr Lb Ld P .ret ⟨n2, es2, [], ir⟩ cs
variable (D) in
inductive YA (l : Nat) (Lr Lb : Ck) (Ld : DX → Ck) (body : DC) (P : Bool → List Ck → Prop) : DX → St → List Ck → Prop where
  | mk {n2 : Nat} {es1 : List En} {cs1 csb : List Ck} : Upd1 Lr Lb cs1 csb → RR D [.code body] ⟨n2, es1, [], some l⟩ csb (YB Lr Lb Ld P) → YA l Lr Lb Ld body P .normal ⟨n2, es1, [], some l⟩ cs1
theorem sat_loop {h : Heap} {cs cs' : List Ck} {l nt : Nat} {es : List En} {ps : List Nat} {asg body : DC} {st st' : LState} {pend pend' : Option DX} (hs : Sat h cs) (hu : Upd1 (Lp l nt es ps asg body st pend) (Lp l nt es ps asg body st' pend') cs cs') :
    ∃ tmps, h.objs.get l = some (.loop ⟨tmps, ps, asg, body, st, pend⟩) ∧ tmps.length = nt ∧ Ag tmps [] es ∧ Sat (h.put l (.loop ⟨tmps, ps, asg, body, st', pend'⟩)) cs' := by
  obtain ⟨tmps, h1, h2, h3⟩ := hs.get (Me.mem' hu.mem)
  exact ⟨tmps, h1, h2, h3, hs.upd hu (Nat.le_refl _) ⟨tmps, put_get h l _, h2, h3⟩ (fun i hi => by cases hi; exact (hs.ok _ hu.mem).2 _ rfl) (fun i hi => .inl hi) (fun i _ hn => put_keep h l _ (fun e => hn e))⟩
theorem Y.of {l nt : Nat} {es : List En} {ps : List Nat} {asg body : DC} {args : List DV} {cs : List Ck} {P : Bool → List Ck → Prop} (hm : Me (Lp l nt es ps asg body .ready none) cs) (hl : Nat.beq args.length ps.length = true) (hps : ps.all (fun p => Nat.blt p nt) = true)
    (hr : RR D [.code asg] ⟨nt, psE ps args es, [], some l⟩ cs (YA D l (Lp l nt es ps asg body .ready none) (Lp l nt es ps asg body .busy none) (fun x => Lp l nt es ps asg body .done (some x)) body P)) : Y D l args cs P := by
  intro h hs
  obtain ⟨tmps, h1, h2, h3⟩ := hs.get hm
  obtain ⟨q1, q2⟩ := psE_ag (vs := args) h2 hps h3
  obtain ⟨n, x, fr1, ha1, r1, st1, cs1, a1, a2, a3⟩ := hr.sound { tmps := (ps.zip args).foldl (fun ts (q : Nat × DV) => ts.set q.1 q.2) tmps, defers := [], inr := some l } h ⟨q1, q2, rfl, rfl⟩ hs
  cases a3 with
  | @mk n2 es1 _ csb hu hb =>
    obtain ⟨tmps1, b1, b2, b3, b4⟩ := sat_loop a2 hu
    obtain ⟨n3, x2, fr2, hb2, r2, st2, cs2, c1, c2, c3⟩ := hb.sound fr1 _ a1 b4
    have e1 := exec_le (Nat.le_max_left n n3) _ _ _ _ r1
    have e2 := exec_le (Nat.le_max_right n n3) _ _ _ _ r2
    have hlen := Nat.eq_of_beq_eq_true hl
    cases c3 with
    | normal hu2 hp =>
      obtain ⟨cs4, hk4, hp⟩ := hp.out
      obtain ⟨tmps2, d1, d2, d3, d4⟩ := sat_loop c2 hu2
      have hds : fr2.defers = [] := c1.ds
      refine ⟨max n n3, true, _, _, ?_, hk4 _ d4, hp⟩
      unfold yieldD
      rw [h1]; dsimp only
      rw [if_pos ⟨rfl, hlen⟩]
      simp only [e1, b1, if_true, e2, d1, hds]
    | @exit i n2 es2 ir _ cs3 hu2 hp =>
      obtain ⟨cs4, hk4, hp⟩ := hp.out
      obtain ⟨tmps2, d1, d2, d3, d4⟩ := sat_loop c2 hu2
      have hds : fr2.defers = [] := c1.ds
      refine ⟨max n n3, false, _, _, ?_, hk4 _ d4, hp⟩
      unfold yieldD
      rw [h1]; dsimp only
      rw [if_pos ⟨rfl, hlen⟩]
      simp only [e1, b1, if_true, e2, d1, hds]
    | ret hu2 hp =>
      obtain ⟨cs4, hk4, hp⟩ := hp.out
      obtain ⟨tmps2, d1, d2, d3, d4⟩ := sat_loop c2 hu2
      have hds : fr2.defers = [] := c1.ds
      refine ⟨max n n3, false, _, _, ?_, hk4 _ d4, hp⟩
      unfold yieldD
      rw [h1]; dsimp only
      rw [if_pos ⟨rfl, hlen⟩]
      simp only [e1, b1, if_true, e2, d1, hds]
/-- How a range over a function goes on. -/
inductive RG (Lr : Ck) (Ld : DX → Ck) (K : DX → List Ck → Prop) : DV → List Ck → Prop where
  | ready {v : DV} {cs cs2 : List Ck} : Rem Lr cs cs2 → K .normal cs2 → RG Lr Ld K v cs
  | done {v : DV} {x : DX} {cs cs2 : List Ck} : Rem (Ld x) cs cs2 → K x cs2 → RG Lr Ld K v cs
theorem RG.ok {l nt : Nat} {es : List En} {ps : List Nat} {asg body : DC} {K : DX → List Ck → Prop} {v : DV} {cs : List Ck} {h : Heap} (hs : Sat h cs) (hr : RG (Lp l nt es ps asg body .ready none) (fun x => Lp l nt es ps asg body .done (some x)) K v cs) :
    ∃ r cs2 x, h.objs.get l = some (.loop r) ∧ r.st ≠ .busy ∧ (r.pend = none ∧ x = .normal ∨ r.pend = some x) ∧ Sat (h.put l (.loop { r with st := .over })) cs2 ∧ K x cs2 := by
  cases hr with
  | @ready _ cs2 hm hk =>
    obtain ⟨tmps, h1, h2, h3⟩ := hs.get (Me.mem' hm.mem)
    exact ⟨_, cs2, .normal, h1, by simp, .inl ⟨rfl, rfl⟩, hm.keep hs (Nat.le_refl _) fun i _ hn => put_keep h l _ (fun e => hn e), hk⟩
  | @done x _ cs2 hm hk =>
    obtain ⟨tmps, h1, h2, h3⟩ := hs.get (Me.mem' hm.mem)
    exact ⟨_, cs2, x, h1, by simp, .inr rfl, hm.keep hs (Nat.le_refl _) fun i _ hn => put_keep h l _ (fun e => hn e), hk⟩
def xIt : DX → List It → List It
  | .normal, k => k
  | .exit i, k => .code (.exit i) :: k
  | .ret, k => .code .ret :: k
theorem xIt_wp {x : DX} {k : List It} {fr : Fr} {h : Heap} {Q : DX → Fr → Heap → Prop} (hw : WpK D (xIt x k) .normal fr h Q) : WpK D k x fr h Q := by
  cases x with
  | normal => exact hw
  | exit i =>
    obtain ⟨n, x2, fr2, h2, q1, q2⟩ := hw
    cases n with
    | zero => cases q1
    | succ n => simp only [exec, stepD, Option.some.injEq, Prod.mk.injEq] at q1; obtain ⟨rfl, rfl, rfl⟩ := q1; exact q2
  | ret =>
    obtain ⟨n, x2, fr2, h2, q1, q2⟩ := hw
    cases n with
    | zero => cases q1
    | succ n => simp only [exec, stepD, Option.some.injEq, Prod.mk.injEq] at q1; obtain ⟨rfl, rfl, rfl⟩ := q1; exact q2
theorem sat_newloop {h : Heap} {cs : List Ck} {fr : Fr} {st : St} (hs : Sat h cs) (ha : AgS fr st) (ps : List Nat) (asg body : DC) : Sat (h.add (.loop ⟨fr.tmps, ps, asg, body, .ready, none⟩)) (Lp h.next st.nt st.es ps asg body .ready none :: cs) :=
  hs.add (Nat.le_succ _) ⟨fr.tmps, add_get h _, ha.len, ha.es⟩ (fun i hi => by cases hi; exact Nat.lt_succ_self _) (fun i hi => by cases hi; exact Nat.le_refl _) (fun i hi => add_keep h _ hi)
/-- A range over a function, in no other one. -/
theorem RS.rangeN {f : Opd} {ps : List Nat} {asg body : DC} {k : List It} {nt : Nat} {es : List En} {ds : List DDef} {cs : List Ck} {Q : DX → St → List Ck → Prop} {g : Nat} {first caps : List DV} (h1 : lo D es [] f = some (.fn (.func g) first caps))
    (hF : ∀ m l, 2 ≤ m → 2 ≤ l → F D g (first ++ [.fn (.yield l) [] []] ++ caps) (Lp l nt es ps asg body .ready none :: .obj m .mark :: cs) (RG (Lp l nt es ps asg body .ready none) (fun x => Lp l nt es ps asg body .done (some x)) fun x cs2 => RR D (xIt x k) ⟨nt, es, .mark m :: ds, none⟩ cs2 Q)) :
    RS D (.code (.range f ps asg body) :: k) ⟨nt, es, ds, none⟩ cs Q := by
  intro fr h ha hs
  have e1 := lo_ok (D := D) ha.es Tags.nil h1
  have hir : fr.inr = none := ha.ir
  have hs1 := hs.addO .mark
  have hs2 := sat_newloop hs1 ha ps asg body
  obtain ⟨v, h2, cs', r1, r2, r3⟩ := hF h.next (h.add .mark).next hs.two hs1.two _ hs2
  obtain ⟨r, cs2, x, q1, q2, q3, q4, q5⟩ := r3.ok r2
  obtain ⟨n, hn⟩ := r1.mono
  have ha' : AgS { fr with defers := .mark h.next :: fr.defers } ⟨nt, es, .mark h.next :: ds, none⟩ := ⟨ha.len, ha.es, by rw [show fr.defers = ds from ha.ds], ha.ir⟩
  refine ⟨n + 1, x, { fr with defers := .mark h.next :: fr.defers }, h2.put (h.add .mark).next (.loop { r with st := .over }), ?_, xIt_wp (q5.sound _ _ ha' q4)⟩
  show rangeD D (exec D n) f ps asg body fr h = _
  unfold rangeD
  rw [e1]; dsimp only
  unfold startD
  rw [hir]; dsimp only
  rw [hn n (Nat.le_refl _)]; dsimp only
  rw [q1]; dsimp only
  rw [if_neg q2]
  rcases q3 with ⟨q3, rfl⟩ | q3 <;> rw [q3]
/-- Of a loop's record that is taken az a whole. -/
structure Loopy (D : DProg) (l nt : Nat) (es : List En) (ps : List Nat) (asg body : DC) (Lr Lb : Ck) (Ld : DX → Ck) : Prop where
  y : ∀ {args : List DV} {cs : List Ck} {P : Bool → List Ck → Prop}, Me Lr cs → Nat.beq args.length ps.length = true → RR D [.code asg] ⟨nt, psE ps args es, [], some l⟩ cs (YA D l Lr Lb Ld body P) → Y D l args cs P
  loop : ∀ {h : Heap} {cs : List Ck}, Me Lb cs → Sat h cs → ∃ r, h.objs.get l = some (.loop r)
theorem loopy {l nt : Nat} {es : List En} {ps : List Nat} {asg body : DC} (hps : ps.all (fun p => Nat.blt p nt) = true) : Loopy D l nt es ps asg body (Lp l nt es ps asg body .ready none) (Lp l nt es ps asg body .busy none) (fun x => Lp l nt es ps asg body .done (some x)) :=
  ⟨fun hm hl hr => Y.of hm hl hps hr, fun hm hs => let ⟨_, h1, _, _⟩ := hs.get hm; ⟨_, h1⟩⟩
theorem RS.rangeO {f : Opd} {ps : List Nat} {asg body : DC} {k : List It} {nt : Nat} {es : List En} {ds : List DDef} {cs : List Ck} {Q : DX → St → List Ck → Prop} {g : Nat} {first caps : List DV} (h1 : lo D es [] f = some (.fn (.func g) first caps)) (hps : ps.all (fun p => Nat.blt p nt) = true)
    (hF : ∀ m l Lr Lb Ld, Loopy D l nt es ps asg body Lr Lb Ld → F D g (first ++ [.fn (.yield l) [] []] ++ caps) (Lr :: .obj m .mark :: cs) (RG Lr Ld fun x cs2 => RR D (xIt x k) ⟨nt, es, .mark m :: ds, none⟩ cs2 Q)) :
    RS D (.code (.range f ps asg body) :: k) ⟨nt, es, ds, none⟩ cs Q :=
  RS.rangeN h1 fun m l _ _ => hF m l _ _ _ (loopy hps)
end
end Go.Dm
/- The D-machine (38): bits; small words for symbolic runs. -/
namespace Go.Dm
set_option linter.unusedSimpArgs false
set_option linter.unusedVariables false
set_option linter.unnecessarySimpa false
set_option maxRecDepth 10000
attribute [local irreducible] Go.Dm.F Go.Dm.RS Go.Dm.Y Go.Dm.FD Go.Dm.FZ1 Go.Dm.Hold
end Go.Dm
/- The D-machine (43): slices that are written into, az pieces; rules with less to say. -/
namespace Go.Dm
set_option linter.unusedSimpArgs false
set_option linter.unusedVariables false
set_option linter.unnecessarySimpa false
/-- It is found by the rules alone. -/
theorem kk {p : Prop} (h : p := by (repeat' constructor); first | done | fail) : p := h
theorem ar {p : Prop} (h : p := by first | omega | (intro _; omega) | (intro hp; simp only [Bool.and_eq_true, Bool.or_eq_true, Bool.not_eq_true', decide_eq_true_eq, decide_eq_false_iff_not, Bool.and_true, Bool.true_and, and_true, true_and, eqB, beq_iff_eq, Int.ofNat_eq_natCast, Bool.false_eq_true, or_false, false_or] at hp; omega) | (simp only [List.length_append, List.length_cons, List.length_nil, List.length_map]; first | omega | (intro _; omega)) | (intro _; simp_all [eqB]; done)) : Arith p := Arith.mk h
/-! ### what comes behind -/
inductive Fa : (DV → List Ck → Prop) → (DV → List Ck → Prop) → Prop where
  | eq {a : DV} {b : List Ck} {K : DV → List Ck → Prop} : K a b → Fa (fun v cs' => v = a ∧ b = cs') K
  | ex {α : Type} {f : α → DV} {g : α → List Ck} {K : DV → List Ck → Prop} : (∀ x, K (f x) (g x)) → Fa (fun v cs' => Hold (∃ x, v = f x ∧ g x = cs')) K
  | ep {α : Type} {p : α → Prop} {f : α → DV} {g : α → List Ck} {K : DV → List Ck → Prop} : (∀ x, p x → K (f x) (g x)) → Fa (fun v cs' => Hold (∃ x, v = f x ∧ p x ∧ g x = cs')) K
theorem Fa.out {P K : DV → List Ck → Prop} (h : Fa P K) : ∀ v cs', P v cs' → K v cs' := by
  cases h with
  | eq h => rintro _ _ ⟨rfl, rfl⟩; exact h
  | ex h => intro _ _ hq; obtain ⟨x, rfl, rfl⟩ := hq.out; exact h x
  | ep h => intro _ _ hq; obtain ⟨x, rfl, hp, rfl⟩ := hq.out; exact h x hp
/-- What a condition says, and its contrary. -/
inductive Bq : Bool → Prop → Prop → Prop where
  | dec {p : Prop} [Decidable p] : Bq (decide p) p (¬p)
  | eqI {a b : Int} : Bq (a == b) (a = b) (¬a = b)
  | neI {a b : Int} : Bq (a != b) (¬a = b) (a = b)
  | not {b : Bool} {p q : Prop} : Bq b p q → Bq (!b) q p
  | and {a b : Bool} {p q r s : Prop} : Bq a p q → Bq b r s → Bq (a && b) (p ∧ r) (q ∨ s)
  | or {a b : Bool} {p q r s : Prop} : Bq a p q → Bq b r s → Bq (a || b) (p ∨ r) (q ∧ s)
  | tt : Bq true True False
  | ff : Bq false False True
  | vr {b : Bool} : Bq b (b = true) (b = false)
theorem Bq.out {b : Bool} {p q : Prop} (h : Bq b p q) : (b = true → p) ∧ (b = false → q) := by
  induction h with
  | not _ ih => rename_i b p q _; exact ⟨fun h => ih.2 (by simpa using h), fun h => ih.1 (by simpa using h)⟩
  | and _ _ h1 h2 => rename_i a b _ _ _ _ _ _; cases a <;> cases b <;> simp_all
  | or _ _ h1 h2 => rename_i a b _ _ _ _ _ _; cases a <;> cases b <;> simp_all
  | _ => simp
section
variable {D : DProg} {k : List It} {nt : Nat} {es : List En} {ds : List DDef} {ir : Option Nat} {cs : List Ck} {Q : DX → St → List Ck → Prop} {os : List ROp} {c : List (Opd × Shape × Nat × Option (Nat × Bool))} {d : Option Nat}
theorem RR.cl {x : Opd} {az : List Opd} {xv : DV} {vs : List DV} {P : DV → List Ck → Prop} (h1 : lo D es [] x = some xv) (h2 : LoS D es [] az vs) (h3 : dstOk nt d = true) (h4 : FC D xv vs cs P) (h5 : Fa P fun v cs' => RR D (.chk c :: .ops os :: k) (St.putO ⟨nt, es, ds, ir⟩ d v) cs' Q) :
    RR D (.ops (⟨d, .call x az false, none, c⟩ :: os) :: k) ⟨nt, es, ds, ir⟩ cs Q := .call h1 h2 h3 h4 h5.out
theorem RR.cz {x : Opd} {az : List Opd} {xv : DV} {vs : List DV} {P : DV → List Ck → Prop} (h1 : lo D es [] x = some xv) (h2 : LoS D es [] az vs) (h3 : dstOk nt d = true) (h4 : FZ D xv vs cs P) (h5 : Fa P fun v cs' => RR D (.chk c :: .ops os :: k) (St.putO ⟨nt, es, ds, ir⟩ d v) cs' Q) :
    RR D (.ops (⟨d, .call x az true, none, c⟩ :: os) :: k) ⟨nt, es, ds, ir⟩ cs Q := .callZ h1 h2 h3 h4 h5.out
theorem RR.cd {x : Opd} {a b : DC} {v : Bool} {p q : Prop} (h1 : lo D es [] x = some (.bool v)) (h2 : Bq v p q) (h3 : p → RR D (.code a :: k) ⟨nt, es, ds, ir⟩ cs Q) (h4 : q → RR D (.code b :: k) ⟨nt, es, ds, ir⟩ cs Q) : RR D (.code (.cond x a b) :: k) ⟨nt, es, ds, ir⟩ cs Q :=
  .cond h1 (fun e => h3 (h2.out.1 e)) (fun e => h4 (h2.out.2 e))
theorem RR.valS {d : Nat} {op : DOp} {g : Option (Nat × Bool)} {A : List (Nat × Bool)} {p : Bool} {v : DV} (hg : gate es 12 g = some (A, p)) (hv : ∀ fr h, Ag fr.tmps [] es → Tags fr A → Sat h cs → p = true → evalOp D fr h op = some (.val v)) (hd : Nat.blt d nt = true)
    (hr : RR D (.ops os :: k) ⟨nt, ⟨d, g, v⟩ :: es, ds, ir⟩ cs Q) : RR D (.ops (⟨some d, op, g, []⟩ :: os) :: k) ⟨nt, es, ds, ir⟩ cs Q := .sem fun fr h ha hs => by
  have hgo := gate_ok ha.es hg
  have hdl : d < fr.tmps.length := by rw [ha.len]; exact Nat.le_of_ble_eq_true hd
  have ih := hr.sound
  cases hw : wantedG g fr with
  | true =>
    obtain ⟨hp, hA⟩ := hgo.1 hw
    have he := hv fr h ha.es hA hs hp
    refine WpOps.op (v := v) (h1 := h) hw he rfl rfl (ih (fr.put (some d) v) h ⟨?_, ?_, ha.ds, ha.ir⟩ hs)
    · show (fr.tmps.set d v).length = _; rw [List.length_set]; exact ha.len
    · cases g with
      | none => exact ha.es.put hdl rfl
      | some tb => exact ha.es.putG hdl (fun _ => rfl) (fun hne => absurd (wanted_bool.1 hw) hne)
  | false =>
    refine WpOps.off hw (ih (fr.put (some d) .undef) h ⟨?_, ?_, ha.ds, ha.ir⟩ hs)
    · show (fr.tmps.set d .undef).length = _; rw [List.length_set]; exact ha.len
    · cases g with
      | none => cases hw
      | some tb => exact ha.es.putG hdl (fun e => by rw [wanted_bool.2 e] at hw; cases hw) (fun _ => rfl)
theorem RR.lg {d : Nat} {sh : Shape} {x : Opd} {g : Option (Nat × Bool)} {A : List (Nat × Bool)} {p : Bool} {a v : DV} (hg : gate es 12 g = some (A, p)) (h1 : lo D es A x = some a) (hl : p = true → LD cs sh a v) (hd : Nat.blt d nt = true)
    (hr : RR D (.ops os :: k) ⟨nt, ⟨d, g, v⟩ :: es, ds, ir⟩ cs Q) : RR D (.ops (⟨some d, .load sh x, g, []⟩ :: os) :: k) ⟨nt, es, ds, ir⟩ cs Q :=
  RR.valS hg (fun fr h ha hA hs hp => by simp only [evalOp, lo_ok ha hA h1, (hl hp).ok hs, Option.map_some]) hd hr
/-- An equation that is found one way and proved another. -/
abbrev EE {α : Type} (a b : α) : Prop := a = b → a = b
theorem RR.rd {n : Nat} {l : List ROp} {st : St} (h : (Nu.lst Nu.rop n).1 = l) (hr : RR D (.ops l :: k) st cs Q) : RR D (.ops (Nu.rg n) :: k) st cs Q := by rw [Nu.rg_eq, h]; exact hr
theorem RR.from {cs2 : List Ck} {k : List It} {st : St} (hs : ∀ h, Sat h cs → Sat h cs2) (hr : RR D k st cs2 Q) : RR D k st cs Q := .sem fun fr h ha hh => hr.sound fr h ha (hs h hh)
end
/-! ### what a call leaves -/
theorem Pst.e {v a : DV} {R cs : List Ck} (h : v = a) (hk : KK cs R) : Pst (fun cs' => v = a ∧ R = cs') cs := Pst.mk ⟨h, rfl⟩ hk
theorem Pst.x {α : Type} {f : α → DV} {g : α → List Ck} {v : DV} {cs : List Ck} {x : α} (hk : KK cs (g x)) (h : v = f x) : Pst (fun cs' => Hold (∃ x, v = f x ∧ g x = cs')) cs := Pst.mk (.mk ⟨x, h, rfl⟩) hk
theorem Pst.xp {α : Type} {p : α → Prop} {f : α → DV} {g : α → List Ck} {v : DV} {cs : List Ck} {x : α} (hk : KK cs (g x)) (h : v = f x) (hp : p x) : Pst (fun cs' => Hold (∃ x, v = f x ∧ p x ∧ g x = cs')) cs := Pst.mk (.mk ⟨x, h, hp, rfl⟩) hk
/-! ### slices that are written into -/
def msV (k sz n : Nat) : DV := match k with
  | 0 => .lst 0 0 []
  | k + 1 => .arr (k + 1) sz 0 n
/-- Such a slice's cells; behind them others may lie. -/
def MSp (k : Nat) (sh : Shape) (c : List DV) : HP where
  foot i := i = k ∧ k ≠ 0
  ok o _ := (k = 0 ∧ c = []) ∨ (k ≠ 0 ∧ ∃ j, o k = some (.cells (c ++ j) sh))
  loc := fun o t o' t' h hk => hk.elim .inl fun ⟨h1, j, h2⟩ => .inr ⟨h1, j, by rw [← (h k ⟨rfl, h1⟩).1]; exact h2⟩
abbrev MS (k : Nat) (sh : Shape) (c : List DV) : Ck := .pr (MSp k sh c)
theorem msV_pos {k sz n : Nat} (h : k ≠ 0) : msV k sz n = .arr k sz 0 n := by cases k with
  | zero => exact absurd rfl h
  | succ k => rfl
theorem MS.get {k : Nat} {sh : Shape} {c : List DV} {cs : List Ck} {h : Heap} (hs : Sat h cs) (hm : Me (MS k sh c) cs) : (k = 0 ∧ c = []) ∨ (k ≠ 0 ∧ ∃ j, h.objs.get k = some (.cells (c ++ j) sh)) := hs.get hm
theorem Sat.weakP {h : Heap} {c c' : Ck} {R : List Ck} (hs : Sat h (c :: R)) (hf : ∀ i, c'.foot i → c.foot i) (hok : c.ok h → c'.ok h) : Sat h (c' :: R) := by
  obtain ⟨h1, h2⟩ := List.pairwise_cons.1 hs.sep
  have hc := hs.ok c (by simp)
  refine ⟨hs.two, fun x hx => ?_, List.pairwise_cons.2 ⟨fun x hx i ⟨ha, hb⟩ => h1 x hx i ⟨hf i ha, hb⟩, h2⟩⟩
  rcases List.mem_cons.1 hx with rfl | hx
  · exact ⟨hok hc.1, fun i hi => hc.2 i (hf i hi)⟩
  · exact hs.ok x (by simp [hx])
theorem Sat.upd1 {h : Heap} {c c' : Ck} {cs cs' : List Ck} (hs : Sat h cs) (hu : Upd1 c c' cs cs') (hf : ∀ i, c'.foot i → c.foot i) (hok : c.ok h → c'.ok h) : Sat h cs' := by
  have : ∀ {cs cs' : List Ck}, Upd1 c c' cs cs' → ∃ R, cs.Perm (c :: R) ∧ (c' :: R).Perm cs' := by
    intro cs cs' hu
    induction hu with
    | head => exact ⟨_, .refl _, .refl _⟩
    | @tail x r r' _ ih => obtain ⟨R, h1, h2⟩ := ih; exact ⟨x :: R, (h1.cons x).trans (.swap ..), (List.Perm.swap ..).trans (h2.cons x)⟩
  obtain ⟨R, h1, h2⟩ := this hu
  exact ((hs.perm h1).weakP hf hok).perm h2
/-- An object of its own az such a slice. -/
theorem Sat.toMS {h : Heap} {k : Nat} {sh : Shape} {c : List DV} {R : List Ck} (hs : Sat h (.obj k (.cells c sh) :: R)) (hk : k ≠ 0) : Sat h (MS k sh c :: R) :=
  hs.weakP (fun i hi => hi.1) fun ho => .inr ⟨hk, [], by rw [List.append_nil]; exact ho⟩
theorem Sat.nilMS {h : Heap} {cs : List Ck} (hs : Sat h cs) (sh : Shape) : Sat h (MS 0 sh [] :: cs) :=
  hs.add (Nat.le_refl _) (.inl ⟨rfl, rfl⟩) (fun i hi => absurd rfl hi.2) (fun i hi => absurd rfl hi.2) (fun i _ => ⟨rfl, rfl⟩)
theorem cut_app {c j : List DV} {o n : Nat} {r : List DV} (h : cut c o n = some r) : cut (c ++ j) o n = some r := by
  unfold cut at h ⊢
  split at h <;> cases h
  rename_i hl
  rw [if_pos (by rw [List.length_append]; omega), List.drop_append_of_le_length (by omega), List.take_append_of_le_length (by rw [List.length_drop]; omega)]
theorem overwrite_app {c j x : List DV} {o : Nat} (h : o + x.length ≤ c.length) : overwrite (c ++ j) o x = overwrite c o x ++ j := by
  unfold overwrite
  rw [List.take_append_of_le_length (by omega), List.drop_append_of_le_length (by omega)]
  simp only [List.append_assoc]
theorem MS.ld {k off : Nat} {sh sh' : Shape} {c : List DV} {cs : List Ck} {v : DV} (hm : Me (MS k sh c) cs) (hc : off < c.length) (hv : (cut c off sh'.size).bind (mkv sh') = some v) : LD cs sh' (.ptr k off) v := .sem fun h hs => by
  rcases MS.get hs hm with ⟨_, rfl⟩ | ⟨_, j, e⟩
  · exact absurd hc (Nat.not_lt_zero _)
  · obtain ⟨r, h1, h2⟩ := Option.bind_eq_some_iff.1 hv
    simp only [loadD, e, cut_app h1, Option.bind_some, h2]
theorem MS.st {k off n : Nat} {sh : Shape} {c : List DV} {cs cs' : List Ck} {v : DV} (hu : Upd1 (MS k sh c) (MS k sh (overwrite c off v.cells)) cs cs') (hv : v.cells.length = n ∧ v.okv = true) (hn : 0 < n) (ho : off + n ≤ c.length) : StS cs n k off v cs' := ⟨fun h hs => by
  rcases MS.get hs (Me.mem' hu.mem) with ⟨_, rfl⟩ | ⟨hk, j, e⟩
  · simp at ho; omega
  · refine ⟨h.put k (.cells (overwrite c off v.cells ++ j) sh), ?_, ?_⟩
    · simp only [storeD, e]
      rw [if_pos ⟨hv.1, by rw [List.length_append]; omega, hv.2⟩, overwrite_app (by rw [hv.1]; exact ho)]
    · exact hs.upd hu (Nat.le_refl _) (.inr ⟨hk, j, put_get h k _⟩) (fun i hi => by rw [hi.1]; exact (hs.ok _ hu.mem).2 _ ⟨rfl, hk⟩) (fun i hi => .inl hi) (fun i _ hn => put_keep h k _ (fun e => hn ⟨e, hk⟩))⟩
/-- What has elements is not nil. -/
def NZ (cs : List Ck) (a n : Nat) : Prop := ∀ h, Sat h cs → 0 < n → a ≠ 0
theorem MS.nz {a n sz : Nat} {sh : Shape} {c : List DV} {cs : List Ck} (hm : Me (MS a sh c) cs) (hc : c.length = n * sz ∧ 0 < sz) : NZ cs a n := fun h hs hn => by
  rcases MS.get hs hm with ⟨_, rfl⟩ | ⟨ha0, _⟩
  · have h1 := hc.1
    simp only [List.length_nil] at h1
    rcases Nat.mul_eq_zero.1 h1.symm with h | h
    · omega
    · omega
  · exact ha0
theorem MS.nzI {a : Nat} {l : List Int} {cs : List Ck} (hm : Me (MS a none (l.map I64)) cs) : NZ cs a l.length := MS.nz (sz := 1) hm ⟨by simp, by decide⟩
section
variable {D : DProg} {k : List It} {nt : Nat} {es : List En} {ds : List DDef} {ir : Option Nat} {cs : List Ck} {Q : DX → St → List Ck → Prop} {os : List ROp} {c : List (Opd × Shape × Nat × Option (Nat × Bool))} {d : Option Nat}
theorem RR.ia {d sz a n : Nat} {x i : Opd} {g : Option (Nat × Bool)} {A : List (Nat × Bool)} {p : Bool} {q : IntKind} {j : Int} (hg : gate es 12 g = some (A, p)) (h1 : lo D es A x = some (msV a sz n)) (h2 : lo D es A i = some (.int q j)) (hz : NZ cs a n)
    (hj : Arith (p = true → 0 ≤ j ∧ j < n)) (hd : Nat.blt d nt = true) (hr : RR D (.ops os :: k) ⟨nt, ⟨d, g, .ptr a (j.toNat * sz)⟩ :: es, ds, ir⟩ cs Q) : RR D (.ops (⟨some d, .iaddr sz x i, g, []⟩ :: os) :: k) ⟨nt, es, ds, ir⟩ cs Q := by
  refine RR.valS hg (fun fr h ha hA hs hp => ?_) hd hr
  have hj' := hj.out hp
  have ha0 := hz h hs (by omega)
  simp only [evalOp, lo_ok ha hA h1, lo_ok ha hA h2, msV_pos ha0]
  rw [if_pos ⟨hj'.1, hj'.2, trivial⟩, Nat.zero_add]
theorem RR.ln {d a sz n : Nat} {x : Opd} {g : Option (Nat × Bool)} {A : List (Nat × Bool)} {p : Bool} (hg : gate es 12 g = some (A, p)) (h1 : lo D es A x = some (msV a sz n)) (hz : NZ cs a n) (hd : Nat.blt d nt = true)
    (hr : RR D (.ops os :: k) ⟨nt, ⟨d, g, .int .i64 n⟩ :: es, ds, ir⟩ cs Q) : RR D (.ops (⟨some d, .len true x, g, []⟩ :: os) :: k) ⟨nt, es, ds, ir⟩ cs Q := by
  refine RR.valS hg (fun fr h ha hA hs hp => ?_) hd hr
  by_cases ha0 : a = 0
  · subst ha0
    have : n = 0 := by
      rcases Nat.eq_zero_or_pos n with h0 | h0
      · exact h0
      · exact absurd rfl (hz h hs h0)
    subst this
    simp only [evalOp, lo_ok ha hA h1]; rfl
  · simp only [evalOp, lo_ok ha hA h1, msV_pos ha0]
/-- Is it nil? -/
theorem RR.nl {d a sz n z : Nat} {x y : Opd} {g : Option (Nat × Bool)} {A : List (Nat × Bool)} {p : Bool} (hg : gate es 12 g = some (A, p)) (h1 : lo D es A x = some (msV a sz n)) (h2 : lo D es A y = some (.lst 0 z [])) (hd : Nat.blt d nt = true)
    (hr : RR D (.ops os :: k) ⟨nt, ⟨d, g, .bool (decide (a = 0))⟩ :: es, ds, ir⟩ cs Q) : RR D (.ops (⟨some d, .bin .eql .sl x y, g, []⟩ :: os) :: k) ⟨nt, es, ds, ir⟩ cs Q := by
  refine RR.valS hg (fun fr h ha hA hs hp => ?_) hd hr
  simp only [evalOp, lo_ok ha hA h1, lo_ok ha hA h2]
  cases a <;> rfl
theorem RR.mm {sh : Shape} {zero : DV} {len : Nat} {ps : List (Nat × Opd)} {vs : List DV} (hq : Sq D es [] sh.size 0 ps vs) (hl : Nat.beq ps.length len = true) (hb : Nat.ble (len * sh.size) 16777216 = true) (hd : dstOk nt d = true)
    (hr : ∀ a, a ≠ 0 → RR D (.chk c :: .ops os :: k) (St.putO ⟨nt, es, ds, ir⟩ d (msV a sh.size len)) (MS a sh (flat vs) :: cs) Q) : RR D (.ops (⟨d, .mks true sh zero len ps, none, c⟩ :: os) :: k) ⟨nt, es, ds, ir⟩ cs Q := .sem fun fr h ha hs => by
  obtain ⟨q1, q2, q3⟩ := hq.ok (D := D) ha.es Tags.nil
  have hlen := Nat.eq_of_beq_eq_true hl
  have hf := fill_seq vs [] zero
  simp only [List.nil_append, List.length_nil] at hf
  have h0 : h.next ≠ 0 := by have := hs.two; omega
  have hr' := (hr h.next h0).sound
  rw [msV_pos h0] at hr'
  refine ops_ev ha (r := .newO (.cells (flat vs) sh) fun i => .arr i sh.size 0 len) ?_ rfl hd ((hs.addO _).toMS h0) hr'
  simp only [evalOp]
  rw [if_pos ⟨Nat.le_of_ble_eq_true hb, fun p hp => by obtain ⟨_, b2, b3, b4⟩ := q3 p hp; exact ⟨by omega, b3, b4⟩⟩, q1, ← hlen, q2, hf]
  simp
/-- The elements of what is laid behind. -/
inductive EM (cs : List Ck) (sh : Shape) : DV → List DV → Prop where
  | el {y : DV} {ys : List DV} : EL cs sh y ys → EM cs sh y ys
  | ms {a n : Nat} {c : List DV} : Me (MS a sh c) cs → Arith (c.length = n * sh.size ∧ 0 < sh.size) → EM cs sh (msV a sh.size n) (group sh n c)
  | sem {y : DV} {ys : List DV} : (∀ h, Sat h cs → elems h sh y = some ys) → EM cs sh y ys
theorem EM.ok {h : Heap} (hs : Sat h cs) {sh : Shape} {y : DV} {ys : List DV} (he : EM cs sh y ys) : elems h sh y = some ys := by
  cases he with
  | el h1 => exact h1.ok hs
  | sem h1 => exact h1 h hs
  | @ms a n c hm hc =>
    obtain ⟨hc1, hc2⟩ := hc.out
    rcases MS.get hs hm with ⟨rfl, rfl⟩ | ⟨ha0, j, e⟩
    · have : n = 0 := by
        simp only [List.length_nil] at hc1
        rcases Nat.mul_eq_zero.1 hc1.symm with h | h
        · exact h
        · omega
      subst this; rfl
    · rw [msV_pos ha0]
      have hcut : cut (c ++ j) 0 (n * sh.size) = some c := by
        unfold cut; rw [if_pos (by rw [List.length_append]; omega), List.drop_zero, ← hc1, List.take_left]
      simp only [elems, e, and_self, if_true, hcut, Option.map_some]
theorem EM.tail {cs : List Ck} {x : Ck} {sh : Shape} {y : DV} {ys : List DV} (he : EM cs sh y ys) : EM (x :: cs) sh y ys := .sem fun h hs => he.ok (hs.sub (List.sublist_cons_self _ _))
theorem Pst.nm {Q : List Ck → Prop} {cs : List Ck} (sh : Shape) (hq : Pst Q (MS 0 sh [] :: cs)) : Pst Q cs := by
  obtain ⟨cs', h1, h2⟩ := hq.out
  unfold Pst
  exact ⟨cs', fun h hs => h1 h (hs.nilMS sh), h2⟩
theorem RR.ap {sh : Shape} {b a n : Nat} {x y : Opd} {yv : DV} {ys c0 : List DV} {cs' : Nat → List Ck} (h1 : lo D es [] x = some (msV a sh.size n)) (h2 : lo D es [] y = some yv) (he : EM cs sh yv ys) (hu : Upd (MS a sh c0) (fun a => MS a sh (c0 ++ flat ys)) cs cs') (hc : Arith (c0.length = n * sh.size ∧ 0 < sh.size))
    (hb : Nat.ble 1 b = true) (hl : Arith ((n + ys.length) * b ≤ 140737488355328)) (hd : dstOk nt d = true) (hr : ∀ a', RR D (.chk c :: .ops os :: k) (St.putO ⟨nt, es, ds, ir⟩ d (msV a' sh.size (n + ys.length))) (cs' a') Q) :
    RR D (.ops (⟨d, .append true sh b x y, none, c⟩ :: os) :: k) ⟨nt, es, ds, ir⟩ cs Q := .sem fun fr h ha hs => by
  have e1 := lo_ok (D := D) ha.es Tags.nil h1
  have e2 := lo_ok (D := D) ha.es Tags.nil h2
  have e3 := he.ok hs
  obtain ⟨hc1, hc2⟩ := hc.out
  have hb1 := Nat.le_of_ble_eq_true hb
  have hl1 := hl.out
  have hl2 : n + ys.length ≤ 9223372036854775807 := by
    have : (n + ys.length) * 1 ≤ (n + ys.length) * b := Nat.mul_le_mul_left _ hb1
    omega
  have h0 : h.next ≠ 0 := by have := hs.two; omega
  by_cases hy : ys = []
  · subst hy
    have hr' := (hr a).sound
    simp only [List.length_nil, Nat.add_zero] at hr'
    have hs' : Sat h (cs' a) := by
      have hu1 := hu.one a
      rw [show c0 ++ flat [] = c0 from List.append_nil _] at hu1
      exact hs.upd1 hu1 (fun i hi => hi) (fun ho => ho)
    refine ops_ev ha (r := .val (msV a sh.size n)) ?_ rfl hd hs' hr'
    simp only [evalOp, e1, e2, appendD]
    cases a with
    | zero => simp only [msV]; rw [e3]; rfl
    | succ a => simp only [msV]; rw [e3]; rfl
  · have hr' := (hr h.next).sound
    rw [msV_pos h0] at hr'
    rcases MS.get hs (Me.mem' (hu.mem')) with ⟨rfl, rfl⟩ | ⟨ha0, j, e⟩
    · have : n = 0 := by
        simp only [List.length_nil] at hc1
        rcases Nat.mul_eq_zero.1 hc1.symm with h | h
        · exact h
        · omega
      subst this
      rw [Nat.zero_add] at hr' hl1 hl2
      refine ops_ev ha (r := .newO (.cells (flat ys) sh) fun i => .arr i sh.size 0 ys.length) ?_ rfl hd ?_ hr'
      · simp only [evalOp, e1, e2, msV, appendD, e3]
        rw [if_neg hy, if_pos ⟨.inl trivial, by rw [List.length_nil, Nat.zero_add]; exact hl1, by rw [List.length_nil, Nat.zero_add]; exact hl2⟩]; rfl
      · exact hs.upd (hu.one _) (Nat.le_succ _) (.inr ⟨h0, [], by rw [List.nil_append, List.append_nil]; exact add_get h _⟩) (fun i hi => by rw [hi.1]; exact Nat.lt_succ_self _) (fun i hi => .inr (by rw [hi.1]; exact Nat.le_refl _)) (fun i hi _ => add_keep h _ hi)
    · have hcut : cut (c0 ++ j) 0 (n * sh.size) = some c0 := by
        unfold cut; rw [if_pos (by rw [List.length_append]; omega), List.drop_zero, ← hc1, List.take_left]
      refine ops_ev ha (r := .eff (.arr h.next sh.size 0 (n + ys.length)) ((h.drop a).add (.cells (c0 ++ flat ys) sh))) ?_ rfl hd ?_ hr'
      · simp only [evalOp, e1, e2, msV_pos ha0, appendD, e3]
        rw [if_neg hy]
        simp only [e, hcut]
        rw [if_pos ⟨trivial, trivial, trivial, hl1, hl2⟩]
      · have hn : (h.drop a).next = h.next := rfl
        refine hs.upd (hu.one _) (Nat.le_succ _) (.inr ⟨h0, [], by rw [List.append_nil]; exact add_get (h.drop a) _⟩) (fun i hi => by rw [hi.1]; exact Nat.lt_succ_self _) (fun i hi => .inr (by rw [hi.1]; exact Nat.le_refl _)) (fun i hi hn => ?_)
        have h1 := add_keep (h.drop a) (.cells (c0 ++ flat ys) sh) (i := i) hi
        refine ⟨h1.1.trans ?_, h1.2⟩
        simp only [Heap.drop, Tr.get_set]; rw [if_neg (fun e => hn ⟨e, ha0⟩)]
/-- What is written into no more. -/
theorem FZ1.ms {g : Nat} {args : List DV} {R : List Ck} {sh : Shape} {n : Nat} {c : List DV} (hc : c.length = n * sh.size ∧ 0 < sh.size) (hF : F D g args cs (fun v cs' => Hold (∃ a, v = msV a sh.size n ∧ MS a sh c :: R = cs'))) :
    FZ1 D g args cs (fun v cs' => Hold (∃ t, v = .lst t (zOf t sh.size) (group sh n c) ∧ R = cs')) := fun h hs => by
  obtain ⟨v, h', cs', r1, r2, r3⟩ := hF h hs
  obtain ⟨a, rfl, rfl⟩ := r3.out
  rcases MS.get r2 .head with ⟨rfl, rfl⟩ | ⟨ha0, j, e⟩
  · have : n = 0 := by
      have h1 := hc.1
      simp only [List.length_nil] at h1
      rcases Nat.mul_eq_zero.1 h1.symm with h | h
      · exact h
      · omega
    subst this
    exact ⟨_, h', _, h', R, r1, rfl, r2.sub (List.sublist_cons_self _ _), .mk ⟨0, rfl, rfl⟩⟩
  · have hcut : cut (c ++ j) 0 (n * sh.size) = some c := by
      unfold cut; rw [if_pos (by rw [List.length_append]; omega), List.drop_zero, ← hc.1, List.take_left]
    refine ⟨_, h', .lst 1 sh.size (group sh n c), h'.drop a, R, r1, ?_, ?_, .mk ⟨1, rfl, rfl⟩⟩
    · rw [msV_pos ha0]
      simp only [frzV, e]
      rw [if_pos ⟨trivial, hc.2⟩, hcut]; rfl
    · refine Rem.keep (c := MS a sh c) .head r2 (Nat.le_refl _) fun i _ hn => ⟨?_, rfl⟩
      simp only [Heap.drop, Tr.get_set]; rw [if_neg (fun e => hn ⟨e, ha0⟩)]
theorem F.nu {f nt : Nat} {n : List Nat} {args : List DV} {cs : List Ck} {P : DV → List Ck → Prop} {body : DC} {res : List DRes} (hp : D.prim f = none) (hd : D.fn f = some (Nu.df n)) (he : Nu.df n = ⟨nt, body, res⟩) (hl : Nat.ble args.length nt = true) (hr : RR D [.code body] ⟨nt, pars 0 args, [], none⟩ cs (Fin D P res)) : F D f args cs P :=
  F.of hp (hd.trans (congrArg some he)) hl hr
end
end Go.Dm
/- Bundles of pieces; contracts at a place of a list. -/
namespace Go.Dm
set_option linter.unusedSimpArgs false
set_option linter.unusedVariables false
set_option linter.unnecessarySimpa false
/-! ### pieces that are taken together -/
def Ck.okf (o : Nat → Option HObj) (t : Nat → Option Nat) : Ck → Prop
  | .obj id x => o id = some x
  | .own a sz xs => (a = 0 ∧ xs = []) ∨ (2 ≤ a ∧ t a = some sz)
  | .pr p => p.ok o t
theorem Ck.okf_ok {h : Heap} {c : Ck} : c.okf h.objs.get h.tags.get ↔ c.ok h := by cases c <;> exact Iff.rfl
theorem Ck.okf_loc {o o' : Nat → Option HObj} {t t' : Nat → Option Nat} {c : Ck} (hl : ∀ i, c.foot i → o i = o' i ∧ t i = t' i) (hc : c.okf o t) : c.okf o' t' := by
  cases c with
  | obj id x => show o' id = some x; rw [← (hl id rfl).1]; exact hc
  | own a sz xs =>
    rcases hc with h0 | ⟨h2, ht⟩
    · exact .inl h0
    · exact .inr ⟨h2, by rw [← (hl a ⟨rfl, h2⟩).2]; exact ht⟩
  | pr p => exact p.loc _ _ _ _ hl hc
def bun {α : Type} (F : Nat → Prop) (f : α → List Ck) (P : α → Prop) : HP where
  foot := F
  ok o t := ∃ a, P a ∧ (∀ c ∈ f a, c.okf o t) ∧ (∀ i, F i ↔ ∃ c ∈ f a, c.foot i) ∧ (f a).Pairwise fun (x y : Ck) => ∀ i : Nat, ¬(x.foot i ∧ y.foot i)
  loc := fun o t o' t' h ⟨a, h1, h2, h3, h4⟩ => ⟨a, h1, fun c hc => Ck.okf_loc (fun i hi => h i ((h3 i).2 ⟨c, hc, hi⟩)) (h2 c hc), h3, h4⟩
theorem Sat.opn {α : Type} {F : Nat → Prop} {f : α → List Ck} {P : α → Prop} {R : List Ck} {h : Heap} (hs : Sat h (.pr (bun F f P) :: R)) : ∃ a, P a ∧ Sat h (f a ++ R) := by
  obtain ⟨a, h1, h2, h3, h4⟩ := (hs.ok _ (List.mem_cons_self ..)).1
  have hlt := (hs.ok _ (List.mem_cons_self ..)).2
  obtain ⟨s1, s2⟩ := List.pairwise_cons.1 hs.sep
  refine ⟨a, h1, hs.two, fun c hc => ?_, List.pairwise_append.2 ⟨h4, s2, fun x hx y hy i ⟨hi, hj⟩ => s1 y hy i ⟨(h3 i).2 ⟨x, hx, hi⟩, hj⟩⟩⟩
  rcases List.mem_append.1 hc with hc | hc
  · exact ⟨Ck.okf_ok.1 (h2 c hc), fun i hi => hlt i ((h3 i).2 ⟨c, hc, hi⟩)⟩
  · exact hs.ok c (List.mem_cons_of_mem _ hc)
theorem Sat.cls {α : Type} {F : Nat → Prop} {f : α → List Ck} {P : α → Prop} {R : List Ck} {h : Heap} {a : α} (hs : Sat h (f a ++ R)) (hp : P a) (hF : ∀ i, F i ↔ ∃ c ∈ f a, c.foot i) : Sat h (.pr (bun F f P) :: R) := by
  obtain ⟨s1, s2, s3⟩ := List.pairwise_append.1 hs.sep
  refine ⟨hs.two, fun c hc => ?_, List.pairwise_cons.2 ⟨fun y hy i ⟨hi, hj⟩ => ?_, s2⟩⟩
  · rcases List.mem_cons.1 hc with rfl | hc
    · refine ⟨⟨a, hp, fun c hc => Ck.okf_ok.2 (hs.ok c (List.mem_append_left _ hc)).1, hF, s1⟩, fun i hi => ?_⟩
      obtain ⟨c, hc, hi⟩ := (hF i).1 hi
      exact (hs.ok c (List.mem_append_left _ hc)).2 i hi
    · exact hs.ok c (List.mem_append_right _ hc)
  · obtain ⟨c, hc, hi⟩ := (hF i).1 hi
    exact s3 c hc y hy i ⟨hi, hj⟩
section
variable {D : DProg}
theorem Upd1.rem {c n : Ck} {cs cs2 : List Ck} (hu : Upd1 c n cs cs2) : ∃ R, cs.Perm (c :: R) ∧ cs2.Perm (n :: R) := by
  induction hu with
  | head => exact ⟨_, .refl _, .refl _⟩
  | @tail x r r' _ ih =>
    obtain ⟨R, h1, h2⟩ := ih
    exact ⟨x :: R, (h1.cons x).trans (.swap ..), (h2.cons x).trans (.swap ..)⟩
theorem Upd.rem {α : Type} {c : Ck} {n : α → Ck} {cs : List Ck} {cs2 : α → List Ck} (hu : Upd c n cs cs2) : ∃ R, cs.Perm (c :: R) ∧ ∀ a, (cs2 a).Perm (n a :: R) := by
  induction hu with
  | head => exact ⟨_, .refl _, fun _ => .refl _⟩
  | @tail x r r' _ ih =>
    obtain ⟨R, h1, h2⟩ := ih
    exact ⟨x :: R, (h1.cons x).trans (.swap ..), fun a => ((h2 a).cons x).trans (.swap ..)⟩
theorem Me.upd {c : Ck} {cs : List Ck} (hm : Me c cs) : Upd1 c c cs cs := by
  induction hm with
  | head => exact .head
  | tail _ ih => exact .tail ih
theorem F.at1 {f : Nat} {args : List DV} {c n : Ck} {cs cs2 : List Ck} {P : DV → Prop} (hu : Upd1 c n cs cs2) (hF : ∀ R, F D f args (c :: R) (fun v cs' => P v ∧ n :: R = cs')) : F D f args cs (fun v cs' => P v ∧ cs2 = cs') := by
  obtain ⟨R, h1, h2⟩ := hu.rem
  refine F.perm h1 (F.post (hF R) fun v cs' ⟨hp, he⟩ => ⟨cs2, ?_, hp, rfl⟩)
  subst he; exact h2.symm
theorem F.atM {f : Nat} {args : List DV} {c : Ck} {cs : List Ck} {P : DV → Prop} (hm : Me c cs) (hF : ∀ R, F D f args (c :: R) (fun v cs' => P v ∧ c :: R = cs')) : F D f args cs (fun v cs' => P v ∧ cs = cs') := F.at1 hm.upd hF
theorem F.pure {X : Prop} {f : Nat} {args : List DV} {cs : List Ck} {P : DV → List Ck → Prop} (hx : ∀ h, Sat h cs → X) (hF : X → F D f args cs P) : F D f args cs P := fun h hs => hF (hx h hs) h hs
theorem F.atA {α : Type} {f : Nat} {args : List DV} {c : Ck} {n : α → Ck} {cs : List Ck} {g : α → DV} (hm : Me c cs) (hF : ∀ R, F D f args (c :: R) (fun v cs' => Hold (∃ a, v = g a ∧ n a :: c :: R = cs'))) : F D f args cs (fun v cs' => Hold (∃ a, v = g a ∧ n a :: cs = cs')) := by
  obtain ⟨R, h1, h2⟩ := hm.upd.rem
  refine F.perm h1 (F.post (hF R) fun v cs' hq => ?_)
  obtain ⟨a, hp, he⟩ := hq.out
  subst he
  exact ⟨n a :: cs, (h1.symm).cons _, Hold.mk ⟨a, hp, rfl⟩⟩
theorem F.atG {α : Type} {f : Nat} {args : List DV} {c : Ck} {n : α → Ck} {cs : List Ck} {cs2 : α → List Ck} {P : α → DV → Prop} (hu : Upd c n cs cs2) (hF : ∀ R, F D f args (c :: R) (fun v cs' => Hold (∃ a, P a v ∧ n a :: R = cs'))) : F D f args cs (fun v cs' => Hold (∃ a, P a v ∧ cs2 a = cs')) := by
  obtain ⟨R, h1, h2⟩ := hu.rem
  refine F.perm h1 (F.post (hF R) fun v cs' hq => ?_)
  obtain ⟨a, hp, he⟩ := hq.out
  subst he
  exact ⟨cs2 a, (h2 a).symm, Hold.mk ⟨a, hp, rfl⟩⟩
theorem F.opn {α : Type} {F' : Nat → Prop} {f : α → List Ck} {P : α → Prop} {g : Nat} {args : List DV} {R : List Ck} {Q : DV → List Ck → Prop} (hF : ∀ a, P a → F D g args (f a ++ R) Q) : F D g args (.pr (bun F' f P) :: R) Q := fun h hs =>
  let ⟨a, hp, hs'⟩ := hs.opn; hF a hp h hs'
theorem RS.opn {α : Type} {F' : Nat → Prop} {f : α → List Ck} {P : α → Prop} {k : List It} {st : St} {R : List Ck} {Q : DX → St → List Ck → Prop} (hF : ∀ a, P a → RS D k st (f a ++ R) Q) : RS D k st (.pr (bun F' f P) :: R) Q := fun fr h ha hs =>
  let ⟨a, hp, hs'⟩ := hs.opn; hF a hp fr h ha hs'
theorem F.conv {f : Nat} {args : List DV} {cs : List Ck} {P P' : DV → List Ck → Prop} (hf : F D f args cs P) (hp : ∀ v cs', P v cs' → ∃ cs2, (∀ h, Sat h cs' → Sat h cs2) ∧ P' v cs2) : F D f args cs P' := fun h hs =>
  let ⟨v, h', cs', r1, r2, r3⟩ := hf h hs; let ⟨cs2, q1, q2⟩ := hp _ _ r3; ⟨v, h', cs2, r1, q1 _ r2, q2⟩
theorem F.from {f : Nat} {args : List DV} {cs cs2 : List Ck} {P : DV → List Ck → Prop} (hs : ∀ h, Sat h cs → Sat h cs2) (hf : F D f args cs2 P) : F D f args cs P := fun h hh => hf h (hs h hh)
theorem RS.from {k : List It} {st : St} {cs cs2 : List Ck} {Q : DX → St → List Ck → Prop} (hs : ∀ h, Sat h cs → Sat h cs2) (hr : RS D k st cs2 Q) : RS D k st cs Q := fun fr h ha hh => hr fr h ha (hs h hh)
end
theorem Pst.of {Q : List Ck → Prop} {cs cs' : List Ck} (hs : ∀ h, Sat h cs → Sat h cs') (hq : Q cs') : Pst Q cs := by unfold Pst; exact ⟨cs', hs, hq⟩

theorem Pst.nil {Q : List Ck → Prop} {cs : List Ck} (sz : Nat) (hq : Pst Q (.own 0 sz [] :: cs)) : Pst Q cs := by
  obtain ⟨cs', h1, h2⟩ := hq.out
  exact Pst.of (fun h hs => h1 h (hs.nilOwn sz)) h2

theorem LD.id {cs : List Ck} {sh : Shape} {a v : DV} (h : LD cs sh a v) : LD cs sh a v := h
theorem cut_one {cs : List DV} {off : Nat} {v : DV} (h : cs[off]? = some v) : (cut cs off 1).bind (mkv none) = some v := (LDv.one h).ok (sh := none)
def encA (a : List UInt8 × List UInt8) : DV := .agg [.str a.1, .str a.2]
end Go.Dm
namespace Go.Md
abbrev Str := List UInt8
end Go.Md
/- Trees: their model; a tree az a piece of a heap. -/
namespace Go.Md
structure Nd where
  kind : Int := 0
  space : Int := 0
  name : Str := []
  data : Str := []
  attrs : List (Str × Str) := []
  pub : Str := []
  sys : Str := []
  up : Int := 0
  kids : List Int := []
  inner : Int := 0
  deriving Inhabited
structure Dc where
  ns : List Nd
  q : Bool
  deriving Inhabited
namespace Dc
def nd (d : Dc) (i : Int) : Nd := d.ns.getD i.toNat default
def has (d : Dc) (i : Int) : Bool := decide (0 ≤ i) && decide (i < d.ns.length)
def kind (d : Dc) (i : Int) : Int := if d.has i then (d.nd i).kind else 0
def name (d : Dc) (i : Int) : Str := if d.kind i = 2 then (d.nd i).name else []
def is (d : Dc) (i : Int) (l : List Str) : Bool := decide (d.kind i = 2) && decide ((d.nd i).space = 0) && l.contains (d.nd i).name
def kids (d : Dc) (i : Int) : List Int := if d.has i then (d.nd i).kids else []
def upd (d : Dc) (i : Int) (f : Nd → Nd) : Dc := { d with ns := d.ns.modify i.toNat f }
def page : Nd := { kind := 1, up := -1, inner := -1 }
def new : Dc := ⟨[page], false⟩
def templateS : Str := [116, 101, 109, 112, 108, 97, 116, 101]
def add (d : Dc) (n : Nd) : Dc × Int :=
  if 20000 ≤ d.ns.length then (d, -1)
  else if n.kind = 2 ∧ n.space = 0 ∧ n.name = templateS then
    (if 20000 ≤ d.ns.length + 1 then (d, -1) else ({ d with ns := d.ns ++ [{ n with kids := [], up := -1, inner := d.ns.length + 1 }, page] }, d.ns.length))
  else ({ d with ns := d.ns ++ [{ n with kids := [], up := -1, inner := -1 }] }, d.ns.length)
end Dc
end Go.Md
namespace Go.Dm
set_option linter.unusedSimpArgs false
set_option linter.unusedVariables false
/-! ### pieces side by side az one -/
def BNp (l : List Ck) : HP where
  foot i := ∃ c ∈ l, c.foot i
  ok o t := (∀ c ∈ l, c.okf o t) ∧ l.Pairwise fun (x y : Ck) => ∀ i : Nat, ¬(x.foot i ∧ y.foot i)
  loc := fun o t o' t' h ⟨h1, h2⟩ => ⟨fun c hc => Ck.okf_loc (fun i hi => h i ⟨c, hc, hi⟩) (h1 c hc), h2⟩
def BN (l : List Ck) : Ck := .pr (BNp l)
theorem BN.opn {l R : List Ck} {h : Heap} (hs : Sat h (BN l :: R)) : Sat h (l ++ R) := by
  obtain ⟨h1, h2⟩ := (hs.ok _ (List.mem_cons_self ..)).1
  have hlt := (hs.ok _ (List.mem_cons_self ..)).2
  obtain ⟨s1, s2⟩ := List.pairwise_cons.1 hs.sep
  refine ⟨hs.two, fun c hc => ?_, List.pairwise_append.2 ⟨h2, s2, fun x hx y hy i ⟨hi, hj⟩ => s1 y hy i ⟨⟨x, hx, hi⟩, hj⟩⟩⟩
  rcases List.mem_append.1 hc with hc | hc
  · exact ⟨Ck.okf_ok.1 (h1 c hc), fun i hi => hlt i ⟨c, hc, hi⟩⟩
  · exact hs.ok c (List.mem_cons_of_mem _ hc)
theorem BN.cls {l R : List Ck} {h : Heap} (hs : Sat h (l ++ R)) : Sat h (BN l :: R) := by
  obtain ⟨s1, s2, s3⟩ := List.pairwise_append.1 hs.sep
  refine ⟨hs.two, fun c hc => ?_, List.pairwise_cons.2 ⟨fun y hy i ⟨⟨c, hc, hi⟩, hj⟩ => s3 c hc y hy i ⟨hi, hj⟩, s2⟩⟩
  rcases List.mem_cons.1 hc with rfl | hc
  · exact ⟨⟨fun c hc => Ck.okf_ok.2 (hs.ok c (List.mem_append_left _ hc)).1, s1⟩, fun i ⟨c, hc, hi⟩ => (hs.ok c (List.mem_append_left _ hc)).2 i hi⟩
  · exact hs.ok c (List.mem_append_right _ hc)
theorem BN.me {l cs : List Ck} {c : Ck} {h : Heap} (hs : Sat h cs) (hm : Me (BN l) cs) (hc : c ∈ l) : c.ok h := Ck.okf_ok.1 ((hs.ok _ hm.mem).1.1 c hc)
/-! ### a tree -/
def ndCells (n : Md.Nd) (h : Nat × Nat) : List DV := [.int .i64 n.kind, .int .i64 n.space, .str n.name, .str n.data, .lst h.1 (zOf h.1 2) (n.attrs.map encA), .str n.pub, .str n.sys, .int .i64 n.up, msV h.2 1 n.kids.length, .int .i64 n.inner]
def dcCells : List Md.Nd → (Nat → Nat × Nat) → Nat → List DV
  | [], _, _ => []
  | n :: r, f, i => ndCells n (f i) ++ dcCells r f (i + 1)
theorem dcCells_len : ∀ (l : List Md.Nd) (f : Nat → Nat × Nat) (i : Nat), (dcCells l f i).length = l.length * 10
  | [], _, _ => rfl
  | n :: r, f, i => by rw [dcCells, List.length_append, dcCells_len r f (i + 1), List.length_cons]; show 10 + _ = _; omega
theorem dcCells_at {f : Nat → Nat × Nat} : ∀ {l : List Md.Nd} {i j : Nat}, j < l.length → (dcCells l f i).drop (j * 10) = ndCells (l.getD j default) (f (i + j)) ++ (dcCells l f i).drop (j * 10 + 10)
  | [], _, _, h => absurd h (Nat.not_lt_zero _)
  | n :: r, i, 0, _ => by
    rw [Nat.zero_mul, List.drop_zero, Nat.zero_add, dcCells]
    show _ = _ ++ List.drop (ndCells n (f i)).length _
    rw [List.drop_left]; rfl
  | n :: r, i, j + 1, h => by
    have ih := dcCells_at (f := f) (l := r) (i := i + 1) (j := j) (by simpa using h)
    have e : ∀ m, (dcCells (n :: r) f i).drop (m + 10) = (dcCells r f (i + 1)).drop m := fun m => by
      rw [dcCells, Nat.add_comm, ← List.drop_drop]
      show List.drop m (List.drop (ndCells n (f i)).length _) = _
      rw [List.drop_left]
    rw [show (j + 1) * 10 = j * 10 + 10 by omega, e, show j * 10 + 10 + 10 = (j * 10 + 10) + 10 by omega, e, ih, show i + 1 + j = i + (j + 1) by omega]; rfl
theorem dcCells_app {f : Nat → Nat × Nat} : ∀ {l m : List Md.Nd} {i : Nat}, dcCells (l ++ m) f i = dcCells l f i ++ dcCells m f (i + l.length)
  | [], m, i => rfl
  | n :: r, m, i => by rw [List.cons_append, dcCells, dcCells_app (l := r), dcCells, List.append_assoc, List.length_cons, show i + 1 + r.length = i + (r.length + 1) by omega]
abbrev I64s (l : List Int) : List DV := l.map I64
def kidsP (n : Nat) (kp : Nat → Nat × List Int) : List Ck := (List.range n).map fun i => MS (kp i).1 none (I64s (kp i).2)
def dcP (id : Nat) (d : Md.Dc) (g : Nat × (Nat → Nat × Nat)) (kp : Nat → Nat × List Int) : List Ck :=
  .obj id (.cells [msV g.1 10 d.ns.length, .bool d.q] none) :: MS g.1 (some 10) (dcCells d.ns g.2 0) :: kidsP d.ns.length kp
abbrev dcK (d : Md.Dc) (g : Nat × (Nat → Nat × Nat)) : Nat → Nat × List Int := fun i => ((g.2 i).2, (d.ns.getD i default).kids)
/-- A tree, of which a node's kids may lie elsewhere. -/
@[irreducible] def TDg (id : Nat) (d : Md.Dc) (g : Nat × (Nat → Nat × Nat)) (kp : Nat → Nat × List Int) : Ck := BN (dcP id d g kp)
abbrev TD (id : Nat) (d : Md.Dc) (g : Nat × (Nat → Nat × Nat)) : Ck := TDg id d g (dcK d g)
section
variable {id : Nat} {d : Md.Dc} {g : Nat × (Nat → Nat × Nat)} {kp : Nat → Nat × List Int} {cs R : List Ck} {h : Heap}
theorem TDg.opn (hs : Sat h (TDg id d g kp :: R)) : Sat h (dcP id d g kp ++ R) := by unfold TDg at hs; exact BN.opn hs
theorem TDg.cls (hs : Sat h (dcP id d g kp ++ R)) : Sat h (TDg id d g kp :: R) := by unfold TDg; exact BN.cls hs
theorem TDg.obj (hs : Sat h cs) (hm : Me (TDg id d g kp) cs) : h.objs.get id = some (.cells [msV g.1 10 d.ns.length, .bool d.q] none) := by
  unfold TDg at hm; exact BN.me hs hm (c := .obj id _) (by simp [dcP])
theorem TDg.nodes (hs : Sat h cs) (hm : Me (TDg id d g kp) cs) : (g.1 = 0 ∧ dcCells d.ns g.2 0 = []) ∨ (g.1 ≠ 0 ∧ ∃ j, h.objs.get g.1 = some (.cells (dcCells d.ns g.2 0 ++ j) (some 10))) := by
  unfold TDg at hm; exact BN.me hs hm (c := MS g.1 (some 10) _) (by simp [dcP])
theorem TDg.kid (hs : Sat h cs) (hm : Me (TDg id d g kp) cs) {i : Nat} (hi : i < d.ns.length) : ((kp i).1 = 0 ∧ I64s (kp i).2 = []) ∨ ((kp i).1 ≠ 0 ∧ ∃ j, h.objs.get (kp i).1 = some (.cells (I64s (kp i).2 ++ j) none)) := by
  unfold TDg at hm
  exact BN.me hs hm (c := MS (kp i).1 none (I64s (kp i).2)) (by simp only [dcP, kidsP]; exact List.mem_cons_of_mem _ (List.mem_cons_of_mem _ (List.mem_map.2 ⟨i, List.mem_range.2 hi, rfl⟩)))
/-- The tree's two cells. -/
theorem TDg.ldN (hm : Me (TDg id d g kp) cs) : LD cs none (.ptr id 0) (msV g.1 10 d.ns.length) := .sem fun h hs => by
  simp only [loadD, TDg.obj hs hm]
  rfl
theorem TDg.ldQ (hm : Me (TDg id d g kp) cs) : LD cs none (.ptr id 1) (.bool d.q) := .sem fun h hs => by
  simp only [loadD, TDg.obj hs hm]; rfl
/-- A node's field. -/
theorem TDg.ldF {i k : Nat} {v : DV} (hm : Me (TDg id d g kp) cs) (hi : i < d.ns.length) (hv : (ndCells (d.ns.getD i default) (g.2 i))[k]? = some v) : LD cs none (.ptr g.1 (i * 10 + k)) v := .sem fun h hs => by
  have hk : k < 10 := (List.getElem?_eq_some_iff.1 hv).1
  have hl := dcCells_len d.ns g.2 0
  rcases TDg.nodes hs hm with ⟨_, e⟩ | ⟨_, j, e⟩
  · rw [e] at hl; simp at hl; omega
  · simp only [loadD, e]
    refine cut_one ?_
    rw [List.getElem?_append_left (by omega), ← List.getElem?_drop, dcCells_at hi, Nat.zero_add]
    rw [List.getElem?_append_left (by exact hk)]; exact hv
theorem TDg.ldR {i : Nat} (hm : Me (TDg id d g kp) cs) (hi : i < d.ns.length) : LD cs (some 10) (.ptr g.1 (i * 10)) (.agg (ndCells (d.ns.getD i default) (g.2 i))) := .sem fun h hs => by
  have hl := dcCells_len d.ns g.2 0
  rcases TDg.nodes hs hm with ⟨_, e⟩ | ⟨_, j, e⟩
  · rw [e] at hl; simp at hl; omega
  · have hc : cut (dcCells d.ns g.2 0 ++ j) (i * 10) 10 = some (ndCells (d.ns.getD i default) (g.2 i)) := by
      refine cut_app ?_
      unfold cut
      rw [if_pos (by omega), dcCells_at hi, Nat.zero_add]
      show some (List.take (ndCells (d.ns.getD i default) (g.2 i)).length _) = _
      rw [List.take_left]
    simp only [loadD, e]
    show (cut _ (i * 10) 10).bind _ = _
    rw [hc]; rfl
theorem TDg.nz (hm : Me (TDg id d g kp) cs) : NZ cs g.1 d.ns.length := fun h hs hn => by
  rcases TDg.nodes hs hm with ⟨_, e⟩ | ⟨h0, _⟩
  · have := dcCells_len d.ns g.2 0; rw [e] at this; simp at this; omega
  · exact h0
theorem group_one : ∀ (l : List DV), (∀ x ∈ l, x.cells = [x]) → group none l.length l = l
  | [], _ => rfl
  | x :: l, h => by
    show ((mkv none ((x :: l).take 1)).getD .undef) :: group none l.length ((x :: l).drop 1) = _
    rw [List.drop_succ_cons, List.drop_zero, group_one l (fun y hy => h y (by simp [hy]))]; rfl
theorem group_I (l : List Int) : group none l.length (I64s l) = I64s l := by
  have := group_one (I64s l) (fun x hx => by obtain ⟨_, _, rfl⟩ := List.mem_map.1 hx; rfl)
  rwa [List.length_map] at this
theorem flat_one : ∀ (l : List DV), (∀ x ∈ l, x.cells = [x]) → flat l = l
  | [], _ => rfl
  | x :: l, h => by
    have := flat_one l (fun y hy => h y (by simp [hy]))
    unfold flat at *
    rw [List.flatMap_cons, this, h x (by simp)]; rfl
theorem flat_I (l : List Int) : flat (I64s l) = I64s l := flat_one _ (fun x hx => by obtain ⟨_, _, rfl⟩ := List.mem_map.1 hx; rfl)
theorem elems_I {h : Heap} {k : Nat} {l : List Int} (hk : (k = 0 ∧ I64s l = []) ∨ (k ≠ 0 ∧ ∃ j, h.objs.get k = some (.cells (I64s l ++ j) none))) : elems h none (msV k 1 l.length) = some (I64s l) := by
  rcases hk with ⟨rfl, e⟩ | ⟨h0, j, e⟩
  · have : l = [] := by cases l with
      | nil => rfl
      | cons a l => cases e
    subst this; rfl
  · rw [msV_pos h0]
    have hcut : cut (I64s l ++ j) 0 (l.length * Shape.size none) = some (I64s l) := by
      refine cut_app ?_
      have hl : (I64s l).length = l.length := List.length_map ..
      unfold cut; rw [if_pos (by rw [hl]; show 0 + l.length * 1 ≤ _; omega), List.drop_zero, show l.length * Shape.size none = (I64s l).length by rw [hl]; exact Nat.mul_one _, List.take_length]
    simp only [elems, e, hcut, Option.map_some]
    rw [if_pos ⟨trivial, rfl⟩, group_I]
theorem TDg.emK (hm : Me (TDg id d g kp) cs) {i : Nat} (hi : i < d.ns.length) : EM cs none (msV (kp i).1 1 (kp i).2.length) (I64s (kp i).2) := .sem fun h hs => elems_I (TDg.kid hs hm hi)
theorem MS.emI {k : Nat} {l : List Int} (hm : Me (MS k none (I64s l)) cs) : EM cs none (msV k 1 l.length) (I64s l) := .sem fun h hs => elems_I (MS.get hs hm)
/-- Of such a slice a number. -/
theorem MS.ldI {k i off : Nat} {l : List Int} (hm : Me (MS k none (I64s l)) cs) (hi : i < l.length) (ho : off = i) : LD cs none (.ptr k off) (.int .i64 (l.getD i 0)) := by
  subst ho
  refine MS.ld hm (by rw [List.length_map]; exact hi) (cut_one ?_)
  rw [List.getElem?_map, List.getElem?_eq_getElem hi, List.getD_eq_getElem?_getD, List.getElem?_eq_getElem hi]; rfl
theorem TDg.k0 (hm : Me (TDg id d g kp) cs) : ∀ h, Sat h cs → ∀ i, i < d.ns.length → (kp i).1 = 0 → (kp i).2 = [] := fun h hs i hi h0 => by
  rcases TDg.kid hs hm hi with ⟨_, e⟩ | ⟨h1, _⟩
  · exact List.map_eq_nil_iff.1 e
  · exact absurd h0 h1
variable {D : DProg} {k : List It} {nt : Nat} {es : List En} {ds : List DDef} {ir : Option Nat} {Q : DX → St → List Ck → Prop} {os : List ROp} {c : List (Opd × Shape × Nat × Option (Nat × Bool))} {o : Option Nat}
theorem RR.apI {b a : Nat} {x y : Opd} {yv : DV} {l m : List Int} {cs' : Nat → List Ck} (h1 : lo D es [] x = some (msV a 1 l.length)) (h2 : lo D es [] y = some yv) (he : EM cs none yv (I64s m)) (hu : Upd (MS a none (I64s l)) (fun a => MS a none (I64s (l ++ m))) cs cs')
    (hb : Nat.ble 1 b = true) (hl : Arith ((l.length + m.length) * b ≤ 140737488355328)) (hd : dstOk nt o = true) (hr : ∀ a', RR D (.chk c :: .ops os :: k) (St.putO ⟨nt, es, ds, ir⟩ o (msV a' 1 (l ++ m).length)) (cs' a') Q) :
    RR D (.ops (⟨o, .append true none b x y, none, c⟩ :: os) :: k) ⟨nt, es, ds, ir⟩ cs Q := by
  refine RR.ap (sh := none) (n := l.length) (c0 := I64s l) h1 h2 he (by rw [flat_I]; simp only [I64s, ← List.map_append]; exact hu) (Arith.mk ⟨by rw [List.length_map]; exact (Nat.mul_one _).symm, by decide⟩) hb (by rw [List.length_map]; exact hl) hd fun a' => ?_
  have := hr a'
  rw [List.length_append] at this
  rw [List.length_map]; exact this
theorem RR.mm0 {zero : DV} (hd : dstOk nt o = true) (hr : ∀ a, a ≠ 0 → RR D (.chk c :: .ops os :: k) (St.putO ⟨nt, es, ds, ir⟩ o (msV a 1 ([] : List Int).length)) (MS a none (I64s []) :: cs) Q) : RR D (.ops (⟨o, .mks true none zero 0 [], none, c⟩ :: os) :: k) ⟨nt, es, ds, ir⟩ cs Q :=
  RR.mm (sh := none) (vs := []) .nil rfl rfl hd hr
theorem RR.mm1 {zero : DV} {x : Opd} {n : Int} (h1 : lo D es [] x = some (.int .i64 n)) (hd : dstOk nt o = true) (hr : ∀ a, a ≠ 0 → RR D (.chk c :: .ops os :: k) (St.putO ⟨nt, es, ds, ir⟩ o (msV a 1 [n].length)) (MS a none (I64s [n]) :: cs) Q) : RR D (.ops (⟨o, .mks true none zero 1 [(0, x)], none, c⟩ :: os) :: k) ⟨nt, es, ds, ir⟩ cs Q :=
  RR.mm (sh := none) (vs := [.int .i64 n]) (.cons h1 .int .nil) rfl rfl hd hr
end
end Go.Dm
/- Trees: what is looked at. -/
namespace Go.Proofs.YtfgghapmgdgaeaaGreatDoor.Code
open Go.Dm
set_option linter.unusedSimpArgs false
set_option linter.unusedVariables false
set_option linter.unnecessarySimpa false
set_option maxRecDepth 10000
attribute [local irreducible] Go.Dm.F Go.Dm.RS Go.Dm.Y Go.Dm.FD Go.Dm.FZ1 Go.Dm.Hold
variable {id : Nat} {d : Md.Dc} {g : Nat × (Nat → Nat × Nat)} {kp : Nat → Nat × List Int} {cs R : List Ck} {n : Int}
theorem has_iff : d.has n = true ↔ 0 ≤ n ∧ n < d.ns.length := by simp [Md.Dc.has]
theorem kind_in (h : 0 ≤ n ∧ n < d.ns.length) : d.kind n = (d.ns.getD n.toNat default).kind := by rw [Md.Dc.kind, if_pos (has_iff.2 h)]; rfl
theorem kind_out (h : ¬0 ≤ n ∨ ¬n < d.ns.length) : d.kind n = 0 := by rw [Md.Dc.kind, if_neg (by rw [has_iff]; omega)]
theorem kids_in (h : 0 ≤ n ∧ n < d.ns.length) : d.kids n = (d.ns.getD n.toNat default).kids := by rw [Md.Dc.kids, if_pos (has_iff.2 h)]; rfl
theorem kids_out (h : ¬0 ≤ n ∨ ¬n < d.ns.length) : d.kids n = [] := by rw [Md.Dc.kids, if_neg (by rw [has_iff]; omega)]
theorem in_F (hm : Me (TDg id d g kp) cs) : F D 21 [.ptr id 0, .int .i64 n] cs (fun v cs' => v = .bool (d.has n) ∧ cs = cs') := by
  refine F.atM hm fun R => ?_
  apply F.nu rfl rfl; (refine (?_ : EE _ _) ?_; rotate_left; (conv => lhs; cbv; (try simp only [Int.reduceNegSucc, Int.ofNat_eq_natCast, Int.cast_ofNat_Int])); rotate_right; exact fun _ => rfl); rfl
  repeat' first | (apply RR.lg; exact rfl; exact rfl; (intro hp; (try simp only [Bool.and_eq_true, Bool.or_eq_true, Bool.not_eq_true', decide_eq_true_eq, decide_eq_false_iff_not, Bool.and_true, Bool.true_and, and_true, true_and, eqB, beq_iff_eq, Int.ofNat_eq_natCast, Bool.false_eq_true, or_false, false_or] at hp); first | exact TDg.ldN kk | exact TDg.ldF kk (by omega) rfl | exact TDg.ldR kk (by omega) | exact TDg.ldQ kk | exact MS.ldI kk (by omega) (by omega))) | exact ar | (apply RR.rd; (refine (?_ : EE _ _) ?_; rotate_left; (conv => lhs; cbv; (try simp only [Int.reduceNegSucc, Int.ofNat_eq_natCast, Int.cast_ofNat_Int])); rotate_right; exact fun _ => rfl)) | apply RR.mm0 | apply RR.mm1 | apply RR.cd | apply RR.cl | apply RR.cz | (apply RR.ln; exact rfl; exact rfl) | (apply RR.ia; exact rfl; exact rfl; exact rfl) | (show NZ _ _ _; first | exact TDg.nz kk | exact MS.nzI kk) | apply Pst.e | (refine Pst.x kk ?_) | constructor | intro _
theorem kind_F (hm : Me (TDg id d g kp) cs) : F D 24 [.ptr id 0, .int .i64 n] cs (fun v cs' => v = .int .i64 (d.kind n) ∧ cs = cs') := by
  refine F.atM hm fun R => ?_
  apply F.nu rfl rfl; (refine (?_ : EE _ _) ?_; rotate_left; (conv => lhs; cbv; (try simp only [Int.reduceNegSucc, Int.ofNat_eq_natCast, Int.cast_ofNat_Int])); rotate_right; exact fun _ => rfl); rfl
  repeat' first | exact in_F kk | (apply RR.lg; exact rfl; exact rfl; (intro hp; (try simp only [Bool.and_eq_true, Bool.or_eq_true, Bool.not_eq_true', decide_eq_true_eq, decide_eq_false_iff_not, Bool.and_true, Bool.true_and, and_true, true_and, eqB, beq_iff_eq, Int.ofNat_eq_natCast, Bool.false_eq_true, or_false, false_or] at hp); first | exact TDg.ldN kk | exact TDg.ldF kk (by omega) rfl | exact TDg.ldR kk (by omega) | exact TDg.ldQ kk | exact MS.ldI kk (by omega) (by omega))) | exact ar | (apply RR.rd; (refine (?_ : EE _ _) ?_; rotate_left; (conv => lhs; cbv; (try simp only [Int.reduceNegSucc, Int.ofNat_eq_natCast, Int.cast_ofNat_Int])); rotate_right; exact fun _ => rfl)) | apply RR.mm0 | apply RR.mm1 | apply RR.cd | apply RR.cl | apply RR.cz | (apply RR.ln; exact rfl; exact rfl) | (apply RR.ia; exact rfl; exact rfl; exact rfl) | (show NZ _ _ _; first | exact TDg.nz kk | exact MS.nzI kk) | apply Pst.e | (refine Pst.x kk ?_) | constructor | intro _
  · rename_i h; rw [kind_out h]
  · rename_i h; rw [kind_in h]
theorem cloneI_F {k : Nat} {l : List Int} (he : EM cs none (msV k 1 l.length) (I64s l)) (h0 : k = 0 → l = []) (hl : l.length ≤ 1000000000) : F D 61 [msV k 1 l.length] cs (fun v cs' => Hold (∃ a, v = msV a 1 l.length ∧ MS a none (I64s l) :: cs = cs')) := by
  apply F.nu rfl rfl; (refine (?_ : EE _ _) ?_; rotate_left; (conv => lhs; cbv; (try simp only [Int.reduceNegSucc, Int.ofNat_eq_natCast, Int.cast_ofNat_Int])); rotate_right; exact fun _ => rfl); rfl
  repeat' first | (apply RR.nl; exact rfl; exact rfl; exact rfl) | (apply RR.apI; exact rfl; exact rfl; (show EM _ _ _ _; exact he.tail)) | exact ar | (apply RR.rd; (refine (?_ : EE _ _) ?_; rotate_left; (conv => lhs; cbv; (try simp only [Int.reduceNegSucc, Int.ofNat_eq_natCast, Int.cast_ofNat_Int])); rotate_right; exact fun _ => rfl)) | apply RR.mm0 | apply RR.mm1 | apply RR.cd | apply RR.cl | apply RR.cz | (apply RR.ln; exact rfl; exact rfl) | (apply RR.ia; exact rfl; exact rfl; exact rfl) | (show NZ _ _ _; first | exact TDg.nz kk | exact MS.nzI kk) | apply Pst.e | (refine Pst.x kk ?_) | constructor | intro _
  rename_i hk
  obtain rfl := h0 hk
  exact Pst.nm none (Pst.x kk rfl)
/-! ### names -/
theorem kids_F (hm : Me (TD id d g) cs) (hl : ∀ i, (d.ns.getD i default).kids.length ≤ 1000000000) : F D 41 [.ptr id 0, .int .i64 n] cs (fun v cs' => Hold (∃ a, v = msV a 1 (d.kids n).length ∧ MS a none (I64s (d.kids n)) :: cs = cs')) := by
  refine F.atA hm fun R => F.pure (TDg.k0 .head) fun hk0 => ?_
  apply F.nu rfl rfl; (refine (?_ : EE _ _) ?_; rotate_left; (conv => lhs; cbv; (try simp only [Int.reduceNegSucc, Int.ofNat_eq_natCast, Int.cast_ofNat_Int])); rotate_right; exact fun _ => rfl); rfl
  repeat' first | exact in_F kk | exact cloneI_F (TDg.emK (kp := dcK d g) (i := n.toNat) kk (by omega)) (hk0 n.toNat (by omega)) (hl _) | (apply RR.lg; exact rfl; exact rfl; (intro hp; (try simp only [Bool.and_eq_true, Bool.or_eq_true, Bool.not_eq_true', decide_eq_true_eq, decide_eq_false_iff_not, Bool.and_true, Bool.true_and, and_true, true_and, eqB, beq_iff_eq, Int.ofNat_eq_natCast, Bool.false_eq_true, or_false, false_or] at hp); first | exact TDg.ldN kk | exact TDg.ldF kk (by omega) rfl | exact TDg.ldR kk (by omega) | exact TDg.ldQ kk | exact MS.ldI kk (by omega) (by omega))) | exact ar | (apply RR.rd; (refine (?_ : EE _ _) ?_; rotate_left; (conv => lhs; cbv; (try simp only [Int.reduceNegSucc, Int.ofNat_eq_natCast, Int.cast_ofNat_Int])); rotate_right; exact fun _ => rfl)) | apply RR.mm0 | apply RR.mm1 | apply RR.cd | apply RR.cl | apply RR.cz | (apply RR.ln; exact rfl; exact rfl) | (apply RR.ia; exact rfl; exact rfl; exact rfl) | (show NZ _ _ _; first | exact TDg.nz kk | exact MS.nzI kk) | apply Pst.e | (refine Pst.x kk ?_) | constructor | intro _
  · rename_i h; rw [kids_out h]; exact Pst.nm none (Pst.x kk rfl)
  · rename_i h a; rw [kids_in h]; exact Pst.x kk rfl
end Go.Proofs.YtfgghapmgdgaeaaGreatDoor.Code
/- Trees: their pieces apart; what is written into them. -/
namespace Go.Md.Dc
theorem upd_len (d : Dc) (i : Int) (f : Nd → Nd) : (d.upd i f).ns.length = d.ns.length := by simp [upd]
theorem upd_get (d : Dc) (i : Int) (f : Nd → Nd) (j : Nat) (hj : j < d.ns.length) : (d.upd i f).ns.getD j default = if i.toNat = j then f (d.ns.getD j default) else d.ns.getD j default := by
  simp only [upd, List.getD_eq_getElem?_getD, List.getElem?_modify, List.getElem?_eq_getElem hj, Option.map_some, Option.getD_some]
  split <;> rfl
end Go.Md.Dc
namespace Go.Dm
set_option linter.unusedSimpArgs false
set_option linter.unusedVariables false
/-- At one place another value. -/
def at1 {α : Type} (f : Nat → α) (i : Nat) (x : α) : Nat → α := fun j => if j = i then x else f j
theorem at1_self {α : Type} {f : Nat → α} {i : Nat} {x : α} : at1 f i x i = x := if_pos rfl
theorem at1_ne {α : Type} {f : Nat → α} {i j : Nat} {x : α} (h : j ≠ i) : at1 f i x j = f j := if_neg h
theorem at1_at1 {α : Type} {f : Nat → α} {i : Nat} {x y : α} : at1 (at1 f i x) i y = at1 f i y := funext fun j => by unfold at1; split <;> rfl
theorem kidsP_cong {n : Nat} {kp kp' : Nat → Nat × List Int} (h : ∀ i, i < n → kp i = kp' i) : kidsP n kp = kidsP n kp' := List.map_congr_left fun i hi => by rw [h i (List.mem_range.1 hi)]
theorem kidsP_succ {n : Nat} {kp : Nat → Nat × List Int} : kidsP (n + 1) kp = kidsP n kp ++ [MS (kp n).1 none (I64s (kp n).2)] := by simp [kidsP, List.range_succ]
/-- The kids of one node ahead. -/
theorem kidsP_perm {kp : Nat → Nat × List Int} {i : Nat} {x : Nat × List Int} : ∀ {n : Nat}, i < n → ∃ A, (kidsP n kp).Perm (MS (kp i).1 none (I64s (kp i).2) :: A) ∧ (kidsP n (at1 kp i x)).Perm (MS x.1 none (I64s x.2) :: A)
  | 0, h => absurd h (Nat.not_lt_zero _)
  | n + 1, h => by
    by_cases hi : i = n
    · subst hi
      refine ⟨kidsP i kp, ?_, ?_⟩
      · rw [kidsP_succ]; exact List.perm_append_singleton ..
      · rw [kidsP_succ, at1_self, kidsP_cong (kp' := kp) fun j hj => at1_ne (by omega)]; exact List.perm_append_singleton ..
    · obtain ⟨A, h1, h2⟩ := kidsP_perm (kp := kp) (x := x) (n := n) (i := i) (by omega)
      refine ⟨A ++ [MS (kp n).1 none (I64s (kp n).2)], ?_, ?_⟩
      · rw [kidsP_succ]; exact h1.append_right _
      · rw [kidsP_succ, at1_ne (Ne.symm hi)]; exact h2.append_right _
section
variable {id : Nat} {d : Md.Dc} {g : Nat × (Nat → Nat × Nat)} {kp : Nat → Nat × List Int} {cs R : List Ck} {h : Heap}
theorem TDg.cong {kp' : Nat → Nat × List Int} (he : ∀ i, i < d.ns.length → kp i = kp' i) : TDg id d g kp = TDg id d g kp' := by unfold TDg dcP; rw [kidsP_cong he]
theorem dcCells_eq {f f' : Nat → Nat × Nat} : ∀ {l l' : List Md.Nd} {i : Nat}, l'.length = l.length → (∀ m, m < l'.length → ndCells (l'.getD m default) (f' (i + m)) = ndCells (l.getD m default) (f (i + m))) → dcCells l' f' i = dcCells l f i
  | [], [], _, _, _ => rfl
  | [], _ :: _, _, h, _ => by cases h
  | _ :: _, [], _, h, _ => by cases h
  | n :: r, n' :: r', i, hl, he => by
    have h0 := he 0 (by simp)
    simp only [List.getD_cons_zero, Nat.add_zero] at h0
    rw [dcCells, dcCells, h0, dcCells_eq (l := r) (l' := r') (by simpa using hl) fun m hm => by
      have := he (m + 1) (by simpa using hm)
      rw [show i + 1 + m = i + (m + 1) by omega]; exact this]
theorem dcP_perm {i : Nat} {x : Nat × List Int} (hi : i < d.ns.length) : ∃ A, (dcP id d g kp).Perm (MS (kp i).1 none (I64s (kp i).2) :: A) ∧ (dcP id d g (at1 kp i x)).Perm (MS x.1 none (I64s x.2) :: A) := by
  obtain ⟨A, h1, h2⟩ := kidsP_perm (kp := kp) (x := x) hi
  exact ⟨_, ((h1.cons _).cons _).trans (((List.Perm.swap ..).cons _).trans (.swap ..)), ((h2.cons _).cons _).trans (((List.Perm.swap ..).cons _).trans (.swap ..))⟩
theorem TDg.take {i : Nat} (hi : i < d.ns.length) (hs : Sat h (TDg id d g kp :: R)) : Sat h (MS (kp i).1 none (I64s (kp i).2) :: TDg id d g (at1 kp i (0, [])) :: R) := by
  obtain ⟨A, h1, h2⟩ := dcP_perm (id := id) (d := d) (g := g) (kp := kp) (x := (0, [])) hi
  have hs2 := (TDg.opn hs).perm (h1.append_right R)
  refine (TDg.cls (R := MS (kp i).1 none (I64s (kp i).2) :: R) ((hs2.nilMS none).perm ?_)).perm (.swap ..)
  exact (List.Perm.swap ..).trans ((((h2.symm).append_right R).cons _).trans List.perm_middle.symm)
theorem TDg.give {i a : Nat} {l : List Int} {x : Nat × List Int} (hi : i < d.ns.length) (hs : Sat h (MS a none (I64s l) :: TDg id d g (at1 kp i x) :: R)) : Sat h (TDg id d g (at1 kp i (a, l)) :: R) := by
  obtain ⟨A, h1, h2⟩ := dcP_perm (id := id) (d := d) (g := g) (kp := at1 kp i x) (x := (a, l)) hi
  rw [at1_at1] at h2
  have hs2 := (TDg.opn (R := MS a none (I64s l) :: R) (hs.perm (.swap ..))).perm (h1.append_right _)
  refine TDg.cls (((hs2.sub (List.sublist_cons_self _ _)).perm List.perm_middle).perm ?_)
  exact (h2.symm).append_right R
/-- One cell of a list of nodes' cells. -/
theorem dcCells_set {f f' : Nat → Nat × Nat} {v : DV} {k : Nat} (hk : k < 10) : ∀ {l l' : List Md.Nd} {i j : Nat}, l'.length = l.length → j < l.length → (∀ m, m < l.length → ndCells (l'.getD m default) (f' (i + m)) = if m = j then (ndCells (l.getD m default) (f (i + m))).set k v else ndCells (l.getD m default) (f (i + m))) → dcCells l' f' i = (dcCells l f i).set (j * 10 + k) v
  | [], _, _, _, _, h, _ => absurd h (Nat.not_lt_zero _)
  | n :: r, [], _, _, h, _, _ => by cases h
  | n :: r, n' :: r', i, j, hl, hj, he => by
    have h0 := he 0 (by simp)
    have hr : ∀ m, m < r.length → ndCells (r'.getD m default) (f' (i + 1 + m)) = if m + 1 = j then (ndCells (r.getD m default) (f (i + 1 + m))).set k v else ndCells (r.getD m default) (f (i + 1 + m)) := fun m hm => by
      have := he (m + 1) (by simpa using hm)
      rw [show i + 1 + m = i + (m + 1) by omega]; exact this
    rw [dcCells, dcCells]
    have h10 : ∀ (n : Md.Nd) x, (ndCells n x).length = 10 := fun _ _ => rfl
    simp only [List.getD_cons_zero, Nat.add_zero] at h0
    cases j with
    | zero =>
      rw [h0, if_pos rfl, List.set_append_left _ _ (by rw [h10]; omega), Nat.zero_mul, Nat.zero_add]
      congr 1
      refine dcCells_eq (by simpa using hl) fun m hm => ?_
      rw [hr m (by simp only [List.length_cons] at hl; omega), if_neg (by omega)]
    | succ j =>
      rw [h0, if_neg (by omega), List.set_append_right _ _ (by rw [h10]; omega), h10, show (j + 1) * 10 + k - 10 = j * 10 + k by omega]
      congr 1
      exact dcCells_set hk (by simpa using hl) (by simpa using hj) fun m hm => by
        rw [hr m hm]; simp only [Nat.add_right_cancel_iff]
theorem TDg.st {i k off : Nat} {v : DV} {d' : Md.Dc} {g' : Nat → Nat × Nat} {cs' : List Ck} (hu : Upd1 (TDg id d g kp) (TDg id d' (g.1, g') kp) cs cs') (hi : i < d.ns.length) (hk : k < 10) (ho : off = i * 10 + k) (hl : d'.ns.length = d.ns.length) (hq : d'.q = d.q)
    (hc : ∀ m, m < d.ns.length → ndCells (d'.ns.getD m default) (g' m) = if m = i then (ndCells (d.ns.getD m default) (g.2 m)).set k v else ndCells (d.ns.getD m default) (g.2 m)) (hv : v.cells = [v] ∧ v.okv = true) : StS cs 1 g.1 off v cs' := ⟨fun h hs => by
  subst ho
  obtain ⟨R, h1, h2⟩ := hu.rem
  have hs1 := TDg.opn (hs.perm h1)
  have hcell := dcCells_set (f := g.2) (f' := g') (v := v) hk (l := d.ns) (l' := d'.ns) (i := 0) hl hi (fun m hm => by simp only [Nat.zero_add]; exact hc m hm)
  have hlen := dcCells_len d.ns g.2 0
  have how : overwrite (dcCells d.ns g.2 0) (i * 10 + k) v.cells = dcCells d'.ns g' 0 := by
    rw [hcell, hv.1]; unfold overwrite
    rw [List.set_eq_take_append_cons_drop, if_pos (by rw [hlen]; omega)]
    simp
  obtain ⟨h', e1, e2⟩ := (MS.st (k := g.1) (off := i * 10 + k) (n := 1) (sh := some 10) (c := dcCells d.ns g.2 0) (v := v) (.tail .head) ⟨by rw [hv.1]; rfl, hv.2⟩ (by decide) (by rw [hlen]; omega) : StS (dcP id d g kp ++ R) 1 g.1 (i * 10 + k) v _).ok h hs1
  refine ⟨h', e1, Sat.perm (TDg.cls ?_) h2.symm⟩
  rw [how] at e2
  unfold dcP
  rw [hl, hq]; exact e2⟩
/-- One node more. -/
theorem TDg.push {a ha : Nat} {n : Md.Nd} {q : Bool} (hk : n.kids = []) (hs : Sat h (.obj id (.cells [msV a 10 (d.ns.length + 1), .bool d.q] none) :: MS a (some 10) (dcCells d.ns g.2 0 ++ ndCells n (ha, 0)) :: (kidsP d.ns.length (dcK d g) ++ R))) :
    Sat h (TD id ⟨d.ns ++ [n], d.q⟩ (a, at1 g.2 d.ns.length (ha, 0)) :: R) := by
  refine TDg.cls ((hs.nilMS none).perm ?_)
  have hlen : (d.ns ++ [n]).length = d.ns.length + 1 := by simp
  have hat : ∀ (f : Nat → Nat × Nat) (l : List Md.Nd) (i m : Nat) (x : Nat × Nat), i + l.length ≤ m → dcCells l (at1 f m x) i = dcCells l f i := fun f l i m x hm =>
    dcCells_eq rfl fun j hj => by rw [at1_ne (by omega)]
  have hc : dcCells (d.ns ++ [n]) (at1 g.2 d.ns.length (ha, 0)) 0 = dcCells d.ns g.2 0 ++ ndCells n (ha, 0) := by
    rw [dcCells_app, hat _ _ _ _ _ (by omega)]
    show _ ++ (ndCells n (at1 g.2 d.ns.length (ha, 0) (0 + d.ns.length)) ++ []) = _
    rw [Nat.zero_add, at1_self, List.append_nil]
  have hK : kidsP (d.ns.length + 1) (dcK ⟨d.ns ++ [n], d.q⟩ (a, at1 g.2 d.ns.length (ha, 0))) = kidsP d.ns.length (dcK d g) ++ [MS 0 none []] := by
    rw [kidsP_succ, kidsP_cong (kp' := dcK d g) fun i hi => ?_]
    · simp only [dcK, at1_self, List.getD_eq_getElem?_getD, List.getElem?_concat_length, Option.getD_some, hk]; rfl
    · simp only [dcK, at1_ne (Nat.ne_of_lt hi), List.getD_eq_getElem?_getD, List.getElem?_append_left hi]
  unfold dcP
  rw [hlen, hc, hK]
  refine (List.Perm.swap ..).trans (.cons _ ((List.Perm.swap ..).trans (.cons _ ?_)))
  exact List.Perm.trans List.perm_middle.symm (List.Perm.of_eq (List.append_assoc _ [MS 0 none []] R).symm)
end
end Go.Dm
/- Trees: what is put into them. -/
namespace Go.Md
namespace Dc
def upT (d : Dc) (n : Int) : Int := if (d.ns.getD n.toNat default).up = -1 ∧ 0 < n ∧ (d.ns.getD (n - 1).toNat default).inner = n then n - 1 else (d.ns.getD n.toNat default).up
/-- Is a node another one, or above it? -/
inductive Abv (d : Dc) (a : Int) : Nat → Int → Bool → Prop where
  | none {m : Nat} : Abv d a m (-1) false
  | hit {m : Nat} : a ≠ -1 → Abv d a m a true
  | step {m : Nat} {n : Int} {b : Bool} : 0 ≤ n → n < d.ns.length → n ≠ a → Abv d a m (d.upT n) b → Abv d a (m + 1) n b
def addS (d : Dc) (n : Nd) : Dc :=
  if n.kind = 2 ∧ n.space = 0 ∧ n.name = templateS then ⟨d.ns ++ [{ n with kids := [], up := -1, inner := d.ns.length + 1 }, page], d.q⟩
  else ⟨d.ns ++ [{ n with kids := [], up := -1, inner := -1 }], d.q⟩
end Dc
end Go.Md
namespace Go.Dm
/-- Such a slice's end. -/
def slV (a sz n r : Nat) : DV := match a with
  | 0 => .lst 0 0 []
  | a + 1 => .arr (a + 1) sz (r * sz) (n - r)
theorem RR.ss {D : DProg} {k : List It} {nt : Nat} {es : List En} {ds : List DDef} {ir : Option Nat} {cs : List Ck} {Q : DX → St → List Ck → Prop} {os : List ROp} {d sz a n : Nat} {x y : Opd} {q : IntKind} {r : Int} (h1 : lo D es [] x = some (msV a sz n)) (h2 : lo D es [] y = some (.int q r)) (hz : NZ cs a n)
    (hj : Arith (0 ≤ r ∧ r ≤ n)) (hd : Nat.blt d nt = true) (hr : RR D (.ops os :: k) ⟨nt, ⟨d, none, slV a sz n r.toNat⟩ :: es, ds, ir⟩ cs Q) : RR D (.ops (⟨some d, .slice sz x (some y) none none, none, []⟩ :: os) :: k) ⟨nt, es, ds, ir⟩ cs Q := by
  obtain ⟨hj1, hj2⟩ := hj.out
  refine RR.valS (g := none) (p := true) (A := []) rfl (fun fr h ha hA hs hp => ?_) hd hr
  simp only [evalOp, lo_ok ha hA h1, evO, Option.map_some, Option.map_none, lo_ok ha hA h2]
  cases a with
  | zero =>
    have : n = 0 := by
      rcases Nat.eq_zero_or_pos n with h0 | h0
      · exact h0
      · exact absurd rfl (hz h hs h0)
    subst this
    have : r = 0 := by omega
    subst this; rfl
  | succ a => simp only [msV, sliceD, if_true, bounds_lo ⟨hj1, hj2⟩, Option.map_some, Nat.zero_add]; rfl
end Go.Dm
namespace Go.Proofs.YtfgghapmgdgaeaaGreatDoor.Code
open Go.Dm
set_option linter.unusedSimpArgs false
set_option linter.unusedVariables false
set_option linter.unnecessarySimpa false
set_option maxRecDepth 10000
attribute [local irreducible] Go.Dm.F Go.Dm.RS Go.Dm.Y Go.Dm.FD Go.Dm.FZ1 Go.Dm.Hold
variable {id : Nat} {d : Md.Dc} {g : Nat × (Nat → Nat × Nat)} {kp : Nat → Nat × List Int} {cs R : List Ck} {n : Int}
theorem flat_A : ∀ (l : List (Md.Str × Md.Str)), (flat (l.map encA)).length = l.length * 2
  | [] => rfl
  | x :: l => by
    show (flat (l.map encA)).length + 1 + 1 = _
    rw [flat_A l, List.length_cons]; omega
theorem cloneA_F {t z : Nat} {al : List (Md.Str × Md.Str)} (hz : ZK t z 2) (h0 : t = 0 → al = []) (hl : al.length ≤ 1000000000) : F D 36 [.lst t z (al.map encA)] cs (fun v cs' => Hold (∃ a, v = msV a 2 al.length ∧ MS a (some 2) (flat (al.map encA)) :: cs = cs')) := by
  apply F.nu rfl rfl; (refine (?_ : EE _ _) ?_; rotate_left; (conv => lhs; cbv; (try simp only [Int.reduceNegSucc, Int.ofNat_eq_natCast, Int.cast_ofNat_Int])); rotate_right; exact fun _ => rfl); rfl
  repeat' first | (apply RR.mm .nil; exact rfl; exact rfl; exact rfl) | (refine RR.ap (sh := some 2) (n := 0) rfl rfl (.el (.lst hz)) .head (Arith.mk ⟨rfl, by decide⟩) rfl (Arith.mk (by rw [List.length_map]; omega)) rfl ?_) | exact ar | (apply RR.rd; (refine (?_ : EE _ _) ?_; rotate_left; (conv => lhs; cbv; (try simp only [Int.reduceNegSucc, Int.ofNat_eq_natCast, Int.cast_ofNat_Int])); rotate_right; exact fun _ => rfl)) | apply RR.mm0 | apply RR.mm1 | apply RR.cd | apply RR.cl | apply RR.cz | (apply RR.ln; exact rfl; exact rfl) | (apply RR.ia; exact rfl; exact rfl; exact rfl) | (show NZ _ _ _; first | exact TDg.nz kk | exact MS.nzI kk) | apply Pst.e | (refine Pst.x kk ?_) | constructor | intro _
  · rename_i h; obtain rfl := h0 h; exact Pst.nm (some 2) (Pst.x kk rfl)
  · rw [List.length_map, Nat.zero_add]; rfl
theorem above_F {a : Int} {m : Nat} {b : Bool} (hm : Me (TDg id d g kp) cs) (hl : d.ns.length ≤ 1000000) (hab : d.Abv a m n b) : F D 37 [.ptr id 0, .int .i64 a, .int .i64 n] cs (fun v cs' => v = .bool b ∧ cs = cs') := by
  refine F.atM hm fun R => ?_
  apply F.nu rfl rfl; (refine (?_ : EE _ _) ?_; rotate_left; (conv => lhs; cbv; (try simp only [Int.reduceNegSucc, Int.ofNat_eq_natCast, Int.cast_ofNat_Int])); rotate_right; exact fun _ => rfl); rfl
  repeat' first | exact ar | (apply RR.rd; (refine (?_ : EE _ _) ?_; rotate_left; (conv => lhs; cbv; (try simp only [Int.reduceNegSucc, Int.ofNat_eq_natCast, Int.cast_ofNat_Int])); rotate_right; exact fun _ => rfl)) | apply RR.mm0 | apply RR.mm1 | apply RR.cd | apply RR.cl | apply RR.cz | (apply RR.ln; exact rfl; exact rfl) | (apply RR.ia; exact rfl; exact rfl; exact rfl) | (show NZ _ _ _; first | exact TDg.nz kk | exact MS.nzI kk) | apply Pst.e | (refine Pst.x kk ?_) | constructor | intro _
  refine RS.loopW (α := Nat × Int) (fun i => [(0, .ptr id 0), (1, .int .i64 a), (2, .int .i64 i.2)]) (fun _ => TDg id d g kp :: R)
    (fun i => d.Abv a i.1 i.2 b) (fun i => i.1) (m, n) hab ⟨rfl, rfl, rfl, trivial⟩ .refl ?_
  rintro ⟨i, n⟩ hi ih
  dsimp only [ents] at *
  have h1 : n = -1 → b = false := fun h => by cases hi <;> first | rfl | contradiction | omega
  have h2 : n ≠ -1 → n = a → b = true := fun h h' => by cases hi <;> first | rfl | contradiction
  have h3 : n = -1 ∨ n = a ∨ 0 ≤ n ∧ n < d.ns.length := by cases hi <;> simp [*]
  have h4 : Hold (n ≠ -1 → n ≠ a → ∃ j, i = j + 1 ∧ d.Abv a j (d.upT n) b) := .mk fun h h' => by cases hi <;> first | contradiction | exact ⟨_, rfl, by assumption⟩
  repeat' first | (apply RR.lg; exact rfl; exact rfl; (intro hp; (try simp only [Bool.and_eq_true, Bool.or_eq_true, Bool.not_eq_true', decide_eq_true_eq, decide_eq_false_iff_not, Bool.and_true, Bool.true_and, and_true, true_and, eqB, beq_iff_eq, Int.ofNat_eq_natCast, Bool.false_eq_true, or_false, false_or] at hp); first | exact TDg.ldN kk | exact TDg.ldF kk (by omega) rfl | exact TDg.ldR kk (by omega) | exact TDg.ldQ kk | exact MS.ldI kk (by omega) (by omega))) | exact ar | (apply RR.rd; (refine (?_ : EE _ _) ?_; rotate_left; (conv => lhs; cbv; (try simp only [Int.reduceNegSucc, Int.ofNat_eq_natCast, Int.cast_ofNat_Int])); rotate_right; exact fun _ => rfl)) | apply RR.mm0 | apply RR.mm1 | apply RR.cd | apply RR.cl | apply RR.cz | (apply RR.ln; exact rfl; exact rfl) | (apply RR.ia; exact rfl; exact rfl; exact rfl) | (show NZ _ _ _; first | exact TDg.nz kk | exact MS.nzI kk) | apply Pst.e | (refine Pst.x kk ?_) | constructor | intro _
  · rename_i x y; rw [h2 x y]
  · rename_i x y z
    obtain ⟨j, rfl, hj⟩ := h4.out x y
    rw [Md.Dc.upT, if_pos ⟨z.1.1, z.1.2, z.2⟩] at hj
    exact ih _ _ (j, n - 1) hj (Nat.lt_succ_self _) ⟨rfl, rfl, rfl, trivial⟩ .refl
  · rename_i x y z
    obtain ⟨j, rfl, hj⟩ := h4.out x y
    rw [Md.Dc.upT, if_neg (fun q => z.elim (fun z => z.elim (fun z => z q.1) (fun z => z q.2.1)) (fun z => z q.2.2))] at hj
    exact ih _ _ (j, _) hj (Nat.lt_succ_self _) ⟨rfl, rfl, rfl, trivial⟩ .refl
  · rename_i x; rw [h1 x]
theorem out_F (hm : Me (TDg id d g kp) cs) (hn : 0 ≤ n ∧ n < d.ns.length) (hu : (d.ns.getD n.toNat default).up = -1) : F D 38 [.ptr id 0, .int .i64 n] cs (fun v cs' => v = .tup [] ∧ cs = cs') := by
  refine F.atM hm fun R => ?_
  have hh : d.has n = true := has_iff.2 hn
  apply F.nu rfl rfl; (refine (?_ : EE _ _) ?_; rotate_left; (conv => lhs; cbv; (try simp only [Int.reduceNegSucc, Int.ofNat_eq_natCast, Int.cast_ofNat_Int])); rotate_right; exact fun _ => rfl); rfl
  repeat' first | exact in_F kk | (intro hc; exact absurd hu hc.2) | (apply RR.lg; exact rfl; exact rfl; (intro hp; (try simp only [Bool.and_eq_true, Bool.or_eq_true, Bool.not_eq_true', decide_eq_true_eq, decide_eq_false_iff_not, Bool.and_true, Bool.true_and, and_true, true_and, eqB, beq_iff_eq, Int.ofNat_eq_natCast, Bool.false_eq_true, or_false, false_or] at hp); first | exact TDg.ldN kk | exact TDg.ldF kk (by omega) rfl | exact TDg.ldR kk (by omega) | exact TDg.ldQ kk | exact MS.ldI kk (by omega) (by omega))) | exact ar | (apply RR.rd; (refine (?_ : EE _ _) ?_; rotate_left; (conv => lhs; cbv; (try simp only [Int.reduceNegSucc, Int.ofNat_eq_natCast, Int.cast_ofNat_Int])); rotate_right; exact fun _ => rfl)) | apply RR.mm0 | apply RR.mm1 | apply RR.cd | apply RR.cl | apply RR.cz | (apply RR.ln; exact rfl; exact rfl) | (apply RR.ia; exact rfl; exact rfl; exact rfl) | (show NZ _ _ _; first | exact TDg.nz kk | exact MS.nzI kk) | apply Pst.e | (refine Pst.x kk ?_) | constructor | intro _
  all_goals skip
/-- Behind all. -/
theorem insert_F {k b : Nat} {l : List Int} {x : Int} {at0 : Int} (hat : at0 = l.length) (hl : l.length ≤ 1000000000) : F D 40 [msV k 1 l.length, .int .i64 at0, msV b 1 [x].length] (MS k none (I64s l) :: MS b none (I64s [x]) :: R) (fun v cs' => Hold (∃ a, v = msV a 1 (l ++ [x]).length ∧ MS a none (I64s (l ++ [x])) :: R = cs')) := by
  subst hat
  apply F.nu rfl rfl; (refine (?_ : EE _ _) ?_; rotate_left; (conv => lhs; cbv; (try simp only [Int.reduceNegSucc, Int.ofNat_eq_natCast, Int.cast_ofNat_Int])); rotate_right; exact fun _ => rfl); rfl
  repeat' first | (apply RR.ss; exact rfl; exact rfl; exact MS.nzI kk) | (apply RR.apI (l := l) (m := [x]); exact rfl; exact rfl; exact MS.emI kk) | (intro hc; exfalso; omega) | exact ar | (apply RR.rd; (refine (?_ : EE _ _) ?_; rotate_left; (conv => lhs; cbv; (try simp only [Int.reduceNegSucc, Int.ofNat_eq_natCast, Int.cast_ofNat_Int])); rotate_right; exact fun _ => rfl)) | apply RR.mm0 | apply RR.mm1 | apply RR.cd | apply RR.cl | apply RR.cz | (apply RR.ln; exact rfl; exact rfl) | (apply RR.ia; exact rfl; exact rfl; exact rfl) | (show NZ _ _ _; first | exact TDg.nz kk | exact MS.nzI kk) | apply Pst.e | (refine Pst.x kk ?_) | constructor | intro _
  · rename_i h; exact absurd h (by simp)
theorem group_A : ∀ (l : List (Md.Str × Md.Str)), group (some 2) l.length (flat (l.map encA)) = l.map encA
  | [] => rfl
  | x :: l => congrArg (encA x :: ·) (group_A l)
end Go.Proofs.YtfgghapmgdgaeaaGreatDoor.Code
/- Trees put together piece by piece, in plain Lean. -/
namespace Go.Md
theorem getD_app (l m : List Nd) (i : Nat) : (l ++ m).getD i default = if i < l.length then l.getD i default else m.getD (i - l.length) default := by
  simp only [List.getD_eq_getElem?_getD, List.getElem?_append]
  split <;> rfl
namespace Dc
/-- Kids and contents have greater numbers, what is above has smaller ones. -/
structure Wf (d : Dc) (m : Nat) : Prop where
  len : 0 < d.ns.length ∧ d.ns.length ≤ m
  klen : ∀ i : Nat, i < d.ns.length → (d.ns.getD i default).kids.length ≤ m
  kids : ∀ i : Nat, i < d.ns.length → ∀ k ∈ (d.ns.getD i default).kids, (i : Int) < k ∧ k < d.ns.length
  inner : ∀ i : Nat, i < d.ns.length → (d.ns.getD i default).inner = -1 ∨ ((d.ns.getD i default).inner = i + 1 ∧ i + 1 < d.ns.length ∧ (d.ns.getD (i + 1) default).kind = 1)
  up : ∀ i : Nat, i < d.ns.length → (d.ns.getD i default).up = -1 ∨ (0 ≤ (d.ns.getD i default).up ∧ (d.ns.getD i default).up < i)
  al : ∀ i : Nat, i < d.ns.length → (d.ns.getD i default).attrs.length ≤ 1000000
  tree : ∀ i : Nat, i < d.ns.length → ∀ k ∈ (d.ns.getD i default).kids, (d.ns.getD k.toNat default).up = i
  nd : ∀ i : Nat, i < d.ns.length → (d.ns.getD i default).kids.Nodup
  inUp : ∀ i : Nat, i < d.ns.length → (d.ns.getD i default).inner ≠ -1 → (d.ns.getD (i + 1) default).up = -1
theorem Wf.app {d : Dc} {m : Nat} {l : List Nd} {q : Bool} (h : d.Wf m) (hl : l.length ≤ 2) (hna : ∀ j, j < l.length → (l.getD j default).attrs.length ≤ 1000000)
    (hn : ∀ j, j < l.length → (l.getD j default).kids = [] ∧ (l.getD j default).up = -1 ∧ ((l.getD j default).inner = -1 ∨ ((l.getD j default).inner = d.ns.length + j + 1 ∧ j + 1 < l.length ∧ (l.getD (j + 1) default).kind = 1))) : Wf ⟨d.ns ++ l, q⟩ (m + 2) := by
  have hlen : (d.ns ++ l).length = d.ns.length + l.length := List.length_append
  obtain ⟨h1, h2⟩ := h.len
  refine ⟨⟨by show 0 < (d.ns ++ l).length; omega, by show (d.ns ++ l).length ≤ _; omega⟩, fun i hi => ?_, fun i hi k hk => ?_, fun i hi => ?_, fun i hi => ?_, fun i hi => ?_, fun i hi k hk => ?_, fun i hi => ?_, fun i hi hx => ?_⟩ <;>
    (replace hi : i < (d.ns ++ l).length := hi; rw [hlen] at hi)
  · show ((d.ns ++ l).getD i default).kids.length ≤ _
    rw [getD_app]
    by_cases hc : i < d.ns.length
    · rw [if_pos hc]; have := h.klen i hc; omega
    · rw [if_neg hc, (hn _ (by omega)).1]; exact Nat.zero_le _
  · replace hk : k ∈ ((d.ns ++ l).getD i default).kids := hk
    show (i : Int) < k ∧ k < ((d.ns ++ l).length : Nat)
    rw [getD_app] at hk
    by_cases hc : i < d.ns.length
    · rw [if_pos hc] at hk; have := h.kids i hc k hk; rw [hlen]; omega
    · rw [if_neg hc, (hn _ (by omega)).1] at hk; cases hk
  · show ((d.ns ++ l).getD i default).inner = -1 ∨ (((d.ns ++ l).getD i default).inner = i + 1 ∧ i + 1 < (d.ns ++ l).length ∧ ((d.ns ++ l).getD (i + 1) default).kind = 1)
    rw [getD_app, getD_app, hlen]
    by_cases hc : i < d.ns.length
    · rw [if_pos hc]
      rcases h.inner i hc with hx | ⟨hx, hy, hz⟩
      · exact .inl hx
      · rw [if_pos hy]; exact .inr ⟨hx, by omega, hz⟩
    · rw [if_neg hc, if_neg (show ¬i + 1 < d.ns.length by omega)]
      rcases (hn (i - d.ns.length) (by omega)).2.2 with hx | ⟨hx, hy, hz⟩
      · exact .inl hx
      · refine .inr ⟨by rw [hx]; omega, by omega, ?_⟩
        rw [show i + 1 - d.ns.length = i - d.ns.length + 1 by omega]; exact hz
  · show ((d.ns ++ l).getD i default).up = -1 ∨ _
    show _ ∨ (0 ≤ ((d.ns ++ l).getD i default).up ∧ ((d.ns ++ l).getD i default).up < i)
    rw [getD_app]
    by_cases hc : i < d.ns.length
    · rw [if_pos hc]; exact h.up i hc
    · rw [if_neg hc]; exact .inl (hn _ (by omega)).2.1
  · show ((d.ns ++ l).getD i default).attrs.length ≤ _
    rw [getD_app]
    by_cases hc : i < d.ns.length
    · rw [if_pos hc]; exact h.al i hc
    · rw [if_neg hc]; exact hna _ (by omega)
  · replace hk : k ∈ ((d.ns ++ l).getD i default).kids := hk
    show ((d.ns ++ l).getD k.toNat default).up = i
    rw [getD_app] at hk
    by_cases hc : i < d.ns.length
    · rw [if_pos hc] at hk
      have := h.kids i hc k hk
      rw [getD_app, if_pos (by omega)]; exact h.tree i hc k hk
    · rw [if_neg hc, (hn _ (by omega)).1] at hk; cases hk
  · show ((d.ns ++ l).getD i default).kids.Nodup
    rw [getD_app]
    by_cases hc : i < d.ns.length
    · rw [if_pos hc]; exact h.nd i hc
    · rw [if_neg hc, (hn _ (by omega)).1]; exact List.nodup_nil
  · replace hx : ((d.ns ++ l).getD i default).inner ≠ -1 := hx
    show ((d.ns ++ l).getD (i + 1) default).up = -1
    rw [getD_app] at hx
    by_cases hc : i < d.ns.length
    · rw [if_pos hc] at hx
      rcases h.inner i hc with hy | ⟨_, hy, _⟩
      · contradiction
      · rw [getD_app, if_pos hy]; exact h.inUp i hc hx
    · rw [if_neg hc] at hx
      rcases (hn (i - d.ns.length) (by omega)).2.2 with hy | ⟨_, hy, _⟩
      · contradiction
      · rw [getD_app, if_neg (by omega), show i + 1 - d.ns.length = i - d.ns.length + 1 by omega]; exact (hn _ hy).2.1
/-- What was added stands at the end. -/
theorem addS_tail (d : Dc) (n : Nd) : ∃ l : List Nd, d.addS n = ⟨d.ns ++ l, d.q⟩ ∧ 0 < l.length ∧ l.length ≤ 2 ∧ (l.getD 0 default).kind = n.kind ∧ (∀ j, j < l.length → (l.getD j default).attrs.length ≤ n.attrs.length) ∧
    ∀ j, j < l.length → (l.getD j default).kids = [] ∧ (l.getD j default).up = -1 ∧ ((l.getD j default).inner = -1 ∨ ((l.getD j default).inner = d.ns.length + j + 1 ∧ j + 1 < l.length ∧ (l.getD (j + 1) default).kind = 1)) := by
  unfold addS
  split
  · refine ⟨_, rfl, by simp, by simp, rfl, fun j hj => ?_, fun j hj => ?_⟩
    · match j with
      | 0 => exact Nat.le_refl _
      | 1 => exact Nat.zero_le _
      | j + 2 => simp at hj; omega
    match j with
    | 0 => exact ⟨rfl, rfl, .inr ⟨by show (d.ns.length : Int) + 1 = d.ns.length + (0 : Nat) + 1; omega, by simp, rfl⟩⟩
    | 1 => exact ⟨rfl, rfl, .inl rfl⟩
    | j + 2 => simp at hj; omega
  · refine ⟨_, rfl, by simp, by simp, rfl, fun j hj => ?_, fun j hj => ?_⟩
    · match j with
      | 0 => exact Nat.le_refl _
      | j + 1 => simp at hj
    match j with
    | 0 => exact ⟨rfl, rfl, .inl rfl⟩
    | j + 1 => simp at hj
/-- A node put beneath another one, behind all. -/
def put (d : Dc) (up n : Int) : Dc := (d.upd up fun x => { x with kids := x.kids ++ [n] }).upd n fun x => { x with up := up }
theorem put_len {d : Dc} {up n : Int} : (d.put up n).ns.length = d.ns.length := by rw [put, upd_len, upd_len]
theorem put_get {d : Dc} {up n : Int} {j : Nat} (hj : j < d.ns.length) :
    ((d.put up n).ns.getD j default).kind = (d.ns.getD j default).kind ∧ ((d.put up n).ns.getD j default).inner = (d.ns.getD j default).inner ∧
    ((d.put up n).ns.getD j default).kids = (if up.toNat = j then (d.ns.getD j default).kids ++ [n] else (d.ns.getD j default).kids) ∧
    ((d.put up n).ns.getD j default).up = (if n.toNat = j then up else (d.ns.getD j default).up) := by
  rw [put, upd_get _ _ _ _ (by rw [upd_len]; exact hj), upd_get _ _ _ _ hj]
  refine ⟨?_, ?_, ?_, ?_⟩ <;> (split <;> split <;> rfl)
theorem put_attrs {d : Dc} {up n : Int} {j : Nat} (hj : j < d.ns.length) : ((d.put up n).ns.getD j default).attrs = (d.ns.getD j default).attrs := by
  rw [put, upd_get _ _ _ _ (by rw [upd_len]; exact hj), upd_get _ _ _ _ hj]
  split <;> split <;> rfl
theorem Wf.put {d : Dc} {m : Nat} {up n : Int} (h : d.Wf m) (h1 : 0 ≤ up) (h2 : up < n) (h3 : n < d.ns.length) (hnk : (d.ns.getD n.toNat default).kind ≠ 1) (hnu : (d.ns.getD n.toNat default).up = -1) : Wf (d.put up n) (m + 1) := by
  obtain ⟨l1, l2⟩ := h.len
  have hne : ∀ i : Nat, i < d.ns.length → ∀ k ∈ (d.ns.getD i default).kids, k.toNat ≠ n.toNat := fun i hi k hk e => by
    have := h.tree i hi k hk
    rw [e, hnu] at this; omega
  refine ⟨by rw [put_len]; omega, fun i hi => ?_, fun i hi k hk => ?_, fun i hi => ?_, fun i hi => ?_, fun i hi => ?_, fun i hi k hk => ?_, fun i hi => ?_, fun i hi hx => ?_⟩ <;> rw [put_len] at hi <;> obtain ⟨g1, g2, g3, g4⟩ := put_get (up := up) (n := n) hi
  · rw [g3]
    have := h.klen i hi
    split
    · rw [List.length_append, List.length_singleton]; omega
    · omega
  · rw [g3] at hk
    rw [put_len]
    split at hk
    · rcases List.mem_append.1 hk with hk | hk
      · exact h.kids i hi k hk
      · rw [List.mem_singleton.1 hk]; omega
    · exact h.kids i hi k hk
  · rw [g2, put_len]
    rcases h.inner i hi with hx | ⟨hx, hy, hz⟩
    · exact .inl hx
    · exact .inr ⟨hx, hy, by rw [(put_get hy).1]; exact hz⟩
  · rw [g4]
    split
    · right; omega
    · exact h.up i hi
  · rw [put_attrs hi]; exact h.al i hi
  · rw [g3] at hk
    have hold : ∀ k ∈ (d.ns.getD i default).kids, ((d.put up n).ns.getD k.toNat default).up = i := fun k hk => by
      have := h.kids i hi k hk
      rw [(put_get (by omega)).2.2.2, if_neg (fun e => hne i hi k hk e.symm)]; exact h.tree i hi k hk
    split at hk
    · rename_i hu
      rcases List.mem_append.1 hk with hk | hk
      · exact hold k hk
      · rw [List.mem_singleton.1 hk, (put_get (by omega)).2.2.2, if_pos rfl]; omega
    · exact hold k hk
  · rw [g3]
    split
    · refine List.nodup_append.2 ⟨h.nd i hi, by simp, fun a ha b hb e => ?_⟩
      rw [List.mem_singleton.1 hb] at e
      exact hne i hi a ha (by rw [e])
    · exact h.nd i hi
  · rw [g2] at hx
    rcases h.inner i hi with hy | ⟨_, hy, hz⟩
    · contradiction
    · rw [(put_get hy).2.2.2, if_neg (fun e => hnk (by rw [e]; exact hz))]; exact h.inUp i hi hx
theorem Wf.new : Wf Dc.new 1 := by
  have h0 : ∀ i : Nat, i < Dc.new.ns.length → i = 0 := fun i hi => by have : i < 1 := hi; omega
  refine ⟨by decide, fun i hi => ?_, fun i hi k hk => ?_, fun i hi => ?_, fun i hi => ?_, fun i hi => ?_, fun i hi k hk => ?_, fun i hi => ?_, fun i hi hx => ?_⟩ <;> cases h0 i hi
  · exact Nat.zero_le _
  · cases hk
  · exact .inl rfl
  · exact .inl rfl
  · exact Nat.zero_le _
  · cases hk
  · exact List.nodup_nil
  · exact absurd rfl hx
/-- What is above a node has a smaller number. -/
theorem Wf.abv {d : Dc} {m : Nat} {a : Int} (h : d.Wf m) : ∀ (k : Nat) (n : Int), -1 ≤ n → n < k → n < a → n < d.ns.length → Abv d a k n false
  | 0, n, h1, h2, _, _ => by obtain rfl : n = -1 := (by omega); exact .none
  | k + 1, n, h1, h2, h3, h4 => by
    by_cases hn : n = -1
    · subst hn; exact .none
    · have hu := h.up n.toNat (by omega)
      have ht : -1 ≤ d.upT n ∧ d.upT n < n := by
        unfold upT
        split <;> omega
      exact .step (by omega) h4 (by omega) (Wf.abv h k _ ht.1 (by omega) (by omega) (by omega))
/-! ### what stands beneath, in the order of the text -/
def below (d : Dc) (n : Int) : List Int := d.kids (if (d.ns.getD n.toNat default).inner = -1 then n else (d.ns.getD n.toNat default).inner)
inductive Frs (d : Dc) : Nat → List Int → List (Int × Nat) → Prop where
  | nil {deep : Nat} : Frs d deep [] []
  | cons {deep : Nat} {k : Int} {ks : List Int} {a b : List (Int × Nat)} : 0 ≤ k → k < d.ns.length → deep < 1000000 → Frs d (deep + 1) (d.below k) a → Frs d deep ks b → Frs d deep (k :: ks) ((k, deep) :: (a ++ b))
theorem Wf.below {d : Dc} {m : Nat} (h : d.Wf m) {n k : Int} (h1 : 0 ≤ n) (h2 : n < d.ns.length) (hk : k ∈ d.below n) : n < k ∧ k < d.ns.length := by
  unfold Dc.below at hk
  have hi := h.inner n.toNat (by omega)
  have hkk : ∀ j : Int, n ≤ j → j < d.ns.length → k ∈ d.kids j → n < k ∧ k < d.ns.length := fun j j1 j2 hj => by
    rw [Dc.kids, if_pos (by unfold has; simp; omega)] at hj
    have := h.kids j.toNat (by omega) k hj
    omega
  split at hk
  · exact hkk n (by omega) h2 hk
  · rcases hi with hi | ⟨hi, hj, _⟩
    · contradiction
    · exact hkk _ (by omega) (by omega) hk
theorem Wf.frs {d : Dc} {m : Nat} (h : d.Wf m) : ∀ (N : Nat) (ks : List Int) (deep : Nat), (∀ k ∈ ks, 0 ≤ k ∧ k < d.ns.length ∧ d.ns.length - k ≤ N) → deep + N ≤ 1000000 → ∃ l, Frs d deep ks l
  | _, [], _, _, _ => ⟨_, .nil⟩
  | 0, k :: ks, _, hk, _ => by have := hk k (by simp); omega
  | N + 1, k :: ks, deep, hk, hd => by
    obtain ⟨k1, k2, k3⟩ := hk k (by simp)
    obtain ⟨a, ha⟩ := Wf.frs h N (d.below k) (deep + 1) (fun x hx => by have := h.below k1 k2 hx; omega) (by omega)
    obtain ⟨b, hb⟩ := Wf.frs h (N + 1) ks deep (fun x hx => hk x (List.mem_cons_of_mem _ hx)) hd
    exact ⟨_, .cons k1 k2 (by omega) ha hb⟩
  termination_by N ks => (N, ks.length)
end Dc
end Go.Md
/- Trees: a node more. -/
namespace Go.Dm
/-- Here the rules stop. -/
@[irreducible] def Stop (p : Prop) : Prop := p
theorem Stop.out {p : Prop} (h : Stop p) : p := by unfold Stop at h; exact h
theorem Stop.at {p : Prop} (h : p) : Stop p := by unfold Stop; exact h
theorem Me.appR {c : Ck} {b : List Ck} : ∀ {a : List Ck}, Me c b → Me c (a ++ b)
  | [], h => h
  | _ :: _, h => .tail (Me.appR h)
/-- Of a tree with a node behind all. -/
theorem TDg.stPush {id a ha : Nat} {d : Md.Dc} {g : Nat × (Nat → Nat × Nat)} {R : List Ck} {n : Md.Nd} {w : DV} {d1 : Md.Dc} (hd : d1 = ⟨d.ns ++ [n], d.q⟩) (hk : n.kids = []) : StS (.obj id (.cells [w, .bool d.q] none) :: MS a (some 10) (dcCells d.ns g.2 0 ++ ndCells n (ha, 0)) :: (kidsP d.ns.length (dcK d g) ++ R)) 1 id 0 (msV a 10 (d.ns.length + 1)) (TD id d1 (a, at1 g.2 d.ns.length (ha, 0)) :: R) := ⟨fun h hs => by
  subst hd
  have h0 : h.objs.get id = _ := hs.get .head
  refine ⟨h.put id (.cells [msV a 10 (d.ns.length + 1), .bool d.q] none), ?_, TDg.push (q := d.q) hk (hs.upd .head (Nat.le_refl _) (put_get h id _) (fun i hi => by cases hi; exact (hs.ok (.obj id (.cells [w, .bool d.q] none)) (List.mem_cons_self ..)).2 _ rfl) (fun i hi => .inl hi) (fun i _ hn => put_keep h id _ (fun e => hn e)))⟩
  simp only [storeD, h0]
  cases a <;> rfl⟩
theorem TD.st {id i k off : Nat} {v : DV} {d d' : Md.Dc} {g : Nat × (Nat → Nat × Nat)} {g' : Nat → Nat × Nat} {cs cs' : List Ck} (hu : Upd1 (TD id d g) (TD id d' (g.1, g')) cs cs') (hi : i < d.ns.length) (hk : k < 10) (ho : off = i * 10 + k) (hl : d'.ns.length = d.ns.length) (hq : d'.q = d.q)
    (hc : ∀ m, m < d.ns.length → ndCells (d'.ns.getD m default) (g' m) = if m = i then (ndCells (d.ns.getD m default) (g.2 m)).set k v else ndCells (d.ns.getD m default) (g.2 m)) (hv : v.cells = [v] ∧ v.okv = true)
    (hkk : ∀ m, m < d.ns.length → dcK d' (g.1, g') m = dcK d g m) : StS cs 1 g.1 off v cs' := by
  have e : TDg id d' (g.1, g') (dcK d g) = TD id d' (g.1, g') := TDg.cong fun m hm => (hkk m (hl ▸ hm)).symm
  rw [← e] at hu
  exact TDg.st hu hi hk ho hl hq hc hv
theorem CL.ms {a sz n : Nat} : CL 1 (msV a sz n) [msV a sz n] := by cases a <;> constructor
end Go.Dm
namespace Go.Proofs.YtfgghapmgdgaeaaGreatDoor.Code
open Go.Dm
set_option linter.unusedSimpArgs false
set_option linter.unusedVariables false
set_option linter.unnecessarySimpa false
set_option maxRecDepth 10000
attribute [local irreducible] Go.Dm.F Go.Dm.RS Go.Dm.Y Go.Dm.FD Go.Dm.FZ1 Go.Dm.Hold
variable {id : Nat} {d : Md.Dc} {g : Nat × (Nat → Nat × Nat)} {kp : Nat → Nat × List Int} {cs R : List Ck} {n : Int}
theorem add_F {nd : Md.Nd} {t z : Nat} {kv : DV} {u w : Int} (hz : ZK t z 2) (h0 : t = 0 → nd.attrs = []) (hl : d.ns.length + 1 < 20000) (ha : nd.attrs.length ≤ 1000000000) :
    F D 17 [.ptr id 0, .agg [.int .i64 nd.kind, .int .i64 nd.space, .str nd.name, .str nd.data, .lst t z (nd.attrs.map encA), .str nd.pub, .str nd.sys, .int .i64 u, kv, .int .i64 w]] (TD id d g :: R) (fun v cs' => Hold (∃ g', v = .int .i64 d.ns.length ∧ TD id (d.addS nd) g' :: R = cs')) := by
  have hZ : ∀ cs : List Ck, FZ D (.fn (.func 36) [] []) [.lst t z (nd.attrs.map encA)] cs (fun v cs' => Hold (∃ t, v = .lst t (zOf t 2) (nd.attrs.map encA) ∧ cs = cs')) := fun cs => by
    have := FZ1.ms (D := D) (g := 36) (args := [.lst t z (nd.attrs.map encA)]) (sh := some 2) (n := nd.attrs.length) (R := cs) (c := flat (nd.attrs.map encA)) ⟨by rw [flat_A]; rfl, by decide⟩ (cloneA_F hz h0 ha)
    rw [group_A] at this
    show FZ1 D _ ([] ++ _ ++ []) cs _
    exact this
  apply F.nu rfl rfl; (refine (?_ : EE _ _) ?_; rotate_left; (conv => lhs; cbv; (try simp only [Int.reduceNegSucc, Int.ofNat_eq_natCast, Int.cast_ofNat_Int])); rotate_right; exact fun _ => rfl); rfl
  repeat' first | (refine Stop.out (p := RR _ (.ops (⟨_, .mks true (some 10) _ _ _, _, _⟩ :: _) :: _) _ _ _) ?_) | (intro hc; exfalso; omega) | exact hZ _ | (apply RR.lg; exact rfl; exact rfl; (intro hp; (try simp only [Bool.and_eq_true, Bool.or_eq_true, Bool.not_eq_true', decide_eq_true_eq, decide_eq_false_iff_not, Bool.and_true, Bool.true_and, and_true, true_and, eqB, beq_iff_eq, Int.ofNat_eq_natCast, Bool.false_eq_true, or_false, false_or] at hp); first | exact TDg.ldN kk | exact TDg.ldF kk (by omega) rfl | exact TDg.ldR kk (by omega) | exact TDg.ldQ kk | exact MS.ldI kk (by omega) (by omega))) | exact ar | (apply RR.rd; (refine (?_ : EE _ _) ?_; rotate_left; (conv => lhs; cbv; (try simp only [Int.reduceNegSucc, Int.ofNat_eq_natCast, Int.cast_ofNat_Int])); rotate_right; exact fun _ => rfl)) | apply RR.mm0 | apply RR.mm1 | apply RR.cd | apply RR.cl | apply RR.cz | (apply RR.ln; exact rfl; exact rfl) | (apply RR.ia; exact rfl; exact rfl; exact rfl) | (show NZ _ _ _; first | exact TDg.nz kk | exact MS.nzI kk) | apply Pst.e | (refine Pst.x kk ?_) | constructor | intro _
  refine Stop.at (RR.mm (sh := some 10) (vs := [.agg _]) (.cons rfl (.agg rfl) .nil) rfl rfl rfl fun b hb => ?_)
  refine RR.chk .nil (RR.from (fun h hs => TDg.opn (hs.perm (List.perm_middle (l₁ := [_, _])))) ?_)
  refine RR.ap (sh := some 10) (n := d.ns.length) rfl rfl (.ms (.tail (.tail (by show Me _ (kidsP _ _ ++ _); exact Me.appR .head))) (Arith.mk ⟨rfl, by decide⟩)) (.tail .head) (Arith.mk ⟨dcCells_len .., by decide⟩) rfl (Arith.mk (by show (d.ns.length + 1) * 144 ≤ _; omega)) rfl fun a => ?_
  rename_i x
  replace ⟨n1, hn1⟩ : ∃ n1 : Md.Nd, n1 = { nd with kids := [], up := -1, inner := -1 } := ⟨_, rfl⟩
  show RR D _ _ (Ck.obj id _ :: MS a (some 10) (dcCells d.ns g.2 0 ++ ndCells { nd with kids := [], up := -1, inner := -1 } (x, 0)) :: (kidsP d.ns.length (dcK d g) ++ _)) _
  rw [← hn1]
  replace ⟨d1, hd1⟩ : ∃ d1 : Md.Dc, d1 = ⟨d.ns ++ [n1], d.q⟩ := ⟨_, rfl⟩
  have hl1 : d1.ns.length = d.ns.length + 1 := by rw [hd1]; simp
  repeat' first | (refine Stop.out (p := RR _ (.ops (⟨_, .mks true (some 10) _ _ _, _, _⟩ :: _) :: _) _ _ _) ?_) | (refine RR.storeS rfl rfl (TDg.stPush hd1 (by rw [hn1])) rfl ?_) | (intro hc; exfalso; omega) | (apply RR.lg; exact rfl; exact rfl; (intro hp; (try simp only [Bool.and_eq_true, Bool.or_eq_true, Bool.not_eq_true', decide_eq_true_eq, decide_eq_false_iff_not, Bool.and_true, Bool.true_and, and_true, true_and, eqB, beq_iff_eq, Int.ofNat_eq_natCast, Bool.false_eq_true, or_false, false_or] at hp); first | exact TDg.ldN kk | exact TDg.ldF kk (by omega) rfl | exact TDg.ldR kk (by omega) | exact TDg.ldQ kk | exact MS.ldI kk (by omega) (by omega))) | exact ar | (apply RR.rd; (refine (?_ : EE _ _) ?_; rotate_left; (conv => lhs; cbv; (try simp only [Int.reduceNegSucc, Int.ofNat_eq_natCast, Int.cast_ofNat_Int])); rotate_right; exact fun _ => rfl)) | apply RR.mm0 | apply RR.mm1 | apply RR.cd | apply RR.cl | apply RR.cz | (apply RR.ln; exact rfl; exact rfl) | (apply RR.ia; exact rfl; exact rfl; exact rfl) | (show NZ _ _ _; first | exact TDg.nz kk | exact MS.nzI kk) | apply Pst.e | (refine Pst.x kk ?_) | constructor | intro _
  · refine Stop.at (RR.mm (sh := some 10) (vs := [.agg _]) (.cons rfl (.agg rfl) .nil) rfl rfl rfl fun b2 hb2 => ?_)
    refine RR.chk .nil (RR.from (fun h hs => TDg.opn (hs.perm (List.perm_middle (l₁ := [_])))) ?_)
    refine RR.ap (sh := some 10) (n := d1.ns.length) rfl rfl (.ms (.tail (.tail (by show Me _ (kidsP _ _ ++ _); exact Me.appR .head))) (Arith.mk ⟨rfl, by decide⟩)) (.tail .head) (Arith.mk ⟨dcCells_len .., by decide⟩) rfl (Arith.mk (by show (d1.ns.length + 1) * 144 ≤ _; omega)) rfl fun a2 => ?_
    show RR D _ _ (Ck.obj id _ :: MS a2 (some 10) (dcCells d1.ns _ 0 ++ ndCells Md.Dc.page (0, 0)) :: (kidsP d1.ns.length (dcK d1 _) ++ _)) _
    replace ⟨d2, hd2⟩ : ∃ d2 : Md.Dc, d2 = ⟨d1.ns ++ [Md.Dc.page], d1.q⟩ := ⟨_, rfl⟩
    have hl2 : d2.ns.length = d.ns.length + 2 := by rw [hd2]; simp [hl1]
    repeat' first | (refine Stop.out (p := RR _ (.ops [⟨none, .store _ _ _, _, _⟩] :: .code (.seq _ _) :: _) _ _ _) ?_) | (refine RR.storeS rfl rfl (TDg.stPush hd2 rfl) rfl ?_) | (intro hc; exfalso; omega) | (apply RR.lg; exact rfl; exact rfl; (intro hp; (try simp only [Bool.and_eq_true, Bool.or_eq_true, Bool.not_eq_true', decide_eq_true_eq, decide_eq_false_iff_not, Bool.and_true, Bool.true_and, and_true, true_and, eqB, beq_iff_eq, Int.ofNat_eq_natCast, Bool.false_eq_true, or_false, false_or] at hp); first | exact TDg.ldN kk | exact TDg.ldF kk (by omega) rfl | exact TDg.ldR kk (by omega) | exact TDg.ldQ kk | exact MS.ldI kk (by omega) (by omega))) | exact ar | (apply RR.rd; (refine (?_ : EE _ _) ?_; rotate_left; (conv => lhs; cbv; (try simp only [Int.reduceNegSucc, Int.ofNat_eq_natCast, Int.cast_ofNat_Int])); rotate_right; exact fun _ => rfl)) | apply RR.mm0 | apply RR.mm1 | apply RR.cd | apply RR.cl | apply RR.cz | (apply RR.ln; exact rfl; exact rfl) | (apply RR.ia; exact rfl; exact rfl; exact rfl) | (show NZ _ _ _; first | exact TDg.nz kk | exact MS.nzI kk) | apply Pst.e | (refine Pst.x kk ?_) | constructor | intro _
    rename_i hc _
    obtain ⟨⟨hc1, hc2⟩, hc3⟩ := hc
    have hdd : d.addS nd = ⟨d.ns ++ [{ n1 with inner := d.ns.length + 1 }, Md.Dc.page], d.q⟩ := by
      rw [Md.Dc.addS, if_pos ⟨hc1, hc2, hc3⟩, hn1]
    have hns2 : d2.ns = d.ns ++ [n1, Md.Dc.page] := by rw [hd2, hd1]; simp
    refine Stop.at (RR.storeS rfl rfl (TD.st (d' := d.addS nd) (g' := at1 (at1 g.2 d.ns.length (x, 0)) d1.ns.length (0, 0)) (i := d.ns.length) (k := 9) .head (by omega) (by decide) (by show _ * 10 + 9 = _; omega) (by rw [hdd, hl2]; simp) (by rw [hdd, hd2, hd1]) (fun m hm => ?_) ⟨rfl, rfl⟩ (fun m hm => ?_)) rfl ?_)
    · rw [hdd, hns2, Md.getD_app, Md.getD_app]
      by_cases hm1 : m < d.ns.length
      · rw [if_pos hm1, if_pos hm1, if_neg (by omega)]
      · rw [if_neg hm1, if_neg hm1]
        by_cases hm2 : m = d.ns.length
        · subst hm2
          rw [if_pos rfl, Nat.sub_self]
          show _ = List.set _ _ (DV.int .i64 _)
          rw [show (d1.ns.length : Int) - 1 + 1 = d.ns.length + 1 by omega]; rfl
        · obtain rfl : m = d.ns.length + 1 := by omega
          rw [if_neg hm2, Nat.add_sub_cancel_left]; rfl
    · simp only [dcK, hdd, hns2, Md.getD_app]
      by_cases hm1 : m < d.ns.length
      · rw [if_pos hm1, if_pos hm1]
      · rw [if_neg hm1, if_neg hm1]
        by_cases hm2 : m = d.ns.length
        · subst hm2; rw [Nat.sub_self]; rfl
        · obtain rfl : m = d.ns.length + 1 := by omega
          rw [Nat.add_sub_cancel_left]; rfl
    repeat' first | (apply RR.lg; exact rfl; exact rfl; (intro hp; (try simp only [Bool.and_eq_true, Bool.or_eq_true, Bool.not_eq_true', decide_eq_true_eq, decide_eq_false_iff_not, Bool.and_true, Bool.true_and, and_true, true_and, eqB, beq_iff_eq, Int.ofNat_eq_natCast, Bool.false_eq_true, or_false, false_or] at hp); first | exact TDg.ldN kk | exact TDg.ldF kk (by omega) rfl | exact TDg.ldR kk (by omega) | exact TDg.ldQ kk | exact MS.ldI kk (by omega) (by omega))) | exact ar | (apply RR.rd; (refine (?_ : EE _ _) ?_; rotate_left; (conv => lhs; cbv; (try simp only [Int.reduceNegSucc, Int.ofNat_eq_natCast, Int.cast_ofNat_Int])); rotate_right; exact fun _ => rfl)) | apply RR.mm0 | apply RR.mm1 | apply RR.cd | apply RR.cl | apply RR.cz | (apply RR.ln; exact rfl; exact rfl) | (apply RR.ia; exact rfl; exact rfl; exact rfl) | (show NZ _ _ _; first | exact TDg.nz kk | exact MS.nzI kk) | apply Pst.e | (refine Pst.x kk ?_) | constructor | intro _
    exact congrArg (DV.int .i64) (by omega)
  · rename_i hc
    have hdd : d.addS nd = d1 := by
      rw [Md.Dc.addS, if_neg (fun q => hc.elim (fun q1 => q1.elim (fun q1 => q1 q.1) (fun q1 => q1 q.2.1)) (fun q1 => q1 q.2.2)), hd1, hn1]
    rw [hdd]
    exact Pst.x (x := (a, at1 g.2 d.ns.length (x, 0))) kk (by rw [hl1]; congr 1; omega)
end Go.Proofs.YtfgghapmgdgaeaaGreatDoor.Code
/- Trees: a node put beneath another one. -/
namespace Go.Dm
theorem TDg.nzk {id : Nat} {d : Md.Dc} {g : Nat × (Nat → Nat × Nat)} {kp : Nat → Nat × List Int} {cs : List Ck} (hm : Me (TDg id d g kp) cs) {i : Nat} (hi : i < d.ns.length) : NZ cs (kp i).1 (kp i).2.length := fun h hs hn => by
  rcases TDg.kid hs hm hi with ⟨h0, e⟩ | ⟨h0, _⟩
  · have := List.map_eq_nil_iff.1 e; rw [this] at hn; exact absurd hn (Nat.not_lt_zero _)
  · exact h0
end Go.Dm
namespace Go.Proofs.YtfgghapmgdgaeaaGreatDoor.Code
open Go.Dm
set_option linter.unusedSimpArgs false
set_option linter.unusedVariables false
set_option linter.unnecessarySimpa false
set_option maxRecDepth 10000
attribute [local irreducible] Go.Dm.F Go.Dm.RS Go.Dm.Y Go.Dm.FD Go.Dm.FZ1 Go.Dm.Hold
variable {id : Nat} {d : Md.Dc} {g : Nat × (Nat → Nat × Nat)} {kp : Nat → Nat × List Int} {cs R : List Ck} {n : Int}
theorem inT_F (hm : Me (TDg id d g kp) cs) (h : 0 ≤ n ∧ n < d.ns.length) : F D 21 [.ptr id 0, .int .i64 n] cs (fun v cs' => v = .bool true ∧ cs = cs') := by
  have := in_F (n := n) hm; rw [has_iff.2 h] at this; exact this
theorem put_F {m : Nat} {up : Int} (hw : d.Wf m) (hm : m ≤ 10000) (h1 : 0 ≤ up) (h2 : up < n) (h3 : n < d.ns.length) (hk : (d.ns.getD n.toNat default).kind ≠ 1) (hu : (d.ns.getD n.toNat default).up = -1) (hku : (d.ns.getD up.toNat default).kind = 1 ∨ (d.ns.getD up.toNat default).kind = 2) :
    F D 18 [.ptr id 0, .int .i64 up, .int .i64 n, .int .i64 (-1)] (TD id d g :: R) (fun v cs' => Hold (∃ g', v = .int .i64 0 ∧ TD id (d.put up n) g' :: R = cs')) := by
  have hl := hw.len
  have hkb : ((d.ns.getD up.toNat default).kind != 1 && (d.ns.getD up.toNat default).kind != 2) = false := by rcases hku with h | h <;> rw [h] <;> rfl
  have hab := hw.abv (a := n) d.ns.length up (by omega) (by omega) h2 (by omega)
  apply F.nu rfl rfl; (refine (?_ : EE _ _) ?_; rotate_left; (conv => lhs; cbv; (try simp only [Int.reduceNegSucc, Int.ofNat_eq_natCast, Int.cast_ofNat_Int])); rotate_right; exact fun _ => rfl); rfl
  repeat' first | (refine Stop.out (p := RR _ (.ops (⟨_, .mks true none _ _ _, _, _⟩ :: _) :: _) _ _ _) ?_) | exact inT_F kk (by omega) | exact above_F kk (by omega) hab | exact out_F kk (by omega) hu | (intro hc; exact absurd hc (by decide)) | (intro hc; exact absurd hc (by rw [hkb]; decide)) | (intro hc; exfalso; first | omega | ((simp only [Bool.and_eq_true, Bool.or_eq_true, Bool.not_eq_true', Bool.and_eq_false_iff, Bool.or_eq_false_iff, decide_eq_true_eq, decide_eq_false_iff_not, eqB, bne_iff_ne, beq_iff_eq, bne_eq_false_iff_eq, beq_eq_false_iff_ne, ne_eq, Bool.false_eq_true, or_false, false_or] at hc); omega)) | exact TDg.nzk (kp := dcK d g) (i := up.toNat) kk (by omega) | (apply RR.lg; exact rfl; exact rfl; (intro hp; (try simp only [Bool.and_eq_true, Bool.or_eq_true, Bool.not_eq_true', decide_eq_true_eq, decide_eq_false_iff_not, Bool.and_true, Bool.true_and, and_true, true_and, eqB, beq_iff_eq, Int.ofNat_eq_natCast, Bool.false_eq_true, or_false, false_or] at hp); first | exact TDg.ldN kk | exact TDg.ldF kk (by omega) rfl | exact TDg.ldR kk (by omega) | exact TDg.ldQ kk | exact MS.ldI kk (by omega) (by omega))) | (apply RR.lg (v := .undef); exact rfl; exact rfl; exact fun hp => absurd hp (by decide)) | exact ar | (apply RR.rd; (refine (?_ : EE _ _) ?_; rotate_left; (conv => lhs; cbv; (try simp only [Int.reduceNegSucc, Int.ofNat_eq_natCast, Int.cast_ofNat_Int])); rotate_right; exact fun _ => rfl)) | apply RR.mm0 | apply RR.mm1 | apply RR.cd | apply RR.cl | apply RR.cz | (apply RR.ln; exact rfl; exact rfl) | (apply RR.ia; exact rfl; exact rfl; exact rfl) | (show NZ _ _ _; first | exact TDg.nz kk | exact MS.nzI kk) | apply Pst.e | (refine Pst.x kk ?_) | constructor | intro _
  have hkl := hw.klen up.toNat (by omega)
  refine Stop.at (RR.mm1 rfl rfl fun b hb => ?_)
  refine RR.chk .nil (RR.from (fun h hs => (TDg.take (i := up.toNat) (by omega) (hs.perm (.swap ..))).perm ((List.Perm.swap ..).cons _)) ?_)
  repeat' first | (refine Stop.out (p := RR _ (.ops (⟨none, .store _ _ _, _, _⟩ :: _) :: _) _ _ _) ?_) | exact insert_F rfl (by omega) | (apply RR.lg; exact rfl; exact rfl; (intro hp; (try simp only [Bool.and_eq_true, Bool.or_eq_true, Bool.not_eq_true', decide_eq_true_eq, decide_eq_false_iff_not, Bool.and_true, Bool.true_and, and_true, true_and, eqB, beq_iff_eq, Int.ofNat_eq_natCast, Bool.false_eq_true, or_false, false_or] at hp); first | exact TDg.ldN kk | exact TDg.ldF kk (by omega) rfl | exact TDg.ldR kk (by omega) | exact TDg.ldQ kk | exact MS.ldI kk (by omega) (by omega))) | exact ar | (apply RR.rd; (refine (?_ : EE _ _) ?_; rotate_left; (conv => lhs; cbv; (try simp only [Int.reduceNegSucc, Int.ofNat_eq_natCast, Int.cast_ofNat_Int])); rotate_right; exact fun _ => rfl)) | apply RR.mm0 | apply RR.mm1 | apply RR.cd | apply RR.cl | apply RR.cz | (apply RR.ln; exact rfl; exact rfl) | (apply RR.ia; exact rfl; exact rfl; exact rfl) | (show NZ _ _ _; first | exact TDg.nz kk | exact MS.nzI kk) | apply Pst.e | (refine Pst.x kk ?_) | constructor | intro _
  rename_i a
  replace ⟨d1, hd1⟩ : ∃ d1 : Md.Dc, d1 = d.upd up fun x => { x with kids := x.kids ++ [n] } := ⟨_, rfl⟩
  replace ⟨g1, hg1⟩ : ∃ g1 : Nat → Nat × Nat, g1 = at1 g.2 up.toNat ((g.2 up.toNat).1, a) := ⟨_, rfl⟩
  have hl1 : d1.ns.length = d.ns.length := by rw [hd1, Md.Dc.upd_len]
  refine Stop.at (RR.storeS rfl rfl (TDg.st (kp := at1 (dcK d g) up.toNat (0, [])) (d' := d1) (g' := g1) (i := up.toNat) (k := 8) (.tail .head) (by omega) (by decide) rfl hl1 (by rw [hd1]; rfl) (fun m hm => ?_) ⟨by cases a <;> rfl, by cases a <;> rfl⟩) rfl (RR.chk .nil (RR.from (cs2 := TD id d1 (g.1, g1) :: R) (fun h hs => ?_) ?_)))
  · rw [hd1, hg1, Md.Dc.upd_get _ _ _ _ hm]
    by_cases h : m = up.toNat
    · subst h; rw [if_pos rfl, at1_self, if_pos rfl]; rfl
    · rw [if_neg (Ne.symm h), at1_ne h, if_neg h]
  · have hs1 := TDg.give (i := up.toNat) (by omega) hs
    rw [TDg.cong (kp' := dcK d1 (g.1, g1)) (fun j hj => ?_)] at hs1
    · exact hs1
    · rw [hl1] at hj
      rw [dcK, hd1, hg1, Md.Dc.upd_get _ _ _ _ hj]
      by_cases h : j = up.toNat
      · subst h; rw [if_pos rfl, at1_self]; show _ = ((at1 g.2 up.toNat _ up.toNat).2, _); rw [at1_self]
      · rw [if_neg (Ne.symm h), at1_ne h]; show _ = ((at1 g.2 up.toNat _ j).2, _); rw [at1_ne h]
  repeat' first | (refine Stop.out (p := RR _ (.ops (⟨none, .store _ _ _, _, _⟩ :: _) :: _) _ _ _) ?_) | (apply RR.lg; exact rfl; exact rfl; (intro hp; (try simp only [Bool.and_eq_true, Bool.or_eq_true, Bool.not_eq_true', decide_eq_true_eq, decide_eq_false_iff_not, Bool.and_true, Bool.true_and, and_true, true_and, eqB, beq_iff_eq, Int.ofNat_eq_natCast, Bool.false_eq_true, or_false, false_or] at hp); first | exact TDg.ldN kk | exact TDg.ldF kk (by omega) rfl | exact TDg.ldR kk (by omega) | exact TDg.ldQ kk | exact MS.ldI kk (by omega) (by omega))) | exact ar | (apply RR.rd; (refine (?_ : EE _ _) ?_; rotate_left; (conv => lhs; cbv; (try simp only [Int.reduceNegSucc, Int.ofNat_eq_natCast, Int.cast_ofNat_Int])); rotate_right; exact fun _ => rfl)) | apply RR.mm0 | apply RR.mm1 | apply RR.cd | apply RR.cl | apply RR.cz | (apply RR.ln; exact rfl; exact rfl) | (apply RR.ia; exact rfl; exact rfl; exact rfl) | (show NZ _ _ _; first | exact TDg.nz kk | exact MS.nzI kk) | apply Pst.e | (refine Pst.x kk ?_) | constructor | intro _
  refine Stop.at (RR.storeS rfl rfl (TD.st (d' := d.put up n) (g' := g1) (i := n.toNat) (k := 7) .head (by omega) (by decide) rfl (by rw [hl1, Md.Dc.put_len]) (by rw [hd1]; rfl) (fun m hm => ?_) ⟨rfl, rfl⟩ (fun m hm => ?_)) rfl (RR.chk .nil ?_))
  · rw [Md.Dc.put, ← hd1, Md.Dc.upd_get _ _ _ _ hm]
    by_cases h : m = n.toNat
    · subst h; rw [if_pos rfl, if_pos rfl]; rfl
    · rw [if_neg (Ne.symm h), if_neg h]
  · simp only [dcK]
    rw [Md.Dc.put, ← hd1, Md.Dc.upd_get _ _ _ _ hm]
    by_cases h : m = n.toNat
    · subst h; rw [if_pos rfl]
    · rw [if_neg (Ne.symm h)]
  repeat' first | (apply RR.lg; exact rfl; exact rfl; (intro hp; (try simp only [Bool.and_eq_true, Bool.or_eq_true, Bool.not_eq_true', decide_eq_true_eq, decide_eq_false_iff_not, Bool.and_true, Bool.true_and, and_true, true_and, eqB, beq_iff_eq, Int.ofNat_eq_natCast, Bool.false_eq_true, or_false, false_or] at hp); first | exact TDg.ldN kk | exact TDg.ldF kk (by omega) rfl | exact TDg.ldR kk (by omega) | exact TDg.ldQ kk | exact MS.ldI kk (by omega) (by omega))) | exact ar | (apply RR.rd; (refine (?_ : EE _ _) ?_; rotate_left; (conv => lhs; cbv; (try simp only [Int.reduceNegSucc, Int.ofNat_eq_natCast, Int.cast_ofNat_Int])); rotate_right; exact fun _ => rfl)) | apply RR.mm0 | apply RR.mm1 | apply RR.cd | apply RR.cl | apply RR.cz | (apply RR.ln; exact rfl; exact rfl) | (apply RR.ia; exact rfl; exact rfl; exact rfl) | (show NZ _ _ _; first | exact TDg.nz kk | exact MS.nzI kk) | apply Pst.e | (refine Pst.x kk ?_) | constructor | intro _
end Go.Proofs.YtfgghapmgdgaeaaGreatDoor.Code
/- Trees: a new one; a text beneath what has nothing yet. -/
namespace Go.Md.Dc
theorem addS_old {d : Dc} {n : Nd} {j : Nat} (h : j < d.ns.length) : (d.addS n).ns.getD j default = d.ns.getD j default := by
  obtain ⟨l, e, _⟩ := addS_tail d n
  rw [e, getD_app, if_pos h]
theorem addS_len (d : Dc) (n : Nd) : d.ns.length < (d.addS n).ns.length ∧ (d.addS n).ns.length ≤ d.ns.length + 2 := by
  obtain ⟨l, e, h1, h2, _⟩ := addS_tail d n
  rw [e]
  show d.ns.length < (d.ns ++ l).length ∧ (d.ns ++ l).length ≤ _
  rw [List.length_append]; omega
theorem addS_new (d : Dc) (n : Nd) : ((d.addS n).ns.getD d.ns.length default).kind = n.kind ∧ ((d.addS n).ns.getD d.ns.length default).up = -1 ∧ ((d.addS n).ns.getD d.ns.length default).kids = [] ∧
    (((d.addS n).ns.getD d.ns.length default).inner = -1 ∨ (((d.addS n).ns.getD d.ns.length default).inner = d.ns.length + 1 ∧ d.ns.length + 1 < (d.addS n).ns.length ∧ ((d.addS n).ns.getD (d.ns.length + 1) default).kind = 1 ∧ ((d.addS n).ns.getD (d.ns.length + 1) default).kids = [])) := by
  obtain ⟨l, e, h1, h2, h3, h5, h4⟩ := addS_tail d n
  obtain ⟨k1, k2, k3⟩ := h4 0 h1
  rw [e]
  show ((d.ns ++ l).getD _ default).kind = _ ∧ ((d.ns ++ l).getD _ default).up = _ ∧ ((d.ns ++ l).getD _ default).kids = _ ∧ (((d.ns ++ l).getD _ default).inner = _ ∨ (((d.ns ++ l).getD _ default).inner = _ ∧ _ < (d.ns ++ l).length ∧ ((d.ns ++ l).getD _ default).kind = 1 ∧ ((d.ns ++ l).getD _ default).kids = []))
  rw [getD_app, getD_app, if_neg (Nat.lt_irrefl _), Nat.sub_self, if_neg (by omega), Nat.add_sub_cancel_left, List.length_append]
  refine ⟨h3, k2, k1, ?_⟩
  rcases k3 with k3 | ⟨k3, k4, k5⟩
  · exact .inl k3
  · exact .inr ⟨by rw [k3]; omega, by omega, k5, (h4 1 k4).1⟩
theorem Wf.addS {d : Dc} {m : Nat} {n : Nd} (h : d.Wf m) (hn : n.attrs.length ≤ 1000000) : (d.addS n).Wf (m + 2) := by
  obtain ⟨l, e, h1, h2, h3, h5, h4⟩ := addS_tail d n
  rw [e]; exact h.app h2 (fun j hj => Nat.le_trans (h5 j hj) hn) h4
end Go.Md.Dc
namespace Go.Proofs.YtfgghapmgdgaeaaGreatDoor.Code
open Go.Dm
set_option linter.unusedSimpArgs false
set_option linter.unusedVariables false
set_option linter.unnecessarySimpa false
set_option maxRecDepth 10000
attribute [local irreducible] Go.Dm.F Go.Dm.RS Go.Dm.Y Go.Dm.FD Go.Dm.FZ1 Go.Dm.Hold
variable {id : Nat} {d : Md.Dc} {g : Nat × (Nat → Nat × Nat)} {kp : Nat → Nat × List Int} {cs R : List Ck} {n : Int}
theorem zk0 {sz : Nat} : ZK 0 0 sz := by
  have : ZK 0 (zOf 0 sz) sz := .zof
  exact this
theorem say_F {m : Nat} {up : Int} {s : Md.Str} (hw : d.Wf m) (hm : m ≤ 9000) (h1 : 0 ≤ up) (h2 : up < d.ns.length) (hs : s ≠ []) (hk : (d.ns.getD up.toNat default).kids = []) (hku : (d.ns.getD up.toNat default).kind = 1 ∨ (d.ns.getD up.toNat default).kind = 2) :
    F D 19 [.ptr id 0, .int .i64 up, .str s, .int .i64 (-1)] (TD id d g :: R) (fun v cs' => Hold (∃ g', v = .int .i64 0 ∧ TD id ((d.addS { kind := 3, data := s }).put up d.ns.length) g' :: R = cs')) := by
  have hl := hw.len
  have hw1 := hw.addS (n := { kind := 3, data := s }) (Nat.zero_le _)
  obtain ⟨n1, n2, n3, n4⟩ := Md.Dc.addS_new d { kind := 3, data := s }
  have ho := Md.Dc.addS_old (n := { kind := 3, data := s }) (d := d) (j := up.toNat) (by omega)
  have hln := Md.Dc.addS_len d { kind := 3, data := s }
  have hA : ∀ R, F D 17 [.ptr id 0, .agg [.int .i64 3, .int .i64 0, .str [], .str s, .lst 0 0 [], .str [], .str [], .int .i64 0, .lst 0 0 [], .int .i64 0]] (TD id d g :: R) (fun v cs' => Hold (∃ g', v = .int .i64 d.ns.length ∧ TD id (d.addS { kind := 3, data := s }) g' :: R = cs')) := fun R =>
    add_F (nd := { kind := 3, data := s }) (t := 0) (z := 0) zk0 (fun _ => rfl) (by omega) (Nat.zero_le _)
  have hP : ∀ g1 R, F D 18 [.ptr id 0, .int .i64 up, .int .i64 d.ns.length, .int .i64 (-1)] (TD id (d.addS { kind := 3, data := s }) g1 :: R) (fun v cs' => Hold (∃ g', v = .int .i64 0 ∧ TD id ((d.addS { kind := 3, data := s }).put up d.ns.length) g' :: R = cs')) := fun g1 R =>
    put_F hw1 (by omega) h1 (by omega) (by omega) (by rw [Int.toNat_natCast, n1]; show (3 : Int) ≠ 1; decide) (by rw [Int.toNat_natCast, n2]) (by rw [ho]; exact hku)
  have hk0 : (d.ns.getD up.toNat default).kids.length = 0 := by rw [hk]; rfl
  apply F.nu rfl rfl; (refine (?_ : EE _ _) ?_; rotate_left; (conv => lhs; cbv; (try simp only [Int.reduceNegSucc, Int.ofNat_eq_natCast, Int.cast_ofNat_Int])); rotate_right; exact fun _ => rfl); rfl
  repeat' first | exact inT_F kk (by omega) | exact hA _ | exact hP _ _ | (intro hc; exact absurd hc (by decide)) | (intro hc; exfalso; first | omega | (simp [hs, hk] at hc; done)) | exact TDg.nzk (kp := dcK d g) (i := up.toNat) kk (by omega) | (apply RR.lg; exact rfl; exact rfl; (intro hp; (try simp only [Bool.and_eq_true, Bool.or_eq_true, Bool.not_eq_true', decide_eq_true_eq, decide_eq_false_iff_not, Bool.and_true, Bool.true_and, and_true, true_and, eqB, beq_iff_eq, Int.ofNat_eq_natCast, Bool.false_eq_true, or_false, false_or] at hp); first | exact TDg.ldN kk | exact TDg.ldF kk (by omega) rfl | exact TDg.ldR kk (by omega) | exact TDg.ldQ kk | exact MS.ldI kk (by omega) (by omega))) | (apply RR.lg (v := .int .i64 0); exact rfl; exact rfl; exact fun hp => absurd hp (by rw [hk0]; decide)) | exact ar | (apply RR.rd; (refine (?_ : EE _ _) ?_; rotate_left; (conv => lhs; cbv; (try simp only [Int.reduceNegSucc, Int.ofNat_eq_natCast, Int.cast_ofNat_Int])); rotate_right; exact fun _ => rfl)) | apply RR.mm0 | apply RR.mm1 | apply RR.cd | apply RR.cl | apply RR.cz | (apply RR.ln; exact rfl; exact rfl) | (apply RR.ia; exact rfl; exact rfl; exact rfl) | (show NZ _ _ _; first | exact TDg.nz kk | exact MS.nzI kk) | apply Pst.e | (refine Pst.x kk ?_) | constructor | intro _
  all_goals skip
end Go.Proofs.YtfgghapmgdgaeaaGreatDoor.Code
/- Trees made of pieces. -/
namespace Go.Md
structure Pc where
  name : Str
  space : Int
  attrs : List (Str × Str)
  up : Int
  say : Str
  deriving Inhabited
namespace Dc
theorem Wf.mono {d : Dc} {m m' : Nat} (h : d.Wf m) (hm : m ≤ m') : d.Wf m' := ⟨⟨h.len.1, Nat.le_trans h.len.2 hm⟩, fun i hi => Nat.le_trans (h.klen i hi) hm, h.kids, h.inner, h.up, h.al, h.tree, h.nd, h.inUp⟩
/-- A tree under way, and the nodes beneath which more may stand. -/
structure Mk (d : Dc) (all : List Int) (m : Nat) : Prop where
  wf : d.Wf m
  ne : 0 < all.length
  el : ∀ a ∈ all, 0 ≤ a ∧ a < d.ns.length ∧ ((d.ns.getD a.toNat default).kind = 1 ∨ (d.ns.getD a.toNat default).kind = 2)
theorem Mk.new : Mk Dc.new [0] 1 := ⟨Wf.new, by decide, fun a ha => by
  rw [List.mem_singleton.1 ha]
  exact ⟨by decide, by decide, .inl rfl⟩⟩
theorem Mk.piece {d : Dc} {all : List Int} {m : Nat} {nd : Nd} {up : Int} (h : Mk d all m) (ha : nd.attrs.length ≤ 1000000) (hk : nd.kind = 2) (h1 : 0 ≤ up) (h2 : up < d.ns.length) : Mk ((d.addS nd).put up d.ns.length) (all ++ [(d.ns.length : Int)]) (m + 3) := by
  have hl := addS_len d nd
  refine ⟨(h.wf.addS ha).put h1 (by omega) (by omega) (by rw [Int.toNat_natCast, (addS_new d nd).1, hk]; decide) (by rw [Int.toNat_natCast, (addS_new d nd).2.1]), by simp, fun a ha => ?_⟩
  rw [put_len]
  rcases List.mem_append.1 ha with ha | ha
  · obtain ⟨a1, a2, a3⟩ := h.el a ha
    refine ⟨a1, by omega, ?_⟩
    rw [(put_get (by omega)).1, addS_old (by omega)]; exact a3
  · rw [List.mem_singleton.1 ha]
    refine ⟨by omega, by omega, .inr ?_⟩
    rw [(put_get (by omega)).1, Int.toNat_natCast, (addS_new d nd).1, hk]
theorem Mk.text {d : Dc} {all : List Int} {m : Nat} {nd : Nd} {up : Int} (h : Mk d all m) (ha : nd.attrs.length ≤ 1000000) (hk : nd.kind ≠ 1) (h1 : 0 ≤ up) (h2 : up < d.ns.length) : Mk ((d.addS nd).put up d.ns.length) all (m + 3) := by
  have hl := addS_len d nd
  refine ⟨(h.wf.addS ha).put h1 (by omega) (by omega) (by rw [Int.toNat_natCast, (addS_new d nd).1]; exact hk) (by rw [Int.toNat_natCast, (addS_new d nd).2.1]), h.ne, fun a ha => ?_⟩
  rw [put_len]
  obtain ⟨a1, a2, a3⟩ := h.el a ha
  refine ⟨a1, by omega, ?_⟩
  rw [(put_get (by omega)).1, addS_old (by omega)]; exact a3
theorem Mk.mono {d : Dc} {all : List Int} {m m' : Nat} (h : Mk d all m) (hm : m ≤ m') : Mk d all m' := ⟨h.wf.mono hm, h.ne, h.el⟩
/-- Where a piece's node may be put. -/
def Spot (d : Dc) (u up : Int) : Prop := up = u ∨ ((d.ns.getD u.toNat default).inner ≠ -1 ∧ up = (d.ns.getD u.toNat default).inner)
theorem Wf.spot {d : Dc} {m : Nat} {u up : Int} (h : d.Wf m) (h1 : 0 ≤ u) (h2 : u < d.ns.length) (hk : (d.ns.getD u.toNat default).kind = 1 ∨ (d.ns.getD u.toNat default).kind = 2) (hs : d.Spot u up) :
    0 ≤ up ∧ up < d.ns.length ∧ ((d.ns.getD up.toNat default).kind = 1 ∨ (d.ns.getD up.toNat default).kind = 2) := by
  rcases hs with rfl | ⟨hs, rfl⟩
  · exact ⟨h1, h2, hk⟩
  · rcases h.inner u.toNat (by omega) with hi | ⟨hi, hj, hk⟩
    · contradiction
    · rw [hi]
      refine ⟨by omega, by omega, .inl ?_⟩
      rw [show ((u.toNat : Int) + 1).toNat = u.toNat + 1 by omega]; exact hk
end Dc
end Go.Md
namespace Go.Dm
def encP (p : Md.Pc × Nat) : DV := .agg [.str p.1.name, .int .i64 p.1.space, .lst p.2 (zOf p.2 2) (p.1.attrs.map encA), .int .i64 p.1.up, .str p.1.say]
theorem and_any (n : Int) (m : Nat) (hm : m ≤ 1000000000) : ∃ k : Nat, k ≤ m ∧ ∀ p, BI p .and .any (.int .i64 n) (.int .i64 (m : Int)) (.int .i64 (k : Int)) := by
  have hk : (BitVec.ofInt 64 n &&& BitVec.ofInt 64 (m : Int)).toNat ≤ m := by
    rw [BitVec.toNat_and]
    refine Nat.le_trans Nat.and_le_right ?_
    rw [BitVec.toNat_ofInt]; omega
  refine ⟨_, hk, fun p => .gen ?_⟩
  show some (DV.int .i64 (IntKind.i64.wrap ((BitVec.ofInt 64 n &&& BitVec.ofInt 64 (m : Int)).toNat : Int))) = _
  rw [wrap_i64_in (by omega)]
theorem rem_any (k c : Nat) (hc : 0 < c) : ∃ j : Nat, j < c ∧ ∀ p, BI p .rem .any (.int .i64 (k : Int)) (.int .i64 (c : Int)) (.int .i64 (j : Int)) := by
  refine ⟨k % c, Nat.mod_lt _ hc, fun p => .gen ?_⟩
  have h0 : (c : Int) ≠ 0 := by omega
  show (if (c : Int) = 0 then none else some (DV.int .i64 ((k : Int).tmod c))) = _
  rw [if_neg h0, Int.tmod_eq_emod_of_nonneg (by omega)]; rfl
end Go.Dm
namespace Go.Proofs.YtfgghapmgdgaeaaGreatDoor.Code
open Go.Dm
set_option linter.unusedSimpArgs false
set_option linter.unusedVariables false
set_option linter.unnecessarySimpa false
set_option maxRecDepth 10000
attribute [local irreducible] Go.Dm.F Go.Dm.RS Go.Dm.Y Go.Dm.FD Go.Dm.FZ1 Go.Dm.Hold
variable {id : Nat} {d : Md.Dc} {g : Nat × (Nat → Nat × Nat)} {kp : Nat → Nat × List Int} {cs R : List Ck} {n : Int}
theorem new_F : F D 16 [] R (fun v cs' => Hold (∃ x : Nat × (Nat × (Nat → Nat × Nat)), v = .ptr x.1 0 ∧ TD x.1 Md.Dc.new x.2 :: R = cs')) := by
  apply F.nu rfl rfl; (refine (?_ : EE _ _) ?_; rotate_left; (conv => lhs; cbv; (try simp only [Int.reduceNegSucc, Int.ofNat_eq_natCast, Int.cast_ofNat_Int])); rotate_right; exact fun _ => rfl); rfl
  repeat' first | (apply RR.mm (sh := some 10); exact .cons rfl (.agg rfl) .nil; exact rfl; exact rfl; exact rfl) | exact CL.ms | exact ar | (apply RR.rd; (refine (?_ : EE _ _) ?_; rotate_left; (conv => lhs; cbv; (try simp only [Int.reduceNegSucc, Int.ofNat_eq_natCast, Int.cast_ofNat_Int])); rotate_right; exact fun _ => rfl)) | apply RR.mm0 | apply RR.mm1 | apply RR.cd | apply RR.cl | apply RR.cz | (apply RR.ln; exact rfl; exact rfl) | (apply RR.ia; exact rfl; exact rfl; exact rfl) | (show NZ _ _ _; first | exact TDg.nz kk | exact MS.nzI kk) | apply Pst.e | (refine Pst.x kk ?_) | constructor | intro _
  rename_i a _ id _
  exact Pst.of (fun h hs => TDg.cls (id := id) (d := Md.Dc.new) (g := (a, fun _ => (0, 0))) (kp := dcK Md.Dc.new (a, fun _ => (0, 0))) ((hs.nilMS none).perm ((List.Perm.swap ..).trans (.cons _ (.swap ..))))) (Hold.mk ⟨(id, (a, fun _ => (0, 0))), rfl, rfl⟩)
set_option maxHeartbeats 4000000 in
theorem made_F {t z : Nat} {ps : List (Md.Pc × Nat)} (hz : ZK t z 5) (hl : ps.length ≤ 9223372036854775807) (hp : ∀ p ∈ ps, p.2 = 0 → p.1.attrs = []) :
    F D 6 [.lst t z (ps.map encP)] R (fun v cs' => Hold (∃ x : Nat × Md.Dc × (Nat × (Nat → Nat × Nat)), v = .tup [.ptr x.1 0, .bool true] ∧ x.2.1.Wf 1000 ∧ TD x.1 x.2.1 x.2.2 :: R = cs')) := by
  apply F.nu rfl rfl; (refine (?_ : EE _ _) ?_; rotate_left; (conv => lhs; cbv; (try simp only [Int.reduceNegSucc, Int.ofNat_eq_natCast, Int.cast_ofNat_Int])); rotate_right; exact fun _ => rfl); rfl
  repeat' first | exact new_F | exact ar | (apply RR.rd; (refine (?_ : EE _ _) ?_; rotate_left; (conv => lhs; cbv; (try simp only [Int.reduceNegSucc, Int.ofNat_eq_natCast, Int.cast_ofNat_Int])); rotate_right; exact fun _ => rfl)) | apply RR.mm0 | apply RR.mm1 | apply RR.cd | apply RR.cl | apply RR.cz | (apply RR.ln; exact rfl; exact rfl) | (apply RR.ia; exact rfl; exact rfl; exact rfl) | (show NZ _ _ _; first | exact TDg.nz kk | exact MS.nzI kk) | apply Pst.e | (refine Pst.x kk ?_) | constructor | intro _
  rename_i x b hb
  obtain ⟨id, g⟩ := x
  refine RS.loopW (α := Nat × Md.Dc × (Nat × (Nat → Nat × Nat)) × Nat × List Int) (fun i => [(4, .ptr id 0), (5, msV i.2.2.2.1 1 i.2.2.2.2.length), (13, .lst t z (ps.map encP)), (14, .int .i64 ps.length), (15, .int .i64 (i.1 : Nat))])
    (fun i => MS i.2.2.2.1 none (I64s i.2.2.2.2) :: TD id i.2.1 i.2.2.1 :: R)
    (fun i => i.1 ≤ ps.length ∧ i.1 ≤ 30 ∧ i.2.1.Mk i.2.2.2.2 (1 + 6 * i.1) ∧ i.2.2.2.2.length ≤ i.1 + 1) (fun i => ps.length - i.1) (0, Md.Dc.new, g, b, [0]) ⟨Nat.zero_le _, Nat.zero_le _, Md.Dc.Mk.new, Nat.le_refl _⟩ ⟨rfl, rfl, rfl, rfl, rfl, trivial⟩ .refl ?_
  rintro ⟨i, d, g, b, all⟩ ⟨h1, h2, h3, h4⟩ ih
  dsimp only [ents] at *
  have hpi : i < ps.length → (ps.getD i default).2 = 0 → (ps.getD i default).1.attrs = [] := fun h => by
    rw [List.getD_eq_getElem?_getD, List.getElem?_eq_getElem h]; exact hp _ (List.getElem_mem h)
  have hIA : Hold (i < ps.length → ∀ cs b, IA cs b 5 (.lst t z (ps.map encP)) (.int .i64 (i : Nat)) (.elt (encP (ps.getD i default)).cells)) := .mk fun h cs b => IA.map hz (Arith.mk fun _ => by omega)
  generalize ps.getD i default = p at *
  by_cases hp6 : ¬p.1.attrs.length ≤ 6
  · repeat' first | (show IA _ _ _ _ _ _; exact hIA.out (by omega) _ _) | (intro hc; exfalso; omega) | (apply RR.lg; exact rfl; exact rfl; (intro hp; (try simp only [Bool.and_eq_true, Bool.or_eq_true, Bool.not_eq_true', decide_eq_true_eq, decide_eq_false_iff_not, Bool.and_true, Bool.true_and, and_true, true_and, eqB, beq_iff_eq, Int.ofNat_eq_natCast, Bool.false_eq_true, or_false, false_or] at hp); first | exact TDg.ldN kk | exact TDg.ldF kk (by omega) rfl | exact TDg.ldR kk (by omega) | exact TDg.ldQ kk | exact MS.ldI kk (by omega) (by omega))) | exact ar | (apply RR.rd; (refine (?_ : EE _ _) ?_; rotate_left; (conv => lhs; cbv; (try simp only [Int.reduceNegSucc, Int.ofNat_eq_natCast, Int.cast_ofNat_Int])); rotate_right; exact fun _ => rfl)) | apply RR.mm0 | apply RR.mm1 | apply RR.cd | apply RR.cl | apply RR.cz | (apply RR.ln; exact rfl; exact rfl) | (apply RR.ia; exact rfl; exact rfl; exact rfl) | (show NZ _ _ _; first | exact TDg.nz kk | exact MS.nzI kk) | apply Pst.e | (refine Pst.x kk ?_) | constructor | intro _
    all_goals exact Pst.xp (x := (id, d, g)) kk rfl (h3.wf.mono (by omega))
  replace hp6 : p.1.attrs.length ≤ 6 := by omega
  obtain ⟨k1, hk1, hK1⟩ := and_any p.1.space 3 (by omega)
  obtain ⟨k2, hk2, hK2⟩ := rem_any k1 3 (by decide)
  obtain ⟨k3, hk3, hK3⟩ := and_any p.1.up 255 (by omega)
  obtain ⟨k4, hk4, hK4⟩ := rem_any k3 all.length h3.ne
  have hlen := h3.wf.len
  have hu := h3.el (all.getD k4 0) (by rw [List.getD_eq_getElem?_getD, List.getElem?_eq_getElem hk4]; exact List.getElem_mem hk4)
  obtain ⟨nd, hnd⟩ : ∃ nd : Md.Nd, nd = { kind := 2, space := k2, name := p.1.name, attrs := p.1.attrs } := ⟨_, rfl⟩
  have hna : nd.attrs.length ≤ 1000000 := by rw [hnd]; show p.1.attrs.length ≤ _; omega
  obtain ⟨d1, hd1⟩ : ∃ d1, d1 = d.addS nd := ⟨_, rfl⟩
  have hl1 := Md.Dc.addS_len d nd
  have hA : i < ps.length → (p.1.attrs.length : Int) ≤ 6 → ∀ R, F D 17 [.ptr id 0, .agg [.int .i64 2, .int .i64 k2, .str p.1.name, .str [], .lst p.2 (zOf p.2 2) (p.1.attrs.map encA), .str [], .str [], .int .i64 0, .lst 0 0 [], .int .i64 0]] (TD id d g :: R) (fun v cs' => Hold (∃ g', v = .int .i64 d.ns.length ∧ TD id d1 g' :: R = cs')) := fun h h' R => by
    rw [hd1, hnd]
    exact add_F (nd := { kind := 2, space := k2, name := p.1.name, attrs := p.1.attrs }) .zof (hpi h) (by omega) (by show p.1.attrs.length ≤ _; omega)
  have hsp : ∀ up, d1.Spot (all.getD k4 0) up → 0 ≤ up ∧ up < d.ns.length ∧ ((d.ns.getD up.toNat default).kind = 1 ∨ (d.ns.getD up.toNat default).kind = 2) := fun up hs => by
    refine h3.wf.spot hu.1 hu.2.1 hu.2.2 ?_
    unfold Md.Dc.Spot at hs ⊢
    rwa [hd1, Md.Dc.addS_old (by omega)] at hs
  have hP : ∀ up, d1.Spot (all.getD k4 0) up → ∀ g R, F D 18 [.ptr id 0, .int .i64 up, .int .i64 d.ns.length, .int .i64 (-1)] (TD id d1 g :: R) (fun v cs' => Hold (∃ g', v = .int .i64 0 ∧ TD id (d1.put up d.ns.length) g' :: R = cs')) := fun up hs g R => by
    obtain ⟨u1, u2, u3⟩ := hsp up hs
    obtain ⟨n1, n2, n3, n4⟩ := Md.Dc.addS_new d nd
    rw [hd1]
    exact put_F (h3.wf.addS hna) (by omega) u1 u2 (by omega) (by rw [Int.toNat_natCast, n1, hnd]; show (2 : Int) ≠ 1; decide) (by rw [Int.toNat_natCast, n2]) (by rw [Md.Dc.addS_old (by omega)]; exact u3)
  have hM : ∀ up, d1.Spot (all.getD k4 0) up → (d1.put up d.ns.length).Mk (all ++ [(d.ns.length : Int)]) (1 + 6 * i + 3) := fun up hs => by
    obtain ⟨u1, u2, u3⟩ := hsp up hs
    rw [hd1]; exact h3.piece hna (by rw [hnd]) u1 u2
  have hpl : ∀ up, (d1.put up d.ns.length).ns.length = d1.ns.length := fun up => Md.Dc.put_len
  have hto : ∀ up, d1.Spot (all.getD k4 0) up → ∀ to, (d1.put up d.ns.length).Spot d.ns.length to → 0 ≤ to ∧ to < (d1.put up d.ns.length).ns.length ∧ ((d1.put up d.ns.length).ns.getD to.toNat default).kids = [] ∧ (((d1.put up d.ns.length).ns.getD to.toNat default).kind = 1 ∨ ((d1.put up d.ns.length).ns.getD to.toNat default).kind = 2) := fun up hs to ht => by
    obtain ⟨u1, u2, u3⟩ := hsp up hs
    have hm := (hM up hs)
    have hx := hm.el d.ns.length (by simp)
    obtain ⟨t1, t2, t3⟩ := hm.wf.spot hx.1 hx.2.1 hx.2.2 ht
    refine ⟨t1, t2, ?_, t3⟩
    obtain ⟨n1, n2, n3, n4⟩ := Md.Dc.addS_new d nd
    have hg := Md.Dc.put_get (d := d1) (up := up) (n := d.ns.length) (j := d.ns.length) (by rw [hd1]; omega)
    unfold Md.Dc.Spot at ht
    rw [Int.toNat_natCast, hg.2.1, hd1] at ht
    rcases ht with rfl | ⟨ht, rfl⟩
    · rw [Int.toNat_natCast, hg.2.2.1, if_neg (by omega), hd1, n3]
    · rcases n4 with n4 | ⟨n4, n5, n6, n7⟩
      · contradiction
      · rw [n4, show ((d.ns.length : Int) + 1).toNat = d.ns.length + 1 by omega, (Md.Dc.put_get (d := d1) (j := d.ns.length + 1) (by rw [hd1]; omega)).2.2.1, if_neg (by omega), hd1, n7]
  have hS : ∀ up, d1.Spot (all.getD k4 0) up → ∀ to, (d1.put up d.ns.length).Spot d.ns.length to → p.1.say ≠ [] → ∀ g R, F D 19 [.ptr id 0, .int .i64 to, .str p.1.say, .int .i64 (-1)] (TD id (d1.put up d.ns.length) g :: R) (fun v cs' => Hold (∃ g', v = .int .i64 0 ∧ TD id (((d1.put up d.ns.length).addS { kind := 3, data := p.1.say }).put to (d1.put up d.ns.length).ns.length) g' :: R = cs')) := fun up hs to ht h g R => by
    obtain ⟨t1, t2, t3, t4⟩ := hto up hs to ht
    exact say_F (hM up hs).wf (by omega) t1 t2 h t3 t4
  have hMS : ∀ up, d1.Spot (all.getD k4 0) up → ∀ to, (d1.put up d.ns.length).Spot d.ns.length to → (((d1.put up d.ns.length).addS { kind := 3, data := p.1.say }).put to (d1.put up d.ns.length).ns.length).Mk (all ++ [(d.ns.length : Int)]) (1 + 6 * i + 3 + 3) := fun up hs to ht => by
    obtain ⟨t1, t2, t3, t4⟩ := hto up hs to ht
    exact (hM up hs).text (Nat.zero_le _) (by show (3 : Int) ≠ 1; decide) t1 t2
  rw [← hd1] at hl1
  replace hA := Hold.mk hA
  replace hP := Hold.mk hP
  replace hS := Hold.mk hS
  clear hpi hp
  repeat' first | (refine Stop.out (p := RS D (.lp _ :: _) _ _ _) ?_) | (show IA _ _ _ _ _ _; exact hIA.out (by omega) _ _) | exact hK1 _ | exact hK2 _ | exact hK3 _ | exact hK4 _ | (show FC _ _ _ _ _; first | exact F.atG (α := Nat × (Nat → Nat × Nat)) kk (fun R => hA.out (by omega) (by omega) R) | exact F.atG (α := Nat × (Nat → Nat × Nat)) kk (fun R => hP.out _ (.inl rfl) _ R) | exact F.atG (α := Nat × (Nat → Nat × Nat)) kk (fun R => hP.out _ (.inr ⟨by omega, rfl⟩) _ R) | exact F.atG (α := Nat × (Nat → Nat × Nat)) kk (fun R => hS.out (all.getD k4 0) (by first | exact .inl rfl | exact .inr ⟨by omega, rfl⟩) (d.ns.length : Int) (by first | exact .inl rfl | exact .inr ⟨by omega, rfl⟩) (by first | assumption | exact And.left (by assumption)) _ R) | exact F.atG (α := Nat × (Nat → Nat × Nat)) kk (fun R => hS.out (all.getD k4 0) (by first | exact .inl rfl | exact .inr ⟨by omega, rfl⟩) ((d1.put (all.getD k4 0) d.ns.length).ns.getD (d.ns.length : Int).toNat default).inner (by first | exact .inl rfl | exact .inr ⟨by omega, rfl⟩) (by first | assumption | exact And.left (by assumption)) _ R) | exact F.atG (α := Nat × (Nat → Nat × Nat)) kk (fun R => hS.out (d1.ns.getD (all.getD k4 0).toNat default).inner (by first | exact .inl rfl | exact .inr ⟨by omega, rfl⟩) (d.ns.length : Int) (by first | exact .inl rfl | exact .inr ⟨by omega, rfl⟩) (by first | assumption | exact And.left (by assumption)) _ R) | exact F.atG (α := Nat × (Nat → Nat × Nat)) kk (fun R => hS.out (d1.ns.getD (all.getD k4 0).toNat default).inner (by first | exact .inl rfl | exact .inr ⟨by omega, rfl⟩) ((d1.put (d1.ns.getD (all.getD k4 0).toNat default).inner d.ns.length).ns.getD (d.ns.length : Int).toNat default).inner (by first | exact .inl rfl | exact .inr ⟨by omega, rfl⟩) (by first | assumption | exact And.left (by assumption)) _ R)) | (show LD _ _ _ _; exact MS.ldI (i := k4) kk hk4 (by omega)) | (apply RR.apI (l := all) (m := [(d.ns.length : Int)]); exact rfl; exact rfl; exact MS.emI kk) | (intro hc; exact absurd hc (by decide)) | (apply RR.lg; exact rfl; exact rfl; (intro hp; (try simp only [Bool.and_eq_true, Bool.or_eq_true, Bool.not_eq_true', decide_eq_true_eq, decide_eq_false_iff_not, Bool.and_true, Bool.true_and, and_true, true_and, eqB, beq_iff_eq, Int.ofNat_eq_natCast, Bool.false_eq_true, or_false, false_or] at hp); first | exact TDg.ldN kk | exact TDg.ldF kk (by omega) rfl | exact TDg.ldR kk (by omega) | exact TDg.ldQ kk | exact MS.ldI kk (by omega) (by omega))) | (apply RR.lg; exact rfl; exact rfl; (intro _; exact TDg.ldF kk (by rw [hpl]; omega) rfl)) | (refine Arith.mk ?_; intro _; rw [hpl]; omega) | exact ar | (apply RR.rd; (refine (?_ : EE _ _) ?_; rotate_left; (conv => lhs; cbv; (try simp only [Int.reduceNegSucc, Int.ofNat_eq_natCast, Int.cast_ofNat_Int])); rotate_right; exact fun _ => rfl)) | apply RR.mm0 | apply RR.mm1 | apply RR.cd | apply RR.cl | apply RR.cz | (apply RR.ln; exact rfl; exact rfl) | (apply RR.ia; exact rfl; exact rfl; exact rfl) | (show NZ _ _ _; first | exact TDg.nz kk | exact MS.nzI kk) | apply Pst.e | (refine Pst.x kk ?_) | constructor | intro _
  all_goals first | exact Pst.xp (x := (id, d, g)) kk rfl (h3.wf.mono (by omega)) | exact Stop.at (ih _ _ (i + 1, d1.put (all.getD k4 0) d.ns.length, _, _, all ++ [(d.ns.length : Int)]) ⟨by omega, by omega, (hM (all.getD k4 0) (by first | exact .inl rfl | exact .inr ⟨by omega, rfl⟩)).mono (by omega), by simp; omega⟩ (by omega) ⟨rfl, rfl, rfl, rfl, rfl, trivial⟩ kk) | exact Stop.at (ih _ _ (i + 1, ((d1.put (all.getD k4 0) d.ns.length).addS { kind := 3, data := p.1.say }).put (d.ns.length : Int) (d1.put (all.getD k4 0) d.ns.length).ns.length, _, _, all ++ [(d.ns.length : Int)]) ⟨by omega, by omega, (hMS (all.getD k4 0) (by first | exact .inl rfl | exact .inr ⟨by omega, rfl⟩) (d.ns.length : Int) (by first | exact .inl rfl | exact .inr ⟨by omega, rfl⟩)).mono (by omega), by simp; omega⟩ (by omega) ⟨rfl, rfl, rfl, rfl, rfl, trivial⟩ kk) | exact Stop.at (ih _ _ (i + 1, ((d1.put (all.getD k4 0) d.ns.length).addS { kind := 3, data := p.1.say }).put ((d1.put (all.getD k4 0) d.ns.length).ns.getD (d.ns.length : Int).toNat default).inner (d1.put (all.getD k4 0) d.ns.length).ns.length, _, _, all ++ [(d.ns.length : Int)]) ⟨by omega, by omega, (hMS (all.getD k4 0) (by first | exact .inl rfl | exact .inr ⟨by omega, rfl⟩) ((d1.put (all.getD k4 0) d.ns.length).ns.getD (d.ns.length : Int).toNat default).inner (by first | exact .inl rfl | exact .inr ⟨by omega, rfl⟩)).mono (by omega), by simp; omega⟩ (by omega) ⟨rfl, rfl, rfl, rfl, rfl, trivial⟩ kk) | exact Stop.at (ih _ _ (i + 1, d1.put (d1.ns.getD (all.getD k4 0).toNat default).inner d.ns.length, _, _, all ++ [(d.ns.length : Int)]) ⟨by omega, by omega, (hM (d1.ns.getD (all.getD k4 0).toNat default).inner (by first | exact .inl rfl | exact .inr ⟨by omega, rfl⟩)).mono (by omega), by simp; omega⟩ (by omega) ⟨rfl, rfl, rfl, rfl, rfl, trivial⟩ kk) | exact Stop.at (ih _ _ (i + 1, ((d1.put (d1.ns.getD (all.getD k4 0).toNat default).inner d.ns.length).addS { kind := 3, data := p.1.say }).put (d.ns.length : Int) (d1.put (d1.ns.getD (all.getD k4 0).toNat default).inner d.ns.length).ns.length, _, _, all ++ [(d.ns.length : Int)]) ⟨by omega, by omega, (hMS (d1.ns.getD (all.getD k4 0).toNat default).inner (by first | exact .inl rfl | exact .inr ⟨by omega, rfl⟩) (d.ns.length : Int) (by first | exact .inl rfl | exact .inr ⟨by omega, rfl⟩)).mono (by omega), by simp; omega⟩ (by omega) ⟨rfl, rfl, rfl, rfl, rfl, trivial⟩ kk) | exact Stop.at (ih _ _ (i + 1, ((d1.put (d1.ns.getD (all.getD k4 0).toNat default).inner d.ns.length).addS { kind := 3, data := p.1.say }).put ((d1.put (d1.ns.getD (all.getD k4 0).toNat default).inner d.ns.length).ns.getD (d.ns.length : Int).toNat default).inner (d1.put (d1.ns.getD (all.getD k4 0).toNat default).inner d.ns.length).ns.length, _, _, all ++ [(d.ns.length : Int)]) ⟨by omega, by omega, (hMS (d1.ns.getD (all.getD k4 0).toNat default).inner (by first | exact .inl rfl | exact .inr ⟨by omega, rfl⟩) ((d1.put (d1.ns.getD (all.getD k4 0).toNat default).inner d.ns.length).ns.getD (d.ns.length : Int).toNat default).inner (by first | exact .inl rfl | exact .inr ⟨by omega, rfl⟩)).mono (by omega), by simp; omega⟩ (by omega) ⟨rfl, rfl, rfl, rfl, rfl, trivial⟩ kk)
end Go.Proofs.YtfgghapmgdgaeaaGreatDoor.Code
/- Trees gone through. -/
namespace Go.Dm
abbrev WPost (id : Nat) (d : Md.Dc) (g : Nat × (Nat → Nat × Nat)) (I E : List Ck → Prop) (R : List Ck) : DV → List Ck → Prop := fun v cs' => Hold (∃ x : Bool × List Ck, v = .bool x.1 ∧ ((x.1 = true ∧ I x.2) ∨ (x.1 = false ∧ E x.2)) ∧ TD id d g :: (x.2 ++ R) = cs')
end Go.Dm
namespace Go.Proofs.YtfgghapmgdgaeaaGreatDoor.Code
open Go.Dm
set_option linter.unusedSimpArgs false
set_option linter.unusedVariables false
set_option linter.unnecessarySimpa false
set_option maxRecDepth 10000
attribute [local irreducible] Go.Dm.F Go.Dm.RS Go.Dm.Y Go.Dm.FD Go.Dm.FZ1 Go.Dm.Hold
variable {id : Nat} {d : Md.Dc} {g : Nat × (Nat → Nat × Nat)} {kp : Nat → Nat × List Int} {cs R : List Ck} {n : Int}
theorem kidsB_F {m : Nat} (hw : d.Wf m) (hm : m ≤ 10000) (hn : 0 ≤ n ∧ n < d.ns.length) {x : Int} (hx : (x = n ∧ (d.ns.getD n.toNat default).inner = -1) ∨ (x = (d.ns.getD n.toNat default).inner ∧ (d.ns.getD n.toNat default).inner ≠ -1)) (hc : Me (TD id d g) cs) :
    F D 41 [.ptr id 0, .int .i64 x] cs (fun v cs' => Hold (∃ a, v = msV a 1 (d.below n).length ∧ MS a none (I64s (d.below n)) :: cs = cs')) := by
  have e : d.kids x = d.below n := by
    unfold Md.Dc.below
    rcases hx with ⟨rfl, h⟩ | ⟨rfl, h⟩
    · rw [if_pos h]
    · rw [if_neg h]
  rw [← e]
  refine kids_F hc fun i => ?_
  by_cases h : i < d.ns.length
  · have := hw.klen i h; omega
  · rw [List.getD_eq_getElem?_getD, List.getElem?_eq_none (by omega)]; exact Nat.zero_le _
theorem kids_len {m : Nat} (hw : d.Wf m) {x : Int} : (d.kids x).length ≤ m := by
  by_cases h : 0 ≤ x ∧ x < d.ns.length
  · rw [kids_in h]; exact hw.klen _ (by omega)
  · rw [kids_out (by omega)]; exact Nat.zero_le _
set_option maxHeartbeats 1000000 in
theorem walk_F {m : Nat} (hw : d.Wf m) (hm : m ≤ 10000) {y : DV} (I : List (Int × Nat) → List Ck → Prop) (E : List Ck → Prop)
    (hy : ∀ k (dp : Nat) ts C, I ((k, dp) :: ts) C → 0 ≤ k → k < d.ns.length → ∀ R, FC D y [.int .i64 k, .int .i64 dp] (TD id d g :: (C ++ R)) (WPost id d g (I ts) E R)) :
    ∀ (N : Nat) (n : Int) (dp : Nat) (dI : Int) (l rest : List (Int × Nat)) (C R : List Ck), d.ns.length - n ≤ N → 0 ≤ n → n < d.ns.length → dI = dp → d.Frs dp (d.below n) l → I (l ++ rest) C →
      F D 22 [.ptr id 0, .int .i64 n, .int .i64 dI, y] (TD id d g :: (C ++ R)) (WPost id d g (I rest) E R)
  | 0, n, dp, dI, l, rest, C, R, h1, h2, h3, h4, h5, h6 => by omega
  | N + 1, n, dp, dI, l, rest, C, R, h1, h2, h3, h4, h5, h6 => by
    subst h4
    have IH := Hold.mk (walk_F hw hm I E hy N)
    replace hy := Hold.mk hy
    have hl := hw.len
    have hbl := kids_len hw (x := if (d.ns.getD n.toNat default).inner = -1 then n else (d.ns.getD n.toNat default).inner)
    replace hbl : (d.below n).length ≤ m := hbl
    apply F.nu rfl rfl; (refine (?_ : EE _ _) ?_; rotate_left; (conv => lhs; cbv; (try simp only [Int.reduceNegSucc, Int.ofNat_eq_natCast, Int.cast_ofNat_Int])); rotate_right; exact fun _ => rfl); rfl
    repeat' first | exact kidsB_F hw hm ⟨h2, h3⟩ (.inl ⟨rfl, by omega⟩) kk | exact kidsB_F hw hm ⟨h2, h3⟩ (.inr ⟨rfl, by omega⟩) kk | (apply RR.lg; exact rfl; exact rfl; (intro hp; (try simp only [Bool.and_eq_true, Bool.or_eq_true, Bool.not_eq_true', decide_eq_true_eq, decide_eq_false_iff_not, Bool.and_true, Bool.true_and, and_true, true_and, eqB, beq_iff_eq, Int.ofNat_eq_natCast, Bool.false_eq_true, or_false, false_or] at hp); first | exact TDg.ldN kk | exact TDg.ldF kk (by omega) rfl | exact TDg.ldR kk (by omega) | exact TDg.ldQ kk | exact MS.ldI kk (by omega) (by omega))) | exact ar | (apply RR.rd; (refine (?_ : EE _ _) ?_; rotate_left; (conv => lhs; cbv; (try simp only [Int.reduceNegSucc, Int.ofNat_eq_natCast, Int.cast_ofNat_Int])); rotate_right; exact fun _ => rfl)) | apply RR.mm0 | apply RR.mm1 | apply RR.cd | apply RR.cl | apply RR.cz | (apply RR.ln; exact rfl; exact rfl) | (apply RR.ia; exact rfl; exact rfl; exact rfl) | (show NZ _ _ _; first | exact TDg.nz kk | exact MS.nzI kk) | apply Pst.e | (refine Pst.x kk ?_) | constructor | intro _
    all_goals
      rename_i a
      refine RS.from (cs2 := TD id d g :: (C ++ (MS a none (I64s (d.below n)) :: R))) (fun h hs => hs.perm ((List.Perm.swap ..).trans (.cons _ List.perm_middle.symm))) ?_
      refine RS.loopW (α := Nat × List (Int × Nat) × List Ck) (fun i => [(0, .ptr id 0), (2, .int .i64 dp), (3, y), (32, msV a 1 (d.below n).length), (33, .int .i64 (d.below n).length), (34, .int .i64 (i.1 : Nat))])
        (fun i => TD id d g :: (i.2.2 ++ (MS a none (I64s (d.below n)) :: R))) (fun i => i.1 ≤ (d.below n).length ∧ d.Frs dp ((d.below n).drop i.1) i.2.1 ∧ I (i.2.1 ++ rest) i.2.2) (fun i => (d.below n).length - i.1) (0, l, C) ⟨Nat.zero_le _, h5, h6⟩ ⟨rfl, rfl, rfl, rfl, rfl, rfl, trivial⟩ .refl ?_
      rintro ⟨j, l, C⟩ ⟨g1, g2, g3⟩ ih
      dsimp only [ents] at *
      by_cases hj : j < (d.below n).length
      · rw [List.drop_eq_getElem_cons hj] at g2
        have hk := hw.below h2 h3 (List.getElem_mem hj)
        have hge : (d.below n).getD j 0 = (d.below n)[j] := by rw [List.getD_eq_getElem?_getD, List.getElem?_eq_getElem hj]; rfl
        rw [← hge] at g2 hk
        generalize hke : (d.below n).getD j 0 = k at *
        cases g2 with
        | @cons _ _ _ la lb c1 c2 c3 c4 c5 =>
        rw [List.cons_append, List.append_assoc] at g3
        repeat' first | (refine Stop.out (p := RS D (.lp _ :: _) _ _ _) ?_) | (apply RR.lg (v := .int .i64 k); exact rfl; exact rfl; (intro _; rw [← hke]; exact MS.ldI (i := j) (.tail (Me.appR .head)) hj (by omega))) | (show NZ _ _ _; exact MS.nzI (.tail (Me.appR .head))) | (show FC _ _ _ _ _; first | exact hy.out k dp _ _ g3 c1 c2 _ | exact IH.out k (dp + 1) _ la (lb ++ rest) _ _ (by omega) c1 c2 (by omega) c4 (by assumption)) | (refine fun (x : Bool × List Ck) hx => ?_; obtain ⟨b, C'⟩ := x; dsimp only at hx; rcases hx with ⟨rfl, hx⟩ | ⟨rfl, hx⟩) | (intro hc; first | exact Bool.noConfusion (show false = true from hc) | exact Bool.noConfusion (show true = false from hc) | exact (hc : False ∨ False).elim False.elim False.elim | exact (hc : False).elim | exact (hc : False ∧ _).1.elim | exact (hc : _ ∧ False).2.elim) | (intro hc; exfalso; omega) | (apply RR.lg; exact rfl; exact rfl; (intro hp; (try simp only [Bool.and_eq_true, Bool.or_eq_true, Bool.not_eq_true', decide_eq_true_eq, decide_eq_false_iff_not, Bool.and_true, Bool.true_and, and_true, true_and, eqB, beq_iff_eq, Int.ofNat_eq_natCast, Bool.false_eq_true, or_false, false_or] at hp); first | exact TDg.ldN kk | exact TDg.ldF kk (by omega) rfl | exact TDg.ldR kk (by omega) | exact TDg.ldQ kk | exact MS.ldI kk (by omega) (by omega))) | exact ar | (apply RR.rd; (refine (?_ : EE _ _) ?_; rotate_left; (conv => lhs; cbv; (try simp only [Int.reduceNegSucc, Int.ofNat_eq_natCast, Int.cast_ofNat_Int])); rotate_right; exact fun _ => rfl)) | apply RR.mm0 | apply RR.mm1 | apply RR.cd | apply RR.cl | apply RR.cz | (apply RR.ln; exact rfl; exact rfl) | (apply RR.ia; exact rfl; exact rfl; exact rfl) | (show NZ _ _ _; first | exact TDg.nz kk | exact MS.nzI kk) | apply Pst.e | (refine Pst.x kk ?_) | constructor | intro _
        all_goals first | exact Stop.at (ih _ _ (j + 1, lb, _) ⟨by omega, c5, by assumption⟩ (by omega) ⟨rfl, rfl, rfl, rfl, rfl, rfl, trivial⟩ .refl) | exact Pst.of (fun h hs => hs.sub (((List.sublist_cons_self _ _).append_left _).cons_cons _)) (Hold.mk ⟨(false, _), rfl, .inr ⟨rfl, by assumption⟩, rfl⟩)
      · rw [List.drop_of_length_le (by omega)] at g2
        cases g2
        repeat' first | (intro hc; exfalso; omega) | exact ar | (apply RR.rd; (refine (?_ : EE _ _) ?_; rotate_left; (conv => lhs; cbv; (try simp only [Int.reduceNegSucc, Int.ofNat_eq_natCast, Int.cast_ofNat_Int])); rotate_right; exact fun _ => rfl)) | apply RR.mm0 | apply RR.mm1 | apply RR.cd | apply RR.cl | apply RR.cz | (apply RR.ln; exact rfl; exact rfl) | (apply RR.ia; exact rfl; exact rfl; exact rfl) | (show NZ _ _ _; first | exact TDg.nz kk | exact MS.nzI kk) | apply Pst.e | (refine Pst.x kk ?_) | constructor | intro _
        exact Pst.of (fun h hs => hs.sub (((List.sublist_cons_self _ _).append_left _).cons_cons _)) (Hold.mk ⟨(true, _), rfl, .inl ⟨rfl, g3⟩, rfl⟩)
end Go.Proofs.YtfgghapmgdgaeaaGreatDoor.Code
/- Trees gone through by a range; what leads somewhere. -/
namespace Go.Md
abbrev Lk := Int × Str × Str
def hrefS : Str := [104, 114, 101, 102]
def srcS : Str := [115, 114, 99]
def lkA (k : Int) : List (Str × Str) → List Lk
  | [] => []
  | a :: r => if a.1 = hrefS ∨ a.1 = srcS then (k, a.1, a.2) :: lkA k r else lkA k r
namespace Dc
def lkN (d : Dc) (k : Int) : List Lk := if (d.ns.getD k.toNat default).kind = 2 ∧ (d.ns.getD k.toNat default).space = 0 then lkA k (d.ns.getD k.toNat default).attrs else []
def lks (d : Dc) : List (Int × Nat) → List Lk
  | [] => []
  | k :: r => lkN d k.1 ++ lks d r
end Dc
end Go.Md
namespace Go.Dm
def encL (l : Md.Lk) : DV := .agg [.int .i64 l.1, .str l.2.1, .str l.2.2]
/-- A walk's end. -/
abbrev WEnd (id : Nat) (d : Md.Dc) (g : Nat × (Nat → Nat × Nat)) (I E : List Ck → Prop) (R : List Ck) : DV → List Ck → Prop := fun v cs' => Hold (∃ x : Bool × List Ck, v = .tup [] ∧ ((x.1 = true ∧ I x.2) ∨ (x.1 = false ∧ E x.2)) ∧ TD id d g :: (x.2 ++ R) = cs')
theorem FC.ofY {D : DProg} {l : Nat} {args : List DV} {cs R : List Ck} {id : Nat} {d : Md.Dc} {g : Nat × (Nat → Nat × Nat)} {I E : List Ck → Prop} (h : Y D l args cs (fun b cs' => Hold (∃ C' : List Ck, ((b = true ∧ I C') ∨ (b = false ∧ E C')) ∧ TD id d g :: (C' ++ R) = cs'))) : FC D (.fn (.yield l) [] []) args cs (WPost id d g I E R) := fun h0 hs =>
  let ⟨n, b, h', cs', r1, r2, r3⟩ := h h0 hs
  ⟨n, b, h', cs', r1, r2, let ⟨C', q1, q2⟩ := r3.out; .mk ⟨(b, C'), rfl, q1, q2⟩⟩
theorem FC.from {D : DProg} {x : DV} {args : List DV} {cs cs2 : List Ck} {P : DV → List Ck → Prop} (hs : ∀ h, Sat h cs → Sat h cs2) (hf : FC D x args cs2 P) : FC D x args cs P := by
  unfold FC at *
  split at hf
  · exact fun h hh => hf h (hs h hh)
  · exact fun h hh => hf h (hs h hh)
  · exact hf.elim
theorem Upd1.appR {a b : Ck} {X Y : List Ck} (h : Upd1 a b X Y) : ∀ {C : List Ck}, Upd1 a b (C ++ X) (C ++ Y)
  | [] => h
  | _ :: _ => .tail (Upd1.appR h)
theorem Rem.appR {a : Ck} {X Y : List Ck} (h : Rem a X Y) : ∀ {C : List Ck}, Rem a (C ++ X) (C ++ Y)
  | [] => h
  | _ :: _ => .tail (Rem.appR h)
theorem Pst.of2 {Q : List Ck → Prop} {cs cs' : List Ck} (hq : Q cs') (hs : ∀ h, Sat h cs → Sat h cs') : Pst Q cs := Pst.of hs hq
open Classical in
theorem permC {a b : List Ck} (h : ∀ c : Ck, List.count c a = List.count c b) : a.Perm b := List.perm_iff_count.2 h
end Go.Dm
namespace Go.Proofs.YtfgghapmgdgaeaaGreatDoor.Code
open Go.Dm
set_option linter.unusedSimpArgs false
set_option linter.unusedVariables false
set_option linter.unnecessarySimpa false
set_option maxRecDepth 10000
attribute [local irreducible] Go.Dm.F Go.Dm.RS Go.Dm.Y Go.Dm.FD Go.Dm.FZ1 Go.Dm.Hold
variable {id : Nat} {d : Md.Dc} {g : Nat × (Nat → Nat × Nat)} {kp : Nat → Nat × List Int} {cs R : List Ck} {n : Int}
abbrev bx2 (q1 q2 id : Nat) (n : Int) (R : List Ck) : List Ck := .obj q2 (.cells [.int .i64 n] none) :: .obj q1 (.cells [.ptr id 0] none) :: R
theorem walk1_F {m q1 q2 : Nat} (hw : d.Wf m) (hm : m ≤ 10000) {y : DV} (I : List (Int × Nat) → List Ck → Prop) (E : List Ck → Prop)
    (hy : ∀ k (dp : Nat) ts C, I ((k, dp) :: ts) C → 0 ≤ k → k < d.ns.length → ∀ R, FC D y [.int .i64 k, .int .i64 dp] (TD id d g :: (C ++ R)) (WPost id d g (I ts) E R))
    (hn : 0 ≤ n ∧ n < d.ns.length) {l : List (Int × Nat)} {C : List Ck} (hl : d.Frs 1 (d.below n) l) (h0 : I l C) :
    F D 20 [y, .ptr q1 0, .ptr q2 0] (TD id d g :: (C ++ bx2 q1 q2 id n R)) (WEnd id d g (I []) E (bx2 q1 q2 id n R)) := by
  have hW := walk_F hw hm I E hy d.ns.length n 1 1 l [] C (bx2 q1 q2 id n R) (by omega) hn.1 hn.2 rfl hl (by rw [List.append_nil]; exact h0)
  apply F.nu rfl rfl; (refine (?_ : EE _ _) ?_; rotate_left; (conv => lhs; cbv; (try simp only [Int.reduceNegSucc, Int.ofNat_eq_natCast, Int.cast_ofNat_Int])); rotate_right; exact fun _ => rfl); rfl
  repeat' first | exact inT_F kk hn | exact hW | (show LD _ _ _ _; first | exact .ptr (.tail (Me.appR .head)) (.one rfl) | exact .ptr (.tail (Me.appR (.tail .head))) (.one rfl)) | (intro hc; first | exact Bool.noConfusion (show false = true from hc) | exact Bool.noConfusion (show true = false from hc) | exact (hc : False).elim) | (refine fun (x : Bool × List Ck) hx => ?_) | exact ar | (apply RR.rd; (refine (?_ : EE _ _) ?_; rotate_left; (conv => lhs; cbv; (try simp only [Int.reduceNegSucc, Int.ofNat_eq_natCast, Int.cast_ofNat_Int])); rotate_right; exact fun _ => rfl)) | apply RR.mm0 | apply RR.mm1 | apply RR.cd | apply RR.cl | apply RR.cz | (apply RR.ln; exact rfl; exact rfl) | (apply RR.ia; exact rfl; exact rfl; exact rfl) | (show NZ _ _ _; first | exact TDg.nz kk | exact MS.nzI kk) | apply Pst.e | (refine Pst.x kk ?_) | constructor | intro _
  rename_i hx
  exact Pst.xp .refl rfl hx
theorem kindT_F (hm : Me (TDg id d g kp) cs) (h : 0 ≤ n ∧ n < d.ns.length) : F D 24 [.ptr id 0, .int .i64 n] cs (fun v cs' => v = .int .i64 (d.ns.getD n.toNat default).kind ∧ cs = cs') := by
  have := kind_F (n := n) hm; rw [kind_in h] at this; exact this
theorem walk0_F : F D 7 [.ptr id 0, .int .i64 n] cs (fun v cs' => Hold (∃ x : Nat × Nat, v = .fn (.func 20) [] [.ptr x.1 0, .ptr x.2 0] ∧ bx2 x.1 x.2 id n cs = cs')) := by
  apply F.nu rfl rfl; (refine (?_ : EE _ _) ?_; rotate_left; (conv => lhs; cbv; (try simp only [Int.reduceNegSucc, Int.ofNat_eq_natCast, Int.cast_ofNat_Int])); rotate_right; exact fun _ => rfl); rfl
  repeat' first | exact ar | (apply RR.rd; (refine (?_ : EE _ _) ?_; rotate_left; (conv => lhs; cbv; (try simp only [Int.reduceNegSucc, Int.ofNat_eq_natCast, Int.cast_ofNat_Int])); rotate_right; exact fun _ => rfl)) | apply RR.mm0 | apply RR.mm1 | apply RR.cd | apply RR.cl | apply RR.cz | (apply RR.ln; exact rfl; exact rfl) | (apply RR.ia; exact rfl; exact rfl; exact rfl) | (show NZ _ _ _; first | exact TDg.nz kk | exact MS.nzI kk) | apply Pst.e | (refine Pst.x kk ?_) | constructor | intro _
  rename_i a _ b _
  exact Pst.x (x := (a, b)) kk rfl
theorem links0_F : F D 8 [.ptr id 0] cs (fun v cs' => Hold (∃ x : Nat, v = .fn (.func 23) [] [.ptr x 0] ∧ .obj x (.cells [.ptr id 0] none) :: cs = cs')) := by
  apply F.nu rfl rfl; (refine (?_ : EE _ _) ?_; rotate_left; (conv => lhs; cbv; (try simp only [Int.reduceNegSucc, Int.ofNat_eq_natCast, Int.cast_ofNat_Int])); rotate_right; exact fun _ => rfl); rfl
  repeat' first | exact ar | (apply RR.rd; (refine (?_ : EE _ _) ?_; rotate_left; (conv => lhs; cbv; (try simp only [Int.reduceNegSucc, Int.ofNat_eq_natCast, Int.cast_ofNat_Int])); rotate_right; exact fun _ => rfl)) | apply RR.mm0 | apply RR.mm1 | apply RR.cd | apply RR.cl | apply RR.cz | (apply RR.ln; exact rfl; exact rfl) | (apply RR.ia; exact rfl; exact rfl; exact rfl) | (show NZ _ _ _; first | exact TDg.nz kk | exact MS.nzI kk) | apply Pst.e | (refine Pst.x kk ?_) | constructor | intro _
section
variable (D) in
/-- One round's yield of the places of a node's attributes. -/
def LY (id : Nat) (d : Md.Dc) (g : Nat × (Nat → Nat × Nat)) (I : List Md.Lk → List Ck → Prop) (E : List Ck → Prop) (y : DV) : Prop := ∀ lk ls C, I (lk :: ls) C → ∀ R, FC D y [encL lk] (TD id d g :: (C ++ R)) (WPost id d g (I ls) E R)
end
set_option maxHeartbeats 4000000 in
theorem links1_F {m q : Nat} (hw : d.Wf m) (hm : m ≤ 10000) {y : DV} (I : List Md.Lk → List Ck → Prop) (E : List Ck → Prop) (hy : LY D id d g I E y) (hyc : CL 1 y [y])
    {l : List (Int × Nat)} {C : List Ck} (hl : d.Frs 1 (d.below 0) l) (h0 : I (d.lks l) C) :
    F D 23 [y, .ptr q 0] (TD id d g :: (C ++ .obj q (.cells [.ptr id 0] none) :: R)) (WEnd id d g (I []) E (.obj q (.cells [.ptr id 0] none) :: R)) := by
  have hlen := hw.len
  replace hy := Hold.mk hy
  apply F.nu rfl rfl; (refine (?_ : EE _ _) ?_; rotate_left; (conv => lhs; cbv; (try simp only [Int.reduceNegSucc, Int.ofNat_eq_natCast, Int.cast_ofNat_Int])); rotate_right; exact fun _ => rfl); rfl
  repeat' first | exact hyc | exact walk0_F | (show LD _ _ _ _; exact .ptr (.tail (.tail (Me.appR .head))) (.one rfl)) | exact ar | (apply RR.rd; (refine (?_ : EE _ _) ?_; rotate_left; (conv => lhs; cbv; (try simp only [Int.reduceNegSucc, Int.ofNat_eq_natCast, Int.cast_ofNat_Int])); rotate_right; exact fun _ => rfl)) | apply RR.mm0 | apply RR.mm1 | apply RR.cd | apply RR.cl | apply RR.cz | (apply RR.ln; exact rfl; exact rfl) | (apply RR.ia; exact rfl; exact rfl; exact rfl) | (show NZ _ _ _; first | exact TDg.nz kk | exact MS.nzI kk) | apply Pst.e | (refine Pst.x kk ?_) | constructor | intro _
  rename_i b _ x
  obtain ⟨q1, q2⟩ := x
  refine RS.rangeO rfl (by decide) fun mk ll Lr Lb Ld hL => ?_
  refine F.perm (cs' := TD id d g :: ((Lr :: .obj b (.cells [y] none) :: .obj q (.cells [.ptr id 0] none) :: C) ++ bx2 q1 q2 id 0 (.obj mk .mark :: R))) (permC fun c => by simp only [bx2, List.append_eq, List.cons_append, List.nil_append, List.count_append, List.count_cons]; omega) ?_
  refine F.post (walk1_F hw hm (fun ts CC => ∃ C, CC = Lr :: .obj b (.cells [y] none) :: .obj q (.cells [.ptr id 0] none) :: C ∧ I (d.lks ts) C) (fun CC => ∃ C, CC = Ld .ret :: .obj b (.cells [y] none) :: .obj q (.cells [.ptr id 0] none) :: C ∧ E C) ?_ ⟨Int.le_refl 0, by omega⟩ hl ⟨C, rfl, h0⟩) ?_
  · rintro k dp ts _ ⟨C, rfl, hC⟩ k1 k2 R'
    refine FC.ofY (hL.y (.tail .head) rfl ?_)
    repeat' first | exact kindT_F kk ⟨k1, k2⟩ | (intro hc; first | exact Bool.noConfusion (show false = true from hc) | exact Bool.noConfusion (show true = false from hc) | exact (hc : False).elim) | (apply RR.lg; exact rfl; exact rfl; (intro hp; (try simp only [Bool.and_eq_true, Bool.or_eq_true, Bool.not_eq_true', decide_eq_true_eq, decide_eq_false_iff_not, Bool.and_true, Bool.true_and, and_true, true_and, eqB, beq_iff_eq, Int.ofNat_eq_natCast, Bool.false_eq_true, or_false, false_or] at hp); first | exact TDg.ldN kk | exact TDg.ldF kk (by omega) rfl | exact TDg.ldR kk (by omega) | exact TDg.ldQ kk | exact MS.ldI kk (by omega) (by omega))) | exact ar | (apply RR.rd; (refine (?_ : EE _ _) ?_; rotate_left; (conv => lhs; cbv; (try simp only [Int.reduceNegSucc, Int.ofNat_eq_natCast, Int.cast_ofNat_Int])); rotate_right; exact fun _ => rfl)) | apply RR.mm0 | apply RR.mm1 | apply RR.cd | apply RR.cl | apply RR.cz | (apply RR.ln; exact rfl; exact rfl) | (apply RR.ia; exact rfl; exact rfl; exact rfl) | (show NZ _ _ _; first | exact TDg.nz kk | exact MS.nzI kk) | apply Pst.e | (refine Pst.x kk ?_) | constructor | intro _
    · rename_i hc
      have e : d.lks ((k, dp) :: ts) = d.lks ts := by
        show d.lkN k ++ _ = _
        rw [Md.Dc.lkN, if_neg (fun h => hc.elim (fun x => x h.1) (fun x => x h.2))]; rfl
      rw [e] at hC
      exact Pst.mk (.mk ⟨_, .inl ⟨rfl, C, rfl, hC⟩, rfl⟩) .refl
    · rename_i hc
      have e : d.lks ((k, dp) :: ts) = Md.lkA k (d.ns.getD k.toNat default).attrs ++ d.lks ts := by
        show d.lkN k ++ _ = _
        rw [Md.Dc.lkN, if_pos hc]
      rw [e] at hC
      have hal := hw.al k.toNat (by omega)
      refine RS.from (cs2 := TD id d g :: (C ++ (Lb :: .obj b (.cells [y] none) :: .obj q (.cells [.ptr id 0] none) :: R'))) (fun h hs => hs.perm (permC fun c => by simp only [bx2, List.append_eq, List.cons_append, List.nil_append, List.count_append, List.count_cons]; omega)) ?_
      generalize hat : (d.ns.getD k.toNat default).attrs = al at *
      refine RS.loopW (α := Nat × List Ck) (fun i => [(2, .ptr b 0), (3, .int .i64 k), (32, .lst (g.2 k.toNat).1 (zOf (g.2 k.toNat).1 2) (al.map encA)), (33, .int .i64 al.length), (34, .int .i64 (i.1 : Nat))])
        (fun i => TD id d g :: (i.2 ++ (Lb :: .obj b (.cells [y] none) :: .obj q (.cells [.ptr id 0] none) :: R'))) (fun i => i.1 ≤ al.length ∧ I (Md.lkA k (al.drop i.1) ++ d.lks ts) i.2) (fun i => al.length - i.1) (0, C) ⟨Nat.zero_le _, hC⟩ ⟨rfl, rfl, rfl, rfl, rfl, trivial⟩ .refl ?_
      clear hC
      rintro ⟨j, C⟩ ⟨g1, g2⟩ ih
      dsimp only [ents] at *
      by_cases hj : j < al.length
      · rw [List.drop_eq_getElem_cons hj] at g2
        have hge : al.getD j default = al[j] := by rw [List.getD_eq_getElem?_getD, List.getElem?_eq_getElem hj]; rfl
        rw [← hge] at g2
        have hIA : Hold (∀ cs b, IA cs b 2 (.lst (g.2 k.toNat).1 (zOf (g.2 k.toNat).1 2) (al.map encA)) (.int .i64 (j : Nat)) (.elt (encA (al.getD j default)).cells)) := .mk fun cs b => IA.map .zof (Arith.mk fun _ => by omega)
        clear hge
        generalize al.getD j default = a at *
        obtain ⟨a1, a2⟩ := a
        by_cases ha : a1 = Md.hrefS ∨ a1 = Md.srcS
        · rw [Md.lkA, if_pos ha, List.cons_append] at g2
          rcases ha with rfl | rfl
          all_goals
            repeat' first | (refine Stop.out (p := RS D (.lp _ :: _) _ _ _) ?_) | (show IA _ _ _ _ _ _; exact hIA.out _ _) | (show FC _ _ _ _ _; exact FC.from (fun h hs => hs.sub (List.sublist_cons_self ..)) (hy.out (k, _, a2) _ C g2 _)) | (refine fun (x : Bool × List Ck) hx => ?_; obtain ⟨b, C'⟩ := x; dsimp only at hx; rcases hx with ⟨rfl, hx⟩ | ⟨rfl, hx⟩) | (show LD _ _ _ _; exact .ptr (.tail (.tail (Me.appR (.tail .head)))) (.one rfl)) | exact .tail (Upd1.appR .head) | (intro hc; first | exact Bool.noConfusion (show false = true from hc) | exact Bool.noConfusion (show true = false from hc) | exact (hc : False ∨ False).elim False.elim False.elim | exact (hc : False).elim | exact (hc : False ∧ _).1.elim | exact (hc : _ ∧ False).2.elim | exact absurd hc (by dsimp only; decide)) | (intro hc; exfalso; omega) | (apply RR.lg; exact rfl; exact rfl; (intro hp; (try simp only [Bool.and_eq_true, Bool.or_eq_true, Bool.not_eq_true', decide_eq_true_eq, decide_eq_false_iff_not, Bool.and_true, Bool.true_and, and_true, true_and, eqB, beq_iff_eq, Int.ofNat_eq_natCast, Bool.false_eq_true, or_false, false_or] at hp); first | exact TDg.ldN kk | exact TDg.ldF kk (by omega) rfl | exact TDg.ldR kk (by omega) | exact TDg.ldQ kk | exact MS.ldI kk (by omega) (by omega))) | exact ar | (apply RR.rd; (refine (?_ : EE _ _) ?_; rotate_left; (conv => lhs; cbv; (try simp only [Int.reduceNegSucc, Int.ofNat_eq_natCast, Int.cast_ofNat_Int])); rotate_right; exact fun _ => rfl)) | apply RR.mm0 | apply RR.mm1 | apply RR.cd | apply RR.cl | apply RR.cz | (apply RR.ln; exact rfl; exact rfl) | (apply RR.ia; exact rfl; exact rfl; exact rfl) | (show NZ _ _ _; first | exact TDg.nz kk | exact MS.nzI kk) | apply Pst.e | (refine Pst.x kk ?_) | constructor | intro _
            all_goals first | exact Stop.at (ih _ _ (j + 1, _) ⟨by omega, by assumption⟩ (by omega) ⟨rfl, rfl, rfl, rfl, rfl, trivial⟩ kk) | exact Pst.of2 (.mk ⟨Ld .ret :: .obj b (.cells [y] none) :: .obj q (.cells [.ptr id 0] none) :: _, .inr ⟨rfl, _, rfl, by assumption⟩, rfl⟩) (fun h hs => hs.perm (permC fun c => by simp only [bx2, List.append_eq, List.cons_append, List.nil_append, List.count_append, List.count_cons]; omega)) | skip
        · rw [Md.lkA, if_neg ha] at g2
          repeat' first | (refine Stop.out (p := RS D (.lp _ :: _) _ _ _) ?_) | (show IA _ _ _ _ _ _; exact hIA.out _ _) | (show FC _ _ _ _ _; exact FC.from (fun h hs => hs.sub (List.sublist_cons_self ..)) (hy.out (k, _, a2) _ C g2 _)) | (refine fun (x : Bool × List Ck) hx => ?_; obtain ⟨b, C'⟩ := x; dsimp only at hx; rcases hx with ⟨rfl, hx⟩ | ⟨rfl, hx⟩) | (show LD _ _ _ _; exact .ptr (.tail (.tail (Me.appR (.tail .head)))) (.one rfl)) | exact .tail (Upd1.appR .head) | (intro hc; exfalso; first | exact ha hc | exact ha hc.1 | (simp only [Bool.and_eq_true, Bool.or_eq_true, Bool.not_eq_true', decide_eq_true_eq, decide_eq_false_iff_not, Bool.and_true, Bool.true_and, and_true, true_and, eqB, beq_iff_eq] at hc; exact ha hc)) | (intro hc; exfalso; omega) | (apply RR.lg; exact rfl; exact rfl; (intro hp; (try simp only [Bool.and_eq_true, Bool.or_eq_true, Bool.not_eq_true', decide_eq_true_eq, decide_eq_false_iff_not, Bool.and_true, Bool.true_and, and_true, true_and, eqB, beq_iff_eq, Int.ofNat_eq_natCast, Bool.false_eq_true, or_false, false_or] at hp); first | exact TDg.ldN kk | exact TDg.ldF kk (by omega) rfl | exact TDg.ldR kk (by omega) | exact TDg.ldQ kk | exact MS.ldI kk (by omega) (by omega))) | exact ar | (apply RR.rd; (refine (?_ : EE _ _) ?_; rotate_left; (conv => lhs; cbv; (try simp only [Int.reduceNegSucc, Int.ofNat_eq_natCast, Int.cast_ofNat_Int])); rotate_right; exact fun _ => rfl)) | apply RR.mm0 | apply RR.mm1 | apply RR.cd | apply RR.cl | apply RR.cz | (apply RR.ln; exact rfl; exact rfl) | (apply RR.ia; exact rfl; exact rfl; exact rfl) | (show NZ _ _ _; first | exact TDg.nz kk | exact MS.nzI kk) | apply Pst.e | (refine Pst.x kk ?_) | constructor | intro _
          all_goals first | exact Stop.at (ih _ _ (j + 1, _) ⟨by omega, by assumption⟩ (by omega) ⟨rfl, rfl, rfl, rfl, rfl, trivial⟩ kk) | skip
      · rw [List.drop_of_length_le (by omega)] at g2
        repeat' first | (intro hc; exfalso; omega) | exact .tail (Upd1.appR .head) | exact ar | (apply RR.rd; (refine (?_ : EE _ _) ?_; rotate_left; (conv => lhs; cbv; (try simp only [Int.reduceNegSucc, Int.ofNat_eq_natCast, Int.cast_ofNat_Int])); rotate_right; exact fun _ => rfl)) | apply RR.mm0 | apply RR.mm1 | apply RR.cd | apply RR.cl | apply RR.cz | (apply RR.ln; exact rfl; exact rfl) | (apply RR.ia; exact rfl; exact rfl; exact rfl) | (show NZ _ _ _; first | exact TDg.nz kk | exact MS.nzI kk) | apply Pst.e | (refine Pst.x kk ?_) | constructor | intro _
        all_goals first | exact Pst.of (fun h hs => hs.perm (permC fun c => by simp only [bx2, List.append_eq, List.cons_append, List.nil_append, List.count_append, List.count_cons]; omega)) (.mk ⟨Lr :: .obj b (.cells [y] none) :: .obj q (.cells [.ptr id 0] none) :: C, .inl ⟨rfl, C, rfl, g2⟩, rfl⟩) | skip
  · intro v cs' hq
    obtain ⟨⟨bb, CC⟩, rfl, hq2, rfl⟩ := hq.out
    rcases hq2 with ⟨_, C', e, hI⟩ | ⟨_, C', e, hE⟩ <;> (replace e : CC = _ := e; subst e)
    · refine ⟨_, .refl _, RG.ready (.tail .head) ?_⟩
      show RR D [.blk 0] _ _ _
      repeat' first | exact .tail (.tail (.tail (Rem.appR (.tail (.tail .head))))) | exact ar | (apply RR.rd; (refine (?_ : EE _ _) ?_; rotate_left; (conv => lhs; cbv; (try simp only [Int.reduceNegSucc, Int.ofNat_eq_natCast, Int.cast_ofNat_Int])); rotate_right; exact fun _ => rfl)) | apply RR.mm0 | apply RR.mm1 | apply RR.cd | apply RR.cl | apply RR.cz | (apply RR.ln; exact rfl; exact rfl) | (apply RR.ia; exact rfl; exact rfl; exact rfl) | (show NZ _ _ _; first | exact TDg.nz kk | exact MS.nzI kk) | apply Pst.e | (refine Pst.x kk ?_) | constructor | intro _
      all_goals exact Pst.of (fun h hs => (hs.perm (permC (b := [.obj b (.cells [y] none), .obj q2 (.cells [.int .i64 0] none), .obj q1 (.cells [.ptr id 0] none)] ++ (TD id d g :: (C' ++ .obj q (.cells [.ptr id 0] none) :: R))) fun c => by simp only [bx2, List.append_eq, List.cons_append, List.nil_append, List.count_append, List.count_cons]; omega)).sub (List.sublist_append_right _ _)) (.mk ⟨(true, C'), rfl, .inl ⟨rfl, hI⟩, rfl⟩)
    · refine ⟨_, .refl _, RG.done (x := .ret) (.tail .head) ?_⟩
      show RR D [.code .ret, .blk 0] _ _ _
      repeat' first | exact .tail (.tail (.tail (Rem.appR (.tail (.tail .head))))) | exact ar | (apply RR.rd; (refine (?_ : EE _ _) ?_; rotate_left; (conv => lhs; cbv; (try simp only [Int.reduceNegSucc, Int.ofNat_eq_natCast, Int.cast_ofNat_Int])); rotate_right; exact fun _ => rfl)) | apply RR.mm0 | apply RR.mm1 | apply RR.cd | apply RR.cl | apply RR.cz | (apply RR.ln; exact rfl; exact rfl) | (apply RR.ia; exact rfl; exact rfl; exact rfl) | (show NZ _ _ _; first | exact TDg.nz kk | exact MS.nzI kk) | apply Pst.e | (refine Pst.x kk ?_) | constructor | intro _
      all_goals exact Pst.of (fun h hs => (hs.perm (permC (b := [.obj b (.cells [y] none), .obj q2 (.cells [.int .i64 0] none), .obj q1 (.cells [.ptr id 0] none)] ++ (TD id d g :: (C' ++ .obj q (.cells [.ptr id 0] none) :: R))) fun c => by simp only [bx2, List.append_eq, List.cons_append, List.nil_append, List.count_append, List.count_cons]; omega)).sub (List.sublist_append_right _ _)) (.mk ⟨(false, C'), rfl, .inr ⟨rfl, hE⟩, rfl⟩)
end Go.Proofs.YtfgghapmgdgaeaaGreatDoor.Code
