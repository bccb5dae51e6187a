/- The D-machine (34): symbolic runs are runs (2); functions. -/
import Derived.Test.YtjhednolknlpiaaDmRc
namespace Go.Dm
set_option linter.unusedSimpArgs false
set_option linter.unusedVariables false
set_option linter.unnecessarySimpa false

section
variable {D : DProg}
theorem WpK_wp {c : DC} {k : List It} {fr : Fr} {h : Heap} {Q : DX → Fr → Heap → Prop} {Q' : DX → Fr → Heap → Prop} (hw : Wp D c fr h Q') (hq : ∀ x fr' h', Q' x fr' h' → WpK D k x fr' h' Q) : WpK D (.code c :: k) .normal fr h Q := hw.mono hq
theorem unw_ok {k k' : List It} {i : Nat} {fr : Fr} {h : Heap} {Q : DX → Fr → Heap → Prop} (hu : unw k i = some k') (hw : WpK D k' .normal fr h Q) : WpK D k (.exit i) fr h Q := by
  induction k with
  | nil => cases hu
  | cons a k ih =>
    cases a with
    | blk j =>
      simp only [unw] at hu
      simp only [WpK]
      cases hb : Nat.beq i j with
      | true =>
        rw [hb] at hu
        simp only [Option.some.injEq] at hu; subst hu
        rw [if_pos (Nat.eq_of_beq_eq_true hb)]; exact hw
      | false =>
        rw [hb] at hu
        rw [if_neg (Nat.ne_of_beq_eq_false hb)]; exact ih hu
    | code c => exact ih hu
    | ops c => exact ih hu
    | chk c => exact ih hu
    | lp c => exact ih hu
theorem WpK_ret {k : List It} {fr : Fr} {h : Heap} {Q : DX → Fr → Heap → Prop} (hw : Q .ret fr h) : WpK D k .ret fr h Q := by
  induction k with
  | nil => exact hw
  | cons a k ih => cases a <;> exact ih
theorem CKs.ok {nt : Nat} {es : List En} {cs : List Ck} {fr : Fr} {h : Heap} (ha : Ag fr.tmps [] es) (hl : fr.tmps.length = nt) (hs : Sat h cs) {l : List (Opd × Shape × Nat × Option (Nat × Bool))} (hc : CKs D nt es cs l) : chkOk D fr h l = true := by
  induction hc with
  | nil => rfl
  | @cons a sh t g r A p av v h1 h2 h3 h4 h5 _ ih =>
    simp only [chkOk, List.all_cons, Bool.and_eq_true] at ih ⊢
    refine ⟨?_, ih⟩
    cases hw : wantedG g fr with
    | false => rfl
    | true =>
      obtain ⟨_, hA⟩ := (gate_ok ha h1).1 hw
      have e1 : ev D fr a = av := lo_ok ha hA h2
      have e2 := lk_ok hA ha rfl h4
      have hlt : t < fr.tmps.length := by rw [hl]; exact Nat.le_of_ble_eq_true h5
      rw [List.getD_eq_getElem?_getD, List.getElem?_eq_getElem hlt] at e2
      simp only [Option.getD_some] at e2
      simp only [e1, h3.ok hs, List.getElem?_eq_getElem hlt, e2, DV.beq_refl, Bool.not_true, Bool.false_or]
theorem ops_ev {st : St} {fr : Fr} {h h1 : Heap} {d : Option Nat} {op : DOp} {c : List (Opd × Shape × Nat × Option (Nat × Bool))} {os : List ROp} {k : List It} {r : EvR} {v : DV} {cs' : List Ck} {Q : DX → St → List Ck → Prop}
    (ha : AgS fr st) (he : evalOp D fr h op = some r) (hst : stepEv h r = some (v, h1)) (hd : dstOk st.nt d = true) (hs : Sat h1 cs') (hr : RS D (.chk c :: .ops os :: k) (st.putO d v) cs' Q) :
    WpK D (.ops (⟨d, op, none, c⟩ :: os) :: k) .normal fr h fun x fr' h' => ∃ st' cs', AgS fr' st' ∧ Sat h' cs' ∧ Q x st' cs' := by
  obtain ⟨hc, hk⟩ := hr (fr.put d v) h1 (ha.put hd) hs
  exact WpOps.op rfl he hst hc hk
theorem untag_ok {fr : List DV} {A : List (Nat × Bool)} (hA : ∀ t b, (t, b) ∈ A → fr.getD t .undef = .bool b) : ∀ {es : List En} {seen : List Nat}, Ag fr seen es → Ag fr seen (untag A seen es)
  | [], _, _ => trivial
  | ⟨s, g, v⟩ :: r, seen, ⟨he, hr⟩ => by
    have ih := untag_ok hA hr
    cases g with
    | none => exact ⟨he, ih⟩
    | some p =>
      obtain ⟨t, b⟩ := p
      simp only [untag]
      cases hm : memT t b A with
      | true =>
        cases ht : memN t (s :: seen) with
        | false => exact ⟨fun hn => (he hn ht).1 (hA t b (memT_mem hm)), ih⟩
        | true => exact ⟨he, ih⟩
      | false => exact ⟨he, ih⟩
theorem Me.mem' {c : Ck} {cs : List Ck} (h : c ∈ cs) : Me c cs := by
  induction cs with
  | nil => cases h
  | cons a r ih =>
    rcases List.mem_cons.1 h with rfl | h
    · exact .head
    · exact .tail (ih h)
theorem Upd.mem' {α : Type} {c : Ck} {n : α → Ck} {cs : List Ck} {cs' : α → List Ck} (h : Upd c n cs cs') : c ∈ cs := by
  induction h with
  | head => simp
  | tail _ ih => simp [ih]
theorem next_lt {h : Heap} {o : HObj} : h.next < (h.add o).next := Nat.lt_succ_self _
theorem add_get (h : Heap) (o : HObj) : (h.add o).objs.get h.next = some o := by simp [Heap.add, Tr.get_set]
theorem add_keep (h : Heap) (o : HObj) {i : Nat} (hi : i < h.next) : (h.add o).objs.get i = h.objs.get i ∧ (h.add o).tags.get i = h.tags.get i := by
  refine ⟨?_, rfl⟩
  simp only [Heap.add, Tr.get_set]; rw [if_neg (by omega)]
theorem addTag_keep (h : Heap) (z : Nat) {i : Nat} (hi : i < h.next) : (h.addTag z).objs.get i = h.objs.get i ∧ (h.addTag z).tags.get i = h.tags.get i := by
  refine ⟨rfl, ?_⟩
  simp only [Heap.addTag, Tr.get_set]; rw [if_neg (by omega)]
theorem put_keep (h : Heap) (j : Nat) (o : HObj) {i : Nat} (hi : i ≠ j) : (h.put j o).objs.get i = h.objs.get i ∧ (h.put j o).tags.get i = h.tags.get i := by
  refine ⟨?_, rfl⟩
  simp only [Heap.put, Tr.get_set]; rw [if_neg hi]
theorem put_get (h : Heap) (j : Nat) (o : HObj) : (h.put j o).objs.get j = some o := by simp [Heap.put, Tr.get_set]
theorem Sat.addO {h : Heap} {cs : List Ck} (hs : Sat h cs) (o : HObj) : Sat (h.add o) (.obj h.next o :: cs) :=
  hs.add (Nat.le_succ _) (add_get h o) (fun i hi => by cases hi; exact Nat.lt_succ_self _) (fun i hi => by cases hi; exact Nat.le_refl _) (fun i hi => add_keep h o hi)
theorem Sat.addT {h : Heap} {cs : List Ck} (hs : Sat h cs) (z : Nat) (xs : List DV) : Sat (h.addTag z) (.own h.next z xs :: cs) :=
  hs.add (Nat.le_succ _) (.inr ⟨hs.two, by simp [Heap.addTag, Tr.get_set]⟩) (fun i hi => by cases hi.1; exact Nat.lt_succ_self _) (fun i hi => by cases hi.1; exact Nat.le_refl _) (fun i hi => addTag_keep h z hi)
theorem Sat.put {h : Heap} {cs cs' : List Ck} {id : Nat} {o o' : HObj} (hs : Sat h cs) (hu : Upd1 (.obj id o) (.obj id o') cs cs') : Sat (h.put id o') cs' :=
  hs.upd hu (Nat.le_refl _) (put_get h id o') (fun i hi => by cases hi; exact (hs.ok _ hu.mem).2 _ rfl) (fun i hi => .inl hi) (fun i _ hn => put_keep h id o' (fun e => hn e))
theorem MapL.ok {α : Type} {f : α → DV} {ys : List DV} {ys' : List α} (h : MapL f ys ys') : ys = ys'.map f := by
  induction h with
  | nil => rfl
  | cons _ ih => simp [ih]
  | map => rfl
theorem JO.ok {xs ys zs : List DV} (h : JO xs ys zs) : zs = xs ++ ys := by
  cases h with
  | nil => rfl
  | bytes h1 => rw [toStr_len h1.ok]; simp [bytesV]
  | map h1 => rw [h1.ok]; simp
  | gen => rfl
/-- What is owned is appended to. -/
theorem Sat.append {h : Heap} {cs : List Ck} {cs' : Nat → List Ck} {sh : Shape} {bytes t z : Nat} {xs ys zs : List DV} {yv : DV} (hs : Sat h cs) (hz : z = zOf t sh.size) (he : elems h sh yv = some ys) (hj : JO xs ys zs) (hu : Upd (.own t sh.size xs) (fun a => .own a sh.size zs) cs cs')
    (hb : 1 ≤ bytes) (hl : (xs.length + ys.length) * bytes ≤ 140737488355328) : ∃ r v h1 t', appendD h false sh bytes (.lst t z xs) yv = some r ∧ stepEv h r = some (v, h1) ∧ v = .lst t' (zOf t' sh.size) zs ∧ Sat h1 (cs' t') := by
  obtain rfl := hj.ok
  have hn : xs.length + ys.length ≤ 9223372036854775807 := by
    have : xs.length + ys.length ≤ (xs.length + ys.length) * bytes := Nat.le_mul_of_pos_right _ hb
    omega
  by_cases hy : ys = []
  · subst hy
    refine ⟨_, _, _, t, by unfold appendD; rw [he]; dsimp only; rw [if_pos rfl], rfl, by simp [hz], ?_⟩
    have := hu.one t
    simp only [List.append_nil] at this
    have hE : ∀ {cs cs' : List Ck} {c : Ck}, Upd1 c c cs cs' → cs' = cs := by
      intro cs cs' c h1
      induction h1 with
      | head => rfl
      | tail _ ih => rw [ih]
    rw [hE this]; exact hs
  · rcases hs.get (Me.mem' hu.mem') with ⟨h0, hx⟩ | ⟨h2, ht⟩
    · subst h0; subst hx
      refine ⟨.newT sh.size fun u => .lst u sh.size ys, _, _, h.next, ?_, rfl, ?_, ?_⟩
      · unfold appendD; rw [he]; dsimp only
        rw [if_neg hy, if_pos ⟨.inl rfl, hl, hn⟩]
        simp
      · rw [zOf_two hs.two]; rfl
      · refine hs.upd (hu.one h.next) (Nat.le_succ _) (.inr ⟨hs.two, by simp [Heap.addTag, Tr.get_set]⟩) (fun i hi => by cases hi.1; exact Nat.lt_succ_self _) (fun i hi => .inr (by cases hi.1; exact Nat.le_refl _)) (fun i hi _ => addTag_keep h _ hi)
    · have hlt : t < h.next := (hs.ok _ hu.mem').2 t ⟨rfl, h2⟩
      refine ⟨.eff (.lst h.next sh.size (xs ++ ys)) ((h.spend t).addTag sh.size), _, _, h.next, ?_, rfl, by rw [zOf_two hs.two], ?_⟩
      · unfold appendD; rw [he]; dsimp only
        rw [if_neg hy, if_pos ⟨.inr (by rw [hz, zOf_two h2]), hl, hn⟩]
        simp only [Bool.false_eq_true, if_false]
        rw [if_neg (by omega), if_pos ⟨h2, ht⟩]
      · refine hs.upd (hu.one h.next) (Nat.le_succ _) (.inr ⟨hs.two, ?_⟩) (fun i hi => by cases hi.1; exact Nat.lt_succ_self _) (fun i hi => .inr (by cases hi.1; exact Nat.le_refl _)) (fun i hi hne => ⟨rfl, ?_⟩)
        · show (((h.spend t).addTag sh.size).tags.get h.next) = _
          simp [Heap.addTag, Heap.spend, Tr.get_set]
        · simp only [Heap.addTag, Heap.spend, Tr.get_set]
          rw [if_neg (by omega), if_neg (fun e => hne ⟨e, h2⟩)]
end
end Go.Dm
