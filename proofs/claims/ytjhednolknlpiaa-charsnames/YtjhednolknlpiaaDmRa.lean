/- The D-machine (31): symbolic runs: frames by entries, heaps by pieces; what they mean. -/
import Derived.Test.YtjhednolknlpiaaDmWp
namespace Go.Dm
set_option linter.unusedSimpArgs false
set_option linter.unusedVariables false
set_option linter.unnecessarySimpa false

/-- What a slot holds; 'g': under that guard (else nothing). -/
structure En where
  s : Nat
  g : Option (Nat × Bool)
  v : DV
def memN (n : Nat) : List Nat → Bool
  | [] => false
  | m :: r => match Nat.beq n m with
    | true => true
    | false => memN n r
def eqB : Bool → Bool → Bool
  | c, true => c
  | c, false => !c
def memT (n : Nat) (b : Bool) : List (Nat × Bool) → Bool
  | [] => false
  | m :: r => match Nat.beq n m.1, b, m.2 with
    | true, true, true => true
    | true, false, false => true
    | _, _, _ => memT n b r
/-- A slot's value, under some guards; the newest entry first. -/
def lk (A : List (Nat × Bool)) : List Nat → List En → Nat → Option DV
  | _, [], _ => none
  | seen, ⟨s, g, v⟩ :: r, n => match Nat.beq s n with
    | true => match g with
      | none => some v
      | some (t, b) => match memT t b A, memN t (s :: seen) with
        | true, false => some v
        | _, _ => none
    | false => lk A (s :: seen) r n
def tg : List Nat → List En → Nat → Option (DV × Option (Nat × Bool))
  | _, [], _ => none
  | seen, ⟨s, g, v⟩ :: r, n => match Nat.beq s n with
    | true => match g with
      | none => some (v, none)
      | some (t, b) => match memN t (s :: seen) with
        | true => none
        | false => some (v, some (t, b))
    | false => tg (s :: seen) r n
/-- A guard's guards, and what it says. -/
def gate (es : List En) : Nat → Option (Nat × Bool) → Option (List (Nat × Bool) × Bool)
  | _, none => some ([], true)
  | 0, some _ => none
  | f + 1, some (t, b) => match tg [] es t with
    | some (.bool c, g) => match gate es f g with
      | some (A, p) => some ((t, b) :: A, p && eqB c b)
      | none => none
    | _ => none

def EnOk (fr : List DV) (seen : List Nat) (e : En) : Prop :=
  memN e.s seen = false → match e.g with
    | none => fr.getD e.s .undef = e.v
    | some (t, b) => memN t (e.s :: seen) = false → (fr.getD t .undef = .bool b → fr.getD e.s .undef = e.v) ∧ (fr.getD t .undef ≠ .bool b → fr.getD e.s .undef = .undef)
def Ag (fr : List DV) : List Nat → List En → Prop
  | _, [] => True
  | seen, e :: r => EnOk fr seen e ∧ Ag fr (e.s :: seen) r

structure St where
  nt : Nat
  es : List En
  ds : List DDef
  ir : Option Nat
structure AgS (fr : Fr) (st : St) : Prop where
  len : fr.tmps.length = st.nt
  es : Ag fr.tmps [] st.es
  ds : fr.defers = st.ds
  ir : fr.inr = st.ir
def St.putO : St → Option Nat → DV → St
  | ⟨nt, es, ds, ir⟩, some d, v => ⟨nt, ⟨d, none, v⟩ :: es, ds, ir⟩
  | ⟨nt, es, ds, ir⟩, none, _ => ⟨nt, es, ds, ir⟩
/-- A side of a step that is reckoned. -/
@[irreducible] def Arith (p : Prop) : Prop := p
theorem Arith.mk {p : Prop} (h : p) : Arith p := by unfold Arith; exact h
theorem Arith.out {p : Prop} (h : Arith p) : p := by unfold Arith at h; exact h
def dstOk (nt : Nat) : Option Nat → Bool
  | none => true
  | some d => Nat.blt d nt

/-- Pieces of a heap. -/
structure HP where
  foot : Nat → Prop
  ok : (Nat → Option HObj) → (Nat → Option Nat) → Prop
  loc : ∀ o t o' t', (∀ i, foot i → o i = o' i ∧ t i = t' i) → ok o t → ok o' t'
inductive Ck where
  | obj (id : Nat) (o : HObj)
  | own (t sz : Nat) (xs : List DV)
  | pr (p : HP)
def Ck.foot : Ck → Nat → Prop
  | .obj id _ => fun i => i = id
  | .own t _ _ => fun i => i = t ∧ 2 ≤ t
  | .pr p => p.foot
def Ck.ok (h : Heap) : Ck → Prop
  | .obj id o => h.objs.get id = some o
  | .own t sz xs => (t = 0 ∧ xs = []) ∨ (2 ≤ t ∧ h.tags.get t = some sz)
  | .pr p => p.ok h.objs.get h.tags.get
structure Sat (h : Heap) (cs : List Ck) : Prop where
  two : 2 ≤ h.next
  ok : ∀ c ∈ cs, c.ok h ∧ ∀ i, c.foot i → i < h.next
  sep : cs.Pairwise fun a b => ∀ i, ¬(a.foot i ∧ b.foot i)

theorem Ck.ok_loc {h h' : Heap} {c : Ck} (hl : ∀ i, c.foot i → h.objs.get i = h'.objs.get i ∧ h.tags.get i = h'.tags.get i) (hc : c.ok h) : c.ok h' := by
  cases c with
  | obj id o => show h'.objs.get id = some o; rw [← (hl id rfl).1]; exact hc
  | own t sz xs =>
    rcases hc with h0 | ⟨h2, ht⟩
    · exact .inl h0
    · exact .inr ⟨h2, by rw [← (hl t ⟨rfl, h2⟩).2]; exact ht⟩
  | pr p => exact p.loc _ _ _ _ hl hc

/-- A piece in a place of the list. -/
inductive Me (c : Ck) : List Ck → Prop where
  | head {r : List Ck} : Me c (c :: r)
  | tail {x : Ck} {r : List Ck} : Me c r → Me c (x :: r)
inductive Upd {α : Type} (c : Ck) (n : α → Ck) : List Ck → (α → List Ck) → Prop where
  | head {r : List Ck} : Upd c n (c :: r) (fun a => n a :: r)
  | tail {x : Ck} {r : List Ck} {r' : α → List Ck} : Upd c n r r' → Upd c n (x :: r) (fun a => x :: r' a)
inductive Upd1 (c n : Ck) : List Ck → List Ck → Prop where
  | head {r : List Ck} : Upd1 c n (c :: r) (n :: r)
  | tail {x : Ck} {r r' : List Ck} : Upd1 c n r r' → Upd1 c n (x :: r) (x :: r')
inductive Rem (c : Ck) : List Ck → List Ck → Prop where
  | head {r : List Ck} : Rem c (c :: r) r
  | tail {x : Ck} {r r' : List Ck} : Rem c r r' → Rem c (x :: r) (x :: r')
theorem Me.mem {c : Ck} : ∀ {cs : List Ck}, Me c cs → c ∈ cs
  | _, .head => by simp
  | _, .tail h => by simp [h.mem]
theorem Upd.one {α : Type} {c : Ck} {n : α → Ck} {cs : List Ck} {cs' : α → List Ck} (h : Upd c n cs cs') (a : α) : Upd1 c (n a) cs (cs' a) := by
  induction h with
  | head => exact .head
  | tail _ ih => exact .tail ih
theorem Upd1.mem {c n : Ck} {cs cs' : List Ck} (h : Upd1 c n cs cs') : c ∈ cs := by
  induction h with
  | head => simp
  | tail _ ih => simp [ih]
theorem Rem.mem {c : Ck} {cs cs' : List Ck} (h : Rem c cs cs') : c ∈ cs := by
  induction h with
  | head => simp
  | tail _ ih => simp [ih]
theorem Sat.get {h : Heap} {cs : List Ck} {c : Ck} (hs : Sat h cs) (hm : Me c cs) : c.ok h := (hs.ok c hm.mem).1
theorem Sat.obj {h : Heap} {cs : List Ck} {id : Nat} {o : HObj} (hs : Sat h cs) (hm : Me (.obj id o) cs) : h.objs.get id = some o := hs.get hm

theorem upd1_sub {c n : Ck} {cs cs' : List Ck} (h : Upd1 c n cs cs') : ∀ x ∈ cs', x = n ∨ x ∈ cs := by
  induction h with
  | head => intro x hx; simp at hx; rcases hx with rfl | hx <;> simp_all
  | tail _ ih => intro x hx; simp at hx; rcases hx with rfl | hx <;> simp; rcases ih x hx with h | h <;> simp [h]
/-- A piece becomes another one in its own place; the others lie apart from it. -/
theorem Sat.upd {h h' : Heap} {cs cs' : List Ck} {c n : Ck} (hs : Sat h cs) (hu : Upd1 c n cs cs') (hnext : h.next ≤ h'.next)
    (hn : n.ok h') (hfn : ∀ i, n.foot i → i < h'.next) (hfoot : ∀ i, n.foot i → c.foot i ∨ h.next ≤ i)
    (hk : ∀ i, i < h.next → ¬ c.foot i → h'.objs.get i = h.objs.get i ∧ h'.tags.get i = h.tags.get i) : Sat h' cs' := by
  refine ⟨Nat.le_trans hs.two hnext, ?_, ?_⟩
  · have aux : ∀ {cs cs' : List Ck}, Upd1 c n cs cs' → (∀ x ∈ cs, x.ok h ∧ ∀ i, x.foot i → i < h.next) → cs.Pairwise (fun a b => ∀ i, ¬(a.foot i ∧ b.foot i)) → ∀ x ∈ cs', x.ok h' ∧ ∀ i, x.foot i → i < h'.next := by
      intro cs cs' hu
      have keep : ∀ x : Ck, x.ok h ∧ (∀ i, x.foot i → i < h.next) → (∀ i, ¬(c.foot i ∧ x.foot i)) → x.ok h' ∧ ∀ i, x.foot i → i < h'.next := fun x hx hd =>
        ⟨Ck.ok_loc (fun i hi => by have := hk i (hx.2 i hi) (fun hc => hd i ⟨hc, hi⟩); exact ⟨this.1.symm, this.2.symm⟩) hx.1, fun i hi => Nat.lt_of_lt_of_le (hx.2 i hi) hnext⟩
      induction hu with
      | head =>
        intro hok hsep x hx
        rcases List.mem_cons.1 hx with rfl | hx
        · exact ⟨hn, hfn⟩
        · exact keep x (hok x (by simp [hx])) ((List.pairwise_cons.1 hsep).1 x hx)
      | tail hu ih =>
        intro hok hsep x hx
        rcases List.mem_cons.1 hx with rfl | hx
        · exact keep x (hok x (by simp)) (fun i ⟨h1, h2⟩ => (List.pairwise_cons.1 hsep).1 c hu.mem i ⟨h2, h1⟩)
        · exact ih (fun y hy => hok y (by simp [hy])) (List.pairwise_cons.1 hsep).2 x hx
    exact aux hu hs.ok hs.sep
  · have aux : ∀ {cs cs' : List Ck}, Upd1 c n cs cs' → (∀ x ∈ cs, x.ok h ∧ ∀ i, x.foot i → i < h.next) → cs.Pairwise (fun a b => ∀ i, ¬(a.foot i ∧ b.foot i)) → cs'.Pairwise (fun a b => ∀ i, ¬(a.foot i ∧ b.foot i)) := by
      intro cs cs' hu
      induction hu with
      | head =>
        intro hok hsep
        obtain ⟨h1, h2⟩ := List.pairwise_cons.1 hsep
        refine List.pairwise_cons.2 ⟨fun x hx i ⟨ha, hb⟩ => ?_, h2⟩
        rcases hfoot i ha with hc | hge
        · exact h1 x hx i ⟨hc, hb⟩
        · exact absurd ((hok x (by simp [hx])).2 i hb) (by omega)
      | @tail x r r' hu ih =>
        intro hok hsep
        obtain ⟨h1, h2⟩ := List.pairwise_cons.1 hsep
        refine List.pairwise_cons.2 ⟨fun y hy i ⟨ha, hb⟩ => ?_, ih (fun y hy => hok y (by simp [hy])) h2⟩
        rcases upd1_sub hu y hy with rfl | hy
        · rcases hfoot i hb with hc | hge
          · exact h1 c hu.mem i ⟨ha, hc⟩
          · exact absurd ((hok x (by simp)).2 i ha) (by omega)
        · exact h1 y hy i ⟨ha, hb⟩
    exact aux hu hs.ok hs.sep
theorem Sat.add {h h' : Heap} {cs : List Ck} {n : Ck} (hs : Sat h cs) (hnext : h.next ≤ h'.next) (hn : n.ok h') (hfn : ∀ i, n.foot i → i < h'.next) (hfoot : ∀ i, n.foot i → h.next ≤ i)
    (hk : ∀ i, i < h.next → h'.objs.get i = h.objs.get i ∧ h'.tags.get i = h.tags.get i) : Sat h' (n :: cs) := by
  refine ⟨Nat.le_trans hs.two hnext, fun x hx => ?_, List.pairwise_cons.2 ⟨fun x hx i ⟨ha, hb⟩ => absurd ((hs.ok x hx).2 i hb) (by have := hfoot i ha; omega), hs.sep⟩⟩
  rcases List.mem_cons.1 hx with rfl | hx
  · exact ⟨hn, hfn⟩
  · have := hs.ok x hx
    exact ⟨Ck.ok_loc (fun i hi => by have := hk i (this.2 i hi); exact ⟨this.1.symm, this.2.symm⟩) this.1, fun i hi => Nat.lt_of_lt_of_le (this.2 i hi) hnext⟩
theorem rem_sub {c : Ck} {cs cs' : List Ck} (h : Rem c cs cs') : ∀ x ∈ cs', x ∈ cs := by
  induction h with
  | head => intro x hx; simp [hx]
  | tail _ ih => intro x hx; simp at hx; rcases hx with rfl | hx <;> simp; simp [ih x hx]
theorem Sat.sub {h : Heap} {cs cs' : List Ck} (hs : Sat h cs) (hr : cs'.Sublist cs) : Sat h cs' := ⟨hs.two, fun x hx => hs.ok x (hr.subset hx), hs.sep.sublist hr⟩
theorem Rem.sublist {c : Ck} {cs cs' : List Ck} (h : Rem c cs cs') : cs'.Sublist cs := by
  induction h with
  | head => exact List.sublist_cons_self _ _
  | tail _ ih => exact ih.cons_cons _
theorem Sat.perm {h : Heap} {cs cs' : List Ck} (hs : Sat h cs) (hp : cs.Perm cs') : Sat h cs' :=
  ⟨hs.two, fun x hx => hs.ok x (hp.mem_iff.2 hx), (hp.pairwise_iff (fun hab i hi => hab i ⟨hi.2, hi.1⟩)).1 hs.sep⟩
/-- A piece is turned where it lies: the heap stays, or turns in that place alone; others turn not. -/
theorem Rem.keep {c : Ck} {cs cs' : List Ck} (hr : Rem c cs cs') {h h' : Heap} (hs : Sat h cs) (hnext : h.next ≤ h'.next) (hk : ∀ i, i < h.next → ¬ c.foot i → h'.objs.get i = h.objs.get i ∧ h'.tags.get i = h.tags.get i) : Sat h' cs' := by
  have hsep : ∀ x ∈ cs', ∀ i, ¬(c.foot i ∧ x.foot i) := by
    have hs' := hs.sep
    clear hs
    induction hr with
    | head => exact (List.pairwise_cons.1 hs').1
    | tail hr ih =>
      intro x hx i ⟨ha, hb⟩
      obtain ⟨h1, h2⟩ := List.pairwise_cons.1 hs'
      rcases List.mem_cons.1 hx with rfl | hx
      · exact h1 c hr.mem i ⟨hb, ha⟩
      · exact ih h2 x hx i ⟨ha, hb⟩
  refine ⟨Nat.le_trans hs.two hnext, fun x hx => ?_, hs.sep.sublist hr.sublist⟩
  have := hs.ok x (rem_sub hr x hx)
  exact ⟨Ck.ok_loc (fun i hi => by have := hk i (this.2 i hi) (fun hc => hsep x hx i ⟨hc, hi⟩); exact ⟨this.1.symm, this.2.symm⟩) this.1, fun i hi => Nat.lt_of_lt_of_le (this.2 i hi) hnext⟩

/-- Pieces that are kept, in their order. -/
inductive KK : List Ck → List Ck → Prop where
  | refl {r : List Ck} : KK r r
  | keep {c : Ck} {r r' : List Ck} : KK r r' → KK (c :: r) (c :: r')
  | drop {c : Ck} {r r' : List Ck} : KK r r' → KK (c :: r) r'
theorem KK.sublist {a b : List Ck} (h : KK a b) : b.Sublist a := by
  induction h with
  | refl => exact List.Sublist.refl _
  | keep _ ih => exact ih.cons_cons _
  | drop _ ih => exact ih.cons _
/-- What holds of some of the pieces. -/
@[irreducible] def Pst (Q : List Ck → Prop) (cs : List Ck) : Prop := ∃ cs', (∀ h, Sat h cs → Sat h cs') ∧ Q cs'
theorem Pst.mk {Q : List Ck → Prop} {cs cs' : List Ck} (hq : Q cs') (hk : KK cs cs') : Pst Q cs := by unfold Pst; exact ⟨cs', fun _ hs => hs.sub hk.sublist, hq⟩
theorem Pst.mkP {Q : List Ck → Prop} {cs cs2 cs' : List Ck} (hq : Q cs') (hk : KK cs cs2) (hp : cs2.Perm cs') : Pst Q cs := by unfold Pst; exact ⟨cs', fun _ hs => (hs.sub hk.sublist).perm hp, hq⟩
theorem Pst.out {Q : List Ck → Prop} {cs : List Ck} (h : Pst Q cs) : ∃ cs', (∀ h, Sat h cs → Sat h cs') ∧ Q cs' := by unfold Pst at h; exact h
theorem Sat.nilOwn {h : Heap} {cs : List Ck} (hs : Sat h cs) (sz : Nat) : Sat h (.own 0 sz [] :: cs) :=
  hs.add (Nat.le_refl _) (.inl ⟨rfl, rfl⟩) (fun i hi => absurd hi.2 (by have := hi.1; omega)) (fun i hi => absurd hi.2 (by have := hi.1; omega)) (fun i _ => ⟨rfl, rfl⟩)

/-! ### frames -/
theorem memN_cons (n m : Nat) (l : List Nat) : memN n (m :: l) = (decide (n = m) || memN n l) := by
  simp only [memN]
  cases h : Nat.beq n m with
  | true => have := Nat.eq_of_beq_eq_true h; simp [this]
  | false => have : n ≠ m := Nat.ne_of_beq_eq_false h; simp [this]
theorem memT_mem {n : Nat} {b : Bool} : ∀ {l : List (Nat × Bool)}, memT n b l = true → (n, b) ∈ l
  | [], h => by cases h
  | ⟨m, c⟩ :: r, h => by
    simp only [memT] at h
    cases hb : Nat.beq n m <;> cases b <;> cases c <;> simp only [hb] at h <;>
      first
        | (have := Nat.eq_of_beq_eq_true hb; subst this; exact List.mem_cons_self)
        | exact List.mem_cons_of_mem _ (memT_mem h)
theorem lk_ok {fr : List DV} {A : List (Nat × Bool)} (hA : ∀ t b, (t, b) ∈ A → fr.getD t .undef = .bool b) : ∀ {es : List En} {seen : List Nat} {n : Nat} {v : DV}, Ag fr seen es → memN n seen = false → lk A seen es n = some v → fr.getD n .undef = v
  | [], _, _, _, _, _, h => by cases h
  | ⟨s, g, w⟩ :: r, seen, n, v, ha, hn, h => by
    simp only [lk] at h
    obtain ⟨he, hr⟩ := ha
    cases hb : Nat.beq s n with
    | true =>
      have hs := Nat.eq_of_beq_eq_true hb
      subst hs
      simp only [hb] at h
      have he' := he hn
      cases g with
      | none => simp only [Option.some.injEq] at h; subst h; exact he'
      | some p =>
        obtain ⟨t, b⟩ := p
        simp only at h
        split at h <;> try (cases h; done)
        rename_i h1 h2
        simp only [Option.some.injEq] at h; subst h
        exact (he' h2).1 (hA t b (memT_mem h1))
    | false =>
      simp only [hb] at h
      have hs : s ≠ n := Nat.ne_of_beq_eq_false hb
      exact lk_ok hA hr (by rw [memN_cons, hn]; simp [Ne.symm hs]) h
theorem tg_ok {fr : List DV} : ∀ {es : List En} {seen : List Nat} {n : Nat} {v : DV} {g : Option (Nat × Bool)}, Ag fr seen es → memN n seen = false → tg seen es n = some (v, g) →
    match g with
    | none => fr.getD n .undef = v
    | some (t, b) => (fr.getD t .undef = .bool b → fr.getD n .undef = v) ∧ (fr.getD t .undef ≠ .bool b → fr.getD n .undef = .undef)
  | [], _, _, _, _, _, _, h => by cases h
  | ⟨s, g, w⟩ :: r, seen, n, v, g', ha, hn, h => by
    simp only [tg] at h
    obtain ⟨he, hr⟩ := ha
    cases hb : Nat.beq s n with
    | true =>
      have hs := Nat.eq_of_beq_eq_true hb
      subst hs
      simp only [hb] at h
      have he' := he hn
      cases g with
      | none => simp only [Option.some.injEq, Prod.mk.injEq] at h; obtain ⟨rfl, rfl⟩ := h; exact he'
      | some p =>
        obtain ⟨t, b⟩ := p
        simp only at h
        split at h <;> try (cases h; done)
        rename_i h2
        simp only [Option.some.injEq, Prod.mk.injEq] at h; obtain ⟨rfl, rfl⟩ := h
        exact he' h2
    | false =>
      simp only [hb] at h
      have hs : s ≠ n := Nat.ne_of_beq_eq_false hb
      exact tg_ok hr (by rw [memN_cons, hn]; simp [Ne.symm hs]) h
theorem wanted_bool {fr : Fr} {t : Nat} {b : Bool} : wantedG (some (t, b)) fr = true ↔ fr.tmps.getD t .undef = .bool b := by
  simp only [wantedG]
  cases h : fr.tmps.getD t .undef <;> simp
theorem gate_ok {fr : Fr} {es : List En} (ha : Ag fr.tmps [] es) : ∀ {f : Nat} {g : Option (Nat × Bool)} {A : List (Nat × Bool)} {p : Bool}, gate es f g = some (A, p) →
    (wantedG g fr = true → p = true ∧ ∀ t b, (t, b) ∈ A → fr.tmps.getD t .undef = .bool b) ∧ (p = true → wantedG g fr = true)
  | f, none, A, p, h => by
    cases f <;> (simp only [gate, Option.some.injEq, Prod.mk.injEq] at h; obtain ⟨rfl, rfl⟩ := h; exact ⟨fun _ => ⟨rfl, fun t b hm => by cases hm⟩, fun _ => rfl⟩)
  | 0, some _, A, p, h => by simp [gate] at h
  | f + 1, some (t, b), A, p, h => by
    simp only [gate] at h
    split at h <;> try (cases h; done)
    rename_i c g ht
    split at h <;> try (cases h; done)
    rename_i A' p' hg
    simp only [Option.some.injEq, Prod.mk.injEq] at h; obtain ⟨rfl, rfl⟩ := h
    have h1 := tg_ok ha rfl ht
    obtain ⟨h2, h3⟩ := gate_ok ha hg
    rw [wanted_bool]
    have heq : eqB c b = true ↔ c = b := by cases c <;> cases b <;> simp [eqB]
    cases g with
    | none =>
      simp only at h1
      obtain ⟨hp, hA⟩ := h2 rfl
      rw [h1]
      refine ⟨fun hw => ?_, fun hp' => ?_⟩
      · simp only [DV.bool.injEq] at hw
        refine ⟨by rw [hp, heq.2 hw]; rfl, fun t' b' hm => ?_⟩
        rcases List.mem_cons.1 hm with he | hm
        · simp only [Prod.mk.injEq] at he; obtain ⟨rfl, rfl⟩ := he; rw [h1, hw]
        · exact hA t' b' hm
      · simp only [Bool.and_eq_true] at hp'; rw [heq.1 hp'.2]
    | some q =>
      obtain ⟨t', b'⟩ := q
      simp only at h1
      rw [wanted_bool] at h2 h3
      refine ⟨fun hw => ?_, fun hp' => ?_⟩
      · by_cases hx : fr.tmps.getD t' .undef = .bool b'
        · obtain ⟨hp, hA⟩ := h2 hx
          have := h1.1 hx
          rw [hw] at this
          simp only [DV.bool.injEq] at this
          refine ⟨by rw [hp, heq.2 this.symm]; rfl, fun t2 b2 hm => ?_⟩
          rcases List.mem_cons.1 hm with he | hm
          · simp only [Prod.mk.injEq] at he; obtain ⟨rfl, rfl⟩ := he; exact hw
          · exact hA t2 b2 hm
        · have := h1.2 hx
          rw [hw] at this; cases this
      · simp only [Bool.and_eq_true] at hp'
        rw [h1.1 (h3 hp'.1), heq.1 hp'.2]
theorem getD_set_ne {fr : List DV} {d n : Nat} {x : DV} (h : n ≠ d) : (fr.set d x).getD n .undef = fr.getD n .undef := by
  rw [List.getD_eq_getElem?_getD, List.getD_eq_getElem?_getD, List.getElem?_set_ne (Ne.symm h)]
theorem getD_set_same {fr : List DV} {d : Nat} {x : DV} (h : d < fr.length) : (fr.set d x).getD d .undef = x := by
  rw [List.getD_eq_getElem?_getD, List.getElem?_set_self h]; rfl
theorem Ag.set {fr : List DV} {d : Nat} {x : DV} : ∀ {es : List En} {seen seen' : List Nat}, (∀ n, memN n seen' = false → memN n seen = false ∧ n ≠ d) → Ag fr seen es → Ag (fr.set d x) seen' es
  | [], _, _, _, _ => trivial
  | e :: r, seen, seen', hs, ⟨he, hr⟩ => by
    refine ⟨fun hn => ?_, Ag.set (seen := e.s :: seen) (fun n hn => ?_) hr⟩
    · obtain ⟨h1, h2⟩ := hs _ hn
      have he' := he h1
      cases hg : e.g with
      | none => rw [hg] at he'; simp only at he' ⊢; rw [getD_set_ne h2]; exact he'
      | some p =>
        obtain ⟨t, b⟩ := p
        rw [hg] at he'
        intro ht
        rw [memN_cons] at ht
        simp only [Bool.or_eq_false_iff, decide_eq_false_iff_not] at ht
        obtain ⟨h3, h4⟩ := hs _ ht.2
        rw [getD_set_ne h2, getD_set_ne h4]
        exact he' (by rw [memN_cons]; simp [ht.1, h3])
    · rw [memN_cons] at hn ⊢
      simp only [Bool.or_eq_false_iff, decide_eq_false_iff_not] at hn ⊢
      exact ⟨⟨hn.1, (hs n hn.2).1⟩, (hs n hn.2).2⟩
theorem Ag.put {fr : List DV} {es : List En} {d : Nat} {x v : DV} (ha : Ag fr [] es) (hd : d < fr.length) (hx : x = v) : Ag (fr.set d x) [] (⟨d, none, v⟩ :: es) := by
  refine ⟨fun _ => ?_, ha.set (seen := []) fun n hn => ?_⟩
  · show (fr.set d x).getD d .undef = v
    rw [getD_set_same hd, hx]
  · rw [memN_cons] at hn
    simp only [Bool.or_eq_false_iff, decide_eq_false_iff_not] at hn
    exact ⟨rfl, hn.1⟩
theorem Ag.putG {fr : List DV} {es : List En} {d t : Nat} {b : Bool} {x v : DV} (ha : Ag fr [] es) (hd : d < fr.length) (h1 : fr.getD t .undef = .bool b → x = v) (h2 : fr.getD t .undef ≠ .bool b → x = .undef) : Ag (fr.set d x) [] (⟨d, some (t, b), v⟩ :: es) := by
  refine ⟨fun _ ht => ?_, ha.set (seen := []) fun n hn => ?_⟩
  · rw [memN_cons] at ht
    simp only [Bool.or_eq_false_iff, decide_eq_false_iff_not] at ht
    show ((fr.set d x).getD t .undef = .bool b → (fr.set d x).getD d .undef = v) ∧ _
    rw [getD_set_ne ht.1, getD_set_same hd]
    exact ⟨h1, h2⟩
  · rw [memN_cons] at hn
    simp only [Bool.or_eq_false_iff, decide_eq_false_iff_not] at hn
    exact ⟨rfl, hn.1⟩
theorem AgS.put {fr : Fr} {st : St} {d : Option Nat} {v : DV} (ha : AgS fr st) (hd : dstOk st.nt d = true) : AgS (fr.put d v) (st.putO d v) := by
  obtain ⟨nt, es, ds, ir⟩ := st
  cases d with
  | none => exact ha
  | some d =>
    refine ⟨?_, ?_, ha.ds, ha.ir⟩
    · show (fr.tmps.set d v).length = _; rw [List.length_set]; exact ha.len
    · refine Ag.put ha.es ?_ rfl
      rw [ha.len]; simp only [dstOk] at hd; exact Nat.le_of_ble_eq_true hd
/-- Entries that are among others. -/
def Sub (es : List En) : List (Nat × DV) → Prop
  | [] => True
  | (n, v) :: r => lk [] [] es n = some v ∧ Sub es r
def ents : List (Nat × DV) → List En
  | [] => []
  | (n, v) :: r => ⟨n, none, v⟩ :: ents r
theorem Sub.ag {fr : List DV} {es : List En} (ha : Ag fr [] es) : ∀ {l : List (Nat × DV)}, Sub es l → ∀ seen, Ag fr seen (ents l)
  | [], _, _ => trivial
  | (n, v) :: r, ⟨h, hr⟩, seen => ⟨fun _ => lk_ok (A := []) (fun _ _ h => by cases h) ha rfl h, Sub.ag ha hr _⟩
end Go.Dm
