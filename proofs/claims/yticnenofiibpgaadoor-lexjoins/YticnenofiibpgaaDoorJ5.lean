/- LexJoins returns true for every input: part 5 of the proof (several texts joined). -/
import Derived.Laws.RangeString
import Derived.Test.YticnenofiibpgaaDoorJ4
/- The lexer's object az a piece of a heap; bundles of pieces. -/
namespace Go.Dm
set_option linter.unusedSimpArgs false
set_option linter.unusedVariables false
set_option linter.unnecessarySimpa false
set_option maxRecDepth 10000
/-! ### pieces that are taken together -/
def Ck.okf (o : Nat → Option HObj) (t : Nat → Option Nat) : Ck → Prop
  | .obj id x => o id = some x
  | .own a sz xs => (a = 0 ∧ xs = []) ∨ (2 ≤ a ∧ t a = some sz)
  | .pr p => p.ok o t
theorem Ck.okf_ok {h : Heap} {c : Ck} : c.okf h.objs.get h.tags.get ↔ c.ok h := by cases c <;> exact Iff.rfl
theorem Ck.okf_loc {o o' : Nat → Option HObj} {t t' : Nat → Option Nat} {c : Ck} (hl : ∀ i, c.foot i → o i = o' i ∧ t i = t' i) (hc : c.okf o t) : c.okf o' t' := by
  cases c with
  | obj id x => show o' id = some x; rw [← (hl id rfl).1]; exact hc
  | own a sz xs =>
    rcases hc with h0 | ⟨h2, ht⟩
    · exact .inl h0
    · exact .inr ⟨h2, by rw [← (hl a ⟨rfl, h2⟩).2]; exact ht⟩
  | pr p => exact p.loc _ _ _ _ hl hc
def bun {α : Type} (F : Nat → Prop) (f : α → List Ck) (P : α → Prop) : HP where
  foot := F
  ok o t := ∃ a, P a ∧ (∀ c ∈ f a, c.okf o t) ∧ (∀ i, F i ↔ ∃ c ∈ f a, c.foot i) ∧ (f a).Pairwise fun (x y : Ck) => ∀ i : Nat, ¬(x.foot i ∧ y.foot i)
  loc := fun o t o' t' h ⟨a, h1, h2, h3, h4⟩ => ⟨a, h1, fun c hc => Ck.okf_loc (fun i hi => h i ((h3 i).2 ⟨c, hc, hi⟩)) (h2 c hc), h3, h4⟩
theorem Sat.opn {α : Type} {F : Nat → Prop} {f : α → List Ck} {P : α → Prop} {R : List Ck} {h : Heap} (hs : Sat h (.pr (bun F f P) :: R)) : ∃ a, P a ∧ Sat h (f a ++ R) := by
  obtain ⟨a, h1, h2, h3, h4⟩ := (hs.ok _ (List.mem_cons_self ..)).1
  have hlt := (hs.ok _ (List.mem_cons_self ..)).2
  obtain ⟨s1, s2⟩ := List.pairwise_cons.1 hs.sep
  refine ⟨a, h1, hs.two, fun c hc => ?_, List.pairwise_append.2 ⟨h4, s2, fun x hx y hy i ⟨hi, hj⟩ => s1 y hy i ⟨(h3 i).2 ⟨x, hx, hi⟩, hj⟩⟩⟩
  rcases List.mem_append.1 hc with hc | hc
  · exact ⟨Ck.okf_ok.1 (h2 c hc), fun i hi => hlt i ((h3 i).2 ⟨c, hc, hi⟩)⟩
  · exact hs.ok c (List.mem_cons_of_mem _ hc)
theorem Sat.cls {α : Type} {F : Nat → Prop} {f : α → List Ck} {P : α → Prop} {R : List Ck} {h : Heap} {a : α} (hs : Sat h (f a ++ R)) (hp : P a) (hF : ∀ i, F i ↔ ∃ c ∈ f a, c.foot i) : Sat h (.pr (bun F f P) :: R) := by
  obtain ⟨s1, s2, s3⟩ := List.pairwise_append.1 hs.sep
  refine ⟨hs.two, fun c hc => ?_, List.pairwise_cons.2 ⟨fun y hy i ⟨hi, hj⟩ => ?_, s2⟩⟩
  · rcases List.mem_cons.1 hc with rfl | hc
    · refine ⟨⟨a, hp, fun c hc => Ck.okf_ok.2 (hs.ok c (List.mem_append_left _ hc)).1, hF, s1⟩, fun i hi => ?_⟩
      obtain ⟨c, hc, hi⟩ := (hF i).1 hi
      exact (hs.ok c (List.mem_append_left _ hc)).2 i hi
    · exact hs.ok c (List.mem_append_right _ hc)
  · obtain ⟨c, hc, hi⟩ := (hF i).1 hi
    exact s3 c hc y hy i ⟨hi, hj⟩
section
variable {D : DProg}
theorem Rem.perm' {c : Ck} {a b : List Ck} (hm : Rem c a b) : a.Perm (c :: b) := by
  induction hm with
  | head => exact .refl _
  | tail _ ih => exact (ih.cons _).trans (.swap ..)
theorem Upd1.rem {c n : Ck} {cs cs2 : List Ck} (hu : Upd1 c n cs cs2) : ∃ R, cs.Perm (c :: R) ∧ cs2.Perm (n :: R) := by
  induction hu with
  | head => exact ⟨_, .refl _, .refl _⟩
  | @tail x r r' _ ih =>
    obtain ⟨R, h1, h2⟩ := ih
    exact ⟨x :: R, (h1.cons x).trans (.swap ..), (h2.cons x).trans (.swap ..)⟩
theorem Upd.rem {α : Type} {c : Ck} {n : α → Ck} {cs : List Ck} {cs2 : α → List Ck} (hu : Upd c n cs cs2) : ∃ R, cs.Perm (c :: R) ∧ ∀ a, (cs2 a).Perm (n a :: R) := by
  induction hu with
  | head => exact ⟨_, .refl _, fun _ => .refl _⟩
  | @tail x r r' _ ih =>
    obtain ⟨R, h1, h2⟩ := ih
    exact ⟨x :: R, (h1.cons x).trans (.swap ..), fun a => ((h2 a).cons x).trans (.swap ..)⟩
theorem Me.upd {c : Ck} {cs : List Ck} (hm : Me c cs) : Upd1 c c cs cs := by
  induction hm with
  | head => exact .head
  | tail _ ih => exact .tail ih
theorem F.at1 {f : Nat} {args : List DV} {c n : Ck} {cs cs2 : List Ck} {P : DV → Prop} (hu : Upd1 c n cs cs2) (hF : ∀ R, F D f args (c :: R) (fun v cs' => P v ∧ n :: R = cs')) : F D f args cs (fun v cs' => P v ∧ cs2 = cs') := by
  obtain ⟨R, h1, h2⟩ := hu.rem
  refine F.perm h1 (F.post (hF R) fun v cs' ⟨hp, he⟩ => ⟨cs2, ?_, hp, rfl⟩)
  subst he; exact h2.symm
theorem F.atM {f : Nat} {args : List DV} {c : Ck} {cs : List Ck} {P : DV → Prop} (hm : Me c cs) (hF : ∀ R, F D f args (c :: R) (fun v cs' => P v ∧ c :: R = cs')) : F D f args cs (fun v cs' => P v ∧ cs = cs') := F.at1 hm.upd hF
theorem F.atG {α : Type} {f : Nat} {args : List DV} {c : Ck} {n : α → Ck} {cs : List Ck} {cs2 : α → List Ck} {P : α → DV → Prop} (hu : Upd c n cs cs2) (hF : ∀ R, F D f args (c :: R) (fun v cs' => Hold (∃ a, P a v ∧ n a :: R = cs'))) : F D f args cs (fun v cs' => Hold (∃ a, P a v ∧ cs2 a = cs')) := by
  obtain ⟨R, h1, h2⟩ := hu.rem
  refine F.perm h1 (F.post (hF R) fun v cs' hq => ?_)
  obtain ⟨a, hp, he⟩ := hq.out
  subst he
  exact ⟨cs2 a, (h2 a).symm, Hold.mk ⟨a, hp, rfl⟩⟩
theorem F.opn {α : Type} {F' : Nat → Prop} {f : α → List Ck} {P : α → Prop} {g : Nat} {args : List DV} {R : List Ck} {Q : DV → List Ck → Prop} (hF : ∀ a, P a → F D g args (f a ++ R) Q) : F D g args (.pr (bun F' f P) :: R) Q := fun h hs =>
  let ⟨a, hp, hs'⟩ := hs.opn; hF a hp h hs'
theorem RS.opn {α : Type} {F' : Nat → Prop} {f : α → List Ck} {P : α → Prop} {k : List It} {st : St} {R : List Ck} {Q : DX → St → List Ck → Prop} (hF : ∀ a, P a → RS D k st (f a ++ R) Q) : RS D k st (.pr (bun F' f P) :: R) Q := fun fr h ha hs =>
  let ⟨a, hp, hs'⟩ := hs.opn; hF a hp fr h ha hs'
theorem F.conv {f : Nat} {args : List DV} {cs : List Ck} {P P' : DV → List Ck → Prop} (hf : F D f args cs P) (hp : ∀ v cs', P v cs' → ∃ cs2, (∀ h, Sat h cs' → Sat h cs2) ∧ P' v cs2) : F D f args cs P' := fun h hs =>
  let ⟨v, h', cs', r1, r2, r3⟩ := hf h hs; let ⟨cs2, q1, q2⟩ := hp _ _ r3; ⟨v, h', cs2, r1, q1 _ r2, q2⟩
theorem F.from {f : Nat} {args : List DV} {cs cs2 : List Ck} {P : DV → List Ck → Prop} (hs : ∀ h, Sat h cs → Sat h cs2) (hf : F D f args cs2 P) : F D f args cs P := fun h hh => hf h (hs h hh)
theorem RS.from {k : List It} {st : St} {cs cs2 : List Ck} {Q : DX → St → List Ck → Prop} (hs : ∀ h, Sat h cs → Sat h cs2) (hr : RS D k st cs2 Q) : RS D k st cs Q := fun fr h ha hh => hr fr h ha (hs h hh)
end
theorem Pst.of {Q : List Ck → Prop} {cs cs' : List Ck} (hs : ∀ h, Sat h cs → Sat h cs') (hq : Q cs') : Pst Q cs := by unfold Pst; exact ⟨cs', hs, hq⟩

theorem Pst.nil {Q : List Ck → Prop} {cs : List Ck} (sz : Nat) (hq : Pst Q (.own 0 sz [] :: cs)) : Pst Q cs := by
  obtain ⟨cs', h1, h2⟩ := hq.out
  exact Pst.of (fun h hs => h1 h (hs.nilOwn sz)) h2

theorem LD.id {cs : List Ck} {sh : Shape} {a v : DV} (h : LD cs sh a v) : LD cs sh a v := h
/-! ### tokens, the lexer's object -/
def encA (a : Md.Str × Md.Str) : DV := .agg [.str a.1, .str a.2]
def encT (p : Md.Tok × Nat) : DV := .agg [.int .i64 p.1.kind, .str p.1.name, .lst p.2 (zOf p.2 2) (p.1.attrs.map encA), .bool p.1.self, .str p.1.data, .str p.1.pub, .str p.1.sys, .bool p.1.hasPub, .bool p.1.hasSys, .bool p.1.quirks]
instance : Inhabited (Md.Tok × Nat) := ⟨(default, 0)⟩
abbrev lcell (s : Md.Lx) (ti to tt : Nat) (os : List (Md.Tok × Nat)) : HObj := .cells [.lst ti (zOf ti 1) (s.inp.map I32), .int .i64 (s.pos : Nat), .int .i64 s.way, .str s.last, .bool s.room, .lst to (zOf to 10) (os.map encT), .lst tt (zOf tt 1) (s.text.map I32), .bool s.done] none
def lfoot (id : Nat) (g : Nat × Nat) (i : Nat) : Prop := i = id ∨ (i = g.1 ∧ 2 ≤ g.1) ∨ (i = g.2 ∧ 2 ≤ g.2)
def lpart (id : Nat) (s : Md.Lx) (g : Nat × Nat) (a : Nat × List (Md.Tok × Nat)) : List Ck := [.obj id (lcell s a.1 g.1 g.2 a.2), .own g.2 1 (s.text.map I32), .own g.1 10 (a.2.map encT)]
/-- The lexer at a place; g: of whom its lists are (tokens, text). -/
@[irreducible] def LX (id : Nat) (s : Md.Lx) (g : Nat × Nat) : Ck := .pr (bun (lfoot id g) (lpart id s g) (fun a => a.2.map Prod.fst = s.out))
theorem lfoot_iff {id : Nat} {s : Md.Lx} {g : Nat × Nat} {a : Nat × List (Md.Tok × Nat)} (i : Nat) : lfoot id g i ↔ ∃ c ∈ lpart id s g a, c.foot i := by
  constructor
  · rintro (rfl | h | h)
    · exact ⟨_, List.mem_cons_self .., rfl⟩
    · exact ⟨_, List.mem_cons_of_mem _ (List.mem_cons_of_mem _ (List.mem_cons_self ..)), h⟩
    · exact ⟨_, List.mem_cons_of_mem _ (List.mem_cons_self ..), h⟩
  · rintro ⟨c, hc, hi⟩
    simp only [lpart, List.mem_cons, List.not_mem_nil, or_false] at hc
    rcases hc with rfl | rfl | rfl
    · exact .inl hi
    · exact .inr (.inr hi)
    · exact .inr (.inl hi)
theorem LX.opn {id : Nat} {s : Md.Lx} {g : Nat × Nat} {R : List Ck} {h : Heap} (hs : Sat h (LX id s g :: R)) : ∃ ti os, os.map Prod.fst = s.out ∧ Sat h (.obj id (lcell s ti g.1 g.2 os) :: .own g.2 1 (s.text.map I32) :: .own g.1 10 (os.map encT) :: R) := by
  unfold LX at hs
  obtain ⟨a, h1, h2⟩ := Sat.opn hs
  exact ⟨a.1, a.2, h1, h2⟩
theorem LX.cls {id to tt ti : Nat} {s : Md.Lx} {os : List (Md.Tok × Nat)} {R : List Ck} {h : Heap} (hs : Sat h (.obj id (lcell s ti to tt os) :: .own tt 1 (s.text.map I32) :: .own to 10 (os.map encT) :: R)) (ho : os.map Prod.fst = s.out) : Sat h (LX id s (to, tt) :: R) := by
  unfold LX
  exact Sat.cls (f := lpart id s (to, tt)) (a := (ti, os)) (R := R) hs ho lfoot_iff
section
variable {D : DProg}
theorem F.lx {id : Nat} {s : Md.Lx} {g : Nat × Nat} {R : List Ck} {f : Nat} {args : List DV} {Q : DV → List Ck → Prop} (hF : ∀ ti os, os.map Prod.fst = s.out → F D f args (.obj id (lcell s ti g.1 g.2 os) :: .own g.2 1 (s.text.map I32) :: .own g.1 10 (os.map encT) :: R) Q) : F D f args (LX id s g :: R) Q := fun h hs =>
  let ⟨ti, os, ho, hs'⟩ := LX.opn hs; hF ti os ho h hs'
theorem LX.cell {id : Nat} {s : Md.Lx} {g : Nat × Nat} {cs : List Ck} (hm : Me (LX id s g) cs) {h : Heap} (hs : Sat h cs) : ∃ ti os, os.map Prod.fst = s.out ∧ h.objs.get id = some (lcell s ti g.1 g.2 os) := by
  obtain ⟨R, h1, _⟩ := hm.upd.rem
  obtain ⟨ti, os, ho, hs'⟩ := LX.opn (hs.perm h1)
  exact ⟨ti, os, ho, hs'.obj .head⟩
theorem cut_one {cs : List DV} {off : Nat} {v : DV} (h : cs[off]? = some v) : (cut cs off 1).bind (mkv none) = some v := (LDv.one h).ok (sh := none)
theorem LX.ldPos {id : Nat} {s : Md.Lx} {g : Nat × Nat} {cs : List Ck} (hm : Me (LX id s g) cs) : LD cs none (.ptr id 1) (.int .i64 (s.pos : Nat)) := .sem fun h hs => by
  obtain ⟨ti, os, _, e⟩ := LX.cell hm hs; simp only [loadD, e]; exact cut_one rfl
theorem LX.ldWay {id : Nat} {s : Md.Lx} {g : Nat × Nat} {cs : List Ck} (hm : Me (LX id s g) cs) : LD cs none (.ptr id 2) (.int .i64 s.way) := .sem fun h hs => by
  obtain ⟨ti, os, _, e⟩ := LX.cell hm hs; simp only [loadD, e]; exact cut_one rfl
theorem LX.ldLast {id : Nat} {s : Md.Lx} {g : Nat × Nat} {cs : List Ck} (hm : Me (LX id s g) cs) : LD cs none (.ptr id 3) (.str s.last) := .sem fun h hs => by
  obtain ⟨ti, os, _, e⟩ := LX.cell hm hs; simp only [loadD, e]; exact cut_one rfl
theorem LX.ldRoom {id : Nat} {s : Md.Lx} {g : Nat × Nat} {cs : List Ck} (hm : Me (LX id s g) cs) : LD cs none (.ptr id 4) (.bool s.room) := .sem fun h hs => by
  obtain ⟨ti, os, _, e⟩ := LX.cell hm hs; simp only [loadD, e]; exact cut_one rfl
theorem LX.ldDone {id : Nat} {s : Md.Lx} {g : Nat × Nat} {cs : List Ck} (hm : Me (LX id s g) cs) : LD cs none (.ptr id 7) (.bool s.done) := .sem fun h hs => by
  obtain ⟨ti, os, _, e⟩ := LX.cell hm hs; simp only [loadD, e]; exact cut_one rfl
theorem LX.st {id off : Nat} {s s' : Md.Lx} {g : Nat × Nat} {cs cs' : List Ck} {v : DV} (hu : Upd1 (LX id s g) (LX id s' g) cs cs') (ht : s'.text = s.text) (ho : s'.out = s.out)
    (hv : v.cells = [v] ∧ v.okv = true) (hlt : off < 8) (hw : ∀ ti os, (lcell s ti g.1 g.2 os, lcell s' ti g.1 g.2 os) = (.cells [.lst ti (zOf ti 1) (s.inp.map I32), .int .i64 (s.pos : Nat), .int .i64 s.way, .str s.last, .bool s.room, .lst g.1 (zOf g.1 10) (os.map encT), .lst g.2 (zOf g.2 1) (s.text.map I32), .bool s.done] none, .cells (overwrite [.lst ti (zOf ti 1) (s.inp.map I32), .int .i64 (s.pos : Nat), .int .i64 s.way, .str s.last, .bool s.room, .lst g.1 (zOf g.1 10) (os.map encT), .lst g.2 (zOf g.2 1) (s.text.map I32), .bool s.done] off [v]) none)) : StS cs 1 id off v cs' := by
  refine ⟨fun h hs => ?_⟩
  obtain ⟨R, h1, h2⟩ := hu.rem
  obtain ⟨ti, os, hos, hs'⟩ := LX.opn (hs.perm h1)
  have e := hs'.obj .head
  obtain ⟨w1, w2⟩ := Prod.mk.inj (hw ti os)
  refine ⟨h.put id (lcell s' ti g.1 g.2 os), ?_, ?_⟩
  · simp only [storeD, e]
    rw [if_pos ⟨by rw [hv.1]; rfl, by simp only [List.length_cons, List.length_nil]; omega, hv.2⟩, hv.1, w2]
  · have hp := hs'.put (o' := lcell s' ti g.1 g.2 os) .head
    rw [← ht] at hp
    exact (LX.cls hp (by rw [ho]; exact hos)).perm h2.symm
theorem LX.stPos {id : Nat} {s : Md.Lx} {g : Nat × Nat} {cs cs' : List Ck} (n : Nat) {x : Int} (hx : x = (s.pos : Int) + (n : Int)) (hu : Upd1 (LX id s g) (LX id (s.adv n) g) cs cs') : StS cs 1 id 1 (.int .i64 x) cs' := by
  subst hx; exact LX.st hu rfl rfl ⟨rfl, rfl⟩ (by omega) (fun _ _ => rfl)
theorem LX.stPos2 {id : Nat} {s : Md.Lx} {g : Nat × Nat} {cs cs' : List Ck} (a b : Nat) (hu : Upd1 (LX id s g) (LX id (s.adv (a + b)) g) cs cs') : StS cs 1 id 1 (.int .i64 ((s.pos : Int) + ((a : Int) + (b : Int)))) cs' := LX.stPos (a + b) (by omega) hu
theorem LX.stWay {id : Nat} {s : Md.Lx} {g : Nat × Nat} {cs cs' : List Ck} {x : Int} (hu : Upd1 (LX id s g) (LX id { s with way := x } g) cs cs') : StS cs 1 id 2 (.int .i64 x) cs' := LX.st hu rfl rfl ⟨rfl, rfl⟩ (by omega) (fun _ _ => rfl)
theorem LX.stLast {id : Nat} {s : Md.Lx} {g : Nat × Nat} {cs cs' : List Ck} {x : Md.Str} (hu : Upd1 (LX id s g) (LX id { s with last := x } g) cs cs') : StS cs 1 id 3 (.str x) cs' := LX.st hu rfl rfl ⟨rfl, rfl⟩ (by omega) (fun _ _ => rfl)
theorem LX.stRoom {id : Nat} {s : Md.Lx} {g : Nat × Nat} {cs cs' : List Ck} {x : Bool} (hu : Upd1 (LX id s g) (LX id { s with room := x } g) cs cs') : StS cs 1 id 4 (.bool x) cs' := LX.st hu rfl rfl ⟨rfl, rfl⟩ (by omega) (fun _ _ => rfl)
theorem LX.stDone {id : Nat} {s : Md.Lx} {g : Nat × Nat} {cs cs' : List Ck} {x : Bool} (hu : Upd1 (LX id s g) (LX id { s with done := x } g) cs cs') : StS cs 1 id 7 (.bool x) cs' := LX.st hu rfl rfl ⟨rfl, rfl⟩ (by omega) (fun _ _ => rfl)
/-- The text is laid aside. -/
theorem LX.stTextNil {id : Nat} {s : Md.Lx} {g : Nat × Nat} {cs cs' : List Ck} (hu : Upd1 (LX id s g) (LX id s.clr (g.1, 0)) cs cs') : StS cs 1 id 6 (.lst 0 0 []) (.own g.2 1 (s.text.map I32) :: cs') := by
  refine ⟨fun h hs => ?_⟩
  obtain ⟨R, h1, h2⟩ := hu.rem
  obtain ⟨ti, os, hos, hs'⟩ := LX.opn (hs.perm h1)
  have e := hs'.obj .head
  refine ⟨h.put id (lcell s.clr ti g.1 0 os), ?_, ?_⟩
  · simp only [storeD, e]
    rw [if_pos ⟨rfl, by simp only [List.length_cons, List.length_nil, DV.cells]; omega, rfl⟩]; rfl
  · have hp := (hs'.put (o' := lcell s.clr ti g.1 0 os) .head).nilOwn 1
    have hp2 := hp.perm (cs' := .obj id (lcell s.clr ti g.1 0 os) :: .own 0 1 [] :: .own g.1 10 (os.map encT) :: .own g.2 1 (s.text.map I32) :: R) ((List.Perm.swap ..).trans ((((List.Perm.swap ..)).cons _).cons _))
    exact (LX.cls (s := s.clr) hp2 hos).perm ((List.Perm.swap ..).trans (h2.symm.cons _))
/-- It is taken up again. -/
theorem LX.stTextBack {id tt : Nat} {s : Md.Lx} {g : Nat × Nat} {text : List Int} {cs c1 cs' : List Ck} (hr : Rem (.own tt 1 (text.map I32)) cs c1) (hu : Upd1 (LX id s g) (LX id { s with text := text } (g.1, tt)) c1 cs') : StS cs 1 id 6 (.lst tt (zOf tt 1) (text.map I32)) cs' := by
  have hrm : ∀ {c : Ck} {a b : List Ck}, Rem c a b → a.Perm (c :: b) := by
    intro c a b hm
    induction hm with
    | head => exact .refl _
    | tail _ ih => exact (ih.cons _).trans (.swap ..)
  refine ⟨fun h hs => ?_⟩
  obtain ⟨R, h1, h2⟩ := hu.rem
  have hs0 := hs.perm ((hrm hr).trans ((h1.cons _).trans (.swap ..)))
  obtain ⟨ti, os, hos, hs'⟩ := LX.opn hs0
  have e := hs'.obj .head
  refine ⟨h.put id (lcell { s with text := text } ti g.1 tt os), ?_, ?_⟩
  · simp only [storeD, e]
    rw [if_pos ⟨rfl, by simp only [List.length_cons, List.length_nil, DV.cells]; omega, rfl⟩]; rfl
  · have hp := (hs'.put (o' := lcell { s with text := text } ti g.1 tt os) .head).sub (cs' := .obj id (lcell { s with text := text } ti g.1 tt os) :: .own g.1 10 (os.map encT) :: .own tt 1 (text.map I32) :: R) ((List.sublist_cons_self ..).cons_cons _)
    exact (LX.cls (s := { s with text := text }) (hp.perm ((List.Perm.swap ..).cons _)) hos).perm h2.symm
/-- A function whose walk sees the lexer's cells. -/
theorem F.lxG {α : Type} {ga : α → Nat × Nat} {id : Nat} {s s' : Md.Lx} {g : Nat × Nat} {f : Nat} {args : List DV} {cs : List Ck} {cs2 : α → List Ck} {P : α → DV → Prop} (hu : Upd (LX id s g) (fun a => LX id s' (ga a)) cs cs2)
    (hF : ∀ R ti os, os.map Prod.fst = s.out → F D f args (.obj id (lcell s ti g.1 g.2 os) :: .own g.2 1 (s.text.map I32) :: .own g.1 10 (os.map encT) :: R) (fun v cs' => Hold (∃ a ti' os', os'.map Prod.fst = s'.out ∧ P a v ∧ (.obj id (lcell s' ti' (ga a).1 (ga a).2 os') :: .own (ga a).2 1 (s'.text.map I32) :: .own (ga a).1 10 (os'.map encT) :: R) = cs'))) :
    F D f args cs (fun v cs' => Hold (∃ a, P a v ∧ cs2 a = cs')) :=
  F.atG hu fun R => F.lx fun ti os ho => F.conv (hF R ti os ho) fun v cs' hq =>
    let ⟨a, ti', os', h1, h2, h3⟩ := hq.out
    ⟨LX id s' (ga a) :: R, fun h hs => LX.cls (s := s') (to := (ga a).1) (tt := (ga a).2) (ti := ti') (by rw [h3]; exact hs) h1, Hold.mk ⟨a, h2, rfl⟩⟩
/-- A call from a walk that sees the cells, of a function that takes the lexer az a whole. -/
theorem F.clG {α : Type} {ga : α → Nat × Nat} {id ti to tt : Nat} {s s' : Md.Lx} {os : List (Md.Tok × Nat)} {f : Nat} {args : List DV} {cs c1 c2 R : List Ck} {P : α → DV → Prop} (ho : os.map Prod.fst = s.out)
    (h1 : Rem (.obj id (lcell s ti to tt os)) cs c1) (h2 : Rem (.own tt 1 (s.text.map I32)) c1 c2) (h3 : Rem (.own to 10 (os.map encT)) c2 R)
    (hF : F D f args (LX id s (to, tt) :: R) (fun v cs' => Hold (∃ a, P a v ∧ LX id s' (ga a) :: R = cs'))) :
    F D f args cs (fun v cs' => Hold (∃ ti a os', os'.map Prod.fst = s'.out ∧ P a v ∧ (.obj id (lcell s' ti (ga a).1 (ga a).2 os') :: .own (ga a).2 1 (s'.text.map I32) :: .own (ga a).1 10 (os'.map encT) :: R) = cs')) := fun h hs => by
  have hr : ∀ {c : Ck} {a b : List Ck}, Rem c a b → a.Perm (c :: b) := by
    intro c a b hm
    induction hm with
    | head => exact .refl _
    | tail _ ih => exact (ih.cons _).trans (.swap ..)
  have hp : cs.Perm (.obj id (lcell s ti to tt os) :: .own tt 1 (s.text.map I32) :: .own to 10 (os.map encT) :: R) :=
    (hr h1).trans (((hr h2).trans ((hr h3).cons _)).cons _)
  obtain ⟨v, h', cs', r1, r2, r3⟩ := hF h (LX.cls (hs.perm hp) ho)
  obtain ⟨a, q1, q2⟩ := r3.out
  subst q2
  obtain ⟨ti', os', o1, o2⟩ := LX.opn r2
  exact ⟨v, h', _, r1, o2, Hold.mk ⟨ti', a, os', o1, q1, rfl⟩⟩
theorem LX.ldText {id : Nat} {s : Md.Lx} {g : Nat × Nat} {cs : List Ck} (hm : Me (LX id s g) cs) : LD cs none (.ptr id 6) (.lst g.2 (zOf g.2 1) (s.text.map I32)) := .sem fun h hs => by
  obtain ⟨ti, os, _, e⟩ := LX.cell hm hs; simp only [loadD, e]; exact cut_one rfl
theorem RR.lxLd {id off : Nat} {d : Nat} {x : Opd} {q : Option (Nat × Bool)} {os : List ROp} {k : List It} {nt : Nat} {es : List En} {ds : List DDef} {ir : Option Nat} {cs : List Ck} {Q : DX → St → List Ck → Prop} {A : List (Nat × Bool)} {p : Bool} {β : Type} (w : β → DV)
    (hg : gate es 12 q = some (A, p)) (hl : lo D es A x = some (.ptr id off)) (hd : Nat.blt d nt = true) (hw : ∀ h, Sat h cs → ∃ b, loadD h none (.ptr id off) = some (w b))
    (hr : ∀ b, RR D (.ops os :: k) ⟨nt, ⟨d, q, w b⟩ :: es, ds, ir⟩ cs Q) : RR D (.ops (⟨some d, .load none x, q, []⟩ :: os) :: k) ⟨nt, es, ds, ir⟩ cs Q := .sem fun fr h ha hs => by
  obtain ⟨b, hb⟩ := hw h hs
  have hgo := gate_ok ha.es hg
  have hdl : d < fr.tmps.length := by rw [ha.len]; exact Nat.le_of_ble_eq_true hd
  cases hwt : wantedG q fr with
  | true =>
    obtain ⟨hp, hA⟩ := hgo.1 hwt
    have e1 := lo_ok (D := D) ha.es hA hl
    have he : evalOp D fr h (.load none x) = some (.val (w b)) := by simp only [evalOp, e1, hb, Option.map_some]
    refine WpOps.op (v := w b) (h1 := h) hwt he rfl rfl ((hr b).sound (fr.put (some d) (w b)) h ⟨?_, ?_, ha.ds, ha.ir⟩ hs)
    · show (fr.tmps.set d (w b)).length = _; rw [List.length_set]; exact ha.len
    · cases q with
      | none => exact ha.es.put hdl rfl
      | some tb => exact ha.es.putG hdl (fun _ => rfl) (fun hne => absurd (wanted_bool.1 hwt) hne)
  | false =>
    refine WpOps.off hwt ((hr b).sound (fr.put (some d) .undef) h ⟨?_, ?_, ha.ds, ha.ir⟩ hs)
    · show (fr.tmps.set d .undef).length = _; rw [List.length_set]; exact ha.len
    · cases q with
      | none => cases hwt
      | some tb => exact ha.es.putG hdl (fun e => by rw [wanted_bool.2 e] at hwt; cases hwt) (fun _ => rfl)
theorem RR.lxIn {id : Nat} {s : Md.Lx} {g : Nat × Nat} {d : Nat} {x : Opd} {q : Option (Nat × Bool)} {os : List ROp} {k : List It} {nt : Nat} {es : List En} {ds : List DDef} {ir : Option Nat} {cs : List Ck} {Q : DX → St → List Ck → Prop} {A : List (Nat × Bool)} {p : Bool}
    (hg : gate es 12 q = some (A, p)) (hl : lo D es A x = some (.ptr id 0)) (hd : Nat.blt d nt = true) (hm : Me (LX id s g) cs)
    (hr : ∀ ti, RR D (.ops os :: k) ⟨nt, ⟨d, q, .lst ti (zOf ti 1) (s.inp.map I32)⟩ :: es, ds, ir⟩ cs Q) : RR D (.ops (⟨some d, .load none x, q, []⟩ :: os) :: k) ⟨nt, es, ds, ir⟩ cs Q :=
  RR.lxLd (fun ti => .lst ti (zOf ti 1) (s.inp.map I32)) hg hl hd (fun h hs => by
    obtain ⟨ti, os, _, e⟩ := LX.cell hm hs
    exact ⟨ti, by simp only [loadD, e]; exact cut_one rfl⟩) hr
theorem RR.lxOut {id : Nat} {s : Md.Lx} {g : Nat × Nat} {d : Nat} {x : Opd} {q : Option (Nat × Bool)} {os : List ROp} {k : List It} {nt : Nat} {es : List En} {ds : List DDef} {ir : Option Nat} {cs : List Ck} {Q : DX → St → List Ck → Prop} {A : List (Nat × Bool)} {p : Bool}
    (hg : gate es 12 q = some (A, p)) (hl : lo D es A x = some (.ptr id 5)) (hd : Nat.blt d nt = true) (hm : Me (LX id s g) cs)
    (hr : ∀ l : { l : List (Md.Tok × Nat) // l.map Prod.fst = s.out }, RR D (.ops os :: k) ⟨nt, ⟨d, q, .lst g.1 (zOf g.1 10) (l.1.map encT)⟩ :: es, ds, ir⟩ cs Q) : RR D (.ops (⟨some d, .load none x, q, []⟩ :: os) :: k) ⟨nt, es, ds, ir⟩ cs Q :=
  RR.lxLd (fun l : { l : List (Md.Tok × Nat) // l.map Prod.fst = s.out } => .lst g.1 (zOf g.1 10) (l.1.map encT)) hg hl hd (fun h hs => by
    obtain ⟨ti, os, ho, e⟩ := LX.cell hm hs
    exact ⟨⟨os, ho⟩, by simp only [loadD, e]; exact cut_one rfl⟩) hr
/-- Tokens are taken off. -/
theorem LX.stOut {id : Nat} {s : Md.Lx} {g : Nat × Nat} {l : List (Md.Tok × Nat)} {cs cs' : List Ck} (hu : Upd1 (LX id s g) (LX id { s with out := l.map Prod.fst } g) cs cs') (hl : l.length ≤ s.out.length) : StS cs 1 id 5 (.lst g.1 (zOf g.1 10) (l.map encT)) cs' := by
  refine ⟨fun h hs => ?_⟩
  obtain ⟨R, h1, h2⟩ := hu.rem
  obtain ⟨ti, os, hos, hs'⟩ := LX.opn (hs.perm h1)
  have e := hs'.obj .head
  refine ⟨h.put id (lcell { s with out := l.map Prod.fst } ti g.1 g.2 l), ?_, ?_⟩
  · simp only [storeD, e]
    rw [if_pos ⟨rfl, by simp only [List.length_cons, List.length_nil, DV.cells]; omega, rfl⟩]; rfl
  · have hp := hs'.put (o' := lcell { s with out := l.map Prod.fst } ti g.1 g.2 l) .head
    have hp2 := hp.upd (h' := h.put id (lcell { s with out := l.map Prod.fst } ti g.1 g.2 l)) (c := .own g.1 10 (os.map encT)) (n := .own g.1 10 (l.map encT)) (.tail (.tail .head)) (Nat.le_refl _) (by
        rcases hp.get (.tail (.tail .head)) with ⟨h0, hx⟩ | hx
        · left
          refine ⟨h0, ?_⟩
          have h3 : os = [] := List.map_eq_nil_iff.1 hx
          have h4 : s.out.length = 0 := by rw [← hos, h3]; rfl
          have h5 : l = [] := List.eq_nil_of_length_eq_zero (by omega)
          rw [h5]; rfl
        · exact .inr hx) (fun i hi => (hp.ok _ (List.mem_cons_of_mem _ (List.mem_cons_of_mem _ (List.mem_cons_self ..)))).2 i hi) (fun i hi => .inl hi) (fun i _ _ => ⟨rfl, rfl⟩)
    exact (LX.cls (s := { s with out := l.map Prod.fst }) hp2 rfl).perm h2.symm
end
end Go.Dm
/- What the lexer's small functions do. -/
namespace Go.Proofs.YticnenofiibpgaaDoor.Code
open Go.Dm Go.Dm.C
set_option linter.unusedSimpArgs false
set_option linter.unusedVariables false
set_option linter.unnecessarySimpa false
set_option maxRecDepth 10000
attribute [local irreducible] Go.Dm.F Go.Dm.RS Go.Dm.Y Go.Dm.FD Go.Dm.FZ1 Go.Dm.Hold
variable {id : Nat} {s : Md.Lx} {g : Nat × Nat} {cs : List Ck}
theorem getD_eof {l : List Int} {n : Nat} (h : n < l.length) : l.getD n default = l.getD n (-1) := by
  simp [List.getD_eq_getElem?_getD, List.getElem?_eq_getElem h]
theorem peek_F {n : Nat} (hm : Me (LX id s g) cs) (hb : s.inp.length ≤ 1000000000 ∧ s.pos ≤ 100000000000) (hn : n ≤ 100000000000) : F D 75 [.ptr id 0, .int .i64 (n : Nat)] cs (fun v cs' => v = .int .i32 (s.pk n) ∧ cs = cs') := by
  refine F.atM hm fun R => F.lx fun ti os ho => F.conv (P := fun v cs' => v = .int .i32 (s.pk n) ∧ (.obj id (lcell s ti g.1 g.2 os) :: .own g.2 1 (s.text.map I32) :: .own g.1 10 (os.map encT) :: R) = cs') ?_ (fun v cs' ⟨h1, h2⟩ => ⟨_, fun h hs => LX.cls (h2 ▸ hs) ho, h1, rfl⟩)
  refine F.of rfl rfl rfl ?_
  repeat' first | exact arI | refine Pst.mk ⟨?_, rfl⟩ kk | constructor | (refine fun _ _ (hq : Hold _) => ?_; replace hq := hq.out; obtain ⟨_, rfl, rfl⟩ := hq) | (refine fun _ _ (hq : Hold _) => ?_; replace hq := hq.out; obtain ⟨_, _, rfl, rfl⟩ := hq) | rintro _ _ ⟨rfl, rfl⟩ | rintro _ _ ⟨_, rfl, rfl⟩ | rintro _ _ ⟨_, _, rfl, rfl⟩ | (refine fun (hc : _ = _) => ?_; (try simp only [BB] at hc)) | refine fun (_ : Nat) => ?_ | refine fun (_ : _ ≤ _) => ?_ | refine fun (_ : _ < _) => ?_
  · rw [Md.Lx.pk, List.getD_eq_getElem?_getD, List.getElem?_eq_none (by omega)]; rfl
  · rw [Md.Lx.pk, ← getD_eof (by omega)]
    rw [show ((s.pos : Int) + (n : Int)).toNat = s.pos + n by omega]
theorem peek0_F (hm : Me (LX id s g) cs) (hb : s.inp.length ≤ 1000000000 ∧ s.pos ≤ 100000000000) : F D 75 [.ptr id 0, .int .i64 0] cs (fun v cs' => v = .int .i32 (s.pk 0) ∧ cs = cs') := peek_F (n := 0) hm hb (by omega)
theorem peek1_F (hm : Me (LX id s g) cs) (hb : s.inp.length ≤ 1000000000 ∧ s.pos ≤ 100000000000) : F D 75 [.ptr id 0, .int .i64 1] cs (fun v cs' => v = .int .i32 (s.pk 1) ∧ cs = cs') := peek_F (n := 1) hm hb (by omega)
theorem peek6_F (hm : Me (LX id s g) cs) (hb : s.inp.length ≤ 1000000000 ∧ s.pos ≤ 100000000000) : F D 75 [.ptr id 0, .int .i64 6] cs (fun v cs' => v = .int .i32 (s.pk 6) ∧ cs = cs') := peek_F (n := 6) hm hb (by omega)
theorem next_F {cs2 : List Ck} (hu : Upd1 (LX id s g) (LX id (s.adv 1) g) cs cs2) (hb : s.inp.length ≤ 1000000000 ∧ s.pos ≤ 100000000000) : F D 68 [.ptr id 0] cs (fun v cs' => v = .int .i32 (s.pk 0) ∧ cs2 = cs') := by
  refine F.at1 hu fun R => F.of rfl rfl rfl ?_
  repeat' first | (show LD _ _ _ _; first | exact LX.ldPos kk | exact LX.ldWay kk | exact LX.ldLast kk | exact LX.ldRoom kk | exact LX.ldDone kk | exact LX.ldText kk) | (apply RR.lxIn; exact rfl; exact rfl; exact rfl; exact kk; refine fun _ => ?_) | (apply RR.lxOut; exact rfl; exact rfl; exact rfl; exact kk; refine fun _ => ?_) | (apply RR.storeS; exact rfl; exact rfl; first | exact LX.stPos 1 rfl kk | exact LX.stPos 2 rfl kk | exact LX.stPos 3 rfl kk | exact LX.stPos 6 rfl kk | exact LX.stPos 7 rfl kk | exact LX.stPos _ rfl kk | exact LX.stPos2 1 _ kk | exact LX.stPos2 2 _ kk | exact LX.stWay kk | exact LX.stLast kk | exact LX.stRoom kk | exact LX.stDone kk; exact rfl) | exact peek0_F kk hb | exact arI | refine Pst.mk ⟨?_, rfl⟩ kk | constructor | (refine fun _ _ (hq : Hold _) => ?_; replace hq := hq.out; obtain ⟨_, rfl, rfl⟩ := hq) | (refine fun _ _ (hq : Hold _) => ?_; replace hq := hq.out; obtain ⟨_, _, rfl, rfl⟩ := hq) | rintro _ _ ⟨rfl, rfl⟩ | rintro _ _ ⟨_, rfl, rfl⟩ | rintro _ _ ⟨_, _, rfl, rfl⟩ | (refine fun (hc : _ = _) => ?_; (try simp only [BB] at hc)) | refine fun (_ : Nat) => ?_ | refine fun (_ : _ ≤ _) => ?_ | refine fun (_ : _ < _) => ?_
theorem back_F {cs2 : List Ck} (hu : Upd1 (LX id (s.adv 1) g) (LX id s g) cs cs2) (hb : s.pos ≤ 100000000000) : F D 90 [.ptr id 0] cs (fun v cs' => v = .tup [] ∧ cs2 = cs') := by
  refine F.at1 hu fun R => F.of rfl rfl rfl ?_
  repeat' first | (show LD _ _ _ _; first | exact LX.ldPos kk | exact LX.ldWay kk | exact LX.ldLast kk | exact LX.ldRoom kk | exact LX.ldDone kk | exact LX.ldText kk) | (apply RR.lxIn; exact rfl; exact rfl; exact rfl; exact kk; refine fun _ => ?_) | (apply RR.lxOut; exact rfl; exact rfl; exact rfl; exact kk; refine fun _ => ?_) | (refine RR.storeS rfl rfl (LX.st (s' := s) (.head) rfl rfl ⟨rfl, rfl⟩ (by omega) (fun _ _ => ?_)) rfl ?_) | exact arI | refine Pst.mk ⟨?_, rfl⟩ kk | constructor | (refine fun _ _ (hq : Hold _) => ?_; replace hq := hq.out; obtain ⟨_, rfl, rfl⟩ := hq) | (refine fun _ _ (hq : Hold _) => ?_; replace hq := hq.out; obtain ⟨_, _, rfl, rfl⟩ := hq) | rintro _ _ ⟨rfl, rfl⟩ | rintro _ _ ⟨_, rfl, rfl⟩ | rintro _ _ ⟨_, _, rfl, rfl⟩ | (refine fun (hc : _ = _) => ?_; (try simp only [BB] at hc)) | refine fun (_ : Nat) => ?_ | refine fun (_ : _ ≤ _) => ?_ | refine fun (_ : _ < _) => ?_
  · exact Arith.mk fun _ => by simp only [Md.Lx.adv]; omega
  · simp [overwrite, Md.Lx.adv]
theorem say_take {rs : List Int} {i : Nat} (h : i < rs.length) : (s.say (rs.take (i + 1))).text = if rs.getD i default = -1 then (s.say (rs.take i)).text else (s.say (rs.take i)).text ++ [rs.getD i default] := by
  have e : rs.getD i default = rs[i] := by simp [List.getD_eq_getElem?_getD, List.getElem?_eq_getElem h]
  simp only [Md.Lx.say, List.take_add_one, List.getElem?_eq_getElem h, Option.toList_some, List.filter_append, e]
  split
  · rename_i h1; simp [h1]
  · rename_i h1
    have : ([rs[i]].filter fun x => x != -1) = [rs[i]] := by simp [h1]
    rw [this, List.append_assoc]
theorem say_F {rs : List Int} {xs : List DV} {t z : Nat} {cs2 : Nat → List Ck} (hz : z = zOf t 1) (hx : MapL I32 xs rs) (hu : Upd (LX id s g) (fun a => LX id (s.say rs) (g.1, a)) cs cs2) (hb : s.text.length ≤ 100000000000 ∧ rs.length ≤ 10000000000) :
    F D 74 [.ptr id 0, .lst t z xs] cs (fun v cs' => Hold (∃ a, v = .tup [] ∧ cs2 a = cs')) := by
  subst hz
  obtain rfl := hx.ok
  refine F.lxG (P := fun _ v => v = .tup []) hu fun R ti os ho => ?_
  refine F.of rfl rfl rfl ?_
  repeat' first | exact arI | refine Pst.mk ⟨?_, rfl⟩ kk | constructor | (refine fun _ _ (hq : Hold _) => ?_; replace hq := hq.out; obtain ⟨_, rfl, rfl⟩ := hq) | (refine fun _ _ (hq : Hold _) => ?_; replace hq := hq.out; obtain ⟨_, _, rfl, rfl⟩ := hq) | rintro _ _ ⟨rfl, rfl⟩ | rintro _ _ ⟨_, rfl, rfl⟩ | rintro _ _ ⟨_, _, rfl, rfl⟩ | (refine fun (hc : _ = _) => ?_; (try simp only [BB] at hc)) | refine fun (_ : Nat) => ?_ | refine fun (_ : _ ≤ _) => ?_ | refine fun (_ : _ < _) => ?_
  refine RS.loopW (α := Nat × Nat) (fun a => [(0, .ptr id 0), (6, .lst t (zOf t 1) (rs.map I32)), (7, .int .i64 rs.length), (8, .int .i64 (a.1 : Nat))]) (fun a => .obj id (lcell (s.say (rs.take a.1)) ti g.1 a.2 os) :: .own a.2 1 ((s.say (rs.take a.1)).text.map I32) :: .own g.1 10 (os.map encT) :: R)
    (fun a => a.1 ≤ rs.length) (fun a => rs.length - a.1) (0, g.2) (Nat.zero_le _) ⟨rfl, rfl, rfl, rfl, trivial⟩ (by simpa [Md.Lx.say] using KK.refl) ?_
  rintro ⟨i, tt⟩ h1 ih
  dsimp only [ents] at *
  have hst := fun h => say_take (s := s) (rs := rs) (i := i) h
  have hlen : (s.say (rs.take i)).text.length ≤ 110000000000 := by
    have h2 : ((rs.take i).filter (· != -1)).length ≤ (rs.take i).length := List.length_filter_le ..
    simp only [Md.Lx.say, List.length_append]
    rw [List.length_take] at h2
    omega
  repeat' first | exact arI | refine Pst.mk ⟨?_, rfl⟩ kk | constructor | (refine fun _ _ (hq : Hold _) => ?_; replace hq := hq.out; obtain ⟨_, rfl, rfl⟩ := hq) | (refine fun _ _ (hq : Hold _) => ?_; replace hq := hq.out; obtain ⟨_, _, rfl, rfl⟩ := hq) | rintro _ _ ⟨rfl, rfl⟩ | rintro _ _ ⟨_, rfl, rfl⟩ | rintro _ _ ⟨_, _, rfl, rfl⟩ | (refine fun (hc : _ = _) => ?_; (try simp only [BB] at hc)) | refine fun (_ : Nat) => ?_ | refine fun (_ : _ ≤ _) => ?_ | refine fun (_ : _ < _) => ?_
  · rename_i t9
    have e := hst (by omega)
    rw [if_neg hc] at e
    exact ih _ _ (i + 1, t9) (by dsimp only; omega) (by dsimp only; omega) ⟨rfl, rfl, rfl, rfl, trivial⟩ (by dsimp only [lcell]; rw [e]; exact kk)
  · have e := hst (by omega)
    rw [if_pos hc] at e
    exact ih _ _ (i + 1, tt) (by dsimp only; omega) (by dsimp only; omega) ⟨rfl, rfl, rfl, rfl, trivial⟩ (by dsimp only [lcell]; rw [e]; exact kk)
  · obtain rfl : i = rs.length := by omega
    rw [List.take_length]
    exact Pst.mk (.mk ⟨tt, ti, os, ho, rfl, rfl⟩) .refl
theorem flush_F {cs2 : Nat × Nat → List Ck} (hu : Upd (LX id s g) (fun a => LX id s.flush a) cs cs2) (hb : s.text.length ≤ 90000000000 ∧ s.out.length ≤ 1000000000) :
    F D 69 [.ptr id 0] cs (fun v cs' => Hold (∃ a, v = .tup [] ∧ cs2 a = cs')) := by
  refine F.lxG (P := fun _ v => v = .tup []) hu fun R ti os ho => ?_
  have hol : os.length ≤ 1000000000 := by rw [← List.length_map (f := Prod.fst), ho]; exact hb.2
  refine F.of rfl rfl rfl ?_
  repeat' first | exact encode_F rfl (by omega) | exact MapL.cons (y := (Md.textTok s.text, 0)) .nil | exact arI | refine Pst.mk ⟨?_, rfl⟩ kk | constructor | (refine fun _ _ (hq : Hold _) => ?_; replace hq := hq.out; obtain ⟨_, rfl, rfl⟩ := hq) | (refine fun _ _ (hq : Hold _) => ?_; replace hq := hq.out; obtain ⟨_, _, rfl, rfl⟩ := hq) | rintro _ _ ⟨rfl, rfl⟩ | rintro _ _ ⟨_, rfl, rfl⟩ | rintro _ _ ⟨_, _, rfl, rfl⟩ | (refine fun (hc : _ = _) => ?_; (try simp only [BB] at hc)) | refine fun (_ : Nat) => ?_ | refine fun (_ : _ ≤ _) => ?_ | refine fun (_ : _ < _) => ?_
  · rename_i t9
    have e : s.flush = { s with out := s.out ++ [Md.textTok s.text], text := [] } := by
      unfold Md.Lx.flush; rw [if_neg]; intro h; rw [h] at hc; simp at hc
    rw [e]
    exact Pst.nil 1 (Pst.mkP (.mk ⟨(t9, 0), ti, os ++ [(Md.textTok s.text, 0)], by simp [ho], rfl, rfl⟩) (.keep (.drop (.drop (.keep (.drop .refl))))) (.swap ..))
  · have e : s.flush = s := by
      unfold Md.Lx.flush; rw [if_pos]; exact List.eq_nil_of_length_eq_zero (by omega)
    rw [e]
    exact Pst.mk (.mk ⟨g, ti, os, ho, rfl, rfl⟩) .refl
theorem flush_inp : s.flush.inp = s.inp := by unfold Md.Lx.flush; split <;> rfl
theorem flush_pos : s.flush.pos = s.pos := by unfold Md.Lx.flush; split <;> rfl
theorem flush_way : s.flush.way = s.way := by unfold Md.Lx.flush; split <;> rfl
theorem flush_room : s.flush.room = s.room := by unfold Md.Lx.flush; split <;> rfl
theorem flush_last : s.flush.last = s.last := by unfold Md.Lx.flush; split <;> rfl
theorem flush_done : s.flush.done = s.done := by unfold Md.Lx.flush; split <;> rfl
theorem flush_text : s.flush.text = [] := by unfold Md.Lx.flush; split <;> simp_all
theorem flush_out : s.flush.out.length ≤ s.out.length + 1 := by unfold Md.Lx.flush; split <;> simp
theorem emit_F {t : Md.Tok} {ta : Nat} {xs : List DV} {cs2 : Nat × Nat → List Ck} (hx : xs = [.int .i64 t.kind, .str t.name, .lst ta (zOf ta 2) (t.attrs.map encA), .bool t.self, .str t.data, .str t.pub, .str t.sys, .bool t.hasPub, .bool t.hasSys, .bool t.quirks])
    (hu : Upd (LX id s g) (fun a => LX id (s.emit t) a) cs cs2) (hb : s.text.length ≤ 90000000000 ∧ s.out.length ≤ 100000000) :
    F D 107 [.ptr id 0, .agg xs] cs (fun v cs' => Hold (∃ a, v = .tup [] ∧ cs2 a = cs')) := by
  subst hx
  refine F.lxG (P := fun _ v => v = .tup []) hu fun R ti os ho => F.of rfl rfl rfl ?_
  have hlast : (s.emit t).last = if t.kind = 2 then t.name else s.last := by simp only [Md.Lx.emit, flush_last]
  have hol : ∀ l : List (Md.Tok × Nat), l.map Prod.fst = s.flush.out → l.length ≤ 200000000 := fun l h => by
    rw [← List.length_map (f := Prod.fst), h]; have := flush_out (s := s); omega
  repeat' first | exact F.clG ho kk kk kk (flush_F .head (by omega)) | (refine fun _ _ (hq : Hold _) => ?_; replace hq := hq.out; obtain ⟨ti2, g2, os2, ho2, rfl, rfl⟩ := hq; have hl2 := hol _ ho2) | exact MapL.cons (y := (t, ta)) .nil | exact arI | refine Pst.mk ⟨?_, rfl⟩ kk | constructor | (refine fun _ _ (hq : Hold _) => ?_; replace hq := hq.out; obtain ⟨_, rfl, rfl⟩ := hq) | (refine fun _ _ (hq : Hold _) => ?_; replace hq := hq.out; obtain ⟨_, _, rfl, rfl⟩ := hq) | rintro _ _ ⟨rfl, rfl⟩ | rintro _ _ ⟨_, rfl, rfl⟩ | rintro _ _ ⟨_, _, rfl, rfl⟩ | (refine fun (hc : _ = _) => ?_; (try simp only [BB] at hc)) | refine fun (_ : Nat) => ?_ | refine fun (_ : _ ≤ _) => ?_ | refine fun (_ : _ < _) => ?_
  · rename_i t9
    have e : s.emit t = { s.flush with last := t.name, out := s.flush.out ++ [t] } := by unfold Md.Lx.emit; rw [if_pos hc]
    rw [e]
    exact Pst.mk (.mk ⟨(t9, g2.2), ti2, os2 ++ [(t, ta)], by simp [ho2], rfl, rfl⟩) kk
  · rename_i t9
    have e : s.emit t = { s.flush with out := s.flush.out ++ [t] } := by unfold Md.Lx.emit; rw [if_neg hc]
    rw [e]
    exact Pst.mk (.mk ⟨(t9, g2.2), ti2, os2 ++ [(t, ta)], by simp [ho2], rfl, rfl⟩) kk
end Go.Proofs.YticnenofiibpgaaDoor.Code
/- What the lexer's looks ahead and small steps do. -/
namespace Go.Proofs.YticnenofiibpgaaDoor.Code
open Go.Dm Go.Dm.C
set_option linter.unusedSimpArgs false
set_option linter.unusedVariables false
set_option linter.unnecessarySimpa false
set_option maxRecDepth 10000
attribute [local irreducible] Go.Dm.F Go.Dm.RS Go.Dm.Y Go.Dm.FD Go.Dm.FZ1 Go.Dm.Hold
variable {id : Nat} {s : Md.Lx} {g : Nat × Nat} {cs : List Ck}
theorem dec_low {w : List UInt8} {i : Nat} (hw : w.all (fun b => decide (b.toNat < 128)) = true) (h : i < w.length) : Utf8.decode ⟨w.toArray⟩ i = ((w.getD i 0).toNat, 1) := by
  have hs : i < (⟨w.toArray⟩ : ByteArray).size := by simpa [ByteArray.size] using h
  have e : (⟨w.toArray⟩ : ByteArray)[i]'hs = w.getD i 0 := by
    show w.toArray[i]'_ = _
    simp [List.getD_eq_getElem?_getD, List.getElem?_eq_getElem h]
  have ha := List.all_eq_true.1 hw (w[i]) (List.getElem_mem h)
  rw [decode_ascii _ _ hs (by rw [e, List.getD_eq_getElem?_getD, List.getElem?_eq_getElem h]; simpa using ha), e]
theorem dec_pos (b : ByteArray) (i : Nat) : 1 ≤ (Utf8.decode b i).2 := by
  unfold Utf8.decode
  dsimp only
  repeat' split
  all_goals simp
theorem pk_rest (n : Nat) : s.pk n = s.rest.getD n (-1) := by
  simp [Md.Lx.pk, Md.Lx.rest, List.getD_eq_getElem?_getD, List.getElem?_drop]
theorem rest_adv (n : Nat) : (s.adv n).rest = s.rest.drop n := by simp [Md.Lx.rest, Md.Lx.adv, List.drop_drop]
theorem adv_adv (i j : Nat) : (s.adv i).adv j = s.adv (i + j) := by simp [Md.Lx.adv, Nat.add_assoc]
theorem adv_zero : s.adv 0 = s := rfl
theorem pk_adv (i n : Nat) : (s.adv i).pk n = s.pk (i + n) := by simp [Md.Lx.pk, Md.Lx.adv, Nat.add_assoc]
theorem rest_len : s.rest.length = s.inp.length - s.pos := by simp [Md.Lx.rest]
theorem rest_cons (h : s.pos < s.inp.length) : s.rest = s.pk 0 :: s.rest.drop 1 := by
  rw [pk_rest]
  unfold Md.Lx.rest
  rw [List.drop_drop, List.drop_eq_getElem_cons h]
  simp [List.getElem?_eq_getElem h]
theorem rest_nil (h : s.inp.length ≤ s.pos) : s.rest = [] := List.drop_eq_nil_of_le h
theorem pk_nil (h : s.inp.length ≤ s.pos) : s.pk 0 = -1 := by rw [pk_rest, rest_nil h]; rfl
theorem pk_nonneg (hn : ∀ r ∈ s.inp, 0 ≤ r) (h : s.pos < s.inp.length) : 0 ≤ s.pk 0 := by
  apply hn
  rw [Md.Lx.pk, Nat.add_zero, List.getD_eq_getElem?_getD, List.getElem?_eq_getElem h]
  exact List.getElem_mem _
theorem getD_head {l : List Int} : l.headD (-1) = l.getD 0 (-1) := by cases l <;> rfl
theorem head_drop (i : Nat) : (s.rest.drop i).headD (-1) = s.pk i := by rw [getD_head, pk_rest, getD_drop]
theorem drop_get {w : List UInt8} {i : Nat} (h : i < w.length) : w.drop i = w.getD i 0 :: w.drop (i + 1) := by
  rw [List.drop_eq_getElem_cons h, List.getD_eq_getElem?_getD, List.getElem?_eq_getElem h]; rfl
theorem stands_F {w : List UInt8} (hm : Me (LX id s g) cs) (hb : s.inp.length ≤ 1000000000 ∧ s.pos ≤ 100000000000) (hw : w.all (fun b => decide (b.toNat < 128)) = true) (hl : w.length ≤ 1000000000) : F D 101 [.ptr id 0, .str w] cs (fun v cs' => v = .bool (Md.stands w s.rest) ∧ cs = cs') := by
  refine F.atM hm fun R => F.of rfl rfl rfl ?_
  repeat' first | exact arI | refine Pst.mk ⟨?_, rfl⟩ kk | constructor | (refine fun _ _ (hq : Hold _) => ?_; replace hq := hq.out; obtain ⟨_, rfl, rfl⟩ := hq) | (refine fun _ _ (hq : Hold _) => ?_; replace hq := hq.out; obtain ⟨_, _, rfl, rfl⟩ := hq) | rintro _ _ ⟨rfl, rfl⟩ | rintro _ _ ⟨_, rfl, rfl⟩ | rintro _ _ ⟨_, _, rfl, rfl⟩ | (refine fun (hc : _ = _) => ?_; (try simp only [BB] at hc)) | refine fun (_ : Nat) => ?_ | refine fun (_ : _ ≤ _) => ?_ | refine fun (_ : _ < _) => ?_
  rename_i q hq
  refine RS.loopW (α := Nat) (fun i => [(0, .ptr id 0), (8, .ptr q 0)]) (fun i => .obj q (.siter w i) :: LX id s g :: R)
    (fun i => i ≤ w.length ∧ Md.stands (w.drop i) (s.rest.drop i) = Md.stands w s.rest) (fun i => w.length - i) 0 ⟨by simp, by simp⟩ ⟨rfl, rfl, trivial⟩ .refl ?_
  rintro i ⟨h1, h2⟩ ih
  dsimp only [ents] at *
  have hdec := fun h => dec_low (i := i) hw h
  have hst : i < w.length → Md.stands (w.drop i) (s.rest.drop i) = (Md.small (s.pk i) == Md.small ((w.getD i 0).toNat : Int) && Md.stands (w.drop (i + 1)) (s.rest.drop (i + 1))) := fun h => by
    rw [drop_get h]; simp only [Md.stands, head_drop, List.tail_drop]
  repeat' first | exact peek_F kk (by omega) (by omega) | exact small_F | exact arI | refine Pst.mk ⟨?_, rfl⟩ kk | constructor | (refine fun _ _ (hq : Hold _) => ?_; replace hq := hq.out; obtain ⟨_, rfl, rfl⟩ := hq) | (refine fun _ _ (hq : Hold _) => ?_; replace hq := hq.out; obtain ⟨_, _, rfl, rfl⟩ := hq) | rintro _ _ ⟨rfl, rfl⟩ | rintro _ _ ⟨_, rfl, rfl⟩ | rintro _ _ ⟨_, _, rfl, rfl⟩ | (refine fun (hc : _ = _) => ?_; (try simp only [BB] at hc)) | refine fun (_ : Nat) => ?_ | refine fun (_ : _ ≤ _) => ?_ | refine fun (_ : _ < _) => ?_
  · rw [hdec (by omega)] at hc
    rw [← h2, hst (by omega), beq_false_of_ne hc]; rfl
  · rw [hdec (by omega)] at hc ⊢
    refine ih _ _ (i + 1) ⟨by omega, ?_⟩ (by omega) ⟨rfl, rfl, trivial⟩ kk
    rw [← h2, hst (by omega)]; simp [hc]
  · cases hc
  · rw [← h2, List.drop_eq_nil_of_le (by omega)]; rfl
theorem exact_F {w : List UInt8} (hm : Me (LX id s g) cs) (hb : s.inp.length ≤ 1000000000 ∧ s.pos ≤ 100000000000) (hw : w.all (fun b => decide (b.toNat < 128)) = true) (hl : w.length ≤ 1000000000) : F D 94 [.ptr id 0, .str w] cs (fun v cs' => v = .bool (Md.exact w s.rest) ∧ cs = cs') := by
  refine F.atM hm fun R => F.of rfl rfl rfl ?_
  repeat' first | exact arI | refine Pst.mk ⟨?_, rfl⟩ kk | constructor | (refine fun _ _ (hq : Hold _) => ?_; replace hq := hq.out; obtain ⟨_, rfl, rfl⟩ := hq) | (refine fun _ _ (hq : Hold _) => ?_; replace hq := hq.out; obtain ⟨_, _, rfl, rfl⟩ := hq) | rintro _ _ ⟨rfl, rfl⟩ | rintro _ _ ⟨_, rfl, rfl⟩ | rintro _ _ ⟨_, _, rfl, rfl⟩ | (refine fun (hc : _ = _) => ?_; (try simp only [BB] at hc)) | refine fun (_ : Nat) => ?_ | refine fun (_ : _ ≤ _) => ?_ | refine fun (_ : _ < _) => ?_
  rename_i q hq
  refine RS.loopW (α := Nat) (fun i => [(0, .ptr id 0), (8, .ptr q 0)]) (fun i => .obj q (.siter w i) :: LX id s g :: R)
    (fun i => i ≤ w.length ∧ Md.exact (w.drop i) (s.rest.drop i) = Md.exact w s.rest) (fun i => w.length - i) 0 ⟨by simp, by simp⟩ ⟨rfl, rfl, trivial⟩ .refl ?_
  rintro i ⟨h1, h2⟩ ih
  dsimp only [ents] at *
  have hdec := fun h => dec_low (i := i) hw h
  have hst : i < w.length → Md.exact (w.drop i) (s.rest.drop i) = (s.pk i == ((w.getD i 0).toNat : Int) && Md.exact (w.drop (i + 1)) (s.rest.drop (i + 1))) := fun h => by
    rw [drop_get h]; simp only [Md.exact, head_drop, List.tail_drop]
  repeat' first | exact peek_F kk (by omega) (by omega) | exact arI | refine Pst.mk ⟨?_, rfl⟩ kk | constructor | (refine fun _ _ (hq : Hold _) => ?_; replace hq := hq.out; obtain ⟨_, rfl, rfl⟩ := hq) | (refine fun _ _ (hq : Hold _) => ?_; replace hq := hq.out; obtain ⟨_, _, rfl, rfl⟩ := hq) | rintro _ _ ⟨rfl, rfl⟩ | rintro _ _ ⟨_, rfl, rfl⟩ | rintro _ _ ⟨_, _, rfl, rfl⟩ | (refine fun (hc : _ = _) => ?_; (try simp only [BB] at hc)) | refine fun (_ : Nat) => ?_ | refine fun (_ : _ ≤ _) => ?_ | refine fun (_ : _ < _) => ?_
  · rw [hdec (by omega)] at hc
    rw [← h2, hst (by omega), beq_false_of_ne hc]; rfl
  · rw [hdec (by omega)] at hc ⊢
    refine ih _ _ (i + 1) ⟨by omega, ?_⟩ (by omega) ⟨rfl, rfl, trivial⟩ kk
    rw [← h2, hst (by omega)]; simp [hc]
  · cases hc
  · rw [← h2, List.drop_eq_nil_of_le (by omega)]; rfl
theorem blanksN_step (h : s.pos < s.inp.length) : Md.blanksN s.rest = if Md.blank (s.pk 0) = true then Md.blanksN (s.adv 1).rest + 1 else 0 := by
  rw [rest_cons h, rest_adv]
  simp only [Md.blanksN, List.takeWhile_cons]
  split <;> simp
theorem blanks_F {cs2 : List Ck} (hu : Upd1 (LX id s g) (LX id s.blanks g) cs cs2) (hb : s.inp.length ≤ 1000000000 ∧ s.pos ≤ 20000000000) : F D 113 [.ptr id 0] cs (fun v cs' => v = .tup [] ∧ cs2 = cs') := by
  refine F.at1 hu fun R => F.of rfl rfl rfl ?_
  repeat' first | exact arI | refine Pst.mk ⟨?_, rfl⟩ kk | constructor | (refine fun _ _ (hq : Hold _) => ?_; replace hq := hq.out; obtain ⟨_, rfl, rfl⟩ := hq) | (refine fun _ _ (hq : Hold _) => ?_; replace hq := hq.out; obtain ⟨_, _, rfl, rfl⟩ := hq) | rintro _ _ ⟨rfl, rfl⟩ | rintro _ _ ⟨_, rfl, rfl⟩ | rintro _ _ ⟨_, _, rfl, rfl⟩ | (refine fun (hc : _ = _) => ?_; (try simp only [BB] at hc)) | refine fun (_ : Nat) => ?_ | refine fun (_ : _ ≤ _) => ?_ | refine fun (_ : _ < _) => ?_
  refine RS.loopW (α := Nat) (fun i => [(0, .ptr id 0)]) (fun i => LX id (s.adv i) g :: R)
    (fun i => i + Md.blanksN (s.adv i).rest = Md.blanksN s.rest ∧ (i = 0 ∨ s.pos + i ≤ s.inp.length)) (fun i => s.inp.length - (s.pos + i)) 0 ⟨by simp [adv_zero], .inl rfl⟩ ⟨rfl, trivial⟩ .refl ?_
  rintro i ⟨h1, h2⟩ ih
  dsimp only [ents] at *
  have hp : (s.adv i).pos = s.pos + i := rfl
  have hq : (s.adv i).inp = s.inp := rfl
  have hst := fun h => blanksN_step (s := s.adv i) h
  have hnil := fun h => rest_nil (s := s.adv i) h
  have hpn := fun h => pk_nil (s := s.adv i) h
  rw [adv_adv] at hst
  rw [hp, hq] at hst hnil hpn
  repeat' first | (show LD _ _ _ _; first | exact LX.ldPos kk | exact LX.ldWay kk | exact LX.ldLast kk | exact LX.ldRoom kk | exact LX.ldDone kk | exact LX.ldText kk) | (apply RR.lxIn; exact rfl; exact rfl; exact rfl; exact kk; refine fun _ => ?_) | (apply RR.lxOut; exact rfl; exact rfl; exact rfl; exact kk; refine fun _ => ?_) | (apply RR.storeS; exact rfl; exact rfl; first | exact LX.stPos 1 rfl kk | exact LX.stPos 2 rfl kk | exact LX.stPos 3 rfl kk | exact LX.stPos 6 rfl kk | exact LX.stPos 7 rfl kk | exact LX.stPos _ rfl kk | exact LX.stPos2 1 _ kk | exact LX.stPos2 2 _ kk | exact LX.stWay kk | exact LX.stLast kk | exact LX.stRoom kk | exact LX.stDone kk; exact rfl) | exact peek0_F kk (by rw [hp, hq]; omega) | exact blank_F | exact arI | refine Pst.mk ⟨?_, rfl⟩ kk | constructor | (refine fun _ _ (hq : Hold _) => ?_; replace hq := hq.out; obtain ⟨_, rfl, rfl⟩ := hq) | (refine fun _ _ (hq : Hold _) => ?_; replace hq := hq.out; obtain ⟨_, _, rfl, rfl⟩ := hq) | rintro _ _ ⟨rfl, rfl⟩ | rintro _ _ ⟨_, rfl, rfl⟩ | rintro _ _ ⟨_, _, rfl, rfl⟩ | (refine fun (hc : _ = _) => ?_; (try simp only [BB] at hc)) | refine fun (_ : Nat) => ?_ | refine fun (_ : _ ≤ _) => ?_ | refine fun (_ : _ < _) => ?_
  · by_cases h : s.inp.length ≤ s.pos + i
    · rw [hpn h] at hc; cases hc
    · rw [hst (by omega), if_pos hc] at h1
      exact ih _ _ (i + 1) ⟨by omega, .inr (by omega)⟩ (by omega) ⟨rfl, trivial⟩ kk
  · have e : s.blanks = s.adv i := by
      by_cases h : s.inp.length ≤ s.pos + i
      · rw [hnil h] at h1; rw [Md.Lx.blanks, ← h1]; rfl
      · rw [hst (by omega), hc] at h1; rw [Md.Lx.blanks, ← h1]; rfl
    rw [e]; exact Pst.mk ⟨rfl, rfl⟩ .refl
end Go.Proofs.YticnenofiibpgaaDoor.Code
/- What the lexer's steps up to a sign do. -/
namespace Go.Proofs.YticnenofiibpgaaDoor.Code
open Go.Dm Go.Dm.C
set_option linter.unusedSimpArgs false
set_option linter.unusedVariables false
set_option linter.unnecessarySimpa false
set_option maxRecDepth 10000
attribute [local irreducible] Go.Dm.F Go.Dm.RS Go.Dm.Y Go.Dm.FD Go.Dm.FZ1 Go.Dm.Hold
variable {id : Nat} {s : Md.Lx} {g : Nat × Nat} {cs : List Ck}
theorem rest_adv_cons {i : Nat} (h : s.pos + i < s.inp.length) : (s.adv i).rest = s.pk i :: (s.adv (i + 1)).rest := by
  have := rest_cons (s := s.adv i) h
  rw [this, pk_adv, Nat.add_zero, ← rest_adv, adv_adv]
theorem rest_adv_nil {i : Nat} (h : s.inp.length ≤ s.pos + i) : (s.adv i).rest = [] := rest_nil (s := s.adv i) h
theorem pk_out {i : Nat} (h : s.inp.length ≤ s.pos + i) : s.pk i = -1 := by
  have := pk_nil (s := s.adv i) h
  rwa [pk_adv, Nat.add_zero] at this
theorem pk_in {i : Nat} (hn : ∀ r ∈ s.inp, 0 ≤ r) (h : s.pos + i < s.inp.length) : 0 ≤ s.pk i := by
  have := pk_nonneg (s := s.adv i) hn h
  rwa [pk_adv, Nat.add_zero] at this
theorem pk_say (rs : List Int) (n : Nat) : (s.say rs).pk n = s.pk n := rfl
theorem pk_clr (n : Nat) : s.clr.pk n = s.pk n := rfl
theorem adv_clr (n : Nat) : s.clr.adv n = (s.adv n).clr := rfl
theorem rest_clr : s.clr.rest = s.rest := rfl
theorem say_say (a b : List Int) : (s.say a).say b = s.say (a ++ b) := by simp [Md.Lx.say]
theorem say_adv (a : List Int) (n : Nat) : (s.say a).adv n = (s.adv n).say a := rfl
theorem skip_F {cs2 : List Ck} (hu : Upd1 (LX id s g) (LX id s.skip g) cs cs2) (hb : s.inp.length ≤ 1000000000 ∧ s.pos ≤ 20000000000) (hn : ∀ r ∈ s.inp, 0 ≤ r) : F D 114 [.ptr id 0] cs (fun v cs' => v = .tup [] ∧ cs2 = cs') := by
  refine F.at1 hu fun R => F.of rfl rfl rfl ?_
  repeat' first | exact arI | refine Pst.mk ⟨?_, rfl⟩ kk | constructor | (refine fun _ _ (hq : Hold _) => ?_; replace hq := hq.out; obtain ⟨_, rfl, rfl⟩ := hq) | (refine fun _ _ (hq : Hold _) => ?_; replace hq := hq.out; obtain ⟨_, _, rfl, rfl⟩ := hq) | rintro _ _ ⟨rfl, rfl⟩ | rintro _ _ ⟨_, rfl, rfl⟩ | rintro _ _ ⟨_, _, rfl, rfl⟩ | (refine fun (hc : _ = _) => ?_; (try simp only [BB] at hc)) | refine fun (_ : Nat) => ?_ | refine fun (_ : _ ≤ _) => ?_ | refine fun (_ : _ < _) => ?_
  refine RS.loopW (α := Nat) (fun i => [(0, .ptr id 0)]) (fun i => LX id (s.adv i) g :: R)
    (fun i => i + Md.skipN (s.adv i).rest = Md.skipN s.rest ∧ (i = 0 ∨ s.pos + i ≤ s.inp.length)) (fun i => s.inp.length - (s.pos + i)) 0 ⟨by simp [adv_zero], .inl rfl⟩ ⟨rfl, trivial⟩ .refl ?_
  rintro i ⟨h1, h2⟩ ih
  dsimp only [ents] at *
  (have hst := fun h => rest_adv_cons (s := s) (i := i) h; have hnil := fun h => rest_adv_nil (s := s) (i := i) h; have hpn := fun h => pk_out (s := s) (i := i) h; have hpi := fun h => pk_in (s := s) (i := i) hn h)
  repeat' first | (show LD _ _ _ _; first | exact LX.ldPos kk | exact LX.ldWay kk | exact LX.ldLast kk | exact LX.ldRoom kk | exact LX.ldDone kk | exact LX.ldText kk) | (apply RR.lxIn; exact rfl; exact rfl; exact rfl; exact kk; refine fun _ => ?_) | (apply RR.lxOut; exact rfl; exact rfl; exact rfl; exact kk; refine fun _ => ?_) | (apply RR.storeS; exact rfl; exact rfl; first | exact LX.stPos 1 rfl kk | exact LX.stPos 2 rfl kk | exact LX.stPos 3 rfl kk | exact LX.stPos 6 rfl kk | exact LX.stPos 7 rfl kk | exact LX.stPos _ rfl kk | exact LX.stPos2 1 _ kk | exact LX.stPos2 2 _ kk | exact LX.stWay kk | exact LX.stLast kk | exact LX.stRoom kk | exact LX.stDone kk; exact rfl) | (show FC _ _ _ _ _; first | exact peek0_F kk (by first | omega | ((simp only [Md.Lx.adv, Md.Lx.say, Md.Lx.clr, List.nil_append, List.length_append, List.length_cons, List.length_nil]); omega)) | exact peek1_F kk (by first | omega | ((simp only [Md.Lx.adv, Md.Lx.say, Md.Lx.clr, List.nil_append, List.length_append, List.length_cons, List.length_nil]); omega)) | exact peek6_F kk (by first | omega | ((simp only [Md.Lx.adv, Md.Lx.say, Md.Lx.clr, List.nil_append, List.length_append, List.length_cons, List.length_nil]); omega)) | exact next_F kk (by first | omega | ((simp only [Md.Lx.adv, Md.Lx.say, Md.Lx.clr, List.nil_append, List.length_append, List.length_cons, List.length_nil]); omega)) | exact back_F kk (by first | omega | ((simp only [Md.Lx.adv, Md.Lx.say, Md.Lx.clr, List.nil_append, List.length_append, List.length_cons, List.length_nil]); omega)) | exact blank_F | exact letter_F | exact small_F | exact encode_F rfl (by first | omega | ((simp only [Md.Lx.adv, Md.Lx.say, Md.Lx.clr, List.nil_append, List.length_append, List.length_cons, List.length_nil]); omega)) | exact say_F rfl kk kk (by first | omega | ((simp only [Md.Lx.adv, Md.Lx.say, Md.Lx.clr, List.nil_append, List.length_append, List.length_cons, List.length_nil]); omega)) | exact stands_F kk (by first | omega | ((simp only [Md.Lx.adv, Md.Lx.say, Md.Lx.clr, List.nil_append, List.length_append, List.length_cons, List.length_nil]); omega)) (by decide) (by first | omega | ((simp only [Md.Lx.adv, Md.Lx.say, Md.Lx.clr, List.nil_append, List.length_append, List.length_cons, List.length_nil]); omega)) | exact exact_F kk (by first | omega | ((simp only [Md.Lx.adv, Md.Lx.say, Md.Lx.clr, List.nil_append, List.length_append, List.length_cons, List.length_nil]); omega)) (by decide) (by first | omega | ((simp only [Md.Lx.adv, Md.Lx.say, Md.Lx.clr, List.nil_append, List.length_append, List.length_cons, List.length_nil]); omega))) | (refine fun (hc : _ = _) => ?_; (try simp only [BB] at hc); (try (first | contradiction | (exfalso; omega)))) | (refine Arith.mk ?_; (try intro _); simp only [Md.Lx.adv, Md.Lx.say, Md.Lx.clr, List.nil_append, List.length_append, List.length_cons, List.length_nil]; omega) | exact arI | refine Pst.mk ⟨?_, rfl⟩ kk | constructor | (refine fun _ _ (hq : Hold _) => ?_; replace hq := hq.out; obtain ⟨_, rfl, rfl⟩ := hq) | (refine fun _ _ (hq : Hold _) => ?_; replace hq := hq.out; obtain ⟨_, _, rfl, rfl⟩ := hq) | rintro _ _ ⟨rfl, rfl⟩ | rintro _ _ ⟨_, rfl, rfl⟩ | rintro _ _ ⟨_, _, rfl, rfl⟩ | (refine fun (hc : _ = _) => ?_; (try simp only [BB] at hc)) | refine fun (_ : Nat) => ?_ | refine fun (_ : _ ≤ _) => ?_ | refine fun (_ : _ < _) => ?_
  all_goals (try simp only [pk_adv, pk_say, Nat.add_zero, adv_adv, say_say, say_adv, pk_clr, adv_clr] at *)
  · have hlt : s.pos + i < s.inp.length := by by_cases h : s.pos + i < s.inp.length; exact h; rw [hpn (by omega)] at hc; omega
    rw [hst hlt] at h1
    simp only [Md.skipN, if_pos hc] at h1
    rw [Md.Lx.skip, ← h1]; exact Pst.mk ⟨trivial, rfl⟩ .refl
  · have hge : s.inp.length ≤ s.pos + i := by by_cases h : s.pos + i < s.inp.length; (have := hpi h; omega); omega
    rw [hnil hge] at h1
    rw [Md.Lx.skip, ← h1]; exact Pst.mk ⟨trivial, rfl⟩ .refl
  · have hlt : s.pos + i < s.inp.length := by by_cases h : s.pos + i < s.inp.length; exact h; rw [hpn (by omega)] at hc; omega
    rw [hst hlt] at h1
    rename_i hc1
    simp only [Md.skipN, if_neg hc1] at h1
    exact ih _ _ (i + 1) ⟨by omega, by omega⟩ (by omega) ⟨rfl, trivial⟩ kk
theorem word_F (hm : Me (LX id s g) cs) (hb : s.inp.length ≤ 1000000000 ∧ s.pos ≤ 20000000000) : F D 95 [.ptr id 0] cs (fun v cs' => v = .int .i64 (Md.word s.rest : Nat) ∧ cs = cs') := by
  refine F.atM hm fun R => F.of rfl rfl rfl ?_
  repeat' first | (show LD _ _ _ _; first | exact LX.ldPos kk | exact LX.ldWay kk | exact LX.ldLast kk | exact LX.ldRoom kk | exact LX.ldDone kk | exact LX.ldText kk) | (apply RR.lxIn; exact rfl; exact rfl; exact rfl; exact kk; refine fun _ => ?_) | (apply RR.lxOut; exact rfl; exact rfl; exact rfl; exact kk; refine fun _ => ?_) | (apply RR.storeS; exact rfl; exact rfl; first | exact LX.stPos 1 rfl kk | exact LX.stPos 2 rfl kk | exact LX.stPos 3 rfl kk | exact LX.stPos 6 rfl kk | exact LX.stPos 7 rfl kk | exact LX.stPos _ rfl kk | exact LX.stPos2 1 _ kk | exact LX.stPos2 2 _ kk | exact LX.stWay kk | exact LX.stLast kk | exact LX.stRoom kk | exact LX.stDone kk; exact rfl) | (show FC _ _ _ _ _; first | exact peek0_F kk (by first | omega | ((simp only [Md.Lx.adv, Md.Lx.say, Md.Lx.clr, List.nil_append, List.length_append, List.length_cons, List.length_nil]); omega)) | exact peek1_F kk (by first | omega | ((simp only [Md.Lx.adv, Md.Lx.say, Md.Lx.clr, List.nil_append, List.length_append, List.length_cons, List.length_nil]); omega)) | exact peek6_F kk (by first | omega | ((simp only [Md.Lx.adv, Md.Lx.say, Md.Lx.clr, List.nil_append, List.length_append, List.length_cons, List.length_nil]); omega)) | exact next_F kk (by first | omega | ((simp only [Md.Lx.adv, Md.Lx.say, Md.Lx.clr, List.nil_append, List.length_append, List.length_cons, List.length_nil]); omega)) | exact back_F kk (by first | omega | ((simp only [Md.Lx.adv, Md.Lx.say, Md.Lx.clr, List.nil_append, List.length_append, List.length_cons, List.length_nil]); omega)) | exact blank_F | exact letter_F | exact small_F | exact encode_F rfl (by first | omega | ((simp only [Md.Lx.adv, Md.Lx.say, Md.Lx.clr, List.nil_append, List.length_append, List.length_cons, List.length_nil]); omega)) | exact say_F rfl kk kk (by first | omega | ((simp only [Md.Lx.adv, Md.Lx.say, Md.Lx.clr, List.nil_append, List.length_append, List.length_cons, List.length_nil]); omega)) | exact stands_F kk (by first | omega | ((simp only [Md.Lx.adv, Md.Lx.say, Md.Lx.clr, List.nil_append, List.length_append, List.length_cons, List.length_nil]); omega)) (by decide) (by first | omega | ((simp only [Md.Lx.adv, Md.Lx.say, Md.Lx.clr, List.nil_append, List.length_append, List.length_cons, List.length_nil]); omega)) | exact exact_F kk (by first | omega | ((simp only [Md.Lx.adv, Md.Lx.say, Md.Lx.clr, List.nil_append, List.length_append, List.length_cons, List.length_nil]); omega)) (by decide) (by first | omega | ((simp only [Md.Lx.adv, Md.Lx.say, Md.Lx.clr, List.nil_append, List.length_append, List.length_cons, List.length_nil]); omega))) | (refine fun (hc : _ = _) => ?_; (try simp only [BB] at hc); (try (first | contradiction | (exfalso; omega)))) | (refine Arith.mk ?_; (try intro _); simp only [Md.Lx.adv, Md.Lx.say, Md.Lx.clr, List.nil_append, List.length_append, List.length_cons, List.length_nil]; omega) | exact arI | refine Pst.mk ⟨?_, rfl⟩ kk | constructor | (refine fun _ _ (hq : Hold _) => ?_; replace hq := hq.out; obtain ⟨_, rfl, rfl⟩ := hq) | (refine fun _ _ (hq : Hold _) => ?_; replace hq := hq.out; obtain ⟨_, _, rfl, rfl⟩ := hq) | rintro _ _ ⟨rfl, rfl⟩ | rintro _ _ ⟨_, rfl, rfl⟩ | rintro _ _ ⟨_, _, rfl, rfl⟩ | (refine fun (hc : _ = _) => ?_; (try simp only [BB] at hc)) | refine fun (_ : Nat) => ?_ | refine fun (_ : _ ≤ _) => ?_ | refine fun (_ : _ < _) => ?_
  all_goals simp only [← pk_rest, Md.word, Md.over, Bool.or_eq_true, beq_iff_eq]
  · rw [if_neg (by simp [hc])]; rfl
  · rename_i h1
    rw [if_pos ⟨h1, by simpa using hc⟩]; rfl
  · rename_i h1
    rw [if_neg (fun h => by simp_all)]; rfl
theorem over_t {r : Int} : (Md.over r = true) = ((Md.blank r = true ∨ r = 47) ∨ r = 62) := by simp [Md.over]
theorem over_f {r : Int} : (Md.over r = false) = ((Md.blank r = false ∧ ¬r = 47) ∧ ¬r = 62) := by simp [Md.over, Bool.or_eq_false_iff]
theorem nameOf_cons {r : Int} {l : List Int} : Md.nameOf (r :: l) = if Md.over r = true then [] else r :: Md.nameOf l := by
  simp only [Md.nameOf, List.takeWhile_cons]
  cases h : Md.over r <;> simp [h]
theorem name_F {cs2 : List Ck} (hu : Upd1 (LX id s g) (LX id (s.adv (Md.nameOf s.rest).length) g) cs cs2) (hb : s.inp.length ≤ 1000000000 ∧ s.pos ≤ 20000000000) (hn : ∀ r ∈ s.inp, 0 ≤ r) : F D 105 [.ptr id 0] cs (fun v cs' => v = .str (Md.encode ((Md.nameOf s.rest).map fun r => Md.small (Md.fixr r))) ∧ cs2 = cs') := by
  refine F.at1 hu fun R => F.of rfl rfl rfl ?_
  repeat' first | exact arI | refine Pst.mk ⟨?_, rfl⟩ kk | constructor | (refine fun _ _ (hq : Hold _) => ?_; replace hq := hq.out; obtain ⟨_, rfl, rfl⟩ := hq) | (refine fun _ _ (hq : Hold _) => ?_; replace hq := hq.out; obtain ⟨_, _, rfl, rfl⟩ := hq) | rintro _ _ ⟨rfl, rfl⟩ | rintro _ _ ⟨_, rfl, rfl⟩ | rintro _ _ ⟨_, _, rfl, rfl⟩ | (refine fun (hc : _ = _) => ?_; (try simp only [BB] at hc)) | refine fun (_ : Nat) => ?_ | refine fun (_ : _ ≤ _) => ?_ | refine fun (_ : _ < _) => ?_
  refine RS.nilOwn 1 (RS.loopW (α := Nat × Nat × List Int) (fun a => [(0, .ptr id 0), (3, .lst a.2.1 (zOf a.2.1 1) (a.2.2.map I32))]) (fun a => .own a.2.1 1 (a.2.2.map I32) :: LX id (s.adv a.1) g :: R)
    (fun a => a.1 + (Md.nameOf (s.adv a.1).rest).length = (Md.nameOf s.rest).length ∧ (a.1 = 0 ∨ s.pos + a.1 ≤ s.inp.length) ∧ a.2.2.length = a.1 ∧ a.2.2 ++ (Md.nameOf (s.adv a.1).rest).map (fun r => Md.small (Md.fixr r)) = (Md.nameOf s.rest).map (fun r => Md.small (Md.fixr r))) (fun a => s.inp.length - (s.pos + a.1)) (0, 0, []) ⟨by simp [adv_zero], .inl rfl, rfl, by simp [adv_zero]⟩ ⟨rfl, rfl, trivial⟩ .refl ?_)
  rintro ⟨i, tb, acc⟩ ⟨h1, h2, h3, h4⟩ ih
  dsimp only [ents] at *
  (have hst := fun h => rest_adv_cons (s := s) (i := i) h; have hnil := fun h => rest_adv_nil (s := s) (i := i) h; have hpn := fun h => pk_out (s := s) (i := i) h; have hpi := fun h => pk_in (s := s) (i := i) hn h)
  repeat' first | (show LD _ _ _ _; first | exact LX.ldPos kk | exact LX.ldWay kk | exact LX.ldLast kk | exact LX.ldRoom kk | exact LX.ldDone kk | exact LX.ldText kk) | (apply RR.lxIn; exact rfl; exact rfl; exact rfl; exact kk; refine fun _ => ?_) | (apply RR.lxOut; exact rfl; exact rfl; exact rfl; exact kk; refine fun _ => ?_) | (apply RR.storeS; exact rfl; exact rfl; first | exact LX.stPos 1 rfl kk | exact LX.stPos 2 rfl kk | exact LX.stPos 3 rfl kk | exact LX.stPos 6 rfl kk | exact LX.stPos 7 rfl kk | exact LX.stPos _ rfl kk | exact LX.stPos2 1 _ kk | exact LX.stPos2 2 _ kk | exact LX.stWay kk | exact LX.stLast kk | exact LX.stRoom kk | exact LX.stDone kk; exact rfl) | (show FC _ _ _ _ _; first | exact peek0_F kk (by first | omega | ((simp only [Md.Lx.adv, Md.Lx.say, Md.Lx.clr, List.nil_append, List.length_append, List.length_cons, List.length_nil]); omega)) | exact peek1_F kk (by first | omega | ((simp only [Md.Lx.adv, Md.Lx.say, Md.Lx.clr, List.nil_append, List.length_append, List.length_cons, List.length_nil]); omega)) | exact peek6_F kk (by first | omega | ((simp only [Md.Lx.adv, Md.Lx.say, Md.Lx.clr, List.nil_append, List.length_append, List.length_cons, List.length_nil]); omega)) | exact next_F kk (by first | omega | ((simp only [Md.Lx.adv, Md.Lx.say, Md.Lx.clr, List.nil_append, List.length_append, List.length_cons, List.length_nil]); omega)) | exact back_F kk (by first | omega | ((simp only [Md.Lx.adv, Md.Lx.say, Md.Lx.clr, List.nil_append, List.length_append, List.length_cons, List.length_nil]); omega)) | exact blank_F | exact letter_F | exact small_F | exact encode_F rfl (by first | omega | ((simp only [Md.Lx.adv, Md.Lx.say, Md.Lx.clr, List.nil_append, List.length_append, List.length_cons, List.length_nil]); omega)) | exact say_F rfl kk kk (by first | omega | ((simp only [Md.Lx.adv, Md.Lx.say, Md.Lx.clr, List.nil_append, List.length_append, List.length_cons, List.length_nil]); omega)) | exact stands_F kk (by first | omega | ((simp only [Md.Lx.adv, Md.Lx.say, Md.Lx.clr, List.nil_append, List.length_append, List.length_cons, List.length_nil]); omega)) (by decide) (by first | omega | ((simp only [Md.Lx.adv, Md.Lx.say, Md.Lx.clr, List.nil_append, List.length_append, List.length_cons, List.length_nil]); omega)) | exact exact_F kk (by first | omega | ((simp only [Md.Lx.adv, Md.Lx.say, Md.Lx.clr, List.nil_append, List.length_append, List.length_cons, List.length_nil]); omega)) (by decide) (by first | omega | ((simp only [Md.Lx.adv, Md.Lx.say, Md.Lx.clr, List.nil_append, List.length_append, List.length_cons, List.length_nil]); omega))) | (refine fun (hc : _ = _) => ?_; (try simp only [BB] at hc); (try (first | contradiction | (exfalso; omega)))) | (refine Arith.mk ?_; (try intro _); simp only [Md.Lx.adv, Md.Lx.say, Md.Lx.clr, List.nil_append, List.length_append, List.length_cons, List.length_nil]; omega) | exact arI | refine Pst.mk ⟨?_, rfl⟩ kk | constructor | (refine fun _ _ (hq : Hold _) => ?_; replace hq := hq.out; obtain ⟨_, rfl, rfl⟩ := hq) | (refine fun _ _ (hq : Hold _) => ?_; replace hq := hq.out; obtain ⟨_, _, rfl, rfl⟩ := hq) | rintro _ _ ⟨rfl, rfl⟩ | rintro _ _ ⟨_, rfl, rfl⟩ | rintro _ _ ⟨_, _, rfl, rfl⟩ | (refine fun (hc : _ = _) => ?_; (try simp only [BB] at hc)) | refine fun (_ : Nat) => ?_ | refine fun (_ : _ ≤ _) => ?_ | refine fun (_ : _ < _) => ?_
  all_goals (try simp only [pk_adv, pk_say, Nat.add_zero, adv_adv, say_say, say_adv, pk_clr, adv_clr] at *)
  · have hnil2 : Md.nameOf (s.adv i).rest = [] := by
      by_cases h : s.inp.length ≤ s.pos + i
      · rw [hnil h]; rfl
      · have := hpi (by omega)
        rw [hst (by omega), nameOf_cons, if_pos]
        rw [over_t]; exact hc.resolve_right (by omega)
    rw [hnil2] at h1 h4
    simp only [List.map_nil, List.append_nil, List.length_nil, Nat.add_zero] at h1 h4
    rw [h4, ← h1]
    exact Pst.mk ⟨rfl, rfl⟩ kk
  all_goals
    rename_i t1 q1 t2 hA
    have hlt : s.pos + i < s.inp.length := by by_cases h : s.pos + i < s.inp.length; exact h; rw [hpn (by omega)] at hA; omega
    rw [hst hlt, nameOf_cons, if_neg (by rw [Bool.not_eq_true, over_f]; exact hA.1)] at h1 h4
    simp only [List.map_cons, List.length_cons] at h1 h4
    refine ih _ _ (i + 1, t2, acc ++ [Md.small (Md.fixr (s.pk i))]) ⟨by dsimp only; omega, .inr (by dsimp only; omega), by simp [h3], by rw [← h4]; simp⟩ (by dsimp only; omega) ?_ ?_
  · simp only [Md.fixr, if_pos hc]; exact ⟨rfl, rfl, trivial⟩
  · simp only [Md.fixr, if_pos hc]; exact kk
  · simp only [Md.fixr, if_neg hc]; exact ⟨rfl, rfl, trivial⟩
  · simp only [Md.fixr, if_neg hc]; exact kk
theorem filter_le (l : List Int) : (l.filter (· != -1)).length ≤ l.length := List.length_filter_le ..
theorem take_F {n : Nat} {cs2 : Nat → List Ck} (hu : Upd (LX id s g) (fun a => LX id ((s.say (s.rest.take n)).adv n) (g.1, a)) cs cs2) (hb : s.inp.length ≤ 1000000000 ∧ s.pos ≤ 20000000000 ∧ s.text.length ≤ 80000000000) (hn : s.pos + n ≤ s.inp.length) :
    F D 96 [.ptr id 0, .int .i64 (n : Nat)] cs (fun v cs' => Hold (∃ a, v = .tup [] ∧ cs2 a = cs')) := by
  refine F.atG hu fun R => F.of rfl rfl rfl ?_
  repeat' first | exact arI | refine Pst.mk ⟨?_, rfl⟩ kk | constructor | (refine fun _ _ (hq : Hold _) => ?_; replace hq := hq.out; obtain ⟨_, rfl, rfl⟩ := hq) | (refine fun _ _ (hq : Hold _) => ?_; replace hq := hq.out; obtain ⟨_, _, rfl, rfl⟩ := hq) | rintro _ _ ⟨rfl, rfl⟩ | rintro _ _ ⟨_, rfl, rfl⟩ | rintro _ _ ⟨_, _, rfl, rfl⟩ | (refine fun (hc : _ = _) => ?_; (try simp only [BB] at hc)) | refine fun (_ : Nat) => ?_ | refine fun (_ : _ ≤ _) => ?_ | refine fun (_ : _ < _) => ?_
  refine RS.loopW (α := Nat × Nat) (fun a => [(0, .ptr id 0), (4, .int .i64 (n : Nat)), (5, .int .i64 (a.1 : Nat))]) (fun a => LX id ((s.say (s.rest.take a.1)).adv a.1) (g.1, a.2) :: R)
    (fun a => a.1 ≤ n) (fun a => n - a.1) (0, g.2) (Nat.zero_le _) ⟨rfl, rfl, rfl, trivial⟩ (by simpa [Md.Lx.say, Md.Lx.adv] using KK.refl) ?_
  rintro ⟨i, tt⟩ h1 ih
  dsimp only [ents] at *
  have hfl := filter_le (s.rest.take i)
  rw [List.length_take] at hfl
  repeat' first | (show LD _ _ _ _; first | exact LX.ldPos kk | exact LX.ldWay kk | exact LX.ldLast kk | exact LX.ldRoom kk | exact LX.ldDone kk | exact LX.ldText kk) | (apply RR.lxIn; exact rfl; exact rfl; exact rfl; exact kk; refine fun _ => ?_) | (apply RR.lxOut; exact rfl; exact rfl; exact rfl; exact kk; refine fun _ => ?_) | (apply RR.storeS; exact rfl; exact rfl; first | exact LX.stPos 1 rfl kk | exact LX.stPos 2 rfl kk | exact LX.stPos 3 rfl kk | exact LX.stPos 6 rfl kk | exact LX.stPos 7 rfl kk | exact LX.stPos _ rfl kk | exact LX.stPos2 1 _ kk | exact LX.stPos2 2 _ kk | exact LX.stWay kk | exact LX.stLast kk | exact LX.stRoom kk | exact LX.stDone kk; exact rfl) | (show FC _ _ _ _ _; first | exact peek0_F kk (by first | omega | ((simp only [Md.Lx.adv, Md.Lx.say, Md.Lx.clr, List.nil_append, List.length_append, List.length_cons, List.length_nil]); omega)) | exact peek1_F kk (by first | omega | ((simp only [Md.Lx.adv, Md.Lx.say, Md.Lx.clr, List.nil_append, List.length_append, List.length_cons, List.length_nil]); omega)) | exact peek6_F kk (by first | omega | ((simp only [Md.Lx.adv, Md.Lx.say, Md.Lx.clr, List.nil_append, List.length_append, List.length_cons, List.length_nil]); omega)) | exact next_F kk (by first | omega | ((simp only [Md.Lx.adv, Md.Lx.say, Md.Lx.clr, List.nil_append, List.length_append, List.length_cons, List.length_nil]); omega)) | exact back_F kk (by first | omega | ((simp only [Md.Lx.adv, Md.Lx.say, Md.Lx.clr, List.nil_append, List.length_append, List.length_cons, List.length_nil]); omega)) | exact blank_F | exact letter_F | exact small_F | exact encode_F rfl (by first | omega | ((simp only [Md.Lx.adv, Md.Lx.say, Md.Lx.clr, List.nil_append, List.length_append, List.length_cons, List.length_nil]); omega)) | exact say_F rfl kk kk (by first | omega | ((simp only [Md.Lx.adv, Md.Lx.say, Md.Lx.clr, List.nil_append, List.length_append, List.length_cons, List.length_nil]); omega)) | exact stands_F kk (by first | omega | ((simp only [Md.Lx.adv, Md.Lx.say, Md.Lx.clr, List.nil_append, List.length_append, List.length_cons, List.length_nil]); omega)) (by decide) (by first | omega | ((simp only [Md.Lx.adv, Md.Lx.say, Md.Lx.clr, List.nil_append, List.length_append, List.length_cons, List.length_nil]); omega)) | exact exact_F kk (by first | omega | ((simp only [Md.Lx.adv, Md.Lx.say, Md.Lx.clr, List.nil_append, List.length_append, List.length_cons, List.length_nil]); omega)) (by decide) (by first | omega | ((simp only [Md.Lx.adv, Md.Lx.say, Md.Lx.clr, List.nil_append, List.length_append, List.length_cons, List.length_nil]); omega))) | (refine fun (hc : _ = _) => ?_; (try simp only [BB] at hc); (try (first | contradiction | (exfalso; omega)))) | (refine Arith.mk ?_; (try intro _); simp only [Md.Lx.adv, Md.Lx.say, Md.Lx.clr, List.nil_append, List.length_append, List.length_cons, List.length_nil]; omega) | exact arI | refine Pst.mk ⟨?_, rfl⟩ kk | constructor | (refine fun _ _ (hq : Hold _) => ?_; replace hq := hq.out; obtain ⟨_, rfl, rfl⟩ := hq) | (refine fun _ _ (hq : Hold _) => ?_; replace hq := hq.out; obtain ⟨_, _, rfl, rfl⟩ := hq) | rintro _ _ ⟨rfl, rfl⟩ | rintro _ _ ⟨_, rfl, rfl⟩ | rintro _ _ ⟨_, _, rfl, rfl⟩ | (refine fun (hc : _ = _) => ?_; (try simp only [BB] at hc)) | refine fun (_ : Nat) => ?_ | refine fun (_ : _ ≤ _) => ?_ | refine fun (_ : _ < _) => ?_
  all_goals (try simp only [pk_adv, pk_say, Nat.add_zero, adv_adv, say_say, say_adv, pk_clr, adv_clr] at *)
  · rename_i t1 q1 t2
    have e : s.rest.take (i + 1) = s.rest.take i ++ [s.pk i] := by
      rw [List.take_add_one, List.getElem?_eq_getElem (by rw [rest_len]; omega), pk_rest, List.getD_eq_getElem?_getD, List.getElem?_eq_getElem (by rw [rest_len]; omega)]; rfl
    refine ih _ _ (i + 1, t2) (by dsimp only; omega) (by dsimp only; omega) ⟨rfl, rfl, rfl, trivial⟩ ?_
    dsimp only; rw [e]; exact kk
  · obtain rfl : i = n := by omega
    exact Pst.mk (.mk ⟨tt, trivial, rfl⟩) .refl
theorem headD_adv (i : Nat) : (s.adv i).rest.headD (-1) = s.pk i := by rw [rest_adv, head_drop]
theorem tail_adv (i : Nat) : (s.adv i).rest.tail = (s.adv (i + 1)).rest := by rw [rest_adv, rest_adv, List.tail_drop]
theorem sec_len : ∀ l : List Int, (Md.sectionGo l).1.length ≤ l.length ∧ (Md.sectionGo l).2 ≤ l.length
  | [] => by simp [Md.sectionGo]
  | r :: l => by
    have := sec_len l
    simp only [Md.sectionGo]
    split
    · rename_i h
      cases l with
      | nil => simp at h
      | cons a l => cases l with
        | nil => simp at h
        | cons b l => simp
    · simp only [List.length_cons]; omega
theorem section_F {cs2 : Nat → List Ck} (hu : Upd (LX id s g) (fun a => LX id s.section_ (g.1, a)) cs cs2) (hb : s.inp.length ≤ 1000000000 ∧ s.pos ≤ 20000000000 ∧ s.text.length ≤ 80000000000) (hn : ∀ r ∈ s.inp, 0 ≤ r) :
    F D 104 [.ptr id 0] cs (fun v cs' => Hold (∃ a, v = .tup [] ∧ cs2 a = cs')) := by
  refine F.atG hu fun R => F.of rfl rfl rfl ?_
  repeat' first | exact arI | refine Pst.mk ⟨?_, rfl⟩ kk | constructor | (refine fun _ _ (hq : Hold _) => ?_; replace hq := hq.out; obtain ⟨_, rfl, rfl⟩ := hq) | (refine fun _ _ (hq : Hold _) => ?_; replace hq := hq.out; obtain ⟨_, _, rfl, rfl⟩ := hq) | rintro _ _ ⟨rfl, rfl⟩ | rintro _ _ ⟨_, rfl, rfl⟩ | rintro _ _ ⟨_, _, rfl, rfl⟩ | (refine fun (hc : _ = _) => ?_; (try simp only [BB] at hc)) | refine fun (_ : Nat) => ?_ | refine fun (_ : _ ≤ _) => ?_ | refine fun (_ : _ < _) => ?_
  refine RS.loopW (α := Nat × Nat × List Int) (fun a => [(0, .ptr id 0)]) (fun a => LX id ((s.adv a.1).say a.2.2) (g.1, a.2.1) :: R)
    (fun a => a.2.2.length = a.1 ∧ (a.1 = 0 ∨ s.pos + a.1 ≤ s.inp.length) ∧ a.2.2 ++ (Md.sectionGo (s.adv a.1).rest).1 = (Md.sectionGo s.rest).1 ∧ a.1 + (Md.sectionGo (s.adv a.1).rest).2 = (Md.sectionGo s.rest).2) (fun a => s.inp.length - (s.pos + a.1)) (0, g.2, []) ⟨rfl, .inl rfl, by simp [adv_zero], by simp [adv_zero]⟩ ⟨rfl, trivial⟩ (by simpa [Md.Lx.say, Md.Lx.adv] using KK.refl) ?_
  rintro ⟨i, tt, acc⟩ ⟨h1, h2, h3, h4⟩ ih
  dsimp only [ents] at *
  have hfl := filter_le acc
  (have hst := fun h => rest_adv_cons (s := s) (i := i) h; have hnil := fun h => rest_adv_nil (s := s) (i := i) h; have hpn := fun h => pk_out (s := s) (i := i) h; have hpi := fun h => pk_in (s := s) (i := i) hn h)
  have hgo : s.pos + i < s.inp.length → Md.sectionGo (s.adv i).rest = if s.pk i = 93 ∧ s.pk (i + 1) = 93 ∧ s.pk (i + 1 + 1) = 62 then ([], 3) else (s.pk i :: (Md.sectionGo (s.adv (i + 1)).rest).1, (Md.sectionGo (s.adv (i + 1)).rest).2 + 1) := fun h => by
    rw [hst h]; simp only [Md.sectionGo, headD_adv, tail_adv]
  repeat' first | (show LD _ _ _ _; first | exact LX.ldPos kk | exact LX.ldWay kk | exact LX.ldLast kk | exact LX.ldRoom kk | exact LX.ldDone kk | exact LX.ldText kk) | (apply RR.lxIn; exact rfl; exact rfl; exact rfl; exact kk; refine fun _ => ?_) | (apply RR.lxOut; exact rfl; exact rfl; exact rfl; exact kk; refine fun _ => ?_) | (apply RR.storeS; exact rfl; exact rfl; first | exact LX.stPos 1 rfl kk | exact LX.stPos 2 rfl kk | exact LX.stPos 3 rfl kk | exact LX.stPos 6 rfl kk | exact LX.stPos 7 rfl kk | exact LX.stPos _ rfl kk | exact LX.stPos2 1 _ kk | exact LX.stPos2 2 _ kk | exact LX.stWay kk | exact LX.stLast kk | exact LX.stRoom kk | exact LX.stDone kk; exact rfl) | (show FC _ _ _ _ _; first | exact peek0_F kk (by first | omega | ((simp only [Md.Lx.adv, Md.Lx.say, Md.Lx.clr, List.nil_append, List.length_append, List.length_cons, List.length_nil]); omega)) | exact peek1_F kk (by first | omega | ((simp only [Md.Lx.adv, Md.Lx.say, Md.Lx.clr, List.nil_append, List.length_append, List.length_cons, List.length_nil]); omega)) | exact peek6_F kk (by first | omega | ((simp only [Md.Lx.adv, Md.Lx.say, Md.Lx.clr, List.nil_append, List.length_append, List.length_cons, List.length_nil]); omega)) | exact next_F kk (by first | omega | ((simp only [Md.Lx.adv, Md.Lx.say, Md.Lx.clr, List.nil_append, List.length_append, List.length_cons, List.length_nil]); omega)) | exact back_F kk (by first | omega | ((simp only [Md.Lx.adv, Md.Lx.say, Md.Lx.clr, List.nil_append, List.length_append, List.length_cons, List.length_nil]); omega)) | exact blank_F | exact letter_F | exact small_F | exact encode_F rfl (by first | omega | ((simp only [Md.Lx.adv, Md.Lx.say, Md.Lx.clr, List.nil_append, List.length_append, List.length_cons, List.length_nil]); omega)) | exact say_F rfl kk kk (by first | omega | ((simp only [Md.Lx.adv, Md.Lx.say, Md.Lx.clr, List.nil_append, List.length_append, List.length_cons, List.length_nil]); omega)) | exact stands_F kk (by first | omega | ((simp only [Md.Lx.adv, Md.Lx.say, Md.Lx.clr, List.nil_append, List.length_append, List.length_cons, List.length_nil]); omega)) (by decide) (by first | omega | ((simp only [Md.Lx.adv, Md.Lx.say, Md.Lx.clr, List.nil_append, List.length_append, List.length_cons, List.length_nil]); omega)) | exact exact_F kk (by first | omega | ((simp only [Md.Lx.adv, Md.Lx.say, Md.Lx.clr, List.nil_append, List.length_append, List.length_cons, List.length_nil]); omega)) (by decide) (by first | omega | ((simp only [Md.Lx.adv, Md.Lx.say, Md.Lx.clr, List.nil_append, List.length_append, List.length_cons, List.length_nil]); omega))) | (refine fun (hc : _ = _) => ?_; (try simp only [BB] at hc); (try (first | contradiction | (exfalso; omega)))) | (refine Arith.mk ?_; (try intro _); simp only [Md.Lx.adv, Md.Lx.say, Md.Lx.clr, List.nil_append, List.length_append, List.length_cons, List.length_nil]; omega) | exact arI | refine Pst.mk ⟨?_, rfl⟩ kk | constructor | (refine fun _ _ (hq : Hold _) => ?_; replace hq := hq.out; obtain ⟨_, rfl, rfl⟩ := hq) | (refine fun _ _ (hq : Hold _) => ?_; replace hq := hq.out; obtain ⟨_, _, rfl, rfl⟩ := hq) | rintro _ _ ⟨rfl, rfl⟩ | rintro _ _ ⟨_, rfl, rfl⟩ | rintro _ _ ⟨_, _, rfl, rfl⟩ | (refine fun (hc : _ = _) => ?_; (try simp only [BB] at hc)) | refine fun (_ : Nat) => ?_ | refine fun (_ : _ ≤ _) => ?_ | refine fun (_ : _ < _) => ?_
  all_goals (try simp only [pk_adv, pk_say, Nat.add_zero, adv_adv, say_say, say_adv, pk_clr, adv_clr] at *)
  · have hge : s.inp.length ≤ s.pos + i := by by_cases h : s.pos + i < s.inp.length; (have := hpi h; omega); omega
    rw [hnil hge] at h3 h4
    simp only [Md.sectionGo, List.append_nil, Nat.add_zero] at h3 h4
    rw [Md.Lx.section_, ← h3, ← h4]
    exact Pst.mk (.mk ⟨tt, trivial, rfl⟩) .refl
  · have hlt : s.pos + i < s.inp.length := by by_cases h : s.pos + i < s.inp.length; exact h; rw [hpn (by omega)] at hc; omega
    rw [hgo hlt, if_pos ⟨hc.1.1, hc.1.2, hc.2⟩] at h3 h4
    simp only [List.append_nil] at h3 h4
    rw [Md.Lx.section_, ← h3, ← h4]
    exact Pst.mk (.mk ⟨tt, trivial, rfl⟩) .refl
  all_goals
    have hlt : s.pos + i < s.inp.length := by by_cases h : s.pos + i < s.inp.length; exact h; have := hpn (by omega); omega
    rw [hgo hlt, if_neg (fun h => by omega)] at h3 h4
    refine ih _ _ (i + 1, _, acc ++ [s.pk i]) ⟨by simp [h1], .inr (by dsimp only; omega), by rw [← h3]; simp, by rw [← h4]; dsimp only; omega⟩ (by dsimp only; omega) ⟨rfl, trivial⟩ kk
theorem bogusGo_cons {r : Int} {l : List Int} : Md.bogusGo (r :: l) = if r = 62 then ([], 1) else (Md.fixr r :: (Md.bogusGo l).1, (Md.bogusGo l).2 + 1) := rfl
theorem bogus_F {cs2 : Nat × Nat → List Ck} (hu : Upd (LX id s g) (fun a => LX id s.bogus a) cs cs2) (hb : s.inp.length ≤ 1000000000 ∧ s.pos ≤ 20000000000 ∧ s.text.length ≤ 80000000000 ∧ s.out.length ≤ 10000000) (hn : ∀ r ∈ s.inp, 0 ≤ r) :
    F D 92 [.ptr id 0] cs (fun v cs' => Hold (∃ a, v = .tup [] ∧ cs2 a = cs')) := by
  refine F.atG hu fun R => F.of rfl rfl rfl ?_
  repeat' first | exact arI | refine Pst.mk ⟨?_, rfl⟩ kk | constructor | (refine fun _ _ (hq : Hold _) => ?_; replace hq := hq.out; obtain ⟨_, rfl, rfl⟩ := hq) | (refine fun _ _ (hq : Hold _) => ?_; replace hq := hq.out; obtain ⟨_, _, rfl, rfl⟩ := hq) | rintro _ _ ⟨rfl, rfl⟩ | rintro _ _ ⟨_, rfl, rfl⟩ | rintro _ _ ⟨_, _, rfl, rfl⟩ | (refine fun (hc : _ = _) => ?_; (try simp only [BB] at hc)) | refine fun (_ : Nat) => ?_ | refine fun (_ : _ ≤ _) => ?_ | refine fun (_ : _ < _) => ?_
  refine RS.nilOwn 1 (RS.loopW (α := Nat × Nat × List Int) (fun a => [(0, .ptr id 0), (2, .lst a.2.1 (zOf a.2.1 1) (a.2.2.map I32))]) (fun a => .own a.2.1 1 (a.2.2.map I32) :: LX id (s.adv a.1) g :: R)
    (fun a => a.2.2.length = a.1 ∧ (a.1 = 0 ∨ s.pos + a.1 ≤ s.inp.length) ∧ a.2.2 ++ (Md.bogusGo (s.adv a.1).rest).1 = (Md.bogusGo s.rest).1 ∧ a.1 + (Md.bogusGo (s.adv a.1).rest).2 = (Md.bogusGo s.rest).2) (fun a => s.inp.length - (s.pos + a.1)) (0, 0, []) ⟨rfl, .inl rfl, by simp [adv_zero], by simp [adv_zero]⟩ ⟨rfl, rfl, trivial⟩ .refl ?_)
  rintro ⟨i, tb, acc⟩ ⟨h1, h2, h3, h4⟩ ih
  dsimp only [ents] at *
  (have hst := fun h => rest_adv_cons (s := s) (i := i) h; have hnil := fun h => rest_adv_nil (s := s) (i := i) h; have hpn := fun h => pk_out (s := s) (i := i) h; have hpi := fun h => pk_in (s := s) (i := i) hn h)
  repeat' first | (show LD _ _ _ _; first | exact LX.ldPos kk | exact LX.ldWay kk | exact LX.ldLast kk | exact LX.ldRoom kk | exact LX.ldDone kk | exact LX.ldText kk) | (apply RR.lxIn; exact rfl; exact rfl; exact rfl; exact kk; refine fun _ => ?_) | (apply RR.lxOut; exact rfl; exact rfl; exact rfl; exact kk; refine fun _ => ?_) | (apply RR.storeS; exact rfl; exact rfl; first | exact LX.stPos 1 rfl kk | exact LX.stPos 2 rfl kk | exact LX.stPos 3 rfl kk | exact LX.stPos 6 rfl kk | exact LX.stPos 7 rfl kk | exact LX.stPos _ rfl kk | exact LX.stPos2 1 _ kk | exact LX.stPos2 2 _ kk | exact LX.stWay kk | exact LX.stLast kk | exact LX.stRoom kk | exact LX.stDone kk; exact rfl) | (show FC _ _ _ _ _; first | exact emit_F (t := Md.commentTok acc) (ta := 0) rfl kk (by first | omega | ((simp only [Md.Lx.adv, Md.Lx.say, Md.Lx.clr, List.nil_append, List.length_append, List.length_cons, List.length_nil]); omega)) | exact peek0_F kk (by first | omega | ((simp only [Md.Lx.adv, Md.Lx.say, Md.Lx.clr, List.nil_append, List.length_append, List.length_cons, List.length_nil]); omega)) | exact peek1_F kk (by first | omega | ((simp only [Md.Lx.adv, Md.Lx.say, Md.Lx.clr, List.nil_append, List.length_append, List.length_cons, List.length_nil]); omega)) | exact peek6_F kk (by first | omega | ((simp only [Md.Lx.adv, Md.Lx.say, Md.Lx.clr, List.nil_append, List.length_append, List.length_cons, List.length_nil]); omega)) | exact next_F kk (by first | omega | ((simp only [Md.Lx.adv, Md.Lx.say, Md.Lx.clr, List.nil_append, List.length_append, List.length_cons, List.length_nil]); omega)) | exact back_F kk (by first | omega | ((simp only [Md.Lx.adv, Md.Lx.say, Md.Lx.clr, List.nil_append, List.length_append, List.length_cons, List.length_nil]); omega)) | exact blank_F | exact letter_F | exact small_F | exact encode_F rfl (by first | omega | ((simp only [Md.Lx.adv, Md.Lx.say, Md.Lx.clr, List.nil_append, List.length_append, List.length_cons, List.length_nil]); omega)) | exact say_F rfl kk kk (by first | omega | ((simp only [Md.Lx.adv, Md.Lx.say, Md.Lx.clr, List.nil_append, List.length_append, List.length_cons, List.length_nil]); omega)) | exact stands_F kk (by first | omega | ((simp only [Md.Lx.adv, Md.Lx.say, Md.Lx.clr, List.nil_append, List.length_append, List.length_cons, List.length_nil]); omega)) (by decide) (by first | omega | ((simp only [Md.Lx.adv, Md.Lx.say, Md.Lx.clr, List.nil_append, List.length_append, List.length_cons, List.length_nil]); omega)) | exact exact_F kk (by first | omega | ((simp only [Md.Lx.adv, Md.Lx.say, Md.Lx.clr, List.nil_append, List.length_append, List.length_cons, List.length_nil]); omega)) (by decide) (by first | omega | ((simp only [Md.Lx.adv, Md.Lx.say, Md.Lx.clr, List.nil_append, List.length_append, List.length_cons, List.length_nil]); omega))) | exact arI | refine Pst.mk ⟨?_, rfl⟩ kk | constructor | (refine fun _ _ (hq : Hold _) => ?_; replace hq := hq.out; obtain ⟨_, rfl, rfl⟩ := hq) | (refine fun _ _ (hq : Hold _) => ?_; replace hq := hq.out; obtain ⟨_, _, rfl, rfl⟩ := hq) | rintro _ _ ⟨rfl, rfl⟩ | rintro _ _ ⟨_, rfl, rfl⟩ | rintro _ _ ⟨_, _, rfl, rfl⟩ | (refine fun (hc : _ = _) => ?_; (try simp only [BB] at hc)) | refine fun (_ : Nat) => ?_ | refine fun (_ : _ ≤ _) => ?_ | refine fun (_ : _ < _) => ?_
  all_goals (try simp only [pk_adv, pk_say, Nat.add_zero, adv_adv, say_say, say_adv, pk_clr, adv_clr] at *)
  all_goals try (exfalso; omega)
  · have hlt : s.pos + i < s.inp.length := by by_cases h : s.pos + i < s.inp.length; exact h; have := hpn (by omega); omega
    rw [hst hlt, bogusGo_cons, if_pos (by omega)] at h3 h4
    simp only [List.append_nil] at h3 h4
    rw [Md.Lx.bogus, ← h3, ← h4]
    exact Pst.mk (.mk ⟨_, trivial, rfl⟩) kk
  · have hge : s.inp.length ≤ s.pos + i := by by_cases h : s.pos + i < s.inp.length; (have := hpi h; omega); omega
    rw [hnil hge] at h3 h4
    simp only [Md.bogusGo, List.append_nil, Nat.add_zero] at h3 h4
    rw [Md.Lx.bogus, ← h3, ← h4]
    exact Pst.mk (.mk ⟨_, trivial, rfl⟩) kk
  · have hlt : s.pos + i < s.inp.length := by by_cases h : s.pos + i < s.inp.length; exact h; have := hpn (by omega); omega
    rw [hst hlt, bogusGo_cons, if_neg (by omega)] at h3 h4
    rw [Md.fixr, if_pos hc] at h3 
    exact ih _ _ (i + 1, _, acc ++ [65533]) ⟨by simp [h1], .inr (by dsimp only; omega), by rw [← h3]; simp, by rw [← h4]; dsimp only; omega⟩ (by dsimp only; omega) ⟨rfl, rfl, trivial⟩ kk
  · have hlt : s.pos + i < s.inp.length := by by_cases h : s.pos + i < s.inp.length; exact h; have := hpn (by omega); omega
    rw [hst hlt, bogusGo_cons, if_neg (by omega)] at h3 h4
    rw [Md.fixr, if_neg hc] at h3 
    exact ih _ _ (i + 1, _, acc ++ [s.pk i]) ⟨by simp [h1], .inr (by dsimp only; omega), by rw [← h3]; simp, by rw [← h4]; dsimp only; omega⟩ (by dsimp only; omega) ⟨rfl, rfl, trivial⟩ kk
theorem quotedGo_cons {q r : Int} {l : List Int} : Md.quotedGo q (r :: l) = if r = q then ([], true, 1) else if r = 62 then ([], false, 1) else (Md.fixr r :: (Md.quotedGo q l).1, (Md.quotedGo q l).2.1, (Md.quotedGo q l).2.2 + 1) := rfl
theorem quoted_F {cs2 : List Ck} (hu : Upd1 (LX id s g) (LX id (s.adv (Md.quoted s.rest).2.2.2) g) cs cs2) (hb : s.inp.length ≤ 1000000000 ∧ s.pos ≤ 20000000000) (hn : ∀ r ∈ s.inp, 0 ≤ r) :
    F D 115 [.ptr id 0] cs (fun v cs' => v = .tup [.str (Md.quoted s.rest).1, .bool (Md.quoted s.rest).2.1, .bool (Md.quoted s.rest).2.2.1] ∧ cs2 = cs') := by
  have hq : Md.quoted s.rest = if s.pk 0 = 34 ∨ s.pk 0 = 39 then (Md.encode (Md.quotedGo (s.pk 0) (s.adv 1).rest).1, true, (Md.quotedGo (s.pk 0) (s.adv 1).rest).2.1, (Md.quotedGo (s.pk 0) (s.adv 1).rest).2.2 + 1) else ([], false, false, Md.skipN s.rest) := by
    simp only [Md.quoted, ← tail_adv, show (s.adv 0) = s from rfl, show s.rest.headD (-1) = s.pk 0 from headD_adv 0]
  refine F.at1 hu fun R => F.of rfl rfl rfl ?_
  repeat' first | (show LD _ _ _ _; first | exact LX.ldPos kk | exact LX.ldWay kk | exact LX.ldLast kk | exact LX.ldRoom kk | exact LX.ldDone kk | exact LX.ldText kk) | (apply RR.lxIn; exact rfl; exact rfl; exact rfl; exact kk; refine fun _ => ?_) | (apply RR.lxOut; exact rfl; exact rfl; exact rfl; exact kk; refine fun _ => ?_) | (apply RR.storeS; exact rfl; exact rfl; first | exact LX.stPos 1 rfl kk | exact LX.stPos 2 rfl kk | exact LX.stPos 3 rfl kk | exact LX.stPos 6 rfl kk | exact LX.stPos 7 rfl kk | exact LX.stPos _ rfl kk | exact LX.stPos2 1 _ kk | exact LX.stPos2 2 _ kk | exact LX.stWay kk | exact LX.stLast kk | exact LX.stRoom kk | exact LX.stDone kk; exact rfl) | (show FC _ _ _ _ _; first | exact skip_F kk hb hn | exact peek0_F kk (by first | omega | ((simp only [Md.Lx.adv, Md.Lx.say, Md.Lx.clr, List.nil_append, List.length_append, List.length_cons, List.length_nil]); omega)) | exact peek1_F kk (by first | omega | ((simp only [Md.Lx.adv, Md.Lx.say, Md.Lx.clr, List.nil_append, List.length_append, List.length_cons, List.length_nil]); omega)) | exact peek6_F kk (by first | omega | ((simp only [Md.Lx.adv, Md.Lx.say, Md.Lx.clr, List.nil_append, List.length_append, List.length_cons, List.length_nil]); omega)) | exact next_F kk (by first | omega | ((simp only [Md.Lx.adv, Md.Lx.say, Md.Lx.clr, List.nil_append, List.length_append, List.length_cons, List.length_nil]); omega)) | exact back_F kk (by first | omega | ((simp only [Md.Lx.adv, Md.Lx.say, Md.Lx.clr, List.nil_append, List.length_append, List.length_cons, List.length_nil]); omega)) | exact blank_F | exact letter_F | exact small_F | exact encode_F rfl (by first | omega | ((simp only [Md.Lx.adv, Md.Lx.say, Md.Lx.clr, List.nil_append, List.length_append, List.length_cons, List.length_nil]); omega)) | exact say_F rfl kk kk (by first | omega | ((simp only [Md.Lx.adv, Md.Lx.say, Md.Lx.clr, List.nil_append, List.length_append, List.length_cons, List.length_nil]); omega)) | exact stands_F kk (by first | omega | ((simp only [Md.Lx.adv, Md.Lx.say, Md.Lx.clr, List.nil_append, List.length_append, List.length_cons, List.length_nil]); omega)) (by decide) (by first | omega | ((simp only [Md.Lx.adv, Md.Lx.say, Md.Lx.clr, List.nil_append, List.length_append, List.length_cons, List.length_nil]); omega)) | exact exact_F kk (by first | omega | ((simp only [Md.Lx.adv, Md.Lx.say, Md.Lx.clr, List.nil_append, List.length_append, List.length_cons, List.length_nil]); omega)) (by decide) (by first | omega | ((simp only [Md.Lx.adv, Md.Lx.say, Md.Lx.clr, List.nil_append, List.length_append, List.length_cons, List.length_nil]); omega))) | exact arI | refine Pst.mk ⟨?_, rfl⟩ kk | constructor | (refine fun _ _ (hq : Hold _) => ?_; replace hq := hq.out; obtain ⟨_, rfl, rfl⟩ := hq) | (refine fun _ _ (hq : Hold _) => ?_; replace hq := hq.out; obtain ⟨_, _, rfl, rfl⟩ := hq) | rintro _ _ ⟨rfl, rfl⟩ | rintro _ _ ⟨_, rfl, rfl⟩ | rintro _ _ ⟨_, _, rfl, rfl⟩ | (refine fun (hc : _ = _) => ?_; (try simp only [BB] at hc)) | refine fun (_ : Nat) => ?_ | refine fun (_ : _ ≤ _) => ?_ | refine fun (_ : _ < _) => ?_
  · rw [if_neg (by omega)] at hq
    rw [hq]; exact Pst.mk ⟨rfl, rfl⟩ .refl
  rw [if_pos (by omega)] at hq
  have h0 : s.pos + 0 < s.inp.length := by by_cases h : s.pos + 0 < s.inp.length; exact h; have := pk_out (s := s) (i := 0) (by omega); omega
  refine RS.nilOwn 1 (RS.loopW (α := Nat × Nat × List Int) (fun a => [(0, .ptr id 0), (5, .int .i32 (s.pk 0)), (6, .lst a.2.1 (zOf a.2.1 1) (a.2.2.map I32))]) (fun a => .own a.2.1 1 (a.2.2.map I32) :: LX id (s.adv a.1) g :: R)
    (fun a => a.2.2.length ≤ a.1 ∧ s.pos + a.1 ≤ s.inp.length ∧ a.2.2 ++ (Md.quotedGo (s.pk 0) (s.adv a.1).rest).1 = (Md.quotedGo (s.pk 0) (s.adv 1).rest).1 ∧ (Md.quotedGo (s.pk 0) (s.adv a.1).rest).2.1 = (Md.quotedGo (s.pk 0) (s.adv 1).rest).2.1 ∧ a.1 + (Md.quotedGo (s.pk 0) (s.adv a.1).rest).2.2 = 1 + (Md.quotedGo (s.pk 0) (s.adv 1).rest).2.2) (fun a => s.inp.length - (s.pos + a.1)) (1, 0, []) ⟨by simp, by dsimp only; omega, by simp, rfl, rfl⟩ ⟨rfl, rfl, rfl, trivial⟩ .refl ?_)
  rintro ⟨i, tb, acc⟩ ⟨h1, h2, h3, h4, h5⟩ ih
  dsimp only [ents] at *
  (have hst := fun h => rest_adv_cons (s := s) (i := i) h; have hnil := fun h => rest_adv_nil (s := s) (i := i) h; have hpn := fun h => pk_out (s := s) (i := i) h; have hpi := fun h => pk_in (s := s) (i := i) hn h)
  repeat' first | (show LD _ _ _ _; first | exact LX.ldPos kk | exact LX.ldWay kk | exact LX.ldLast kk | exact LX.ldRoom kk | exact LX.ldDone kk | exact LX.ldText kk) | (apply RR.lxIn; exact rfl; exact rfl; exact rfl; exact kk; refine fun _ => ?_) | (apply RR.lxOut; exact rfl; exact rfl; exact rfl; exact kk; refine fun _ => ?_) | (apply RR.storeS; exact rfl; exact rfl; first | exact LX.stPos 1 rfl kk | exact LX.stPos 2 rfl kk | exact LX.stPos 3 rfl kk | exact LX.stPos 6 rfl kk | exact LX.stPos 7 rfl kk | exact LX.stPos _ rfl kk | exact LX.stPos2 1 _ kk | exact LX.stPos2 2 _ kk | exact LX.stWay kk | exact LX.stLast kk | exact LX.stRoom kk | exact LX.stDone kk; exact rfl) | (show FC _ _ _ _ _; first | exact peek0_F kk (by first | omega | ((simp only [Md.Lx.adv, Md.Lx.say, Md.Lx.clr, List.nil_append, List.length_append, List.length_cons, List.length_nil]); omega)) | exact peek1_F kk (by first | omega | ((simp only [Md.Lx.adv, Md.Lx.say, Md.Lx.clr, List.nil_append, List.length_append, List.length_cons, List.length_nil]); omega)) | exact peek6_F kk (by first | omega | ((simp only [Md.Lx.adv, Md.Lx.say, Md.Lx.clr, List.nil_append, List.length_append, List.length_cons, List.length_nil]); omega)) | exact next_F kk (by first | omega | ((simp only [Md.Lx.adv, Md.Lx.say, Md.Lx.clr, List.nil_append, List.length_append, List.length_cons, List.length_nil]); omega)) | exact back_F kk (by first | omega | ((simp only [Md.Lx.adv, Md.Lx.say, Md.Lx.clr, List.nil_append, List.length_append, List.length_cons, List.length_nil]); omega)) | exact blank_F | exact letter_F | exact small_F | exact encode_F rfl (by first | omega | ((simp only [Md.Lx.adv, Md.Lx.say, Md.Lx.clr, List.nil_append, List.length_append, List.length_cons, List.length_nil]); omega)) | exact say_F rfl kk kk (by first | omega | ((simp only [Md.Lx.adv, Md.Lx.say, Md.Lx.clr, List.nil_append, List.length_append, List.length_cons, List.length_nil]); omega)) | exact stands_F kk (by first | omega | ((simp only [Md.Lx.adv, Md.Lx.say, Md.Lx.clr, List.nil_append, List.length_append, List.length_cons, List.length_nil]); omega)) (by decide) (by first | omega | ((simp only [Md.Lx.adv, Md.Lx.say, Md.Lx.clr, List.nil_append, List.length_append, List.length_cons, List.length_nil]); omega)) | exact exact_F kk (by first | omega | ((simp only [Md.Lx.adv, Md.Lx.say, Md.Lx.clr, List.nil_append, List.length_append, List.length_cons, List.length_nil]); omega)) (by decide) (by first | omega | ((simp only [Md.Lx.adv, Md.Lx.say, Md.Lx.clr, List.nil_append, List.length_append, List.length_cons, List.length_nil]); omega))) | (refine fun (hc : _ = _) => ?_; (try simp only [BB] at hc); (try (first | contradiction | (exfalso; omega)))) | (refine Arith.mk ?_; (try intro _); simp only [Md.Lx.adv, Md.Lx.say, Md.Lx.clr, List.nil_append, List.length_append, List.length_cons, List.length_nil]; omega) | exact arI | refine Pst.mk ⟨?_, rfl⟩ kk | constructor | (refine fun _ _ (hq : Hold _) => ?_; replace hq := hq.out; obtain ⟨_, rfl, rfl⟩ := hq) | (refine fun _ _ (hq : Hold _) => ?_; replace hq := hq.out; obtain ⟨_, _, rfl, rfl⟩ := hq) | rintro _ _ ⟨rfl, rfl⟩ | rintro _ _ ⟨_, rfl, rfl⟩ | rintro _ _ ⟨_, _, rfl, rfl⟩ | (refine fun (hc : _ = _) => ?_; (try simp only [BB] at hc)) | refine fun (_ : Nat) => ?_ | refine fun (_ : _ ≤ _) => ?_ | refine fun (_ : _ < _) => ?_
  all_goals (try simp only [pk_adv, pk_say, Nat.add_zero, adv_adv, say_say, say_adv, pk_clr, adv_clr] at *)
  all_goals try (exfalso; omega)
  · have hlt : s.pos + i < s.inp.length := by by_cases h : s.pos + i < s.inp.length; exact h; have := hpn (by omega); omega
    rw [hst hlt, quotedGo_cons, if_pos hc] at h3 h4 h5
    simp only [List.append_nil] at h3 h4 h5
    rw [hq, ← h3, ← h4, Nat.add_comm, ← h5]
    exact Pst.mk ⟨rfl, rfl⟩ kk
  · have hlt : s.pos + i < s.inp.length := by by_cases h : s.pos + i < s.inp.length; exact h; have := hpn (by omega); omega
    rename_i hcc
    rw [hst hlt, quotedGo_cons, if_neg hcc, if_pos hc] at h3 h4 h5
    simp only [List.append_nil] at h3 h4 h5
    rw [hq, ← h3, ← h4, Nat.add_comm, ← h5]
    exact Pst.mk ⟨rfl, rfl⟩ kk
  · have hge : s.inp.length ≤ s.pos + i := by by_cases h : s.pos + i < s.inp.length; (have := hpi h; omega); omega
    rw [hnil hge] at h3 h4 h5
    simp only [Md.quotedGo, List.append_nil, Nat.add_zero] at h3 h4 h5
    rw [hq, ← h3, ← h4, Nat.add_comm, ← h5]
    exact Pst.mk ⟨rfl, rfl⟩ kk
  all_goals
    have hlt : s.pos + i < s.inp.length := by by_cases h : s.pos + i < s.inp.length; exact h; have := hpn (by omega); omega
    rw [hst hlt, quotedGo_cons, if_neg (by omega), if_neg (by omega)] at h3 h4 h5
  · rw [Md.fixr, if_pos hc] at h3
    exact ih _ _ (i + 1, _, acc ++ [65533]) ⟨by simp; omega, by dsimp only; omega, by rw [← h3]; simp, h4, by rw [← h5]; dsimp only; omega⟩ (by dsimp only; omega) ⟨rfl, rfl, rfl, trivial⟩ kk
  · rw [Md.fixr, if_neg hc] at h3
    exact ih _ _ (i + 1, _, acc ++ [s.pk i]) ⟨by simp; omega, by dsimp only; omega, by rw [← h3]; simp, h4, by rw [← h5]; dsimp only; omega⟩ (by dsimp only; omega) ⟨rfl, rfl, rfl, trivial⟩ kk
end Go.Proofs.YticnenofiibpgaaDoor.Code
/- What the lexer's closes, reference, value do. -/
namespace Go.Proofs.YticnenofiibpgaaDoor.Code
open Go.Dm Go.Dm.C
set_option linter.unusedSimpArgs false
set_option linter.unusedVariables false
set_option linter.unnecessarySimpa false
set_option maxRecDepth 10000
attribute [local irreducible] Go.Dm.F Go.Dm.RS Go.Dm.Y Go.Dm.FD Go.Dm.FZ1 Go.Dm.Hold
variable {id : Nat} {s : Md.Lx} {g : Nat × Nat} {cs : List Ck}
theorem runesGo_fuel : ∀ (n : Nat) (w : List UInt8) (i f k : Nat), w.length - i ≤ n → w.length - i ≤ f → w.length - i ≤ k → Md.runesGo f w i = Md.runesGo k w i := by
  intro n
  induction n with
  | zero => intro w i f k h _ _; cases f <;> cases k <;> simp only [Md.runesGo] <;> first | rfl | rw [if_neg (by omega), if_neg (by omega)] | rw [if_neg (by omega)]
  | succ n ih =>
    intro w i f k h hf hk
    by_cases hi : i < w.length
    · obtain ⟨f, rfl⟩ : ∃ f', f = f' + 1 := ⟨f - 1, by omega⟩
      obtain ⟨k, rfl⟩ : ∃ k', k = k' + 1 := ⟨k - 1, by omega⟩
      have hp := dec_pos ⟨w.toArray⟩ i
      simp only [Md.runesGo, if_pos hi]
      congr 1
      exact ih w _ f k (by omega) (by omega) (by omega)
    · cases f <;> cases k <;> simp only [Md.runesGo] <;> first | rfl | rw [if_neg hi, if_neg hi] | rw [if_neg hi]
def runesAt (w : List UInt8) (i : Nat) : List Int := Md.runesGo (w.length - i) w i
theorem runesAt_zero (w : List UInt8) : runesAt w 0 = Md.runes w := rfl
theorem runesAt_cons {w : List UInt8} {i : Nat} (h : i < w.length) : runesAt w i = ((Utf8.decode ⟨w.toArray⟩ i).1 : Int) :: runesAt w (i + (Utf8.decode ⟨w.toArray⟩ i).2) := by
  have hp := dec_pos ⟨w.toArray⟩ i
  have e : w.length - i = (w.length - i - 1) + 1 := by omega
  unfold runesAt
  rw [e]
  simp only [Md.runesGo, if_pos h]
  congr 1
  exact runesGo_fuel w.length w _ _ _ (by omega) (by omega) (by omega)
theorem runesAt_nil {w : List UInt8} {i : Nat} (h : w.length ≤ i) : runesAt w i = [] := by
  unfold runesAt; rw [show w.length - i = 0 by omega]; rfl
theorem runesAt_len (w : List UInt8) : ∀ (n i : Nat), w.length - i ≤ n → (runesAt w i).length ≤ w.length - i := by
  intro n
  induction n with
  | zero => intro i h; rw [runesAt_nil (by omega)]; simp
  | succ n ih =>
    intro i h
    by_cases hi : i < w.length
    · have hp := dec_pos ⟨w.toArray⟩ i
      have := ih (i + (Utf8.decode ⟨w.toArray⟩ i).2) (by omega)
      rw [runesAt_cons hi]; simp only [List.length_cons]; omega
    · rw [runesAt_nil (by omega)]; simp
theorem runes_len (w : List UInt8) : (Md.runes w).length ≤ w.length := runesAt_len w w.length 0 (by omega)
theorem closes_F (hm : Me (LX id s g) cs) (hb : s.inp.length ≤ 1000000000 ∧ s.pos ≤ 20000000000 ∧ s.last.length ≤ 10000000000) : F D 93 [.ptr id 0] cs (fun v cs' => v = .int .i64 (Md.closes s.last s.rest : Nat) ∧ cs = cs') := by
  refine F.atM hm fun R => F.of rfl rfl rfl ?_
  repeat' first | (show LD _ _ _ _; first | exact LX.ldPos kk | exact LX.ldWay kk | exact LX.ldLast kk | exact LX.ldRoom kk | exact LX.ldDone kk | exact LX.ldText kk) | (apply RR.lxIn; exact rfl; exact rfl; exact rfl; exact kk; refine fun _ => ?_) | (apply RR.lxOut; exact rfl; exact rfl; exact rfl; exact kk; refine fun _ => ?_) | (apply RR.storeS; exact rfl; exact rfl; first | exact LX.stPos 1 rfl kk | exact LX.stPos 2 rfl kk | exact LX.stPos 3 rfl kk | exact LX.stPos 6 rfl kk | exact LX.stPos 7 rfl kk | exact LX.stPos _ rfl kk | exact LX.stPos2 1 _ kk | exact LX.stPos2 2 _ kk | exact LX.stWay kk | exact LX.stLast kk | exact LX.stRoom kk | exact LX.stDone kk; exact rfl) | (show FC _ _ _ _ _; first | exact peek0_F kk (by first | omega | ((simp only [Md.Lx.adv, Md.Lx.say, Md.Lx.clr, List.nil_append, List.length_append, List.length_cons, List.length_nil]); omega)) | exact peek1_F kk (by first | omega | ((simp only [Md.Lx.adv, Md.Lx.say, Md.Lx.clr, List.nil_append, List.length_append, List.length_cons, List.length_nil]); omega)) | exact peek6_F kk (by first | omega | ((simp only [Md.Lx.adv, Md.Lx.say, Md.Lx.clr, List.nil_append, List.length_append, List.length_cons, List.length_nil]); omega)) | exact next_F kk (by first | omega | ((simp only [Md.Lx.adv, Md.Lx.say, Md.Lx.clr, List.nil_append, List.length_append, List.length_cons, List.length_nil]); omega)) | exact back_F kk (by first | omega | ((simp only [Md.Lx.adv, Md.Lx.say, Md.Lx.clr, List.nil_append, List.length_append, List.length_cons, List.length_nil]); omega)) | exact blank_F | exact letter_F | exact small_F | exact encode_F rfl (by first | omega | ((simp only [Md.Lx.adv, Md.Lx.say, Md.Lx.clr, List.nil_append, List.length_append, List.length_cons, List.length_nil]); omega)) | exact say_F rfl kk kk (by first | omega | ((simp only [Md.Lx.adv, Md.Lx.say, Md.Lx.clr, List.nil_append, List.length_append, List.length_cons, List.length_nil]); omega)) | exact stands_F kk (by first | omega | ((simp only [Md.Lx.adv, Md.Lx.say, Md.Lx.clr, List.nil_append, List.length_append, List.length_cons, List.length_nil]); omega)) (by decide) (by first | omega | ((simp only [Md.Lx.adv, Md.Lx.say, Md.Lx.clr, List.nil_append, List.length_append, List.length_cons, List.length_nil]); omega)) | exact exact_F kk (by first | omega | ((simp only [Md.Lx.adv, Md.Lx.say, Md.Lx.clr, List.nil_append, List.length_append, List.length_cons, List.length_nil]); omega)) (by decide) (by first | omega | ((simp only [Md.Lx.adv, Md.Lx.say, Md.Lx.clr, List.nil_append, List.length_append, List.length_cons, List.length_nil]); omega))) | (refine fun (hc : _ = _) => ?_; (try simp only [BB] at hc); (try (first | contradiction | (exfalso; omega)))) | (refine Arith.mk ?_; (try intro _); simp only [Md.Lx.adv, Md.Lx.say, Md.Lx.clr, List.nil_append, List.length_append, List.length_cons, List.length_nil]; omega) | exact arI | refine Pst.mk ⟨?_, rfl⟩ kk | constructor | (refine fun _ _ (hq : Hold _) => ?_; replace hq := hq.out; obtain ⟨_, rfl, rfl⟩ := hq) | (refine fun _ _ (hq : Hold _) => ?_; replace hq := hq.out; obtain ⟨_, _, rfl, rfl⟩ := hq) | rintro _ _ ⟨rfl, rfl⟩ | rintro _ _ ⟨_, rfl, rfl⟩ | rintro _ _ ⟨_, _, rfl, rfl⟩ | (refine fun (hc : _ = _) => ?_; (try simp only [BB] at hc)) | refine fun (_ : Nat) => ?_ | refine fun (_ : _ ≤ _) => ?_ | refine fun (_ : _ < _) => ?_
  · unfold Md.closes
    rw [← pk_rest, ← pk_rest, if_pos]
    · rfl
    · rcases hc with (hc | hc) | hc
      · exact .inl hc
      · exact .inr (.inl hc)
      · exact .inr (.inr hc)
  rotate_left
  · unfold Md.closes
    rw [← pk_rest, ← pk_rest, if_pos (.inl (by assumption))]; rfl
  rename_i q hq
  have hcl : Md.closes s.last s.rest = if Md.goesOn (Md.runes s.last) (s.adv 1).rest = true ∧ Md.over (s.pk (1 + (Md.runes s.last).length)) = true then 1 + (Md.runes s.last).length else 0 := by
    unfold Md.closes
    rw [← pk_rest, ← pk_rest, ← pk_rest, if_neg, ← tail_adv 0]; rfl
    rintro (h | h | h)
    · exact h hc.1.1
    · rw [hc.1.2] at h; cases h
    · exact hc.2 h
  have hrl := runes_len s.last
  refine RS.loopW (α := Nat × Nat) (fun a => [(0, .ptr id 0), (3, .int .i64 (a.2 : Nat)), (27, .ptr q 0)]) (fun a => .obj q (.siter s.last a.1) :: LX id s g :: R)
    (fun a => a.2 + (runesAt s.last a.1).length = 1 + (Md.runes s.last).length ∧ Md.goesOn (runesAt s.last a.1) (s.adv a.2).rest = Md.goesOn (Md.runes s.last) (s.adv 1).rest) (fun a => s.last.length - a.1) (0, 1) ⟨by simp [runesAt_zero], by simp [runesAt_zero]⟩ ⟨rfl, rfl, rfl, trivial⟩ .refl ?_
  rintro ⟨i, n⟩ ⟨h1, h2⟩ ih
  dsimp only [ents] at *
  have hrc := fun h => runesAt_cons (w := s.last) (i := i) h
  have hrn := fun h => runesAt_nil (w := s.last) (i := i) h
  repeat' first | (show LD _ _ _ _; first | exact LX.ldPos kk | exact LX.ldWay kk | exact LX.ldLast kk | exact LX.ldRoom kk | exact LX.ldDone kk | exact LX.ldText kk) | (apply RR.lxIn; exact rfl; exact rfl; exact rfl; exact kk; refine fun _ => ?_) | (apply RR.lxOut; exact rfl; exact rfl; exact rfl; exact kk; refine fun _ => ?_) | (apply RR.storeS; exact rfl; exact rfl; first | exact LX.stPos 1 rfl kk | exact LX.stPos 2 rfl kk | exact LX.stPos 3 rfl kk | exact LX.stPos 6 rfl kk | exact LX.stPos 7 rfl kk | exact LX.stPos _ rfl kk | exact LX.stPos2 1 _ kk | exact LX.stPos2 2 _ kk | exact LX.stWay kk | exact LX.stLast kk | exact LX.stRoom kk | exact LX.stDone kk; exact rfl) | (show FC _ _ _ _ _; first | exact peek_F (n := n) kk (by first | omega | ((simp only [Md.Lx.adv, Md.Lx.say, Md.Lx.clr, List.nil_append, List.length_append, List.length_cons, List.length_nil]); omega)) (by omega) | exact peek0_F kk (by first | omega | ((simp only [Md.Lx.adv, Md.Lx.say, Md.Lx.clr, List.nil_append, List.length_append, List.length_cons, List.length_nil]); omega)) | exact peek1_F kk (by first | omega | ((simp only [Md.Lx.adv, Md.Lx.say, Md.Lx.clr, List.nil_append, List.length_append, List.length_cons, List.length_nil]); omega)) | exact peek6_F kk (by first | omega | ((simp only [Md.Lx.adv, Md.Lx.say, Md.Lx.clr, List.nil_append, List.length_append, List.length_cons, List.length_nil]); omega)) | exact next_F kk (by first | omega | ((simp only [Md.Lx.adv, Md.Lx.say, Md.Lx.clr, List.nil_append, List.length_append, List.length_cons, List.length_nil]); omega)) | exact back_F kk (by first | omega | ((simp only [Md.Lx.adv, Md.Lx.say, Md.Lx.clr, List.nil_append, List.length_append, List.length_cons, List.length_nil]); omega)) | exact blank_F | exact letter_F | exact small_F | exact encode_F rfl (by first | omega | ((simp only [Md.Lx.adv, Md.Lx.say, Md.Lx.clr, List.nil_append, List.length_append, List.length_cons, List.length_nil]); omega)) | exact say_F rfl kk kk (by first | omega | ((simp only [Md.Lx.adv, Md.Lx.say, Md.Lx.clr, List.nil_append, List.length_append, List.length_cons, List.length_nil]); omega)) | exact stands_F kk (by first | omega | ((simp only [Md.Lx.adv, Md.Lx.say, Md.Lx.clr, List.nil_append, List.length_append, List.length_cons, List.length_nil]); omega)) (by decide) (by first | omega | ((simp only [Md.Lx.adv, Md.Lx.say, Md.Lx.clr, List.nil_append, List.length_append, List.length_cons, List.length_nil]); omega)) | exact exact_F kk (by first | omega | ((simp only [Md.Lx.adv, Md.Lx.say, Md.Lx.clr, List.nil_append, List.length_append, List.length_cons, List.length_nil]); omega)) (by decide) (by first | omega | ((simp only [Md.Lx.adv, Md.Lx.say, Md.Lx.clr, List.nil_append, List.length_append, List.length_cons, List.length_nil]); omega))) | (refine fun (hc : _ = _) => ?_; (try simp only [BB] at hc); (try (first | contradiction | (exfalso; omega)))) | exact arI | refine Pst.mk ⟨?_, rfl⟩ kk | constructor | (refine fun _ _ (hq : Hold _) => ?_; replace hq := hq.out; obtain ⟨_, rfl, rfl⟩ := hq) | (refine fun _ _ (hq : Hold _) => ?_; replace hq := hq.out; obtain ⟨_, _, rfl, rfl⟩ := hq) | rintro _ _ ⟨rfl, rfl⟩ | rintro _ _ ⟨_, rfl, rfl⟩ | rintro _ _ ⟨_, _, rfl, rfl⟩ | (refine fun (hc : _ = _) => ?_; (try simp only [BB] at hc)) | refine fun (_ : Nat) => ?_ | refine fun (_ : _ ≤ _) => ?_ | refine fun (_ : _ < _) => ?_
  · rw [hrc (by omega)] at h2
    simp only [Md.goesOn, headD_adv, beq_false_of_ne hc, Bool.false_and] at h2
    rw [hcl, if_neg (by rw [← h2]; simp)]; rfl
  · rw [hrc (by omega)] at h1 h2
    simp only [Md.goesOn, headD_adv, tail_adv, List.length_cons, beq_iff_eq.2 hc, Bool.true_and] at h1 h2
    have hp := dec_pos ⟨s.last.toArray⟩ i
    exact ih _ _ (_, n + 1) ⟨by dsimp only; omega, h2⟩ (by dsimp only; omega) ⟨rfl, rfl, rfl, trivial⟩ kk
  all_goals
    rw [hrn (by omega)] at h1 h2
    simp only [List.length_nil, Nat.add_zero] at h1
    rw [hcl, ← h2, ← h1]
  · rw [if_pos ⟨rfl, by rw [over_t]; exact hc⟩]
  · rw [if_neg (fun h => by have h3 := h.2; rw [over_t] at h3; simp_all)]; rfl
theorem number_pos : ∀ (base : Int) (l : List Int) (n : Int) (k : Nat), k ≤ (Md.number base l n k).2 ∧ (Md.number base l n k).2 ≤ k + l.length
  | _, [], n, k => by simp [Md.number]
  | base, r :: l, n, k => by
    have := number_pos base l (min (n * base + Md.hex r) 0x110000) (k + 1)
    simp only [Md.number]
    split
    · simp
    · simp only [List.length_cons]; omega
theorem number_le : ∀ (base : Int) (l : List Int) (n : Int) (k : Nat), n ≤ 1114112 → (Md.number base l n k).1 ≤ 1114112
  | _, [], n, k, h => by simpa [Md.number] using h
  | base, r :: l, n, k, h => by
    simp only [Md.number]
    split
    · exact h
    · exact number_le base l _ _ (by omega)
theorem min_rest : s.inp.drop (min (s.pos : Int) (s.inp.length : Int)).toNat = s.rest := by
  unfold Md.Lx.rest
  by_cases h : s.pos ≤ s.inp.length
  · rw [Int.min_eq_left (by omega)]; simp
  · rw [Int.min_eq_right (by omega), List.drop_eq_nil_of_le (by simp), List.drop_eq_nil_of_le (by omega)]
theorem refer_hex {l : List Int} {v : Bool} (h0 : l.getD 0 (-1) = 35) (h1 : l.getD 1 (-1) = 120 ∨ l.getD 1 (-1) = 88) : Md.refer v l = if (Md.number 16 (l.drop 2) 0 0).2 = 0 then ([38], 0) else
    ([Md.numeric (Md.number 16 (l.drop 2) 0 0).1], if l.getD (2 + (Md.number 16 (l.drop 2) 0 0).2) (-1) = 59 then 2 + (Md.number 16 (l.drop 2) 0 0).2 + 1 else 2 + (Md.number 16 (l.drop 2) 0 0).2) := by
  simp only [Md.refer, if_pos h0, if_pos h1]
theorem refer_dec {l : List Int} {v : Bool} (h0 : l.getD 0 (-1) = 35) (h1 : ¬(l.getD 1 (-1) = 120 ∨ l.getD 1 (-1) = 88)) : Md.refer v l = if (Md.number 10 (l.drop 1) 0 0).2 = 0 then ([38], 0) else
    ([Md.numeric (Md.number 10 (l.drop 1) 0 0).1], if l.getD (1 + (Md.number 10 (l.drop 1) 0 0).2) (-1) = 59 then 1 + (Md.number 10 (l.drop 1) 0 0).2 + 1 else 1 + (Md.number 10 (l.drop 1) 0 0).2) := by
  simp only [Md.refer, if_pos h0, if_neg h1]
theorem refer_name {l : List Int} {v : Bool} (h0 : ¬l.getD 0 (-1) = 35) : Md.refer v l = if (Md.matchT runeBytes l).2.1 = 0 then ([38], 0) else
    if (v = true ∧ (Md.matchT runeBytes l).2.2 = false ∧ (Md.matchT runeBytes l).2.1 < l.length) ∧ (l.getD (Md.matchT runeBytes l).2.1 (-1) = 61 ∨ Md.letter (l.getD (Md.matchT runeBytes l).2.1 (-1)) = true ∨ Md.digit (l.getD (Md.matchT runeBytes l).2.1 (-1)) = true) then ([38], 0) else ((Md.matchT runeBytes l).1, (Md.matchT runeBytes l).2.1) := by
  simp only [Md.refer, if_neg h0]
theorem getD_some {l : List Int} {n : Nat} {x : Int} (h : (l.length : Int) > (n : Int) ∧ l.getD n default = x) : l.getD n (-1) = x := by
  rw [← getD_eof (by omega)]; exact h.2
theorem getD_none {l : List Int} {n : Nat} {x : Int} (hx : x ≠ -1) (h : (l.length : Int) > (n : Int) → ¬l.getD n default = x) : ¬l.getD n (-1) = x := by
  by_cases hl : n < l.length
  · rw [← getD_eof hl]; exact h (by omega)
  · rw [List.getD_eq_getElem?_getD, List.getElem?_eq_none (by omega)]; exact fun e => hx e.symm
def refA (s : Md.Lx) (value : Bool) : Md.Lx := (s.adv (Md.refer value s.rest).2).say (Md.refer value s.rest).1
set_option maxHeartbeats 1000000 in
theorem reference_F {value : Bool} {cs2 : Nat → List Ck} (hu : Upd (LX id s g) (fun a => LX id (refA s value) (g.1, a)) cs cs2) (hb : s.inp.length ≤ 1000000000 ∧ s.pos ≤ 20000000000 ∧ s.text.length ≤ 80000000000) :
    F D 70 [.ptr id 0, .bool value] cs (fun v cs' => Hold (∃ a, v = .tup [] ∧ cs2 a = cs')) := by
  refine F.atG hu fun R => F.of rfl rfl rfl ?_
  have hrl := rest_len (s := s)
  have hdl : (s.inp.drop (min (s.pos : Int) (s.inp.length : Int)).toNat).length ≤ 1000000000 := by rw [min_rest]; omega
  have hk1 := number_pos 16 ((s.inp.drop (min (s.pos : Int) (s.inp.length : Int)).toNat).drop (Int.toNat 2)) 0 0
  have hk2 := number_pos 10 ((s.inp.drop (min (s.pos : Int) (s.inp.length : Int)).toNat).drop (Int.toNat 1)) 0 0
  have hk3 := number_le 16 ((s.inp.drop (min (s.pos : Int) (s.inp.length : Int)).toNat).drop (Int.toNat 2)) 0 0 (by omega)
  have hk4 := number_le 10 ((s.inp.drop (min (s.pos : Int) (s.inp.length : Int)).toNat).drop (Int.toNat 1)) 0 0 (by omega)
  have hk5 := Md.matchT_le (s.inp.drop (min (s.pos : Int) (s.inp.length : Int)).toNat)
  have hk6 := Md.matchT_len (s.inp.drop (min (s.pos : Int) (s.inp.length : Int)).toNat)
  have hd1 : ((s.inp.drop (min (s.pos : Int) (s.inp.length : Int)).toNat).drop (Int.toNat 1)).length ≤ 1000000000 := by rw [List.length_drop]; omega
  have hd2 : ((s.inp.drop (min (s.pos : Int) (s.inp.length : Int)).toNat).drop (Int.toNat 2)).length ≤ 1000000000 := by rw [List.length_drop]; omega
  repeat' first | (show LD _ _ _ _; first | exact LX.ldPos kk | exact LX.ldWay kk | exact LX.ldLast kk | exact LX.ldRoom kk | exact LX.ldDone kk | exact LX.ldText kk) | (apply RR.lxIn; exact rfl; exact rfl; exact rfl; exact kk; refine fun _ => ?_) | (apply RR.lxOut; exact rfl; exact rfl; exact rfl; exact kk; refine fun _ => ?_) | (apply RR.storeS; exact rfl; exact rfl; first | exact LX.stPos 1 rfl kk | exact LX.stPos 2 rfl kk | exact LX.stPos 3 rfl kk | exact LX.stPos 6 rfl kk | exact LX.stPos 7 rfl kk | exact LX.stPos _ rfl kk | exact LX.stPos2 1 _ kk | exact LX.stPos2 2 _ kk | exact LX.stWay kk | exact LX.stLast kk | exact LX.stRoom kk | exact LX.stDone kk; exact rfl) | (show FC _ _ _ _ _; first | exact number_F rfl (by omega) (by omega) | exact numeric_F (by omega) | exact match_F rfl (by omega) | exact digit_F | exact peek0_F kk (by first | omega | ((simp only [Md.Lx.adv, Md.Lx.say, Md.Lx.clr, List.nil_append, List.length_append, List.length_cons, List.length_nil]); omega)) | exact peek1_F kk (by first | omega | ((simp only [Md.Lx.adv, Md.Lx.say, Md.Lx.clr, List.nil_append, List.length_append, List.length_cons, List.length_nil]); omega)) | exact peek6_F kk (by first | omega | ((simp only [Md.Lx.adv, Md.Lx.say, Md.Lx.clr, List.nil_append, List.length_append, List.length_cons, List.length_nil]); omega)) | exact next_F kk (by first | omega | ((simp only [Md.Lx.adv, Md.Lx.say, Md.Lx.clr, List.nil_append, List.length_append, List.length_cons, List.length_nil]); omega)) | exact back_F kk (by first | omega | ((simp only [Md.Lx.adv, Md.Lx.say, Md.Lx.clr, List.nil_append, List.length_append, List.length_cons, List.length_nil]); omega)) | exact blank_F | exact letter_F | exact small_F | exact encode_F rfl (by first | omega | ((simp only [Md.Lx.adv, Md.Lx.say, Md.Lx.clr, List.nil_append, List.length_append, List.length_cons, List.length_nil]); omega)) | exact say_F rfl kk kk (by first | omega | ((simp only [Md.Lx.adv, Md.Lx.say, Md.Lx.clr, List.nil_append, List.length_append, List.length_cons, List.length_nil]); omega)) | exact stands_F kk (by first | omega | ((simp only [Md.Lx.adv, Md.Lx.say, Md.Lx.clr, List.nil_append, List.length_append, List.length_cons, List.length_nil]); omega)) (by decide) (by first | omega | ((simp only [Md.Lx.adv, Md.Lx.say, Md.Lx.clr, List.nil_append, List.length_append, List.length_cons, List.length_nil]); omega)) | exact exact_F kk (by first | omega | ((simp only [Md.Lx.adv, Md.Lx.say, Md.Lx.clr, List.nil_append, List.length_append, List.length_cons, List.length_nil]); omega)) (by decide) (by first | omega | ((simp only [Md.Lx.adv, Md.Lx.say, Md.Lx.clr, List.nil_append, List.length_append, List.length_cons, List.length_nil]); omega))) | (refine fun (hc : _ = _) => ?_; (try simp only [BB] at hc); (try (first | contradiction | (exfalso; omega)))) | exact arI | refine Pst.mk ⟨?_, rfl⟩ kk | constructor | (refine fun _ _ (hq : Hold _) => ?_; replace hq := hq.out; obtain ⟨_, rfl, rfl⟩ := hq) | (refine fun _ _ (hq : Hold _) => ?_; replace hq := hq.out; obtain ⟨_, _, rfl, rfl⟩ := hq) | rintro _ _ ⟨rfl, rfl⟩ | rintro _ _ ⟨_, rfl, rfl⟩ | rintro _ _ ⟨_, _, rfl, rfl⟩ | (refine fun (hc : _ = _) => ?_; (try simp only [BB] at hc)) | refine fun (_ : Nat) => ?_ | refine fun (_ : _ ≤ _) => ?_ | refine fun (_ : _ < _) => ?_
  all_goals simp only [min_rest, show Int.toNat 2 = 2 from rfl, show Int.toNat 1 = 1 from rfl] at *
  all_goals (try simp only [pk_adv, pk_say, Nat.add_zero, adv_adv, say_say, say_adv, pk_clr, adv_clr] at *)
  · rename_i h0 h1
    rw [refA, refer_hex (getD_some h0) (h1.2.imp (fun h => getD_some ⟨h1.1, h⟩) (fun h => getD_some ⟨h1.1, h⟩)), if_pos (Int.ofNat.inj hc)]
    exact Pst.mk (.mk ⟨_, trivial, rfl⟩) kk
  · rename_i h0 h1 h2
    rw [refA, refer_hex (getD_some h0) (h1.2.imp (fun h => getD_some ⟨h1.1, h⟩) (fun h => getD_some ⟨h1.1, h⟩)), if_neg (fun h => h2 (congrArg Int.ofNat h))]
    dsimp only
    rw [← pk_rest, if_pos hc]
    exact Pst.mk (.mk ⟨_, trivial, rfl⟩) kk
  · rename_i h0 h1 h2
    rw [refA, refer_hex (getD_some h0) (h1.2.imp (fun h => getD_some ⟨h1.1, h⟩) (fun h => getD_some ⟨h1.1, h⟩)), if_neg (fun h => h2 (congrArg Int.ofNat h))]
    dsimp only
    rw [← pk_rest, if_neg hc]
    exact Pst.mk (.mk ⟨_, trivial, rfl⟩) kk
  · rename_i h0 h1
    rw [refA, refer_dec (getD_some h0) (fun h => h.elim (getD_none (by decide) (fun a => (h1 a).1)) (getD_none (by decide) (fun a => (h1 a).2))), if_pos (Int.ofNat.inj hc)]
    exact Pst.mk (.mk ⟨_, trivial, rfl⟩) kk
  · rename_i h0 h1 h2
    rw [refA, refer_dec (getD_some h0) (fun h => h.elim (getD_none (by decide) (fun a => (h1 a).1)) (getD_none (by decide) (fun a => (h1 a).2))), if_neg (fun h => h2 (congrArg Int.ofNat h))]
    dsimp only
    rw [← pk_rest, if_pos hc]
    exact Pst.mk (.mk ⟨_, trivial, rfl⟩) kk
  · rename_i h0 h1 h2
    rw [refA, refer_dec (getD_some h0) (fun h => h.elim (getD_none (by decide) (fun a => (h1 a).1)) (getD_none (by decide) (fun a => (h1 a).2))), if_neg (fun h => h2 (congrArg Int.ofNat h))]
    dsimp only
    rw [← pk_rest, if_neg hc]
    exact Pst.mk (.mk ⟨_, trivial, rfl⟩) kk
  · rename_i h0
    rw [refA, refer_name (getD_none (by decide) h0), if_pos (Int.ofNat.inj hc)]
    exact Pst.mk (.mk ⟨_, trivial, rfl⟩) kk
  · rename_i h0 h1 h2 h3 h4
    have h5 : (Md.matchT runeBytes s.rest).2.1 < s.rest.length := by omega
    rw [refA, refer_name (getD_none (by decide) h0), if_neg (fun h => h1 (congrArg Int.ofNat h)), if_pos ⟨⟨h2.1.1, h2.1.2, h5⟩, by rw [← getD_eof h5]; exact or_assoc.1 hc⟩]
    exact Pst.mk (.mk ⟨_, trivial, rfl⟩) kk
  · rename_i h0 h1 h2 h3 h4
    have h5 : (Md.matchT runeBytes s.rest).2.1 < s.rest.length := by omega
    rw [refA, refer_name (getD_none (by decide) h0), if_neg (fun h => h1 (congrArg Int.ofNat h)), if_neg (fun h => by
      have h6 := h.2
      rw [← getD_eof h5, hc.1.2, hc.2] at h6
      simp at h6
      exact hc.1.1 h6)]
    exact Pst.mk (.mk ⟨_, trivial, rfl⟩) kk
  · rename_i h0 h1 h2 h3 h4
    have h5 : (Md.matchT runeBytes s.rest).2.1 < s.rest.length := by omega
    rw [refA, refer_name (getD_none (by decide) h0), if_neg (fun h => h1 (congrArg Int.ofNat h)), if_pos ⟨⟨h2.1.1, h2.1.2, h5⟩, by rw [← getD_eof h5]; exact h4.imp (fun h => h) .inl⟩]
    exact Pst.mk (.mk ⟨_, trivial, rfl⟩) kk
  · rename_i h0 h1 h2 h3 h4
    rcases h4 with h4 | h4
    · exact absurd h4 hc.1
    · rw [hc.2] at h4; cases h4
  · rename_i h0 h1 h2 h3 h4
    have h5 : (Md.matchT runeBytes s.rest).2.1 < s.rest.length := by omega
    rw [refA, refer_name (getD_none (by decide) h0), if_neg (fun h => h1 (congrArg Int.ofNat h)), if_pos ⟨⟨h2.1.1, h2.1.2, h5⟩, by rw [← getD_eof h5]; exact .inl h3⟩]
    exact Pst.mk (.mk ⟨_, trivial, rfl⟩) kk
  · rename_i h0 h1
    rw [refA, refer_name (getD_none (by decide) h0), if_neg (fun h => h1 (congrArg Int.ofNat h)), if_neg (fun h => hc ⟨h.1.1, h.1.2.1⟩ (by have := h.1.2.2; omega))]
    exact Pst.mk (.mk ⟨_, trivial, rfl⟩) kk
end Go.Proofs.YticnenofiibpgaaDoor.Code
/- What the lexer's value does. -/
namespace Go.Proofs.YticnenofiibpgaaDoor.Code
open Go.Dm Go.Dm.C
set_option linter.unusedSimpArgs false
set_option linter.unusedVariables false
set_option linter.unnecessarySimpa false
set_option maxRecDepth 10000
attribute [local irreducible] Go.Dm.F Go.Dm.RS Go.Dm.Y Go.Dm.FD Go.Dm.FZ1 Go.Dm.Hold
variable {id : Nat} {s : Md.Lx} {g : Nat × Nat} {cs : List Ck}
theorem numeric_nn (n : Int) : 0 ≤ Md.numeric n := by
  unfold Md.numeric
  split
  · omega
  · split
    · have h : ∀ i, i < 32 → 0 ≤ Md.windows.getD i 0 := by decide
      exact h _ (by omega)
    · omega
theorem refer_facts (v : Bool) (l : List Int) : (Md.refer v l).1.length ≤ 2 ∧ (Md.refer v l).2 ≤ l.length ∧ ∀ r ∈ (Md.refer v l).1, 0 ≤ r := by
  have hm1 := Md.matchT_le l
  have hm2 := Md.matchT_len l
  have hm3 := Md.matchT_nn l
  by_cases h0 : l.getD 0 (-1) = 35
  · by_cases h1 : l.getD 1 (-1) = 120 ∨ l.getD 1 (-1) = 88
    · rw [refer_hex h0 h1]
      have hl : 1 < l.length := by
        by_cases h : 1 < l.length
        · exact h
        · rw [List.getD_eq_getElem?_getD, List.getElem?_eq_none (by omega)] at h1; simp at h1
      have hn := numeric_nn (Md.number 16 (l.drop 2) 0 0).1
      have hk := number_pos 16 (l.drop 2) 0 0
      rw [List.length_drop] at hk
      split
      · simp
      · refine ⟨by simp, ?_, by simpa using hn⟩
        dsimp only
        split
        · rename_i h2
          by_cases h : 2 + (Md.number 16 (l.drop 2) 0 0).2 < l.length
          · omega
          · rw [List.getD_eq_getElem?_getD, List.getElem?_eq_none (by omega)] at h2; simp at h2
        · omega
    · rw [refer_dec h0 h1]
      have hl : 0 < l.length := by
        by_cases h : 0 < l.length
        · exact h
        · rw [List.getD_eq_getElem?_getD, List.getElem?_eq_none (by omega)] at h0; simp at h0
      have hn := numeric_nn (Md.number 10 (l.drop 1) 0 0).1
      have hk := number_pos 10 (l.drop 1) 0 0
      rw [List.length_drop] at hk
      split
      · simp
      · refine ⟨by simp, ?_, by simpa using hn⟩
        dsimp only
        split
        · rename_i h2
          by_cases h : 1 + (Md.number 10 (l.drop 1) 0 0).2 < l.length
          · omega
          · rw [List.getD_eq_getElem?_getD, List.getElem?_eq_none (by omega)] at h2; simp at h2
        · omega
  · rw [refer_name h0]
    split
    · simp
    · split
      · simp
      · exact ⟨hm2, hm1, hm3⟩
theorem valueGo_nil (q : Int) (acc : List Int) : Md.valueGo q [] acc = (acc, false, 0) := by rw [Md.valueGo]
theorem valueGo_cons (q r : Int) (l acc : List Int) : Md.valueGo q (r :: l) acc = if q ≠ 0 ∧ r = q then (acc, true, 1) else if q = 0 ∧ (Md.blank r = true ∨ r = 62) then (acc, true, 0) else if r = 38 then
    ((Md.valueGo q (l.drop (Md.refer true l).2) (acc ++ (Md.refer true l).1)).1, (Md.valueGo q (l.drop (Md.refer true l).2) (acc ++ (Md.refer true l).1)).2.1, (Md.valueGo q (l.drop (Md.refer true l).2) (acc ++ (Md.refer true l).1)).2.2 + (Md.refer true l).2 + 1)
    else ((Md.valueGo q l (acc ++ [Md.fixr r])).1, (Md.valueGo q l (acc ++ [Md.fixr r])).2.1, (Md.valueGo q l (acc ++ [Md.fixr r])).2.2 + 1) := by rw [Md.valueGo]
theorem value1_FD {q t5 tt : Nat} {text : List Int} {c1 cs2 : List Ck} (h1 : Me (.obj t5 (.cells [.lst tt (zOf tt 1) (text.map I32)] none)) cs) (h2 : Me (.obj q (.cells [.ptr id 0] none)) cs) (hr : Rem (.own tt 1 (text.map I32)) cs c1) (hu : Upd1 (LX id s g) (LX id { s with text := text } (g.1, tt)) c1 cs2) :
    FD D 120 [.ptr t5 0, .ptr q 0] cs (fun cs' => cs2 = cs') := by
  refine FD.of rfl rfl ?_
  repeat' first | (show LD _ _ _ _; first | exact .ptr h1 (.one rfl) | exact .ptr h2 (.one rfl)) | (apply RR.storeS; exact rfl; exact rfl; exact LX.stTextBack hr hu; exact rfl) | exact arI | refine Pst.mk ⟨?_, rfl⟩ kk | constructor | (refine fun _ _ (hq : Hold _) => ?_; replace hq := hq.out; obtain ⟨_, rfl, rfl⟩ := hq) | (refine fun _ _ (hq : Hold _) => ?_; replace hq := hq.out; obtain ⟨_, _, rfl, rfl⟩ := hq) | rintro _ _ ⟨rfl, rfl⟩ | rintro _ _ ⟨_, rfl, rfl⟩ | rintro _ _ ⟨_, _, rfl, rfl⟩ | (refine fun (hc : _ = _) => ?_; (try simp only [BB] at hc)) | refine fun (_ : Nat) => ?_ | refine fun (_ : _ ≤ _) => ?_ | refine fun (_ : _ < _) => ?_
  exact Pst.mk rfl .refl
theorem rest_say (a : List Int) : (s.say a).rest = s.rest := rfl
theorem filter_nn {l : List Int} (h : ∀ r ∈ l, 0 ≤ r) : l.filter (· != -1) = l := by
  rw [List.filter_eq_self]; intro r hr; have := h r hr; simp; omega
theorem value_eq : Md.value s.rest = if s.pk (Md.blanksN s.rest) = 62 then ([], true, Md.blanksN s.rest) else if s.pk (Md.blanksN s.rest) = 34 ∨ s.pk (Md.blanksN s.rest) = 39 then
    (Md.encode (Md.valueGo (s.pk (Md.blanksN s.rest)) (s.adv (Md.blanksN s.rest + 1)).rest []).1, (Md.valueGo (s.pk (Md.blanksN s.rest)) (s.adv (Md.blanksN s.rest + 1)).rest []).2.1, Md.blanksN s.rest + 1 + (Md.valueGo (s.pk (Md.blanksN s.rest)) (s.adv (Md.blanksN s.rest + 1)).rest []).2.2)
    else (Md.encode (Md.valueGo 0 (s.adv (Md.blanksN s.rest)).rest []).1, (Md.valueGo 0 (s.adv (Md.blanksN s.rest)).rest []).2.1, Md.blanksN s.rest + (Md.valueGo 0 (s.adv (Md.blanksN s.rest)).rest []).2.2) := by
  simp only [Md.value, pk_rest, rest_adv]
theorem refA_eq {k : Nat} {acc : List Int} {v : Bool} : refA ((s.adv k).clr.say acc) v = ((s.adv (k + (Md.refer v (s.adv k).rest).2)).clr.say (acc ++ (Md.refer v (s.adv k).rest).1)) := by
  simp only [refA, rest_say, rest_clr, say_adv, adv_clr, adv_adv, say_say]
set_option maxHeartbeats 1000000 in
theorem value_F {cs2 : List Ck} (hu : Upd1 (LX id s g) (LX id (s.adv (Md.value s.rest).2.2) g) cs cs2) (hb : s.inp.length ≤ 1000000000 ∧ s.pos ≤ s.inp.length) (hn : ∀ r ∈ s.inp, 0 ≤ r) :
    F D 118 [.ptr id 0] cs (fun v cs' => v = .tup [.str (Md.value s.rest).1, .bool (Md.value s.rest).2.1] ∧ cs2 = cs') := by
  refine F.at1 hu fun R => F.of rfl rfl rfl ?_
  repeat' first | (show LD _ _ _ _; first | exact LX.ldPos kk | exact LX.ldWay kk | exact LX.ldLast kk | exact LX.ldRoom kk | exact LX.ldDone kk | exact LX.ldText kk) | (apply RR.lxIn; exact rfl; exact rfl; exact rfl; exact kk; refine fun _ => ?_) | (apply RR.lxOut; exact rfl; exact rfl; exact rfl; exact kk; refine fun _ => ?_) | (apply RR.storeS; exact rfl; exact rfl; first | exact LX.stPos 1 rfl kk | exact LX.stPos 2 rfl kk | exact LX.stPos 3 rfl kk | exact LX.stPos 6 rfl kk | exact LX.stPos 7 rfl kk | exact LX.stPos _ rfl kk | exact LX.stPos2 1 _ kk | exact LX.stPos2 2 _ kk | exact LX.stWay kk | exact LX.stLast kk | exact LX.stRoom kk | exact LX.stDone kk; exact rfl) | (show FC _ _ _ _ _; first | exact peek0_F kk (by first | omega | ((simp only [Md.Lx.adv, Md.Lx.say, Md.Lx.clr, List.nil_append, List.length_append, List.length_cons, List.length_nil]); omega)) | exact peek1_F kk (by first | omega | ((simp only [Md.Lx.adv, Md.Lx.say, Md.Lx.clr, List.nil_append, List.length_append, List.length_cons, List.length_nil]); omega)) | exact peek6_F kk (by first | omega | ((simp only [Md.Lx.adv, Md.Lx.say, Md.Lx.clr, List.nil_append, List.length_append, List.length_cons, List.length_nil]); omega)) | exact next_F kk (by first | omega | ((simp only [Md.Lx.adv, Md.Lx.say, Md.Lx.clr, List.nil_append, List.length_append, List.length_cons, List.length_nil]); omega)) | exact back_F kk (by first | omega | ((simp only [Md.Lx.adv, Md.Lx.say, Md.Lx.clr, List.nil_append, List.length_append, List.length_cons, List.length_nil]); omega)) | exact blank_F | exact letter_F | exact small_F | exact encode_F rfl (by first | omega | ((simp only [Md.Lx.adv, Md.Lx.say, Md.Lx.clr, List.nil_append, List.length_append, List.length_cons, List.length_nil]); omega)) | exact say_F rfl kk kk (by first | omega | ((simp only [Md.Lx.adv, Md.Lx.say, Md.Lx.clr, List.nil_append, List.length_append, List.length_cons, List.length_nil]); omega)) | exact stands_F kk (by first | omega | ((simp only [Md.Lx.adv, Md.Lx.say, Md.Lx.clr, List.nil_append, List.length_append, List.length_cons, List.length_nil]); omega)) (by decide) (by first | omega | ((simp only [Md.Lx.adv, Md.Lx.say, Md.Lx.clr, List.nil_append, List.length_append, List.length_cons, List.length_nil]); omega)) | exact exact_F kk (by first | omega | ((simp only [Md.Lx.adv, Md.Lx.say, Md.Lx.clr, List.nil_append, List.length_append, List.length_cons, List.length_nil]); omega)) (by decide) (by first | omega | ((simp only [Md.Lx.adv, Md.Lx.say, Md.Lx.clr, List.nil_append, List.length_append, List.length_cons, List.length_nil]); omega))) | (refine fun (hc : _ = _) => ?_; (try simp only [BB] at hc); (try (first | contradiction | (exfalso; omega)))) | (refine Arith.mk ?_; (try intro _); simp only [Md.Lx.adv, Md.Lx.say, Md.Lx.clr, List.nil_append, List.length_append, List.length_cons, List.length_nil]; omega) | exact arI | refine Pst.mk ⟨?_, rfl⟩ kk | constructor | (refine fun _ _ (hq : Hold _) => ?_; replace hq := hq.out; obtain ⟨_, rfl, rfl⟩ := hq) | (refine fun _ _ (hq : Hold _) => ?_; replace hq := hq.out; obtain ⟨_, _, rfl, rfl⟩ := hq) | rintro _ _ ⟨rfl, rfl⟩ | rintro _ _ ⟨_, rfl, rfl⟩ | rintro _ _ ⟨_, _, rfl, rfl⟩ | (refine fun (hc : _ = _) => ?_; (try simp only [BB] at hc)) | refine fun (_ : Nat) => ?_ | refine fun (_ : _ ≤ _) => ?_ | refine fun (_ : _ < _) => ?_
  rename_i q hq
  refine RS.loopW (α := Nat) (fun i => [(1, .ptr q 0), (2, .str []), (3, .bool false)]) (fun i => .obj q (.cells [.ptr id 0] none) :: LX id (s.adv i) g :: R)
    (fun i => i + Md.blanksN (s.adv i).rest = Md.blanksN s.rest ∧ (i = 0 ∨ s.pos + i ≤ s.inp.length)) (fun i => s.inp.length - (s.pos + i)) 0 ⟨by simp [adv_zero], .inl rfl⟩ ⟨rfl, rfl, rfl, trivial⟩ .refl ?_
  rintro i ⟨h1, h2⟩ ih
  dsimp only [ents] at *
  (have hst := fun h => rest_adv_cons (s := s) (i := i) h; have hnil := fun h => rest_adv_nil (s := s) (i := i) h; have hpn := fun h => pk_out (s := s) (i := i) h; have hpi := fun h => pk_in (s := s) (i := i) hn h)
  have hbs := fun h => blanksN_step (s := s.adv i) h
  rw [adv_adv] at hbs
  repeat' first | (show LD _ _ _ _; first | exact LX.ldText kk) | (apply RR.storeS; exact rfl; exact rfl; exact LX.stTextNil kk; exact rfl) | (show FC _ _ _ _ _; first | exact peek0_F kk (by first | omega | ((simp only [Md.Lx.adv, Md.Lx.say, Md.Lx.clr, List.nil_append, List.length_append, List.length_cons, List.length_nil]); omega)) | exact peek1_F kk (by first | omega | ((simp only [Md.Lx.adv, Md.Lx.say, Md.Lx.clr, List.nil_append, List.length_append, List.length_cons, List.length_nil]); omega)) | exact peek6_F kk (by first | omega | ((simp only [Md.Lx.adv, Md.Lx.say, Md.Lx.clr, List.nil_append, List.length_append, List.length_cons, List.length_nil]); omega)) | exact next_F kk (by first | omega | ((simp only [Md.Lx.adv, Md.Lx.say, Md.Lx.clr, List.nil_append, List.length_append, List.length_cons, List.length_nil]); omega)) | exact back_F kk (by first | omega | ((simp only [Md.Lx.adv, Md.Lx.say, Md.Lx.clr, List.nil_append, List.length_append, List.length_cons, List.length_nil]); omega)) | exact blank_F | exact letter_F | exact small_F | exact encode_F rfl (by first | omega | ((simp only [Md.Lx.adv, Md.Lx.say, Md.Lx.clr, List.nil_append, List.length_append, List.length_cons, List.length_nil]); omega)) | exact say_F rfl kk kk (by first | omega | ((simp only [Md.Lx.adv, Md.Lx.say, Md.Lx.clr, List.nil_append, List.length_append, List.length_cons, List.length_nil]); omega)) | exact stands_F kk (by first | omega | ((simp only [Md.Lx.adv, Md.Lx.say, Md.Lx.clr, List.nil_append, List.length_append, List.length_cons, List.length_nil]); omega)) (by decide) (by first | omega | ((simp only [Md.Lx.adv, Md.Lx.say, Md.Lx.clr, List.nil_append, List.length_append, List.length_cons, List.length_nil]); omega)) | exact exact_F kk (by first | omega | ((simp only [Md.Lx.adv, Md.Lx.say, Md.Lx.clr, List.nil_append, List.length_append, List.length_cons, List.length_nil]); omega)) (by decide) (by first | omega | ((simp only [Md.Lx.adv, Md.Lx.say, Md.Lx.clr, List.nil_append, List.length_append, List.length_cons, List.length_nil]); omega))) | (refine fun (hc : _ = _) => ?_; (try simp only [BB] at hc); (try (first | contradiction | (exfalso; omega)))) | exact arI | refine Pst.mk ⟨?_, rfl⟩ kk | constructor | (refine fun _ _ (hq : Hold _) => ?_; replace hq := hq.out; obtain ⟨_, rfl, rfl⟩ := hq) | (refine fun _ _ (hq : Hold _) => ?_; replace hq := hq.out; obtain ⟨_, _, rfl, rfl⟩ := hq) | rintro _ _ ⟨rfl, rfl⟩ | rintro _ _ ⟨_, rfl, rfl⟩ | rintro _ _ ⟨_, _, rfl, rfl⟩ | (refine fun (hc : _ = _) => ?_; (try simp only [BB] at hc)) | refine fun (_ : Nat) => ?_ | refine fun (_ : _ ≤ _) => ?_ | refine fun (_ : _ < _) => ?_
  · have hlt : s.pos + i < s.inp.length := by
      by_cases h : s.pos + i < s.inp.length
      · exact h
      · have e : (s.adv i).pk 0 = -1 := by rw [pk_adv, Nat.add_zero]; exact hpn (by omega)
        rw [e] at hc; cases hc
    have h3 := hbs hlt
    rw [if_pos hc] at h3
    exact ih _ _ (i + 1) ⟨by omega, .inr (by omega)⟩ (by omega) ⟨rfl, rfl, rfl, trivial⟩ kk
  all_goals
    have hib : i = Md.blanksN s.rest := by
      by_cases h : s.pos + i < s.inp.length
      · have h3 := hbs h
        rw [if_neg (by simp_all)] at h3; omega
      · have h3 := hnil (by omega); rw [h3] at h1; simpa [Md.blanksN] using h1
    have e0 : (s.adv i).pk 0 = s.pk i := by rw [pk_adv, Nat.add_zero]
    have hve := value_eq (s := s)
    rw [← hib] at hve
  · rename_i t5 _
    generalize i = i0 at *
    rw [if_neg (by omega), if_pos (by omega)] at hve
    refine RS.loopW (α := Nat × Nat × List Int) (fun a => [(1, .ptr q 0), (4, .int .i32 (s.pk i0))]) (fun a => .own g.2 1 (s.text.map I32) :: .obj t5 (.cells [.lst g.2 (zOf g.2 1) (s.text.map I32)] none) :: .obj q (.cells [.ptr id 0] none) :: LX id ((s.adv a.1).clr.say a.2.2) (g.1, a.2.1) :: R)
      (fun a => (Md.valueGo (s.pk i0) (s.adv a.1).rest a.2.2).1 = (Md.valueGo (s.pk i0) (s.adv (i0 + 1)).rest []).1 ∧ (Md.valueGo (s.pk i0) (s.adv a.1).rest a.2.2).2.1 = (Md.valueGo (s.pk i0) (s.adv (i0 + 1)).rest []).2.1 ∧ a.1 + (Md.valueGo (s.pk i0) (s.adv a.1).rest a.2.2).2.2 = i0 + 1 + (Md.valueGo (s.pk i0) (s.adv (i0 + 1)).rest []).2.2 ∧ (∀ r ∈ a.2.2, 0 ≤ r) ∧ a.2.2.length ≤ 2 * a.1 ∧ s.pos + a.1 ≤ s.inp.length) (fun a => s.inp.length - (s.pos + a.1)) (i0 + 1, 0, []) ⟨rfl, rfl, rfl, by simp, by simp, by dsimp only; omega⟩ ⟨rfl, rfl, trivial⟩ .refl ?_
    clear hst hnil hpn hpi hbs
    rintro ⟨i, tt, acc⟩ ⟨k1, k2, k3, k4, k5, k6⟩ ih
    dsimp only [ents] at *
    (have hst := fun h => rest_adv_cons (s := s) (i := i) h; have hnil := fun h => rest_adv_nil (s := s) (i := i) h; have hpn := fun h => pk_out (s := s) (i := i) h; have hpi := fun h => pk_in (s := s) (i := i) hn h)
    have hfl := filter_le acc
    repeat' first | (show LD _ _ _ _; first | exact LX.ldText kk) | exact value1_FD kk kk kk kk | (show FC _ _ _ _ _; first | exact reference_F kk (by simp only [Md.Lx.adv, Md.Lx.say, Md.Lx.clr, List.nil_append, List.length_append]; omega) | exact say_F rfl kk kk (by simp only [Md.Lx.adv, Md.Lx.say, Md.Lx.clr, List.nil_append, List.length_append, List.length_cons, List.length_nil]; omega) | exact encode_F (rs := ([] ++ acc.filter (· != -1))) rfl (by simp only [List.nil_append]; omega) | exact peek0_F kk (by first | omega | ((simp only [Md.Lx.adv, Md.Lx.say, Md.Lx.clr, List.nil_append, List.length_append, List.length_cons, List.length_nil]); omega)) | exact peek1_F kk (by first | omega | ((simp only [Md.Lx.adv, Md.Lx.say, Md.Lx.clr, List.nil_append, List.length_append, List.length_cons, List.length_nil]); omega)) | exact peek6_F kk (by first | omega | ((simp only [Md.Lx.adv, Md.Lx.say, Md.Lx.clr, List.nil_append, List.length_append, List.length_cons, List.length_nil]); omega)) | exact next_F kk (by first | omega | ((simp only [Md.Lx.adv, Md.Lx.say, Md.Lx.clr, List.nil_append, List.length_append, List.length_cons, List.length_nil]); omega)) | exact back_F kk (by first | omega | ((simp only [Md.Lx.adv, Md.Lx.say, Md.Lx.clr, List.nil_append, List.length_append, List.length_cons, List.length_nil]); omega)) | exact blank_F | exact letter_F | exact small_F | exact encode_F rfl (by first | omega | ((simp only [Md.Lx.adv, Md.Lx.say, Md.Lx.clr, List.nil_append, List.length_append, List.length_cons, List.length_nil]); omega)) | exact say_F rfl kk kk (by first | omega | ((simp only [Md.Lx.adv, Md.Lx.say, Md.Lx.clr, List.nil_append, List.length_append, List.length_cons, List.length_nil]); omega)) | exact stands_F kk (by first | omega | ((simp only [Md.Lx.adv, Md.Lx.say, Md.Lx.clr, List.nil_append, List.length_append, List.length_cons, List.length_nil]); omega)) (by decide) (by first | omega | ((simp only [Md.Lx.adv, Md.Lx.say, Md.Lx.clr, List.nil_append, List.length_append, List.length_cons, List.length_nil]); omega)) | exact exact_F kk (by first | omega | ((simp only [Md.Lx.adv, Md.Lx.say, Md.Lx.clr, List.nil_append, List.length_append, List.length_cons, List.length_nil]); omega)) (by decide) (by first | omega | ((simp only [Md.Lx.adv, Md.Lx.say, Md.Lx.clr, List.nil_append, List.length_append, List.length_cons, List.length_nil]); omega))) | (refine fun _ (hq : _ = _) => ?_; subst hq) | (refine fun (hc : _ = _) => ?_; (try simp only [BB] at hc); (try (first | contradiction | (exfalso; omega)))) | exact arI | refine Pst.mk ⟨?_, rfl⟩ kk | constructor | (refine fun _ _ (hq : Hold _) => ?_; replace hq := hq.out; obtain ⟨_, rfl, rfl⟩ := hq) | (refine fun _ _ (hq : Hold _) => ?_; replace hq := hq.out; obtain ⟨_, _, rfl, rfl⟩ := hq) | rintro _ _ ⟨rfl, rfl⟩ | rintro _ _ ⟨_, rfl, rfl⟩ | rintro _ _ ⟨_, _, rfl, rfl⟩ | (refine fun (hc : _ = _) => ?_; (try simp only [BB] at hc)) | refine fun (_ : Nat) => ?_ | refine fun (_ : _ ≤ _) => ?_ | refine fun (_ : _ < _) => ?_
    all_goals (try simp only [pk_adv, pk_say, Nat.add_zero, adv_adv, say_say, say_adv, pk_clr, adv_clr] at *)
    · have hge : s.inp.length ≤ s.pos + i := by by_cases h : s.pos + i < s.inp.length; (have := hpi h; omega); omega
      rw [hnil hge, valueGo_nil] at k1 k2 k3
      dsimp only at k1 k2 k3
      rw [List.nil_append, filter_nn k4, hve]
      dsimp only
      rw [← k1, ← k2, ← k3]
      exact Pst.mk ⟨rfl, rfl⟩ kk
    · have hlt : s.pos + i < s.inp.length := by by_cases h : s.pos + i < s.inp.length; exact h; have := hpn (by omega); omega
      rw [hst hlt, valueGo_cons, if_pos (by omega)] at k1 k2 k3
      dsimp only at k1 k2 k3
      rw [List.nil_append, filter_nn k4, hve]
      dsimp only
      rw [← k1, ← k2, ← k3]
      exact Pst.mk ⟨rfl, rfl⟩ kk
    · rename_i hA hB
      have hlt : s.pos + i < s.inp.length := by by_cases h : s.pos + i < s.inp.length; exact h; have := hpn (by omega); omega
      have hrf := refer_facts true (s.adv (i + 1)).rest
      have hrl := rest_len (s := s.adv (i + 1))
      have hrp : (s.adv (i + 1)).pos = s.pos + (i + 1) := rfl
      have hri : (s.adv (i + 1)).inp = s.inp := rfl
      rw [hrp, hri] at hrl
      rw [hst hlt, valueGo_cons, if_neg (fun h => by omega), if_neg (fun h => by omega), if_pos hc, ← rest_adv, adv_adv] at k1 k2 k3
      refine ih _ _ (i + 1 + (Md.refer true (s.adv (i + 1)).rest).2, _, acc ++ (Md.refer true (s.adv (i + 1)).rest).1) ⟨k1, k2, ?_, ?_, ?_, ?_⟩ ?_ ⟨rfl, rfl, trivial⟩ (by rw [refA_eq]; exact kk)
      · dsimp only at k3 ⊢; omega
      · intro r hr; rcases List.mem_append.1 hr with hr | hr; exact k4 r hr; exact hrf.2.2 r hr
      · simp only [List.length_append]; omega
      · dsimp only; omega
      · dsimp only; omega
    all_goals
      rename_i hA hB hC
      have hlt : s.pos + i < s.inp.length := by by_cases h : s.pos + i < s.inp.length; exact h; have := hpn (by omega); omega
      rw [hst hlt, valueGo_cons, if_neg (fun h => by omega), if_neg (fun h => by omega), if_neg hC] at k1 k2 k3
    · rw [Md.fixr, if_pos hc] at k1 k2 k3
      refine ih _ _ (i + 1, _, acc ++ [65533]) ⟨k1, k2, by dsimp only at k3 ⊢; omega, ?_, by simp; omega, by dsimp only; omega⟩ (by dsimp only; omega) ⟨rfl, rfl, trivial⟩ kk
      intro r hr; rcases List.mem_append.1 hr with hr | hr; exact k4 r hr; simp at hr; omega
    · rw [Md.fixr, if_neg hc] at k1 k2 k3
      refine ih _ _ (i + 1, _, acc ++ [s.pk i]) ⟨k1, k2, by dsimp only at k3 ⊢; omega, ?_, by simp; omega, by dsimp only; omega⟩ (by dsimp only; omega) ⟨rfl, rfl, trivial⟩ kk
      have := hpi hlt
      intro r hr; rcases List.mem_append.1 hr with hr | hr; exact k4 r hr; simp at hr; omega
  · rename_i t5 _
    generalize i = i0 at *
    rw [if_neg (by omega), if_pos (by omega)] at hve
    refine RS.loopW (α := Nat × Nat × List Int) (fun a => [(1, .ptr q 0), (4, .int .i32 (s.pk i0))]) (fun a => .own g.2 1 (s.text.map I32) :: .obj t5 (.cells [.lst g.2 (zOf g.2 1) (s.text.map I32)] none) :: .obj q (.cells [.ptr id 0] none) :: LX id ((s.adv a.1).clr.say a.2.2) (g.1, a.2.1) :: R)
      (fun a => (Md.valueGo (s.pk i0) (s.adv a.1).rest a.2.2).1 = (Md.valueGo (s.pk i0) (s.adv (i0 + 1)).rest []).1 ∧ (Md.valueGo (s.pk i0) (s.adv a.1).rest a.2.2).2.1 = (Md.valueGo (s.pk i0) (s.adv (i0 + 1)).rest []).2.1 ∧ a.1 + (Md.valueGo (s.pk i0) (s.adv a.1).rest a.2.2).2.2 = i0 + 1 + (Md.valueGo (s.pk i0) (s.adv (i0 + 1)).rest []).2.2 ∧ (∀ r ∈ a.2.2, 0 ≤ r) ∧ a.2.2.length ≤ 2 * a.1 ∧ s.pos + a.1 ≤ s.inp.length) (fun a => s.inp.length - (s.pos + a.1)) (i0 + 1, 0, []) ⟨rfl, rfl, rfl, by simp, by simp, by dsimp only; omega⟩ ⟨rfl, rfl, trivial⟩ .refl ?_
    clear hst hnil hpn hpi hbs
    rintro ⟨i, tt, acc⟩ ⟨k1, k2, k3, k4, k5, k6⟩ ih
    dsimp only [ents] at *
    (have hst := fun h => rest_adv_cons (s := s) (i := i) h; have hnil := fun h => rest_adv_nil (s := s) (i := i) h; have hpn := fun h => pk_out (s := s) (i := i) h; have hpi := fun h => pk_in (s := s) (i := i) hn h)
    have hfl := filter_le acc
    repeat' first | (show LD _ _ _ _; first | exact LX.ldText kk) | exact value1_FD kk kk kk kk | (show FC _ _ _ _ _; first | exact reference_F kk (by simp only [Md.Lx.adv, Md.Lx.say, Md.Lx.clr, List.nil_append, List.length_append]; omega) | exact say_F rfl kk kk (by simp only [Md.Lx.adv, Md.Lx.say, Md.Lx.clr, List.nil_append, List.length_append, List.length_cons, List.length_nil]; omega) | exact encode_F (rs := ([] ++ acc.filter (· != -1))) rfl (by simp only [List.nil_append]; omega) | exact peek0_F kk (by first | omega | ((simp only [Md.Lx.adv, Md.Lx.say, Md.Lx.clr, List.nil_append, List.length_append, List.length_cons, List.length_nil]); omega)) | exact peek1_F kk (by first | omega | ((simp only [Md.Lx.adv, Md.Lx.say, Md.Lx.clr, List.nil_append, List.length_append, List.length_cons, List.length_nil]); omega)) | exact peek6_F kk (by first | omega | ((simp only [Md.Lx.adv, Md.Lx.say, Md.Lx.clr, List.nil_append, List.length_append, List.length_cons, List.length_nil]); omega)) | exact next_F kk (by first | omega | ((simp only [Md.Lx.adv, Md.Lx.say, Md.Lx.clr, List.nil_append, List.length_append, List.length_cons, List.length_nil]); omega)) | exact back_F kk (by first | omega | ((simp only [Md.Lx.adv, Md.Lx.say, Md.Lx.clr, List.nil_append, List.length_append, List.length_cons, List.length_nil]); omega)) | exact blank_F | exact letter_F | exact small_F | exact encode_F rfl (by first | omega | ((simp only [Md.Lx.adv, Md.Lx.say, Md.Lx.clr, List.nil_append, List.length_append, List.length_cons, List.length_nil]); omega)) | exact say_F rfl kk kk (by first | omega | ((simp only [Md.Lx.adv, Md.Lx.say, Md.Lx.clr, List.nil_append, List.length_append, List.length_cons, List.length_nil]); omega)) | exact stands_F kk (by first | omega | ((simp only [Md.Lx.adv, Md.Lx.say, Md.Lx.clr, List.nil_append, List.length_append, List.length_cons, List.length_nil]); omega)) (by decide) (by first | omega | ((simp only [Md.Lx.adv, Md.Lx.say, Md.Lx.clr, List.nil_append, List.length_append, List.length_cons, List.length_nil]); omega)) | exact exact_F kk (by first | omega | ((simp only [Md.Lx.adv, Md.Lx.say, Md.Lx.clr, List.nil_append, List.length_append, List.length_cons, List.length_nil]); omega)) (by decide) (by first | omega | ((simp only [Md.Lx.adv, Md.Lx.say, Md.Lx.clr, List.nil_append, List.length_append, List.length_cons, List.length_nil]); omega))) | (refine fun _ (hq : _ = _) => ?_; subst hq) | (refine fun (hc : _ = _) => ?_; (try simp only [BB] at hc); (try (first | contradiction | (exfalso; omega)))) | exact arI | refine Pst.mk ⟨?_, rfl⟩ kk | constructor | (refine fun _ _ (hq : Hold _) => ?_; replace hq := hq.out; obtain ⟨_, rfl, rfl⟩ := hq) | (refine fun _ _ (hq : Hold _) => ?_; replace hq := hq.out; obtain ⟨_, _, rfl, rfl⟩ := hq) | rintro _ _ ⟨rfl, rfl⟩ | rintro _ _ ⟨_, rfl, rfl⟩ | rintro _ _ ⟨_, _, rfl, rfl⟩ | (refine fun (hc : _ = _) => ?_; (try simp only [BB] at hc)) | refine fun (_ : Nat) => ?_ | refine fun (_ : _ ≤ _) => ?_ | refine fun (_ : _ < _) => ?_
    all_goals (try simp only [pk_adv, pk_say, Nat.add_zero, adv_adv, say_say, say_adv, pk_clr, adv_clr] at *)
    · have hge : s.inp.length ≤ s.pos + i := by by_cases h : s.pos + i < s.inp.length; (have := hpi h; omega); omega
      rw [hnil hge, valueGo_nil] at k1 k2 k3
      dsimp only at k1 k2 k3
      rw [List.nil_append, filter_nn k4, hve]
      dsimp only
      rw [← k1, ← k2, ← k3]
      exact Pst.mk ⟨rfl, rfl⟩ kk
    · have hlt : s.pos + i < s.inp.length := by by_cases h : s.pos + i < s.inp.length; exact h; have := hpn (by omega); omega
      rw [hst hlt, valueGo_cons, if_pos (by omega)] at k1 k2 k3
      dsimp only at k1 k2 k3
      rw [List.nil_append, filter_nn k4, hve]
      dsimp only
      rw [← k1, ← k2, ← k3]
      exact Pst.mk ⟨rfl, rfl⟩ kk
    · rename_i hA hB
      have hlt : s.pos + i < s.inp.length := by by_cases h : s.pos + i < s.inp.length; exact h; have := hpn (by omega); omega
      have hrf := refer_facts true (s.adv (i + 1)).rest
      have hrl := rest_len (s := s.adv (i + 1))
      have hrp : (s.adv (i + 1)).pos = s.pos + (i + 1) := rfl
      have hri : (s.adv (i + 1)).inp = s.inp := rfl
      rw [hrp, hri] at hrl
      rw [hst hlt, valueGo_cons, if_neg (fun h => by omega), if_neg (fun h => by omega), if_pos hc, ← rest_adv, adv_adv] at k1 k2 k3
      refine ih _ _ (i + 1 + (Md.refer true (s.adv (i + 1)).rest).2, _, acc ++ (Md.refer true (s.adv (i + 1)).rest).1) ⟨k1, k2, ?_, ?_, ?_, ?_⟩ ?_ ⟨rfl, rfl, trivial⟩ (by rw [refA_eq]; exact kk)
      · dsimp only at k3 ⊢; omega
      · intro r hr; rcases List.mem_append.1 hr with hr | hr; exact k4 r hr; exact hrf.2.2 r hr
      · simp only [List.length_append]; omega
      · dsimp only; omega
      · dsimp only; omega
    all_goals
      rename_i hA hB hC
      have hlt : s.pos + i < s.inp.length := by by_cases h : s.pos + i < s.inp.length; exact h; have := hpn (by omega); omega
      rw [hst hlt, valueGo_cons, if_neg (fun h => by omega), if_neg (fun h => by omega), if_neg hC] at k1 k2 k3
    · rw [Md.fixr, if_pos hc] at k1 k2 k3
      refine ih _ _ (i + 1, _, acc ++ [65533]) ⟨k1, k2, by dsimp only at k3 ⊢; omega, ?_, by simp; omega, by dsimp only; omega⟩ (by dsimp only; omega) ⟨rfl, rfl, trivial⟩ kk
      intro r hr; rcases List.mem_append.1 hr with hr | hr; exact k4 r hr; simp at hr; omega
    · rw [Md.fixr, if_neg hc] at k1 k2 k3
      refine ih _ _ (i + 1, _, acc ++ [s.pk i]) ⟨k1, k2, by dsimp only at k3 ⊢; omega, ?_, by simp; omega, by dsimp only; omega⟩ (by dsimp only; omega) ⟨rfl, rfl, trivial⟩ kk
      have := hpi hlt
      intro r hr; rcases List.mem_append.1 hr with hr | hr; exact k4 r hr; simp at hr; omega
  · rw [hve, if_pos (by omega)]
    exact Pst.mk ⟨rfl, rfl⟩ kk
  · rename_i t5 _
    generalize i = i0 at *
    rw [if_neg (by omega), if_neg (by omega)] at hve
    refine RS.loopW (α := Nat × Nat × List Int) (fun a => [(1, .ptr q 0), (4, .int .i32 (0))]) (fun a => .own g.2 1 (s.text.map I32) :: .obj t5 (.cells [.lst g.2 (zOf g.2 1) (s.text.map I32)] none) :: .obj q (.cells [.ptr id 0] none) :: LX id ((s.adv a.1).clr.say a.2.2) (g.1, a.2.1) :: R)
      (fun a => (Md.valueGo (0) (s.adv a.1).rest a.2.2).1 = (Md.valueGo (0) (s.adv (i0)).rest []).1 ∧ (Md.valueGo (0) (s.adv a.1).rest a.2.2).2.1 = (Md.valueGo (0) (s.adv (i0)).rest []).2.1 ∧ a.1 + (Md.valueGo (0) (s.adv a.1).rest a.2.2).2.2 = i0 + (Md.valueGo (0) (s.adv (i0)).rest []).2.2 ∧ (∀ r ∈ a.2.2, 0 ≤ r) ∧ a.2.2.length ≤ 2 * a.1 ∧ s.pos + a.1 ≤ s.inp.length) (fun a => s.inp.length - (s.pos + a.1)) (i0, 0, []) ⟨rfl, rfl, rfl, by simp, by simp, by dsimp only; omega⟩ ⟨rfl, rfl, trivial⟩ .refl ?_
    clear hst hnil hpn hpi hbs
    rintro ⟨i, tt, acc⟩ ⟨k1, k2, k3, k4, k5, k6⟩ ih
    dsimp only [ents] at *
    (have hst := fun h => rest_adv_cons (s := s) (i := i) h; have hnil := fun h => rest_adv_nil (s := s) (i := i) h; have hpn := fun h => pk_out (s := s) (i := i) h; have hpi := fun h => pk_in (s := s) (i := i) hn h)
    have hfl := filter_le acc
    repeat' first | (show LD _ _ _ _; first | exact LX.ldText kk) | exact value1_FD kk kk kk kk | (show FC _ _ _ _ _; first | exact reference_F kk (by simp only [Md.Lx.adv, Md.Lx.say, Md.Lx.clr, List.nil_append, List.length_append]; omega) | exact say_F rfl kk kk (by simp only [Md.Lx.adv, Md.Lx.say, Md.Lx.clr, List.nil_append, List.length_append, List.length_cons, List.length_nil]; omega) | exact encode_F (rs := ([] ++ acc.filter (· != -1))) rfl (by simp only [List.nil_append]; omega) | exact peek0_F kk (by first | omega | ((simp only [Md.Lx.adv, Md.Lx.say, Md.Lx.clr, List.nil_append, List.length_append, List.length_cons, List.length_nil]); omega)) | exact peek1_F kk (by first | omega | ((simp only [Md.Lx.adv, Md.Lx.say, Md.Lx.clr, List.nil_append, List.length_append, List.length_cons, List.length_nil]); omega)) | exact peek6_F kk (by first | omega | ((simp only [Md.Lx.adv, Md.Lx.say, Md.Lx.clr, List.nil_append, List.length_append, List.length_cons, List.length_nil]); omega)) | exact next_F kk (by first | omega | ((simp only [Md.Lx.adv, Md.Lx.say, Md.Lx.clr, List.nil_append, List.length_append, List.length_cons, List.length_nil]); omega)) | exact back_F kk (by first | omega | ((simp only [Md.Lx.adv, Md.Lx.say, Md.Lx.clr, List.nil_append, List.length_append, List.length_cons, List.length_nil]); omega)) | exact blank_F | exact letter_F | exact small_F | exact encode_F rfl (by first | omega | ((simp only [Md.Lx.adv, Md.Lx.say, Md.Lx.clr, List.nil_append, List.length_append, List.length_cons, List.length_nil]); omega)) | exact say_F rfl kk kk (by first | omega | ((simp only [Md.Lx.adv, Md.Lx.say, Md.Lx.clr, List.nil_append, List.length_append, List.length_cons, List.length_nil]); omega)) | exact stands_F kk (by first | omega | ((simp only [Md.Lx.adv, Md.Lx.say, Md.Lx.clr, List.nil_append, List.length_append, List.length_cons, List.length_nil]); omega)) (by decide) (by first | omega | ((simp only [Md.Lx.adv, Md.Lx.say, Md.Lx.clr, List.nil_append, List.length_append, List.length_cons, List.length_nil]); omega)) | exact exact_F kk (by first | omega | ((simp only [Md.Lx.adv, Md.Lx.say, Md.Lx.clr, List.nil_append, List.length_append, List.length_cons, List.length_nil]); omega)) (by decide) (by first | omega | ((simp only [Md.Lx.adv, Md.Lx.say, Md.Lx.clr, List.nil_append, List.length_append, List.length_cons, List.length_nil]); omega))) | (refine fun _ (hq : _ = _) => ?_; subst hq) | (refine fun (hc : _ = _) => ?_; (try simp only [BB] at hc); (try (first | contradiction | (exfalso; omega)))) | exact arI | refine Pst.mk ⟨?_, rfl⟩ kk | constructor | (refine fun _ _ (hq : Hold _) => ?_; replace hq := hq.out; obtain ⟨_, rfl, rfl⟩ := hq) | (refine fun _ _ (hq : Hold _) => ?_; replace hq := hq.out; obtain ⟨_, _, rfl, rfl⟩ := hq) | rintro _ _ ⟨rfl, rfl⟩ | rintro _ _ ⟨_, rfl, rfl⟩ | rintro _ _ ⟨_, _, rfl, rfl⟩ | (refine fun (hc : _ = _) => ?_; (try simp only [BB] at hc)) | refine fun (_ : Nat) => ?_ | refine fun (_ : _ ≤ _) => ?_ | refine fun (_ : _ < _) => ?_
    all_goals (try simp only [pk_adv, pk_say, Nat.add_zero, adv_adv, say_say, say_adv, pk_clr, adv_clr] at *)
    · have hge : s.inp.length ≤ s.pos + i := by by_cases h : s.pos + i < s.inp.length; (have := hpi h; omega); omega
      rw [hnil hge, valueGo_nil] at k1 k2 k3
      dsimp only at k1 k2 k3
      rw [List.nil_append, filter_nn k4, hve]
      dsimp only
      rw [← k1, ← k2, ← k3]
      exact Pst.mk ⟨rfl, rfl⟩ kk
    · have hlt : s.pos + i < s.inp.length := by by_cases h : s.pos + i < s.inp.length; exact h; have := hpn (by omega); omega
      rw [hst hlt, valueGo_cons, if_neg (fun h => h.1 rfl), if_pos ⟨rfl, hc⟩] at k1 k2 k3
      dsimp only at k1 k2 k3
      rw [List.nil_append, filter_nn k4, hve]
      dsimp only
      rw [← k1, ← k2, ← k3]
      exact Pst.mk ⟨rfl, rfl⟩ kk
    · rename_i hA hB
      have hlt : s.pos + i < s.inp.length := by by_cases h : s.pos + i < s.inp.length; exact h; have := hpn (by omega); omega
      have hrf := refer_facts true (s.adv (i + 1)).rest
      have hrl := rest_len (s := s.adv (i + 1))
      have hrp : (s.adv (i + 1)).pos = s.pos + (i + 1) := rfl
      have hri : (s.adv (i + 1)).inp = s.inp := rfl
      rw [hrp, hri] at hrl
      rw [hst hlt, valueGo_cons, if_neg (fun h => h.1 rfl), if_neg (fun h => h.2.elim (fun hx => by rw [hB.1] at hx; cases hx) hB.2), if_pos hc, ← rest_adv, adv_adv] at k1 k2 k3
      refine ih _ _ (i + 1 + (Md.refer true (s.adv (i + 1)).rest).2, _, acc ++ (Md.refer true (s.adv (i + 1)).rest).1) ⟨k1, k2, ?_, ?_, ?_, ?_⟩ ?_ ⟨rfl, rfl, trivial⟩ (by rw [refA_eq]; exact kk)
      · dsimp only at k3 ⊢; omega
      · intro r hr; rcases List.mem_append.1 hr with hr | hr; exact k4 r hr; exact hrf.2.2 r hr
      · simp only [List.length_append]; omega
      · dsimp only; omega
      · dsimp only; omega
    all_goals
      rename_i hA hB hC
      have hlt : s.pos + i < s.inp.length := by by_cases h : s.pos + i < s.inp.length; exact h; have := hpn (by omega); omega
      rw [hst hlt, valueGo_cons, if_neg (fun h => h.1 rfl), if_neg (fun h => h.2.elim (fun hx => by rw [hB.1] at hx; cases hx) hB.2), if_neg hC] at k1 k2 k3
    · rw [Md.fixr, if_pos hc] at k1 k2 k3
      refine ih _ _ (i + 1, _, acc ++ [65533]) ⟨k1, k2, by dsimp only at k3 ⊢; omega, ?_, by simp; omega, by dsimp only; omega⟩ (by dsimp only; omega) ⟨rfl, rfl, trivial⟩ kk
      intro r hr; rcases List.mem_append.1 hr with hr | hr; exact k4 r hr; simp at hr; omega
    · rw [Md.fixr, if_neg hc] at k1 k2 k3
      refine ih _ _ (i + 1, _, acc ++ [s.pk i]) ⟨k1, k2, by dsimp only at k3 ⊢; omega, ?_, by simp; omega, by dsimp only; omega⟩ (by dsimp only; omega) ⟨rfl, rfl, trivial⟩ kk
      have := hpi hlt
      intro r hr; rcases List.mem_append.1 hr with hr | hr; exact k4 r hr; simp at hr; omega
end Go.Proofs.YticnenofiibpgaaDoor.Code
/- What attributes' look-up, the lexer's attr, attrs, tag do. -/
namespace Go.Md
/-- The place of the first attribute of a name; -1: there is none. -/
def idxA (n : Str) : List (Str × Str) → Nat → Int
  | [], _ => -1
  | a :: l, i => if a.1 = n then i else idxA n l (i + 1)
def getA (al : List (Str × Str)) (n : Str) : Str × Bool := if idxA n al 0 < 0 then ([], false) else ((al.getD (idxA n al 0).toNat default).2, true)
theorem idxA_spec (n : Str) : ∀ (l : List (Str × Str)) (i : Nat), (hasAttr l n = false ∧ idxA n l i = -1) ∨ (hasAttr l n = true ∧ (i : Int) ≤ idxA n l i ∧ idxA n l i < i + l.length)
  | [], i => .inl ⟨rfl, rfl⟩
  | a :: l, i => by
    simp only [hasAttr, List.any_cons, idxA]
    by_cases h : a.1 = n
    · right; simp [h]
      omega
    · rw [if_neg h, beq_false_of_ne h, Bool.false_or]
      have := idxA_spec n l (i + 1)
      simp only [hasAttr] at this
      rcases this with ⟨h1, h2⟩ | ⟨h1, h2, h3⟩
      · exact .inl ⟨h1, h2⟩
      · exact .inr ⟨h1, by omega, by simp only [List.length_cons]; omega⟩
theorem getA_snd (al : List (Str × Str)) (n : Str) : (getA al n).2 = hasAttr al n := by
  unfold getA
  rcases idxA_spec n al 0 with ⟨h1, h2⟩ | ⟨h1, h2, h3⟩
  · rw [if_pos (by omega), h1]
  · rw [if_neg (by omega), h1]
end Go.Md
namespace Go.Proofs.YticnenofiibpgaaDoor.Code
open Go.Dm Go.Dm.C
set_option linter.unusedSimpArgs false
set_option linter.unusedVariables false
set_option linter.unnecessarySimpa false
set_option maxRecDepth 10000
attribute [local irreducible] Go.Dm.F Go.Dm.RS Go.Dm.Y Go.Dm.FD Go.Dm.FZ1 Go.Dm.Hold
theorem drop_cons_getD {α : Type} [Inhabited α] {l : List α} {i : Nat} (h : i < l.length) : l.drop i = l.getD i default :: l.drop (i + 1) := by
  rw [List.drop_eq_getElem_cons h, List.getD_eq_getElem?_getD, List.getElem?_eq_getElem h]; rfl
section
variable {R : List Ck} {cs : List Ck}
theorem get1_F {q : Nat} {a b n : Md.Str} (hm : Me (.obj q (.cells [.str n] none)) cs) : F D 122 [.agg [.str a, .str b], .ptr q 0] cs (fun v cs' => v = .bool (decide (a = n)) ∧ cs = cs') := by
  refine F.atM hm fun R => F.of rfl rfl rfl ?_
  repeat' first | exact arI | refine Pst.mk ⟨?_, rfl⟩ kk | constructor | (refine fun _ _ (hq : Hold _) => ?_; replace hq := hq.out; obtain ⟨_, rfl, rfl⟩ := hq) | (refine fun _ _ (hq : Hold _) => ?_; replace hq := hq.out; obtain ⟨_, _, rfl, rfl⟩ := hq) | rintro _ _ ⟨rfl, rfl⟩ | rintro _ _ ⟨_, rfl, rfl⟩ | rintro _ _ ⟨_, _, rfl, rfl⟩ | (refine fun (hc : _ = _) => ?_; (try simp only [BB] at hc)) | refine fun (_ : Nat) => ?_ | refine fun (_ : _ ≤ _) => ?_ | refine fun (_ : _ < _) => ?_
theorem indexFunc_F {q t z : Nat} {n : Md.Str} {al : List (Md.Str × Md.Str)} (hz : z = zOf t 2) (hl : al.length ≤ 100000000000) (hm : Me (.obj q (.cells [.str n] none)) cs) :
    F D 76 [.lst t z (al.map encA), .fn (.func 122) [] [.ptr q 0]] cs (fun v cs' => v = .int .i64 (Md.idxA n al 0) ∧ cs = cs') := by
  subst hz
  refine F.atM hm fun R => F.of rfl rfl rfl ?_
  repeat' first | exact arI | refine Pst.mk ⟨?_, rfl⟩ kk | constructor | (refine fun _ _ (hq : Hold _) => ?_; replace hq := hq.out; obtain ⟨_, rfl, rfl⟩ := hq) | (refine fun _ _ (hq : Hold _) => ?_; replace hq := hq.out; obtain ⟨_, _, rfl, rfl⟩ := hq) | rintro _ _ ⟨rfl, rfl⟩ | rintro _ _ ⟨_, rfl, rfl⟩ | rintro _ _ ⟨_, _, rfl, rfl⟩ | (refine fun (hc : _ = _) => ?_; (try simp only [BB] at hc)) | refine fun (_ : Nat) => ?_ | refine fun (_ : _ ≤ _) => ?_ | refine fun (_ : _ < _) => ?_
  refine RS.loopW (α := Nat) (fun i => [(0, .lst t (zOf t 2) (al.map encA)), (1, .fn (.func 122) [] [.ptr q 0]), (7, .int .i64 al.length), (8, .int .i64 (i : Nat))]) (fun _ => .obj q (.cells [.str n] none) :: R)
    (fun i => i ≤ al.length ∧ Md.idxA n (al.drop i) i = Md.idxA n al 0) (fun i => al.length - i) 0 ⟨by simp, by simp⟩ ⟨rfl, rfl, rfl, rfl, trivial⟩ .refl ?_
  rintro i ⟨h1, h2⟩ ih
  dsimp only [ents] at *
  repeat' first | (show FC _ _ _ _ _; exact get1_F kk) | (refine fun (hc : _ = _) => ?_; (try simp only [BB] at hc); (try (first | contradiction | (exfalso; omega)))) | exact arI | refine Pst.mk ⟨?_, rfl⟩ kk | constructor | (refine fun _ _ (hq : Hold _) => ?_; replace hq := hq.out; obtain ⟨_, rfl, rfl⟩ := hq) | (refine fun _ _ (hq : Hold _) => ?_; replace hq := hq.out; obtain ⟨_, _, rfl, rfl⟩ := hq) | rintro _ _ ⟨rfl, rfl⟩ | rintro _ _ ⟨_, rfl, rfl⟩ | rintro _ _ ⟨_, _, rfl, rfl⟩ | (refine fun (hc : _ = _) => ?_; (try simp only [BB] at hc)) | refine fun (_ : Nat) => ?_ | refine fun (_ : _ ≤ _) => ?_ | refine fun (_ : _ < _) => ?_
  all_goals
    by_cases hlt : i < al.length
    · rw [drop_cons_getD hlt] at h2
      simp only [Md.idxA] at h2
      first
        | (rw [if_pos hc] at h2; rw [← h2])
        | (rw [if_neg hc] at h2; exact ih _ _ (i + 1) ⟨by omega, h2⟩ (by omega) ⟨rfl, rfl, rfl, rfl, trivial⟩ kk)
        | omega
    · rw [List.drop_eq_nil_of_le (by omega)] at h2
      first | omega | (rw [← h2]; rfl)
theorem tget_F {t z : Nat} {n : Md.Str} {al : List (Md.Str × Md.Str)} (hz : z = zOf t 2) (hl : al.length ≤ 100000000000) : F D 121 [.lst t z (al.map encA), .str n] R (fun v cs' => v = .tup [.str (Md.getA al n).1, .bool (Md.getA al n).2] ∧ R = cs') := by
  subst hz
  have hs := Md.idxA_spec n al 0
  refine F.of rfl rfl rfl ?_
  repeat' first | (show FC _ _ _ _ _; exact indexFunc_F rfl hl kk) | (refine fun (hc : _ = _) => ?_; (try simp only [BB] at hc); (try (first | contradiction | (exfalso; omega)))) | exact arI | refine Pst.mk ⟨?_, rfl⟩ kk | constructor | (refine fun _ _ (hq : Hold _) => ?_; replace hq := hq.out; obtain ⟨_, rfl, rfl⟩ := hq) | (refine fun _ _ (hq : Hold _) => ?_; replace hq := hq.out; obtain ⟨_, _, rfl, rfl⟩ := hq) | rintro _ _ ⟨rfl, rfl⟩ | rintro _ _ ⟨_, rfl, rfl⟩ | rintro _ _ ⟨_, _, rfl, rfl⟩ | (refine fun (hc : _ = _) => ?_; (try simp only [BB] at hc)) | refine fun (_ : Nat) => ?_ | refine fun (_ : _ ≤ _) => ?_ | refine fun (_ : _ < _) => ?_
  · rw [Md.getA, if_pos hc]
  · rw [Md.getA, if_neg hc]
theorem ttget_F {t : Md.Tok} {ta : Nat} {n : Md.Str} {xs : List DV} (hx : xs = [.int .i64 t.kind, .str t.name, .lst ta (zOf ta 2) (t.attrs.map encA), .bool t.self, .str t.data, .str t.pub, .str t.sys, .bool t.hasPub, .bool t.hasSys, .bool t.quirks]) (hl : t.attrs.length ≤ 100000000000) :
    F D 119 [.agg xs, .str n] R (fun v cs' => v = .tup [.str (Md.getA t.attrs n).1, .bool (Md.getA t.attrs n).2] ∧ R = cs') := by
  subst hx
  refine F.of rfl rfl rfl ?_
  repeat' first | (show FC _ _ _ _ _; exact tget_F rfl hl) | (refine fun (hc : _ = _) => ?_; (try simp only [BB] at hc); (try (first | contradiction | (exfalso; omega)))) | exact arI | refine Pst.mk ⟨?_, rfl⟩ kk | constructor | (refine fun _ _ (hq : Hold _) => ?_; replace hq := hq.out; obtain ⟨_, rfl, rfl⟩ := hq) | (refine fun _ _ (hq : Hold _) => ?_; replace hq := hq.out; obtain ⟨_, _, rfl, rfl⟩ := hq) | rintro _ _ ⟨rfl, rfl⟩ | rintro _ _ ⟨_, rfl, rfl⟩ | rintro _ _ ⟨_, _, rfl, rfl⟩ | (refine fun (hc : _ = _) => ?_; (try simp only [BB] at hc)) | refine fun (_ : Nat) => ?_ | refine fun (_ : _ ≤ _) => ?_ | refine fun (_ : _ < _) => ?_
end
end Go.Proofs.YticnenofiibpgaaDoor.Code
/- What the lexer's attr does. -/
namespace Go.Proofs.YticnenofiibpgaaDoor.Code
open Go.Dm Go.Dm.C
set_option linter.unusedSimpArgs false
set_option linter.unusedVariables false
set_option linter.unnecessarySimpa false
set_option maxRecDepth 10000
attribute [local irreducible] Go.Dm.F Go.Dm.RS Go.Dm.Y Go.Dm.FD Go.Dm.FZ1 Go.Dm.Hold
abbrev tcell (t : Md.Tok) (ta : Nat) : HObj := .cells [.int .i64 t.kind, .str t.name, .lst ta (zOf ta 2) (t.attrs.map encA), .bool t.self, .str t.data, .str t.pub, .str t.sys, .bool t.hasPub, .bool t.hasSys, .bool t.quirks] none
variable {id : Nat} {s : Md.Lx} {g : Nat × Nat} {cs : List Ck}
def attrTail (l : List Int) : List Int := l.takeWhile fun r => !(Md.over r || r == 61)
theorem attrTail_cons {r : Int} {l : List Int} : attrTail (r :: l) = if Md.over r = true ∨ r = 61 then [] else r :: attrTail l := by
  simp only [attrTail, List.takeWhile_cons]
  by_cases h1 : Md.over r = true
  · simp [h1]
  · rw [Bool.not_eq_true] at h1
    by_cases h2 : r = 61
    · simp [h2]
    · simp [h1, h2]
theorem attrName_cons {r : Int} {l : List Int} : Md.attrName (r :: l) = if Md.over r = true then [] else r :: attrTail l := rfl
def attrPart (i : Nat) (l : List Int) : List Int := if i = 0 then Md.attrName l else attrTail l
theorem attrPart_nil (i : Nat) : attrPart i [] = [] := by unfold attrPart; split <;> rfl
theorem attrPart_stop {i : Nat} {r : Int} {l : List Int} (h : Md.over r = true ∨ (r = 61 ∧ i ≠ 0)) : attrPart i (r :: l) = [] := by
  unfold attrPart
  by_cases hi : i = 0
  · rw [if_pos hi, attrName_cons, if_pos (h.resolve_right fun h => h.2 hi)]
  · rw [if_neg hi, attrTail_cons, if_pos (h.imp (fun h => h) (fun h => h.1))]
theorem attrPart_go {i : Nat} {r : Int} {l : List Int} (h1 : Md.over r = false) (h2 : r = 61 → i = 0) : attrPart i (r :: l) = r :: attrPart (i + 1) l := by
  unfold attrPart
  rw [if_neg (show ¬ i + 1 = 0 by omega)]
  by_cases hi : i = 0
  · rw [if_pos hi, attrName_cons, if_neg (by simp [h1])]
  · rw [if_neg hi, attrTail_cons, if_neg (by rintro (h | h); (rw [h1] at h; cases h); exact hi (h2 h))]
theorem attr1_eq : Md.attr1 s.rest = if s.pk ((Md.attrName s.rest).length + Md.blanksN (s.adv (Md.attrName s.rest).length).rest) = 61 then
    ((Md.encode ((Md.attrName s.rest).map fun r => Md.small (Md.fixr r)), (Md.value (s.adv ((Md.attrName s.rest).length + Md.blanksN (s.adv (Md.attrName s.rest).length).rest + 1)).rest).1), (Md.value (s.adv ((Md.attrName s.rest).length + Md.blanksN (s.adv (Md.attrName s.rest).length).rest + 1)).rest).2.1, (Md.attrName s.rest).length + Md.blanksN (s.adv (Md.attrName s.rest).length).rest + 1 + (Md.value (s.adv ((Md.attrName s.rest).length + Md.blanksN (s.adv (Md.attrName s.rest).length).rest + 1)).rest).2.2)
    else ((Md.encode ((Md.attrName s.rest).map fun r => Md.small (Md.fixr r)), []), true, (Md.attrName s.rest).length + Md.blanksN (s.adv (Md.attrName s.rest).length).rest) := by
  simp only [Md.attr1, pk_rest, rest_adv]
set_option maxHeartbeats 1000000 in
theorem attr_F {t : Md.Tok} {ta q : Nat} {c1 c2 R : List Ck} (h1 : Rem (LX id s g) cs c1) (h2 : Rem (.obj q (tcell t ta)) c1 c2) (h3 : Rem (.own ta 2 (t.attrs.map encA)) c2 R) (hb : s.inp.length ≤ 1000000000 ∧ s.pos ≤ s.inp.length ∧ t.attrs.length ≤ 1000000000) (hn : ∀ r ∈ s.inp, 0 ≤ r) :
    F D 116 [.ptr id 0, .ptr q 0] cs (fun v cs' => Hold (∃ a, v = .bool (Md.attr1 s.rest).2.1 ∧ (LX id (s.adv (Md.attr1 s.rest).2.2) g :: .obj q (tcell { t with attrs := Md.putAttr t.attrs (Md.attr1 s.rest).1 } a) :: .own a 2 ((Md.putAttr t.attrs (Md.attr1 s.rest).1).map encA) :: R) = cs')) := by
  refine F.perm (h1.perm'.trans ((h2.perm'.trans (h3.perm'.cons _)).cons _)) (F.of rfl rfl rfl ?_)
  repeat' first | exact arI | refine Pst.mk ⟨?_, rfl⟩ kk | constructor | (refine fun _ _ (hq : Hold _) => ?_; replace hq := hq.out; obtain ⟨_, rfl, rfl⟩ := hq) | (refine fun _ _ (hq : Hold _) => ?_; replace hq := hq.out; obtain ⟨_, _, rfl, rfl⟩ := hq) | rintro _ _ ⟨rfl, rfl⟩ | rintro _ _ ⟨_, rfl, rfl⟩ | rintro _ _ ⟨_, _, rfl, rfl⟩ | (refine fun (hc : _ = _) => ?_; (try simp only [BB] at hc)) | refine fun (_ : Nat) => ?_ | refine fun (_ : _ ≤ _) => ?_ | refine fun (_ : _ < _) => ?_
  refine RS.nilOwn 1 (RS.loopW (α := Nat × Nat × List Int) (fun a => [(0, .ptr id 0), (1, .ptr q 0), (5, .lst a.2.1 (zOf a.2.1 1) (a.2.2.map I32)), (6, .bool (decide (a.1 = 0)))]) (fun a => .own a.2.1 1 (a.2.2.map I32) :: LX id (s.adv a.1) g :: .obj q (tcell t ta) :: .own ta 2 (t.attrs.map encA) :: R)
    (fun a => a.1 + (attrPart a.1 (s.adv a.1).rest).length = (Md.attrName s.rest).length ∧ s.pos + a.1 ≤ s.inp.length ∧ a.2.2.length = a.1 ∧ a.2.2 ++ (attrPart a.1 (s.adv a.1).rest).map (fun r => Md.small (Md.fixr r)) = (Md.attrName s.rest).map (fun r => Md.small (Md.fixr r))) (fun a => s.inp.length - (s.pos + a.1)) (0, 0, []) ⟨by simp [adv_zero, attrPart], by dsimp only; omega, rfl, by simp [adv_zero, attrPart]⟩ ⟨rfl, rfl, rfl, rfl, trivial⟩ .refl ?_)
  rintro ⟨i, tb, acc⟩ ⟨k1, k2, k3, k4⟩ ih
  dsimp only [ents] at *
  (have hst := fun h => rest_adv_cons (s := s) (i := i) h; have hnil := fun h => rest_adv_nil (s := s) (i := i) h; have hpn := fun h => pk_out (s := s) (i := i) h; have hpi := fun h => pk_in (s := s) (i := i) hn h)
  repeat' first | (show LD _ _ _ _; first | exact LX.ldPos kk | exact LX.ldWay kk | exact LX.ldLast kk | exact LX.ldRoom kk | exact LX.ldDone kk | exact LX.ldText kk) | (apply RR.lxIn; exact rfl; exact rfl; exact rfl; exact kk; refine fun _ => ?_) | (apply RR.lxOut; exact rfl; exact rfl; exact rfl; exact kk; refine fun _ => ?_) | (apply RR.storeS; exact rfl; exact rfl; first | exact LX.stPos 1 rfl kk | exact LX.stPos 2 rfl kk | exact LX.stPos 3 rfl kk | exact LX.stPos 6 rfl kk | exact LX.stPos 7 rfl kk | exact LX.stPos _ rfl kk | exact LX.stPos2 1 _ kk | exact LX.stPos2 2 _ kk | exact LX.stWay kk | exact LX.stLast kk | exact LX.stRoom kk | exact LX.stDone kk; exact rfl) | (show FC _ _ _ _ _; first | exact peek0_F kk (by first | omega | ((simp only [Md.Lx.adv, Md.Lx.say, Md.Lx.clr, List.nil_append, List.length_append, List.length_cons, List.length_nil]); omega)) | exact peek1_F kk (by first | omega | ((simp only [Md.Lx.adv, Md.Lx.say, Md.Lx.clr, List.nil_append, List.length_append, List.length_cons, List.length_nil]); omega)) | exact peek6_F kk (by first | omega | ((simp only [Md.Lx.adv, Md.Lx.say, Md.Lx.clr, List.nil_append, List.length_append, List.length_cons, List.length_nil]); omega)) | exact next_F kk (by first | omega | ((simp only [Md.Lx.adv, Md.Lx.say, Md.Lx.clr, List.nil_append, List.length_append, List.length_cons, List.length_nil]); omega)) | exact back_F kk (by first | omega | ((simp only [Md.Lx.adv, Md.Lx.say, Md.Lx.clr, List.nil_append, List.length_append, List.length_cons, List.length_nil]); omega)) | exact blank_F | exact letter_F | exact small_F | exact encode_F rfl (by first | omega | ((simp only [Md.Lx.adv, Md.Lx.say, Md.Lx.clr, List.nil_append, List.length_append, List.length_cons, List.length_nil]); omega)) | exact say_F rfl kk kk (by first | omega | ((simp only [Md.Lx.adv, Md.Lx.say, Md.Lx.clr, List.nil_append, List.length_append, List.length_cons, List.length_nil]); omega)) | exact stands_F kk (by first | omega | ((simp only [Md.Lx.adv, Md.Lx.say, Md.Lx.clr, List.nil_append, List.length_append, List.length_cons, List.length_nil]); omega)) (by decide) (by first | omega | ((simp only [Md.Lx.adv, Md.Lx.say, Md.Lx.clr, List.nil_append, List.length_append, List.length_cons, List.length_nil]); omega)) | exact exact_F kk (by first | omega | ((simp only [Md.Lx.adv, Md.Lx.say, Md.Lx.clr, List.nil_append, List.length_append, List.length_cons, List.length_nil]); omega)) (by decide) (by first | omega | ((simp only [Md.Lx.adv, Md.Lx.say, Md.Lx.clr, List.nil_append, List.length_append, List.length_cons, List.length_nil]); omega))) | (refine fun (hc : _ = _) => ?_; (try simp only [BB] at hc); (try (first | contradiction | (exfalso; omega)))) | (refine Arith.mk ?_; (try intro _); simp only [Md.Lx.adv, Md.Lx.say, Md.Lx.clr, List.nil_append, List.length_append, List.length_cons, List.length_nil]; omega) | exact arI | refine Pst.mk ⟨?_, rfl⟩ kk | constructor | (refine fun _ _ (hq : Hold _) => ?_; replace hq := hq.out; obtain ⟨_, rfl, rfl⟩ := hq) | (refine fun _ _ (hq : Hold _) => ?_; replace hq := hq.out; obtain ⟨_, _, rfl, rfl⟩ := hq) | rintro _ _ ⟨rfl, rfl⟩ | rintro _ _ ⟨_, rfl, rfl⟩ | rintro _ _ ⟨_, _, rfl, rfl⟩ | (refine fun (hc : _ = _) => ?_; (try simp only [BB] at hc)) | refine fun (_ : Nat) => ?_ | refine fun (_ : _ ≤ _) => ?_ | refine fun (_ : _ < _) => ?_
  all_goals (try simp only [pk_adv, pk_say, Nat.add_zero, adv_adv, say_say, say_adv, pk_clr, adv_clr] at *)
  rotate_left
  · rename_i hA
    have hlt : s.pos + i < s.inp.length := by by_cases h : s.pos + i < s.inp.length; exact h; have := hpn (by omega); omega
    rw [hst hlt, attrPart_go (by rw [over_f]; exact hA.1.1) hA.2] at k1 k4
    simp only [List.map_cons, List.length_cons] at k1 k4
    rw [show Md.fixr (s.pk i) = 65533 from if_pos hc] at k4
    exact ih _ _ (i + 1, _, acc ++ [Md.small 65533]) ⟨by dsimp only; omega, by dsimp only; omega, by simp [k3], by rw [← k4]; simp⟩ (by dsimp only; omega) ⟨rfl, rfl, rfl, rfl, trivial⟩ kk
  · rename_i hA
    have hlt : s.pos + i < s.inp.length := by by_cases h : s.pos + i < s.inp.length; exact h; have := hpn (by omega); omega
    rw [hst hlt, attrPart_go (by rw [over_f]; exact hA.1.1) hA.2] at k1 k4
    simp only [List.map_cons, List.length_cons] at k1 k4
    rw [show Md.fixr (s.pk i) = s.pk i from if_neg hc] at k4
    exact ih _ _ (i + 1, _, acc ++ [Md.small (s.pk i)]) ⟨by dsimp only; omega, by dsimp only; omega, by simp [k3], by rw [← k4]; simp⟩ (by dsimp only; omega) ⟨rfl, rfl, rfl, rfl, trivial⟩ kk
  rename_i t8 _
  have hstop : attrPart i (s.adv i).rest = [] := by
    by_cases hlt : s.pos + i < s.inp.length
    · rw [hst hlt]
      refine attrPart_stop ?_
      have := hpi hlt
      rcases hc with (hc | hc) | hc
      · exact .inl (by rw [over_t]; exact hc)
      · omega
      · exact .inr hc
    · rw [hnil (by omega)]; exact attrPart_nil i
  rw [hstop] at k1 k4
  simp only [List.map_nil, List.append_nil, List.length_nil, Nat.add_zero] at k1 k4
  subst k4
  generalize i = n0 at *
  refine RS.loopW (α := Nat) (fun a => [(0, .ptr id 0), (1, .ptr q 0), (8, .ptr t8 0)]) (fun a => .obj t8 (.cells [.str (Md.encode ((Md.attrName s.rest).map fun r => Md.small (Md.fixr r))), .str []] none) :: LX id (s.adv a) g :: .obj q (tcell t ta) :: .own ta 2 (t.attrs.map encA) :: R)
    (fun a => a + Md.blanksN (s.adv a).rest = n0 + Md.blanksN (s.adv n0).rest ∧ s.pos + a ≤ s.inp.length) (fun a => s.inp.length - (s.pos + a)) n0 ⟨rfl, k2⟩ ⟨rfl, rfl, rfl, trivial⟩ kk ?_
  clear hst hnil hpn hpi ih hc hstop
  rintro i ⟨m1, m2⟩ ih
  dsimp only [ents] at *
  (have hst := fun h => rest_adv_cons (s := s) (i := i) h; have hnil := fun h => rest_adv_nil (s := s) (i := i) h; have hpn := fun h => pk_out (s := s) (i := i) h; have hpi := fun h => pk_in (s := s) (i := i) hn h)
  have hbs := fun h => blanksN_step (s := s.adv i) h
  rw [adv_adv] at hbs
  have e0 : (s.adv i).pk 0 = s.pk i := pk_adv i 0
  repeat' first | (show FC _ _ _ _ _; first | exact value_F kk (by simp only [Md.Lx.adv]; omega) (by exact hn) | exact ttget_F (t := t) (ta := ta) rfl (by omega) | exact peek0_F kk (by first | omega | ((simp only [Md.Lx.adv, Md.Lx.say, Md.Lx.clr, List.nil_append, List.length_append, List.length_cons, List.length_nil]); omega)) | exact peek1_F kk (by first | omega | ((simp only [Md.Lx.adv, Md.Lx.say, Md.Lx.clr, List.nil_append, List.length_append, List.length_cons, List.length_nil]); omega)) | exact peek6_F kk (by first | omega | ((simp only [Md.Lx.adv, Md.Lx.say, Md.Lx.clr, List.nil_append, List.length_append, List.length_cons, List.length_nil]); omega)) | exact next_F kk (by first | omega | ((simp only [Md.Lx.adv, Md.Lx.say, Md.Lx.clr, List.nil_append, List.length_append, List.length_cons, List.length_nil]); omega)) | exact back_F kk (by first | omega | ((simp only [Md.Lx.adv, Md.Lx.say, Md.Lx.clr, List.nil_append, List.length_append, List.length_cons, List.length_nil]); omega)) | exact blank_F | exact letter_F | exact small_F | exact encode_F rfl (by first | omega | ((simp only [Md.Lx.adv, Md.Lx.say, Md.Lx.clr, List.nil_append, List.length_append, List.length_cons, List.length_nil]); omega)) | exact say_F rfl kk kk (by first | omega | ((simp only [Md.Lx.adv, Md.Lx.say, Md.Lx.clr, List.nil_append, List.length_append, List.length_cons, List.length_nil]); omega)) | exact stands_F kk (by first | omega | ((simp only [Md.Lx.adv, Md.Lx.say, Md.Lx.clr, List.nil_append, List.length_append, List.length_cons, List.length_nil]); omega)) (by decide) (by first | omega | ((simp only [Md.Lx.adv, Md.Lx.say, Md.Lx.clr, List.nil_append, List.length_append, List.length_cons, List.length_nil]); omega)) | exact exact_F kk (by first | omega | ((simp only [Md.Lx.adv, Md.Lx.say, Md.Lx.clr, List.nil_append, List.length_append, List.length_cons, List.length_nil]); omega)) (by decide) (by first | omega | ((simp only [Md.Lx.adv, Md.Lx.say, Md.Lx.clr, List.nil_append, List.length_append, List.length_cons, List.length_nil]); omega))) | exact MapL.cons (f := encA) (y := (_, _)) .nil | (refine fun (hc : _ = _) => ?_; (try simp only [BB] at hc); (try (first | contradiction | (exfalso; omega)))) | exact arI | refine Pst.mk ⟨?_, rfl⟩ kk | constructor | (refine fun _ _ (hq : Hold _) => ?_; replace hq := hq.out; obtain ⟨_, rfl, rfl⟩ := hq) | (refine fun _ _ (hq : Hold _) => ?_; replace hq := hq.out; obtain ⟨_, _, rfl, rfl⟩ := hq) | rintro _ _ ⟨rfl, rfl⟩ | rintro _ _ ⟨_, rfl, rfl⟩ | rintro _ _ ⟨_, _, rfl, rfl⟩ | (refine fun (hc : _ = _) => ?_; (try simp only [BB] at hc)) | refine fun (_ : Nat) => ?_ | refine fun (_ : _ ≤ _) => ?_ | refine fun (_ : _ < _) => ?_
  all_goals (try simp only [pk_adv, pk_say, Nat.add_zero, adv_adv, say_say, say_adv, pk_clr, adv_clr] at *)
  · have hlt : s.pos + i < s.inp.length := by
      by_cases h : s.pos + i < s.inp.length
      · exact h
      · rw [hpn (by omega)] at hc; cases hc
    have h4 := hbs hlt
    rw [if_pos hc] at h4
    exact ih _ _ (i + 1) ⟨by omega, by omega⟩ (by omega) ⟨rfl, rfl, rfl, trivial⟩ kk
  all_goals
    have hA : Md.blank (s.pk i) = false := by assumption
    have hib : n0 + Md.blanksN (s.adv n0).rest = i := by
      by_cases h : s.pos + i < s.inp.length
      · have h4 := hbs h
        rw [if_neg (by rw [hA]; simp)] at h4; omega
      · have h4 := hnil (by omega); rw [h4] at m1; simpa [Md.blanksN] using m1.symm
    have ha := attr1_eq (s := s)
    rw [← k1, hib] at ha
    first | rw [if_pos hc] at ha | rw [if_neg hc] at ha
    rw [ha]
    dsimp only
    rw [Md.putAttr, ← Md.getA_snd]
    dsimp only
    first
      | (rw [show (Md.getA t.attrs (Md.encode ((Md.attrName s.rest).map fun r => Md.small (Md.fixr r)))).2 = false from (by assumption), if_neg (by simp)]; exact Pst.mk (.mk ⟨_, rfl, rfl⟩) kk)
      | (rw [show (Md.getA t.attrs (Md.encode ((Md.attrName s.rest).map fun r => Md.small (Md.fixr r)))).2 = true from (by assumption), if_pos rfl]; exact Pst.mk (.mk ⟨_, rfl, rfl⟩) kk)
end Go.Proofs.YticnenofiibpgaaDoor.Code
/- What the lexer's attrs, tag do. -/
namespace Go.Proofs.YticnenofiibpgaaDoor.Code
open Go.Dm Go.Dm.C
set_option linter.unusedSimpArgs false
set_option linter.unusedVariables false
set_option linter.unnecessarySimpa false
set_option maxRecDepth 10000
attribute [local irreducible] Go.Dm.F Go.Dm.RS Go.Dm.Y Go.Dm.FD Go.Dm.FZ1 Go.Dm.Hold
variable {id : Nat} {s : Md.Lx} {g : Nat × Nat} {cs : List Ck}
theorem valueGo_le : ∀ (n : Nat) (q : Int) (l acc : List Int), l.length ≤ n → (Md.valueGo q l acc).2.2 ≤ l.length := by
  intro n
  induction n with
  | zero => intro q l acc h; have : l = [] := List.eq_nil_of_length_eq_zero (by omega); subst this; rw [valueGo_nil]; simp
  | succ n ih =>
    intro q l acc h
    cases l with
    | nil => rw [valueGo_nil]; simp
    | cons r l =>
      have hr := (refer_facts true l).2.1
      simp only [List.length_cons] at h ⊢
      rw [valueGo_cons]
      split
      · simp
      · split
        · simp
        · split
          · have h1 := ih q (l.drop (Md.refer true l).2) (acc ++ (Md.refer true l).1) (by rw [List.length_drop]; omega)
            rw [List.length_drop] at h1
            dsimp only; omega
          · have h1 := ih q l (acc ++ [Md.fixr r]) (by omega)
            dsimp only; omega
theorem blanksN_le (l : List Int) : Md.blanksN l ≤ l.length := (List.takeWhile_sublist _).length_le
theorem value_le (l : List Int) : (Md.value l).2.2 ≤ l.length := by
  have hb := blanksN_le l
  unfold Md.value
  dsimp only
  split
  · exact hb
  · split
    · rename_i h
      have hlt : Md.blanksN l < l.length := by
        by_cases hx : Md.blanksN l < l.length
        · exact hx
        · rw [List.getD_eq_getElem?_getD, List.getElem?_eq_none (by omega)] at h; simp at h
      have := valueGo_le _ (l.getD (Md.blanksN l) (-1)) (l.drop (Md.blanksN l + 1)) [] (Nat.le_refl _)
      rw [List.length_drop] at this
      dsimp only; omega
    · have := valueGo_le _ 0 (l.drop (Md.blanksN l)) [] (Nat.le_refl _)
      rw [List.length_drop] at this
      dsimp only; omega
theorem attrName_le (l : List Int) : (Md.attrName l).length ≤ l.length := by
  cases l with
  | nil => simp [Md.attrName]
  | cons r l =>
    rw [attrName_cons]
    split
    · simp
    · have : (attrTail l).length ≤ l.length := (List.takeWhile_sublist _).length_le
      simp only [List.length_cons]; omega
theorem attr1_le (l : List Int) : (Md.attr1 l).2.2 ≤ l.length := by
  have h1 := attrName_le l
  have h2 := blanksN_le (l.drop (Md.attrName l).length)
  rw [List.length_drop] at h2
  unfold Md.attr1
  dsimp only
  split
  · rename_i h
    have hlt : (Md.attrName l).length + Md.blanksN (l.drop (Md.attrName l).length) < l.length := by
      by_cases hx : (Md.attrName l).length + Md.blanksN (l.drop (Md.attrName l).length) < l.length
      · exact hx
      · rw [List.getD_eq_getElem?_getD, List.getElem?_eq_none (by omega)] at h; simp at h
    have := value_le (l.drop ((Md.attrName l).length + Md.blanksN (l.drop (Md.attrName l).length) + 1))
    rw [List.length_drop] at this
    dsimp only; omega
  · dsimp only; omega
theorem attr1_ge {r : Int} {l : List Int} (h : Md.over r = false) : 1 ≤ (Md.attr1 (r :: l)).2.2 := by
  have h3 := Md.attrName_pos (l := l) h
  unfold Md.attr1
  dsimp only
  split
  · dsimp only; omega
  · dsimp only; omega
theorem attrsGo_nil (acc : List (Md.Str × Md.Str)) : Md.attrsGo [] acc = (acc, false, false, 0) := by rw [Md.attrsGo]
theorem attrsGo_blank {r : Int} {l : List Int} {acc : List (Md.Str × Md.Str)} (h : Md.blank r = true) : Md.attrsGo (r :: l) acc = ((Md.attrsGo l acc).1, (Md.attrsGo l acc).2.1, (Md.attrsGo l acc).2.2.1, (Md.attrsGo l acc).2.2.2 + 1) := by rw [Md.attrsGo, dif_pos h]
theorem attrsGo_end {l : List Int} {acc : List (Md.Str × Md.Str)} : Md.attrsGo (62 :: l) acc = (acc, false, true, 1) := by rw [Md.attrsGo, dif_neg (by decide), dif_pos rfl]
theorem attrsGo_slash {l : List Int} {acc : List (Md.Str × Md.Str)} : Md.attrsGo (47 :: l) acc = if l.headD (-1) = 62 then (acc, true, true, 2) else ((Md.attrsGo l acc).1, (Md.attrsGo l acc).2.1, (Md.attrsGo l acc).2.2.1, (Md.attrsGo l acc).2.2.2 + 1) := by rw [Md.attrsGo, dif_neg (by decide), dif_neg (by decide), dif_pos rfl]
theorem attrsGo_attr {r : Int} {l : List Int} {acc : List (Md.Str × Md.Str)} (hb : Md.blank r = false) (h1 : r ≠ 62) (h2 : r ≠ 47) : Md.attrsGo (r :: l) acc = if (Md.attr1 (r :: l)).2.1 = true then
    ((Md.attrsGo ((r :: l).drop (Md.attr1 (r :: l)).2.2) (Md.putAttr acc (Md.attr1 (r :: l)).1)).1, (Md.attrsGo ((r :: l).drop (Md.attr1 (r :: l)).2.2) (Md.putAttr acc (Md.attr1 (r :: l)).1)).2.1, (Md.attrsGo ((r :: l).drop (Md.attr1 (r :: l)).2.2) (Md.putAttr acc (Md.attr1 (r :: l)).1)).2.2.1, (Md.attrsGo ((r :: l).drop (Md.attr1 (r :: l)).2.2) (Md.putAttr acc (Md.attr1 (r :: l)).1)).2.2.2 + (Md.attr1 (r :: l)).2.2)
    else (Md.putAttr acc (Md.attr1 (r :: l)).1, false, false, (Md.attr1 (r :: l)).2.2) := by rw [Md.attrsGo, dif_neg (by simp [hb]), dif_neg h1, dif_neg h2]
theorem putAttr_len (acc : List (Md.Str × Md.Str)) (a : Md.Str × Md.Str) : (Md.putAttr acc a).length ≤ acc.length + 1 := by
  unfold Md.putAttr; split <;> simp
def selfed (t : Md.Tok) (al : List (Md.Str × Md.Str)) (b : Bool) : Md.Tok := { t with attrs := al, self := b }
set_option maxHeartbeats 1000000 in
theorem attrs_F {t : Md.Tok} {ta q : Nat} {c1 c2 R : List Ck} (h1 : Rem (LX id s g) cs c1) (h2 : Rem (.obj q (tcell t ta)) c1 c2) (h3 : Rem (.own ta 2 (t.attrs.map encA)) c2 R) (hb : s.inp.length ≤ 1000000000 ∧ s.pos ≤ s.inp.length ∧ t.attrs.length = 0) (hn : ∀ r ∈ s.inp, 0 ≤ r) (hs : t.self = false) :
    F D 106 [.ptr id 0, .ptr q 0] cs (fun v cs' => Hold (∃ a, v = .bool (Md.attrsGo s.rest t.attrs).2.2.1 ∧ (LX id (s.adv (Md.attrsGo s.rest t.attrs).2.2.2) g :: .obj q (tcell (selfed t (Md.attrsGo s.rest t.attrs).1 (Md.attrsGo s.rest t.attrs).2.1) a) :: .own a 2 ((Md.attrsGo s.rest t.attrs).1.map encA) :: R) = cs')) := by
  refine F.perm (h1.perm'.trans ((h2.perm'.trans (h3.perm'.cons _)).cons _)) (F.of rfl rfl rfl ?_)
  repeat' first | exact arI | refine Pst.mk ⟨?_, rfl⟩ kk | constructor | (refine fun _ _ (hq : Hold _) => ?_; replace hq := hq.out; obtain ⟨_, rfl, rfl⟩ := hq) | (refine fun _ _ (hq : Hold _) => ?_; replace hq := hq.out; obtain ⟨_, _, rfl, rfl⟩ := hq) | rintro _ _ ⟨rfl, rfl⟩ | rintro _ _ ⟨_, rfl, rfl⟩ | rintro _ _ ⟨_, _, rfl, rfl⟩ | (refine fun (hc : _ = _) => ?_; (try simp only [BB] at hc)) | refine fun (_ : Nat) => ?_ | refine fun (_ : _ ≤ _) => ?_ | refine fun (_ : _ < _) => ?_
  refine RS.loopW (α := Nat × Nat × List (Md.Str × Md.Str)) (fun a => [(0, .ptr id 0), (1, .ptr q 0)]) (fun a => LX id (s.adv a.1) g :: .obj q (tcell (selfed t a.2.2 false) a.2.1) :: .own a.2.1 2 (a.2.2.map encA) :: R)
    (fun a => (Md.attrsGo (s.adv a.1).rest a.2.2).1 = (Md.attrsGo s.rest t.attrs).1 ∧ (Md.attrsGo (s.adv a.1).rest a.2.2).2.1 = (Md.attrsGo s.rest t.attrs).2.1 ∧ (Md.attrsGo (s.adv a.1).rest a.2.2).2.2.1 = (Md.attrsGo s.rest t.attrs).2.2.1 ∧ a.1 + (Md.attrsGo (s.adv a.1).rest a.2.2).2.2.2 = (Md.attrsGo s.rest t.attrs).2.2.2 ∧ s.pos + a.1 ≤ s.inp.length ∧ a.2.2.length ≤ a.1) (fun a => s.inp.length - (s.pos + a.1)) (0, ta, t.attrs) ⟨rfl, rfl, rfl, by simp [adv_zero], by dsimp only; omega, by dsimp only; omega⟩ ⟨rfl, rfl, trivial⟩ (by rw [← hs]; exact .refl) ?_
  rintro ⟨i, tb, al⟩ ⟨k1, k2, k3, k4, k5, k6⟩ ih
  dsimp only [ents] at *
  (have hst := fun h => rest_adv_cons (s := s) (i := i) h; have hnil := fun h => rest_adv_nil (s := s) (i := i) h; have hpn := fun h => pk_out (s := s) (i := i) h; have hpi := fun h => pk_in (s := s) (i := i) hn h)
  have e0 : (s.adv i).pk 0 = s.pk i := pk_adv i 0
  repeat' first | (show LD _ _ _ _; first | exact LX.ldPos kk | exact LX.ldWay kk | exact LX.ldLast kk | exact LX.ldRoom kk | exact LX.ldDone kk | exact LX.ldText kk) | (apply RR.lxIn; exact rfl; exact rfl; exact rfl; exact kk; refine fun _ => ?_) | (apply RR.lxOut; exact rfl; exact rfl; exact rfl; exact kk; refine fun _ => ?_) | (show FC _ _ _ _ _; first | exact attr_F (t := selfed t al false) (ta := tb) kk kk kk (by simp only [Md.Lx.adv, selfed]; omega) (by exact hn) | exact peek0_F kk (by first | omega | ((simp only [Md.Lx.adv, Md.Lx.say, Md.Lx.clr, List.nil_append, List.length_append, List.length_cons, List.length_nil]); omega)) | exact peek1_F kk (by first | omega | ((simp only [Md.Lx.adv, Md.Lx.say, Md.Lx.clr, List.nil_append, List.length_append, List.length_cons, List.length_nil]); omega)) | exact peek6_F kk (by first | omega | ((simp only [Md.Lx.adv, Md.Lx.say, Md.Lx.clr, List.nil_append, List.length_append, List.length_cons, List.length_nil]); omega)) | exact next_F kk (by first | omega | ((simp only [Md.Lx.adv, Md.Lx.say, Md.Lx.clr, List.nil_append, List.length_append, List.length_cons, List.length_nil]); omega)) | exact back_F kk (by first | omega | ((simp only [Md.Lx.adv, Md.Lx.say, Md.Lx.clr, List.nil_append, List.length_append, List.length_cons, List.length_nil]); omega)) | exact blank_F | exact letter_F | exact small_F | exact encode_F rfl (by first | omega | ((simp only [Md.Lx.adv, Md.Lx.say, Md.Lx.clr, List.nil_append, List.length_append, List.length_cons, List.length_nil]); omega)) | exact say_F rfl kk kk (by first | omega | ((simp only [Md.Lx.adv, Md.Lx.say, Md.Lx.clr, List.nil_append, List.length_append, List.length_cons, List.length_nil]); omega)) | exact stands_F kk (by first | omega | ((simp only [Md.Lx.adv, Md.Lx.say, Md.Lx.clr, List.nil_append, List.length_append, List.length_cons, List.length_nil]); omega)) (by decide) (by first | omega | ((simp only [Md.Lx.adv, Md.Lx.say, Md.Lx.clr, List.nil_append, List.length_append, List.length_cons, List.length_nil]); omega)) | exact exact_F kk (by first | omega | ((simp only [Md.Lx.adv, Md.Lx.say, Md.Lx.clr, List.nil_append, List.length_append, List.length_cons, List.length_nil]); omega)) (by decide) (by first | omega | ((simp only [Md.Lx.adv, Md.Lx.say, Md.Lx.clr, List.nil_append, List.length_append, List.length_cons, List.length_nil]); omega))) | (refine fun (hc : _ = _) => ?_; (try simp only [BB] at hc); (try (first | contradiction | (exfalso; omega)))) | exact arI | refine Pst.mk ⟨?_, rfl⟩ kk | constructor | (refine fun _ _ (hq : Hold _) => ?_; replace hq := hq.out; obtain ⟨_, rfl, rfl⟩ := hq) | (refine fun _ _ (hq : Hold _) => ?_; replace hq := hq.out; obtain ⟨_, _, rfl, rfl⟩ := hq) | rintro _ _ ⟨rfl, rfl⟩ | rintro _ _ ⟨_, rfl, rfl⟩ | rintro _ _ ⟨_, _, rfl, rfl⟩ | (refine fun (hc : _ = _) => ?_; (try simp only [BB] at hc)) | refine fun (_ : Nat) => ?_ | refine fun (_ : _ ≤ _) => ?_ | refine fun (_ : _ < _) => ?_
  all_goals (try simp only [pk_adv, pk_say, Nat.add_zero, adv_adv, say_say, say_adv, pk_clr, adv_clr] at *)
  · have hge : s.inp.length ≤ s.pos + i := by by_cases h : s.pos + i < s.inp.length; (have := hpi h; omega); omega
    rw [hnil hge, attrsGo_nil] at k1 k2 k3 k4
    dsimp only at k1 k2 k3 k4
    rw [← k1, ← k2, ← k3, ← k4]
    exact Pst.mk (.mk ⟨_, rfl, rfl⟩) kk
  · have hlt : s.pos + i < s.inp.length := by by_cases h : s.pos + i < s.inp.length; exact h; have := hpn (by omega); omega
    rw [hst hlt, attrsGo_blank hc] at k1 k2 k3 k4
    dsimp only at k1 k2 k3 k4
    exact ih _ _ (i + 1, _, al) ⟨k1, k2, k3, by dsimp only; omega, by dsimp only; omega, by dsimp only; omega⟩ (by dsimp only; omega) ⟨rfl, rfl, trivial⟩ kk
  · have hlt : s.pos + i < s.inp.length := by by_cases h : s.pos + i < s.inp.length; exact h; have := hpn (by omega); omega
    rw [hst hlt, hc, attrsGo_end] at k1 k2 k3 k4
    dsimp only at k1 k2 k3 k4
    rw [← k1, ← k2, ← k3, ← k4]
    exact Pst.mk (.mk ⟨_, rfl, rfl⟩) kk
  · rename_i hB
    have hlt : s.pos + i < s.inp.length := by by_cases h : s.pos + i < s.inp.length; exact h; have := hpn (by omega); omega
    rw [hst hlt, hB, attrsGo_slash, headD_adv, if_pos hc] at k1 k2 k3 k4
    dsimp only at k1 k2 k3 k4
    rw [← k1, ← k2, ← k3, ← k4]
    exact Pst.mk (.mk ⟨_, rfl, rfl⟩) kk
  · rename_i hB
    have hlt : s.pos + i < s.inp.length := by by_cases h : s.pos + i < s.inp.length; exact h; have := hpn (by omega); omega
    rw [hst hlt, hB, attrsGo_slash, headD_adv, if_neg hc] at k1 k2 k3 k4
    dsimp only at k1 k2 k3 k4
    exact ih _ _ (i + 1, _, al) ⟨k1, k2, k3, by dsimp only; omega, by dsimp only; omega, by dsimp only; omega⟩ (by dsimp only; omega) ⟨rfl, rfl, trivial⟩ kk
  · rename_i hok _ _ hB hC
    have hok : (Md.attr1 (s.adv i).rest).2.1 = false := by assumption
    have hlt : s.pos + i < s.inp.length := by by_cases h : s.pos + i < s.inp.length; exact h; have := hpn (by omega); omega
    rw [hst hlt, attrsGo_attr hB hC hc, ← hst hlt, if_neg (by rw [hok]; simp)] at k1 k2 k3 k4
    dsimp only at k1 k2 k3 k4
    rw [← k1, ← k2, ← k3, ← k4]
    exact Pst.mk (.mk ⟨_, rfl, rfl⟩) kk
  · rename_i _ _ _ hB hC
    have hok : (Md.attr1 (s.adv i).rest).2.1 = true := by assumption
    have hlt : s.pos + i < s.inp.length := by by_cases h : s.pos + i < s.inp.length; exact h; have := hpn (by omega); omega
    have hl := attr1_le (s.adv i).rest
    have hg : 1 ≤ (Md.attr1 (s.adv i).rest).2.2 := by rw [hst hlt]; exact attr1_ge (by rw [over_f]; exact ⟨⟨hB, hc⟩, hC⟩)
    have hpl := putAttr_len al (Md.attr1 (s.adv i).rest).1
    have hrl := rest_len (s := s.adv i)
    have hrp : (s.adv i).pos = s.pos + i := rfl
    have hri : (s.adv i).inp = s.inp := rfl
    rw [hrp, hri] at hrl
    rw [hst hlt, attrsGo_attr hB hC hc, ← hst hlt, if_pos hok, ← rest_adv, adv_adv] at k1 k2 k3 k4
    dsimp only at k1 k2 k3 k4
    exact ih _ _ (i + (Md.attr1 (s.adv i).rest).2.2, _, Md.putAttr al (Md.attr1 (s.adv i).rest).1) ⟨k1, k2, k3, by dsimp only; omega, by dsimp only; omega, by dsimp only; omega⟩ (by dsimp only; omega) ⟨rfl, rfl, trivial⟩ kk
theorem nameOf_le (l : List Int) : (Md.nameOf l).length ≤ l.length := (List.takeWhile_sublist _).length_le
def tagTok (kind : Int) (name : Md.Str) : Md.Tok := { Md.Tok.zero with kind := kind, name := name }
theorem attrs0_F {t : Md.Tok} {q : Nat} {c1 R : List Ck} (h1 : Rem (LX id s g) cs c1) (h2 : Rem (.obj q (tcell t 0)) c1 R) (ht : t.attrs = []) (hb : s.inp.length ≤ 1000000000 ∧ s.pos ≤ s.inp.length) (hn : ∀ r ∈ s.inp, 0 ≤ r) (hs : t.self = false) :
    F D 106 [.ptr id 0, .ptr q 0] cs (fun v cs' => Hold (∃ a, v = .bool (Md.attrsGo s.rest []).2.2.1 ∧ (LX id (s.adv (Md.attrsGo s.rest []).2.2.2) g :: .obj q (tcell (selfed t (Md.attrsGo s.rest []).1 (Md.attrsGo s.rest []).2.1) a) :: .own a 2 ((Md.attrsGo s.rest []).1.map encA) :: R) = cs')) := by
  rw [← ht]
  exact F.from (fun h hs => hs.nilOwn 2) (attrs_F (.tail h1) (.tail h2) (by rw [ht]; exact .head) ⟨hb.1, hb.2, by rw [ht]; rfl⟩ hn hs)
set_option maxHeartbeats 1000000 in
theorem tag_F {kind : Int} {cs2 : Nat × Nat → List Ck} (hu : Upd (LX id s g) (fun a => LX id (s.tag kind) a) cs cs2) (hb : s.inp.length ≤ 1000000000 ∧ s.pos ≤ s.inp.length ∧ s.text.length ≤ 80000000000 ∧ s.out.length ≤ 10000000) (hn : ∀ r ∈ s.inp, 0 ≤ r) :
    F D 91 [.ptr id 0, .int .i64 kind] cs (fun v cs' => Hold (∃ a, v = .tup [] ∧ cs2 a = cs')) := by
  refine F.atG hu fun R => F.of rfl rfl rfl ?_
  have hnl := nameOf_le s.rest
  have hrl := rest_len (s := s)
  have e : s.tag kind = if (Md.attrsGo (s.adv (Md.nameOf s.rest).length).rest []).2.2.1 = true then (s.adv ((Md.nameOf s.rest).length + (Md.attrsGo (s.adv (Md.nameOf s.rest).length).rest []).2.2.2)).emit { Md.Tok.zero with kind := kind, name := Md.encode ((Md.nameOf s.rest).map fun r => Md.small (Md.fixr r)), attrs := if kind = 3 then [] else (Md.attrsGo (s.adv (Md.nameOf s.rest).length).rest []).1, self := if kind = 3 then false else (Md.attrsGo (s.adv (Md.nameOf s.rest).length).rest []).2.1 } else s.adv ((Md.nameOf s.rest).length + (Md.attrsGo (s.adv (Md.nameOf s.rest).length).rest []).2.2.2) := by
    simp only [Md.Lx.tag, rest_adv]
  repeat' first | (show FC _ _ _ _ _; first | exact name_F kk (by omega) hn | exact attrs0_F (t := tagTok kind (Md.encode ((Md.nameOf s.rest).map fun r => Md.small (Md.fixr r)))) kk kk rfl (by simp only [Md.Lx.adv]; omega) (by exact hn) rfl | exact emit_F (t := tagTok kind (Md.encode ((Md.nameOf s.rest).map fun r => Md.small (Md.fixr r)))) (ta := 0) rfl kk (by first | omega | ((simp only [Md.Lx.adv, Md.Lx.say, Md.Lx.clr, List.nil_append, List.length_append, List.length_cons, List.length_nil]); omega)) | exact emit_F (t := selfed (tagTok kind (Md.encode ((Md.nameOf s.rest).map fun r => Md.small (Md.fixr r)))) (Md.attrsGo (s.adv (Md.nameOf s.rest).length).rest []).1 (Md.attrsGo (s.adv (Md.nameOf s.rest).length).rest []).2.1) rfl kk (by first | omega | ((simp only [Md.Lx.adv, Md.Lx.say, Md.Lx.clr, List.nil_append, List.length_append, List.length_cons, List.length_nil]); omega))) | (refine fun (hc : _ = _) => ?_; (try simp only [BB] at hc); (try (first | contradiction | (exfalso; omega)))) | exact arI | refine Pst.mk ⟨?_, rfl⟩ kk | constructor | (refine fun _ _ (hq : Hold _) => ?_; replace hq := hq.out; obtain ⟨_, rfl, rfl⟩ := hq) | (refine fun _ _ (hq : Hold _) => ?_; replace hq := hq.out; obtain ⟨_, _, rfl, rfl⟩ := hq) | rintro _ _ ⟨rfl, rfl⟩ | rintro _ _ ⟨_, rfl, rfl⟩ | rintro _ _ ⟨_, _, rfl, rfl⟩ | (refine fun (hc : _ = _) => ?_; (try simp only [BB] at hc)) | refine fun (_ : Nat) => ?_ | refine fun (_ : _ ≤ _) => ?_ | refine fun (_ : _ < _) => ?_
  all_goals (try simp only [pk_adv, pk_say, Nat.add_zero, adv_adv, say_say, say_adv, pk_clr, adv_clr] at *)
  · rename_i hok _ 
    have hok : (Md.attrsGo (s.adv (Md.nameOf s.rest).length).rest []).2.2.1 = true := by assumption
    rw [if_pos hok, if_pos hc, if_pos hc] at e
    rw [e]; exact Pst.mk (.mk ⟨_, trivial, rfl⟩) kk
  · rename_i hok _ 
    have hok : (Md.attrsGo (s.adv (Md.nameOf s.rest).length).rest []).2.2.1 = true := by assumption
    rw [if_pos hok, if_neg hc, if_neg hc] at e
    rw [e]; exact Pst.mk (.mk ⟨_, trivial, rfl⟩) kk
  · rw [if_neg (by rw [hc]; simp)] at e
    rw [e]; exact Pst.mk (.mk ⟨_, trivial, rfl⟩) kk
end Go.Proofs.YticnenofiibpgaaDoor.Code
