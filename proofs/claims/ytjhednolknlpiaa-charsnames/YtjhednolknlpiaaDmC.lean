/- The D-machine (3): how its values and heap lie in the model's world. -/
import Derived.Test.YtjhednolknlpiaaDmB
namespace Go.Dm
set_option linter.unusedSimpArgs false
set_option linter.unusedVariables false
set_option linter.unnecessarySimpa false

/-- Where things lie: objects (block, first cell, the block's cells, an element's cells), what may be appended to (block, end, the block's cells, an element's cells), cells that stay. -/
structure Cor where
  φ : Nat → Option (Nat × Nat × Nat × Nat)
  τ : Nat → Option (Nat × Nat × Nat × Nat)
  kp : Nat → Nat → Option Value

structure Cor.le (c d : Cor) : Prop where
  φ : ∀ i x, c.φ i = some x → d.φ i = some x
  τ : ∀ i x, c.τ i = some x → d.τ i = some x
  kp : ∀ b o x, c.kp b o = some x → d.kp b o = some x
theorem Cor.le.refl (c : Cor) : c.le c := ⟨fun _ _ h => h, fun _ _ h => h, fun _ _ _ h => h⟩
theorem Cor.le.trans {a b c : Cor} (h : a.le b) (k : b.le c) : a.le c := ⟨fun i x e => k.φ i x (h.φ i x e), fun i x e => k.τ i x (h.τ i x e), fun i j x e => k.kp i j x (h.kp i j x e)⟩

inductive FRel (c : Cor) : Fn → Fn → Prop where
  | func (f : FuncId) : FRel c (.func f) (.func f)
  | yield {l b o lim sz : Nat} (h : c.φ l = some (b, o, lim, sz)) : FRel c (.yield l) (.yield b)

mutual
inductive VRel (c : Cor) : DV → Value → Prop where
  | undef : VRel c .undef (.tuple #[])
  | bool (b : Bool) : VRel c (.bool b) (.bool b)
  | int (k : IntKind) (n : Int) : VRel c (.int k n) (.int k n)
  | str (s : List UInt8) : VRel c (.str s) (.string ⟨s.toArray⟩)
  | nilp : VRel c .nilp (.pointer none)
  | ptr {id off b o lim sz : Nat} (h : c.φ id = some (b, o, lim, sz)) : VRel c (.ptr id off) (.pointer (some ⟨b, o + off, none⟩))
  | elt {cs : List DV} {vs : List Value} {b o : Nat} (h : VRels c cs vs) (ho : ∀ x ∈ cs, x.one = true) (hp : ∀ j x, vs[j]? = some x → c.kp b (o + j) = some x) : VRel c (.elt cs) (.pointer (some ⟨b, o, none⟩))
  | lst {t sz : Nat} {xs : List DV} {a : Option Addr} {cap : Nat} {vs : List Value} (hsz : t ≠ 0 → 0 < sz) (hs : ∀ x ∈ xs, x.cells.length = sz) (hv : VRels c (flat xs) vs) (ho : ∀ x ∈ flat xs, x.one = true)
      (hc : xs ≠ [] → ∃ b o, a = some ⟨b, o, none⟩ ∧ ∀ j x, vs[j]? = some x → c.kp b (o + j) = some x) (hl : xs.length ≤ cap)
      (h0 : t = 0 → a = none ∧ cap = 0) (h1 : t ≠ 0 → ∃ b o sp, a = some ⟨b, o, sp⟩ ∧ (sp = none ∨ cap = 0))
      (ht : 2 ≤ t → ∃ b o e lim, a = some ⟨b, o, none⟩ ∧ c.τ t = some (b, e, lim, sz) ∧ (cap = 0 ∨ (e = o + xs.length * sz ∧ o + cap * sz ≤ lim))) : VRel c (.lst t sz xs) (.slice a xs.length cap)
  | arr {id off len cap b o lim sz : Nat} {ab ao : Nat} (h : c.φ id = some (b, o, lim, sz)) (hl : len ≤ cap) (ha : cap = 0 ∨ (ab = b ∧ ao = o + off ∧ o + off + cap * sz ≤ lim)) :
      VRel c (.arr id sz off len) (.slice (some ⟨ab, ao, none⟩) len cap)
  | fn {f g : Fn} {a b : List DV} {x y : List Value} (hf : FRel c f g) (ha : VRels c a x) (hb : VRels c b y) : VRel c (.fn f a b) (.func g x.toArray y.toArray)
  | nilfn : VRel c .nilfn .nilFunc
  | agg {cs : List DV} {vs : List Value} (h : VRels c cs vs) (ho : ∀ x ∈ cs, x.one = true) : VRel c (.agg cs) (.agg vs.toArray)
  | tup {cs : List DV} {vs : List Value} (h : VRels c cs vs) : VRel c (.tup cs) (.tuple vs.toArray)
inductive VRels (c : Cor) : List DV → List Value → Prop where
  | nil : VRels c [] []
  | cons {d : DV} {v : Value} {ds : List DV} {vs : List Value} (h : VRel c d v) (hs : VRels c ds vs) : VRels c (d :: ds) (v :: vs)
end

theorem FRel.mono {c d : Cor} (hle : c.le d) {f g : Fn} (h : FRel c f g) : FRel d f g := by
  cases h with
  | func f => exact .func f
  | yield h => exact .yield (hle.φ _ _ h)
mutual
theorem VRel.mono {c d : Cor} (hle : c.le d) : ∀ {x : DV} {v : Value}, VRel c x v → VRel d x v
  | _, _, .undef => .undef
  | _, _, .bool b => .bool b
  | _, _, .int k n => .int k n
  | _, _, .str s => .str s
  | _, _, .nilp => .nilp
  | _, _, .ptr h => .ptr (hle.φ _ _ h)
  | _, _, .elt h ho hp => .elt (VRels.mono hle h) ho fun j x e => hle.kp _ _ _ (hp j x e)
  | _, _, .lst hsz hs hv ho hc hl h0 h1 ht => .lst hsz hs (VRels.mono hle hv) ho
      (fun e => let ⟨b, o, ha, hp⟩ := hc e; ⟨b, o, ha, fun j x hj => hle.kp _ _ _ (hp j x hj)⟩) hl h0 h1
      (fun e => let ⟨b, o, e, lim, ha, hx, hy⟩ := ht e; ⟨b, o, e, lim, ha, hle.τ _ _ hx, hy⟩)
  | _, _, .arr h hl ha => .arr (hle.φ _ _ h) hl ha
  | _, _, .fn hf ha hb => .fn (hf.mono hle) (VRels.mono hle ha) (VRels.mono hle hb)
  | _, _, .nilfn => .nilfn
  | _, _, .agg h ho => .agg (VRels.mono hle h) ho
  | _, _, .tup h => .tup (VRels.mono hle h)
theorem VRels.mono {c d : Cor} (hle : c.le d) : ∀ {xs : List DV} {vs : List Value}, VRels c xs vs → VRels d xs vs
  | _, _, .nil => .nil
  | _, _, .cons h hs => .cons (VRel.mono hle h) (VRels.mono hle hs)
end

namespace VRels
variable {c : Cor}
theorem length_eq : ∀ {xs : List DV} {vs : List Value}, VRels c xs vs → xs.length = vs.length
  | _, _, .nil => rfl
  | _, _, .cons _ hs => by simp [length_eq hs]
theorem get : ∀ {xs : List DV} {vs : List Value}, VRels c xs vs → ∀ (i : Nat) {x : DV}, xs[i]? = some x → ∃ v, vs[i]? = some v ∧ VRel c x v
  | _, _, .nil, i, x, h => by simp at h
  | _, _, .cons (d := d) (v := v) h hs, i, x, hx => by
    cases i with
    | zero => simp at hx; subst hx; exact ⟨_, by simp, h⟩
    | succ i => simp at hx; obtain ⟨w, h1, h2⟩ := get hs i hx; exact ⟨w, by simpa using h1, h2⟩
theorem get' : ∀ {xs : List DV} {vs : List Value}, VRels c xs vs → ∀ (i : Nat) {v : Value}, vs[i]? = some v → ∃ x, xs[i]? = some x ∧ VRel c x v
  | _, _, .nil, i, x, h => by simp at h
  | _, _, .cons (d := d) (v := v) h hs, i, x, hx => by
    cases i with
    | zero => simp at hx; subst hx; exact ⟨_, by simp, h⟩
    | succ i => simp at hx; obtain ⟨w, h1, h2⟩ := get' hs i hx; exact ⟨w, by simpa using h1, h2⟩
theorem append : ∀ {xs : List DV} {vs : List Value} {ys : List DV} {ws : List Value}, VRels c xs vs → VRels c ys ws → VRels c (xs ++ ys) (vs ++ ws)
  | _, _, _, _, .nil, k => k
  | _, _, _, _, .cons h hs, k => .cons h (append hs k)
theorem take : ∀ {xs : List DV} {vs : List Value} (n : Nat), VRels c xs vs → VRels c (xs.take n) (vs.take n)
  | _, _, 0, _ => by simp; exact .nil
  | _, _, _ + 1, .nil => .nil
  | _, _, n + 1, .cons h hs => .cons h (take n hs)
theorem drop : ∀ {xs : List DV} {vs : List Value} (n : Nat), VRels c xs vs → VRels c (xs.drop n) (vs.drop n)
  | _, _, 0, h => h
  | _, _, _ + 1, .nil => .nil
  | _, _, n + 1, .cons _ hs => drop n hs
theorem set : ∀ {xs : List DV} {vs : List Value} (n : Nat) {x : DV} {v : Value}, VRels c xs vs → VRel c x v → VRels c (xs.set n x) (vs.set n v)
  | _, _, _, _, _, .nil, _ => .nil
  | _, _, 0, _, _, .cons _ hs, k => .cons k hs
  | _, _, n + 1, _, _, .cons h hs, k => .cons h (set n hs k)
theorem replicate {x : DV} {v : Value} (h : VRel c x v) : ∀ n, VRels c (List.replicate n x) (List.replicate n v)
  | 0 => .nil
  | n + 1 => .cons h (replicate h n)
theorem of_get : ∀ {xs : List DV} {vs : List Value}, xs.length = vs.length → (∀ (i : Nat) x v, xs[i]? = some x → vs[i]? = some v → VRel c x v) → VRels c xs vs
  | [], [], _, _ => .nil
  | [], _ :: _, h, _ => by simp at h
  | _ :: _, [], h, _ => by simp at h
  | x :: xs, v :: vs, h, k => .cons (k 0 x v rfl rfl) (of_get (by simpa using h) fun i x v hx hv => k (i + 1) x v (by simpa using hx) (by simpa using hv))
theorem getD {xs : List DV} {vs : List Value} (h : VRels c xs vs) (n : Nat) : VRel c (xs.getD n .undef) (vs.getD n undef) := by
  rw [List.getD_eq_getElem?_getD, List.getD_eq_getElem?_getD]
  cases hx : xs[n]? with
  | some x => obtain ⟨v, h1, h2⟩ := h.get n hx; simpa [h1] using h2
  | none =>
    have : vs[n]? = none := by
      have := h.length_eq
      simp at hx ⊢; omega
    simp [this]; exact .undef
end VRels

theorem VRel.cells {c : Cor} {x : DV} {v : Value} (h : VRel c x v) : VRels c x.cells v.cells.toList := by
  cases h
  case agg h _ => simpa [DV.cells, Value.cells] using h
  all_goals (simp only [DV.cells, Value.cells]; refine .cons ?_ .nil)
  all_goals first
    | exact .undef
    | exact .bool _
    | exact .int _ _
    | exact .str _
    | exact .nilp
    | exact .ptr ‹_›
    | exact .elt ‹_› ‹_› ‹_›
    | exact .lst ‹_› ‹_› ‹_› ‹_› ‹_› ‹_› ‹_› ‹_› ‹_›
    | exact .arr ‹_› ‹_› ‹_›
    | exact .fn ‹_› ‹_› ‹_›
    | exact .nilfn
    | exact .tup ‹_›
theorem VRels.flat {c : Cor} : ∀ {xs : List DV} {vs : List Value}, VRels c xs vs → VRels c (flat xs) (vs.flatMap fun v => v.cells.toList)
  | _, _, .nil => .nil
  | _, _, .cons h hs => by
    simp only [Dm.flat, List.flatMap_cons]
    exact h.cells.append (VRels.flat hs)
theorem VRel.one {c : Cor} {x : DV} {v : Value} (h : VRel c x v) (h1 : x.one = true) : v.oneCell' = true := by
  cases h <;> simp_all [DV.one, Value.oneCell']
theorem VRel.okv_one {c : Cor} {x : DV} {v : Value} (h : VRel c x v) (h1 : x.okv = true) : ∀ y ∈ x.cells, y.one = true := by
  cases h
  case agg ho => simpa [DV.cells] using ho
  all_goals first
    | (simp [DV.okv] at h1; done)
    | (intro y hy; simp only [DV.cells, List.mem_singleton] at hy; subst hy; rfl)
theorem VRels.all_one {c : Cor} : ∀ {xs : List DV} {vs : List Value}, VRels c xs vs → (∀ x ∈ xs, x.one = true) → ∀ v ∈ vs, v.oneCell' = true
  | _, _, .nil, _, v, hv => by simp at hv
  | _, _, .cons h hs, h1, v, hv => by
    cases List.mem_cons.1 hv with
    | inl e => subst e; exact h.one (h1 _ (by simp))
    | inr e => exact VRels.all_one hs (fun x hx => h1 x (by simp [hx])) v e

/-- A state of a loop over a function. -/
def LState.conc : LState → LoopState
  | .ready => .ready
  | .busy => .busy
  | .done => .done
  | .over => .exhausted
def DX.jump : DX → Code
  | .normal => .skip
  | .exit id => .exit id
  | .ret => .ret
structure LoopRel (CC : Code → DC → Prop) (c : Cor) (r : LRec) (l : Loop) : Prop where
  tmps : VRels c r.tmps l.tmps.toList
  ps : l.params.toList = r.ps
  asg : CC l.assign r.asg
  body : CC l.body r.body
  st : l.state = r.st.conc
  pend : l.pending = r.pend.map DX.jump
  pn : r.pend ≠ some .normal

/-- No cell of such a block is frozen. -/
def FOk (lim : Nat) (f : Nat × Nat) : Prop := f.1 = f.2 ∨ lim ≤ f.1
/-- What an object of ours is in the model's heap. -/
def ORel (CC : Code → DC → Prop) (c : Cor) (H : Array Obj) (b o lim sz : Nat) : HObj → Prop
  | .cells cs sh => sz = sh.size ∧ o + cs.length ≤ lim ∧ ∃ vs e f, H[b]? = some (.cells vs e f) ∧ vs.size = lim ∧ FOk lim f ∧ (∀ x ∈ cs, x.one = true) ∧ ∀ j x, cs[j]? = some x → ∃ v, vs[o + j]? = some v ∧ VRel c x v
  | .siter s p => o = 0 ∧ H[b]? = some (.stringIter ⟨s.toArray⟩ p)
  | .loop r => ∃ l, H[b]? = some (.loop l) ∧ LoopRel CC c r l
  | .mark => H[b]? = some (.deferred (some []))

structure Sim (CC : Code → DC → Prop) (base : Nat) (c : Cor) (h : Heap) (H : Array Obj) : Prop where
  objs : ∀ id ob b o lim sz, h.objs.get id = some ob → c.φ id = some (b, o, lim, sz) → base ≤ b ∧ ORel CC c H b o lim sz ob
  uniq : ∀ id id' ob ob' b o lim sz o' lim' sz', h.objs.get id = some ob → h.objs.get id' = some ob' → c.φ id = some (b, o, lim, sz) → c.φ id' = some (b, o', lim', sz') → id = id'
  prot : ∀ b o v, c.kp b o = some v → ∃ vs e f, H[b]? = some (.cells vs e f) ∧ vs[o]? = some v
  sep : ∀ id ob b o lim sz, h.objs.get id = some ob → c.φ id = some (b, o, lim, sz) → ∀ j, c.kp b j = none
  tags : ∀ t sz b e lim sz', h.tags.get t = some sz → c.τ t = some (b, e, lim, sz') → sz' = sz ∧ base ≤ b ∧ (∃ vs ty f, H[b]? = some (.cells vs ty f) ∧ vs.size = lim ∧ FOk lim f) ∧ ∀ j, e ≤ j → c.kp b j = none
  tagobj : ∀ t sz b e lim sz' id ob b' o' lim' sz'', h.tags.get t = some sz → c.τ t = some (b, e, lim, sz') → h.objs.get id = some ob → c.φ id = some (b', o', lim', sz'') → b ≠ b'
  tagtag : ∀ t sz b e lim sz' u sz2 e' lim' sz'', h.tags.get t = some sz → c.τ t = some (b, e, lim, sz') → h.tags.get u = some sz2 → c.τ u = some (b, e', lim', sz'') → t = u
  dφ : ∀ id x, c.φ id = some x → id < h.next
  dτ : ∀ t x, c.τ t = some x → t < h.next
  bτ : ∀ t b e lim sz, c.τ t = some (b, e, lim, sz) → base ≤ b
  next : 2 ≤ h.next
  size : base ≤ H.size
  fresh : ∀ id, h.next ≤ id → h.objs.get id = none ∧ h.tags.get id = none
end Go.Dm
