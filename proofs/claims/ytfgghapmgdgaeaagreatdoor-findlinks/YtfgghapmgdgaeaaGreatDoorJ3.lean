/- FindLinks returns true for every input: part 3 of the proof (several texts joined). -/
import Derived.Laws.StructEq
import Derived.WideLaws
import Derived.LaidEql
import Derived.Laws.BytesString
import Derived.Laws.Cover4
import Derived.Deep.AppendSrc
import Derived.Deep.Upon
import Derived.Room.Entries
import Derived.Test.YtfgghapmgdgaeaaGreatDoorJ2
/- The D-machine (5): values that are made without a look at the heap. -/
namespace Go.Dm
set_option linter.unusedSimpArgs false
set_option linter.unusedVariables false
set_option linter.unnecessarySimpa false

inductive All2 {α β : Type} (R : α → β → Prop) : List α → List β → Prop where
  | nil : All2 R [] []
  | cons {a : α} {b : β} {x : List α} {y : List β} (h : R a b) (hs : All2 R x y) : All2 R (a :: x) (b :: y)
/-! ### cells laid over cells -/
def ovl {α : Type} (cs : List α) (off : Nat) (xs : List α) : List α := cs.take off ++ xs ++ cs.drop (off + xs.length)
theorem overwrite_eq (cs : List DV) (off : Nat) (xs : List DV) : overwrite cs off xs = ovl cs off xs := rfl
theorem ovl_length {α : Type} (cs : List α) (off : Nat) (xs : List α) (h : off + xs.length ≤ cs.length) : (ovl cs off xs).length = cs.length := by
  simp [ovl]; omega
theorem VRels.ovl {c : Cor} {cs xs : List DV} {vs ws : List Value} (h : VRels c cs vs) (k : VRels c xs ws) (off : Nat) : VRels c (Dm.ovl cs off xs) (Dm.ovl vs off ws) := by
  unfold Dm.ovl
  rw [k.length_eq]
  exact ((h.take off).append k).append (h.drop _)
theorem foldl_set_list : ∀ (l : List Value) (k off : Nat) (cs : Array Value), off + k + l.length ≤ cs.size →
    ((l.zipIdx k).foldl (fun (cs : Array Value) (x : Value × Nat) => cs.setIfInBounds (off + x.2) x.1) cs).toList = ovl cs.toList (off + k) l
  | [], k, off, cs, h => by simp [ovl]
  | x :: l, k, off, cs, h => by
    simp only [List.zipIdx_cons, List.foldl_cons]
    rw [foldl_set_list l (k + 1) off _ (by simp at h ⊢; omega)]
    simp only [ovl, Array.toList_setIfInBounds, List.length_cons]
    have e : off + (k + 1) = off + k + 1 := by omega
    rw [e]
    have hlt : off + k < cs.toList.length := by simp at h ⊢; omega
    rw [List.take_set, List.drop_set_of_lt (by omega), List.take_add_one]
    have : cs.toList[off + k]? = some cs.toList[off + k] := List.getElem?_eq_getElem hlt
    rw [this]
    simp only [Option.toList_some]
    rw [List.set_append_right _ _ (by simp; omega)]
    have hl : (List.take (off + k) cs.toList).length = off + k := by simp; simp at hlt; omega
    simp [hl]
    have e2 : off + k + 1 + l.length = off + k + (l.length + 1) := by omega
    rw [e2]
theorem foldl_set_array (xs cs : Array Value) (off : Nat) (h : off + xs.size ≤ cs.size) :
    (xs.zipIdx.foldl (fun (cs : Array Value) (x : Value × Nat) => cs.setIfInBounds (off + x.2) x.1) cs).toList = ovl cs.toList off xs.toList := by
  have := foldl_set_list xs.toList 0 off cs (by simpa using h)
  rw [← Array.foldl_toList]
  simpa using this
theorem VRel.cells_size {c : Cor} {x : DV} {v : Value} (h : VRel c x v) : v.cells.size = x.cells.length := by
  rw [h.cells.length_eq]; simp

theorem fill_rel {c : Cor} {place : Nat → Option (Nat × Nat)} {ρ : Operand → Value} : ∀ (ps : List (Nat × Operand)) (qs : List (Nat × Nat × DV)),
    All2 (fun (p : Nat × Operand) (q : Nat × Nat × DV) => place p.1 = some (q.1, q.2.1) ∧ VRel c q.2.2 (ρ p.2)) ps qs →
    ∀ (cs : List DV) (r : List DV) (arr : Array Value), VRels c cs arr.toList → buildL cs qs = some r →
    (∀ x ∈ cs, x.one = true) → ∃ arr', Instr.fill place arr (ps.map fun p => (p.1, ρ p.2)) = some arr' ∧ VRels c r arr'.toList ∧ ∀ x ∈ r, x.one = true := by
  intro ps
  induction ps with
  | nil =>
    intro qs hq cs r arr hv hb ho
    cases hq
    simp [buildL] at hb; subst hb
    exact ⟨arr, rfl, hv, ho⟩
  | cons p ps ih =>
    intro qs hq cs r arr hv hb ho
    cases hq with
    | cons h hr =>
      rename_i q qs
      obtain ⟨hp, hx⟩ := h
      obtain ⟨off, n, d⟩ := q
      simp only [buildL] at hb
      split at hb
      · rename_i hc
        have hs := hx.cells_size
        simp only [List.map_cons, Instr.fill, hp]
        have hl := hv.length_eq
        have h1 : (ρ p.2).cells.size = n := by rw [hs]; exact hc.1
        have hn : ¬ (((ρ p.2).cells.size ≠ n || decide (off + (ρ p.2).cells.size > arr.size)) = true) := by
          simp at hl ⊢
          exact ⟨h1, by omega⟩
        rw [if_neg hn]
        refine ih qs hr _ r _ ?_ hb ?_
        case refine_2 =>
          intro y hy
          simp only [overwrite, List.mem_append] at hy
          rcases hy with (h1 | h1) | h1
          · exact ho y (List.mem_of_mem_take h1)
          · exact hx.okv_one hc.2.2 y h1
          · exact ho y (List.mem_of_mem_drop h1)
        have := foldl_set_array (ρ p.2).cells arr off (by simp at hl; omega)
        rw [this]
        exact VRels.ovl hv hx.cells off
      · simp at hb
theorem partsS_rel {P : Program} {D : DProg} {fr : Fr} {a : Act} {c : Cor} {fs : Array Field} (hg : GlobOk D c) (hf : VRels c fr.tmps a.tmps.toList)
    {places : Array (Nat × Nat)} (hpl : ∀ (i : Nat) (f : Field), fs[i]? = some f → ∃ n, sizeOfT P f.type = some n ∧ places[i]? = some (f.offset, n)) :
    ∀ (ps : List (Nat × Operand)) (qs : List (Nat × Nat × Opd)), partsS P fs ps = some qs →
    All2 (fun (p : Nat × Operand) (q : Nat × Nat × DV) => places[p.1]? = some (q.1, q.2.1) ∧ VRel c q.2.2 (a.eval p.2)) ps (qs.map fun q => (q.1, q.2.1, ev D fr q.2.2)) := by
  intro ps
  induction ps with
  | nil => intro qs h; simp [partsS] at h; subst h; exact .nil
  | cons p ps ih =>
    intro qs h
    obtain ⟨i, x⟩ := p
    simp only [partsS] at h
    split at h <;> simp at h
    rename_i f y ys h1 h2 h3
    obtain ⟨n, hn, rfl⟩ := h
    obtain ⟨m, hm, hp⟩ := hpl i f h1
    rw [hn] at hm
    simp at hm; subst hm
    exact .cons ⟨hp, opd_rel hg hf h2⟩ (ih ys h3)
end Go.Dm
/- The D-machine (6): sums, comparisons, conversions. -/
namespace Go.Dm
set_option linter.unusedSimpArgs false
set_option linter.unusedVariables false
set_option linter.unnecessarySimpa false

section
variable {P : Program} {c : Cor} (w : World)
theorem bytes_eq_iff (a b : List UInt8) : ((⟨a.toArray⟩ : ByteArray).toList == (⟨b.toArray⟩ : ByteArray).toList) = decide (a = b) := by
  rw [ByteArray.toList_eq, ByteArray.toList_eq]
  by_cases h : a = b
  · subst h; simp
  · simp [h]
theorem beq_dec (x y : List UInt8) : (x == y) = decide (x = y) := by
  by_cases h : x = y <;> simp [h]
theorem bytes_toList (a : List UInt8) : (⟨a.toArray⟩ : ByteArray).toList = a := by
  rw [ByteArray.toList_eq]
theorem bytes_size (a : List UInt8) : (⟨a.toArray⟩ : ByteArray).size = a.length := by
  simp [ByteArray.size]
theorem bytes_append (a b : List UInt8) : (⟨a.toArray⟩ : ByteArray) ++ ⟨b.toArray⟩ = ⟨(a ++ b).toArray⟩ := by
  apply ByteArray.ext
  simp [ByteArray.data_append]

theorem intBin_rel {op : BinOp} {k : IntKind} {x y : Int} {v : DV} {t : TypeId} (h : intBin op k x y = some v) : ∃ v', (binOp op t (.int k x) (.int k y)).run P w = .ok v' w ∧ VRel c v v' := by
  cases op <;> simp only [intBin] at h
  case quo | rem =>
    split at h <;> simp at h
    subst h
    rename_i h0
    exact ⟨_, by simp [binOp, Op.intDiv, h0], .int _ _⟩
  all_goals first
    | (simp at h; subst h; exact ⟨_, by simp [binOp, Op.intArith, Op.intBits, Op.intCmp, bne]; try rfl, by first | exact .int _ _ | exact .bool _⟩)
    | (simp at h)
theorem strBin_rel {op : BinOp} {x y : List UInt8} {v : DV} {t : TypeId} (h : strBin op x y = some v) : ∃ v', (binOp op t (.string ⟨x.toArray⟩) (.string ⟨y.toArray⟩)).run P w = .ok v' w ∧ VRel c v v' := by
  cases op <;> simp only [strBin] at h
  case add =>
    split at h <;> simp at h
    subst h
    rename_i h0
    refine ⟨_, ?_, .str _⟩
    have h1 : ¬ (IntKind.i64.max < (x.length : Int) + (y.length : Int)) := by
      simp [IntKind.max, IntKind.signed, IntKind.bits]; omega
    simp [binOp, Op.stringOp, bytes_size, h1, bytes_append]
    omega
  all_goals first
    | (simp at h; subst h; refine ⟨_, ?_, .bool _⟩; simp only [binOp, Op.stringOp, bytes_eq_iff, bytes_toList, strLess]; simp [beq_dec])
    | (simp at h)
theorem eqBin_rel {op : BinOp} {r : Bool} {v : DV} {s : Sem Value} (h : eqBin op r = some v) (he : op = .eql → s.run P w = .ok (.bool r) w) (hn : op = .neq → s.run P w = .ok (.bool (!r)) w) : ∃ v', s.run P w = .ok v' w ∧ VRel c v v' := by
  cases op <;> simp [eqBin] at h
  · subst h; exact ⟨_, he rfl, .bool _⟩
  · subst h; exact ⟨_, hn rfl, .bool _⟩
theorem eqBin_op {op : BinOp} {r : Bool} {v : DV} (h : eqBin op r = some v) : op = .eql ∨ op = .neq := by
  cases op <;> simp [eqBin] at h <;> simp

theorem fieldKs_cons {off : Nat} {f : Field} {fs : List Field} {ks : List SK} (h : fieldKs P off (f :: fs) = some ks) :
    f.name ≠ "_" ∧ f.offset = off ∧ ∃ k ks', scalarK P f.type = some k ∧ shapeOf P f.type = some none ∧ fieldKs P (off + 1) fs = some ks' ∧ ks = k :: ks' := by
  simp only [fieldKs] at h
  split at h
  · rename_i h0
    split at h <;> simp at h
    subst h
    simp at h0
    exact ⟨h0.1, h0.2, _, _, ‹_›, ‹_›, ‹_›, rfl⟩
  · simp at h
theorem part_none {t : TypeId} (h : shapeOf P t = some none) {cs : Array Value} {off : Nat} {v : Value} (hv : cs[off]? = some v) : (part t cs off).run P w = .ok v w := by
  simp [part, run_isAgg_none w h, hv]
theorem equalIn_scalar {k : SK} {d : Nat} {t : TypeId} (h : scalarK P t = some k) :
    (k = .int → ∀ q a b, (Op.equalIn (d + 1) t (.int q a) (.int q b)).run P w = .ok (a == b) w) ∧
    (k = .bool → ∀ a b, (Op.equalIn (d + 1) t (.bool a) (.bool b)).run P w = .ok (a == b) w) ∧
    (k = .str → ∀ a b, (Op.equalIn (d + 1) t (.string a) (.string b)).run P w = .ok (a.toList == b.toList) w) := by
  unfold scalarK at h
  split at h <;> simp at h <;> subst h <;> rename_i hu
  · exact ⟨by simp, fun _ a b => run_equalIn_bool w d t a b hu, by simp⟩
  · exact ⟨fun _ q a b => run_equalIn_int w d t q _ a b hu, by simp, by simp⟩
  · exact ⟨by simp, by simp, fun _ a b => run_equalIn_string w d t a b hu⟩
theorem eqFields_rel {d : Nat} {xs ys : Array Value} : ∀ (fs : List Field) (ks : List SK) (off : Nat) (az bs : List DV) (r : Bool), fieldKs P off fs = some ks → plainEq ks az bs = some r →
    (∀ j x, az[j]? = some x → ∃ v, xs[off + j]? = some v ∧ VRel c x v) → (∀ j x, bs[j]? = some x → ∃ v, ys[off + j]? = some v ∧ VRel c x v) →
    (Op.eqFields (d + 1) xs ys fs).run P w = .ok r w := by
  intro fs
  induction fs with
  | nil =>
    intro ks off az bs r hk hp _ _
    simp [fieldKs] at hk; subst hk
    cases az <;> cases bs <;> simp [plainEq] at hp
    subst hp
    simp [Op.eqFields]
  | cons f fs ih =>
    intro ks off az bs r hk hp hx hy
    obtain ⟨hn, ho, k, ks', h1, h2, h3, rfl⟩ := fieldKs_cons hk
    match az, bs with
    | [], _ => cases k <;> simp [plainEq] at hp
    | _ :: _, [] => cases k <;> simp [plainEq] at hp
    | x :: az, y :: bs =>
      obtain ⟨vx, hvx, rx⟩ := hx 0 x rfl
      obtain ⟨vy, hvy, ry⟩ := hy 0 y rfl
      have hx' : ∀ j z, az[j]? = some z → ∃ v, xs[off + 1 + j]? = some v ∧ VRel c z v := fun j z hz => by
        have := hx (j + 1) z (by simpa using hz)
        rwa [show off + (j + 1) = off + 1 + j by omega] at this
      have hy' : ∀ j z, bs[j]? = some z → ∃ v, ys[off + 1 + j]? = some v ∧ VRel c z v := fun j z hz => by
        have := hy (j + 1) z (by simpa using hz)
        rwa [show off + (j + 1) = off + 1 + j by omega] at this
      obtain ⟨e1, e2, e3⟩ := equalIn_scalar (P := P) w (d := d) h1
      simp only [Nat.add_zero] at hvx hvy
      have px := part_none w h2 (ho ▸ hvx)
      have py := part_none w h2 (ho ▸ hvy)
      have key : ∀ q : Bool, (Op.equalIn (d + 1) f.type vx vy).run P w = .ok q w → (∀ r', plainEq ks' az bs = some r' → r = (q && r')) → (plainEq ks' az bs).isSome → (Op.eqFields (d + 1) xs ys (f :: fs)).run P w = .ok r w := by
        intro q hq hr hs
        obtain ⟨r', hr'⟩ := Option.isSome_iff_exists.1 hs
        have := hr r' hr'
        simp only [Op.eqFields, hn, ne_eq, not_false_eq_true, if_true, Sem.run_bind, px, py, Result.andThen_ok, hq]
        cases q
        · simp at this; subst this; simp
        · simp at this; subst this; simpa using ih ks' (off + 1) az bs r h3 hr' hx' hy'
      cases k with
      | int =>
        cases x <;> cases y <;> simp only [plainEq] at hp <;> try (cases hp; done)
        split at hp
        · rename_i e; subst e
          obtain ⟨r', hr', hrr⟩ := Option.map_eq_some_iff.1 hp
          cases rx.int_inv; cases ry.int_inv
          exact key _ (e1 rfl _ _ _) (fun z hz => by rw [hr'] at hz; cases hz; rw [← hrr]; rfl) (by simp [hr'])
        · simp at hp
      | bool =>
        cases x <;> cases y <;> simp only [plainEq] at hp <;> try (cases hp; done)
        obtain ⟨r', hr', hrr⟩ := Option.map_eq_some_iff.1 hp
        cases rx.bool_inv; cases ry.bool_inv
        exact key _ (e2 rfl _ _) (fun z hz => by rw [hr'] at hz; cases hz; rw [← hrr]) (by simp [hr'])
      | str =>
        cases x <;> cases y <;> simp only [plainEq] at hp <;> try (cases hp; done)
        obtain ⟨r', hr', hrr⟩ := Option.map_eq_some_iff.1 hp
        cases rx.str_inv; cases ry.str_inv
        refine key _ (e3 rfl _ _) (fun z hz => ?_) (by simp [hr'])
        rw [hr'] at hz; cases hz; rw [← hrr, bytes_eq_iff]

theorem eqIn_ptr1 {t e : TypeId} {d : Nat} (hu : P.underlying t = some (.pointer e)) (a b : Option Addr) (h : a = none ∨ b = none) : (Op.equalIn (d + 1) t (.pointer a) (.pointer b)).run P w = .ok (a.isNone && b.isNone) w := by
  rcases h with rfl | rfl
  · simp [Op.equalIn, run_underlying hu]
  · cases a <;> simp [Op.equalIn, run_underlying hu]
theorem eqIn_sl {t e : TypeId} {d : Nat} (hu : P.underlying t = some (.slice e)) (a : Option Addr) (n c : Nat) : (Op.equalIn (d + 1) t (.slice a n c) (.slice none 0 0)).run P w = .ok a.isNone w := by
  cases a <;> simp [Op.equalIn, run_underlying hu]
def isNilF : Value → Bool
  | .nilFunc => true
  | _ => false
theorem eqIn_fn {t : TypeId} {ps rs : Array TypeId} {vd : Bool} {d : Nat} (hu : P.underlying t = some (.func ps rs vd)) (x y : Value) (hx : x = .nilFunc ∨ ∃ f a b, x = .func f a b) (hy : y = .nilFunc ∨ ∃ f a b, y = .func f a b)
    (h : x = .nilFunc ∨ y = .nilFunc) : (Op.equalIn (d + 1) t x y).run P w = .ok (isNilF x && isNilF y) w := by
  rcases hx with rfl | ⟨f, a, b, rfl⟩ <;> rcases hy with rfl | ⟨g, a', b', rfl⟩
  · simp [Op.equalIn, run_underlying hu, isNilF]
  · simp [Op.equalIn, run_underlying hu, isNilF]
  · simp [Op.equalIn, run_underlying hu, isNilF]
  · simp at h
theorem go_eql {t : TypeId} {x y : Value} {ox oy : Operand} {r : Bool} (hb : binOp .eql t x y = (do pure (.bool (← Op.equal t x y)))) (hg : (eqGuard .eql t ox oy x y).run P w = .ok () w) (h : (Op.equalIn (9999 + 1) t x y).run P w = .ok r w) :
    ((do eqGuard .eql t ox oy x y; binOp .eql t x y : Sem Value)).run P w = .ok (.bool r) w := by
  rw [Sem.run_bind, hg, hb]
  simp only [Result.andThen_ok, Sem.run_bind]
  rw [show (Op.equal t x y).run P w = .ok r w from h]
  rfl
theorem go_neq {t : TypeId} {x y : Value} {ox oy : Operand} {r : Bool} (hb : binOp .neq t x y = (do pure (.bool (!(← Op.equal t x y))))) (hg : (eqGuard .neq t ox oy x y).run P w = .ok () w) (h : (Op.equalIn (9999 + 1) t x y).run P w = .ok r w) :
    ((do eqGuard .neq t ox oy x y; binOp .neq t x y : Sem Value)).run P w = .ok (.bool (!r)) w := by
  rw [Sem.run_bind, hg, hb]
  simp only [Result.andThen_ok, Sem.run_bind]
  rw [show (Op.equal t x y).run P w = .ok r w from h]
  rfl
theorem bin_rel {op : BinOp} {t : TypeId} {ek : EqK} {x y : DV} {vx vy : Value} {v : DV} {ox oy : Operand} (hb : binD op ek x y = some v) (hx : VRel c x vx) (hy : VRel c y vy)
    (hk : (op = .eql ∨ op = .neq) → eqKind P t = some ek) :
    ∃ v', ((do eqGuard op t ox oy vx vy; binOp op t vx vy : Sem Value)).run P w = .ok v' w ∧ VRel c v v' := by
  cases x <;> cases y <;> simp only [binD] at hb <;> try (cases hb; done)
  case int.int k a l b =>
    cases hx.int_inv; cases hy.int_inv
    have hg : (eqGuard op t ox oy (.int k a) (.int l b)).run P w = .ok () w := by cases op <;> simp [eqGuard]
    simp only [Sem.run_bind, hg, Result.andThen_ok]
    split at hb
    · split at hb <;> simp at hb
      subst hb
      exact ⟨_, by simp [binOp, Op.shift, ‹¬ _›], .int _ _⟩
    · split at hb <;> simp at hb
      subst hb
      exact ⟨_, by simp [binOp, Op.shift, ‹¬ _›], .int _ _⟩
    · split at hb
      · rename_i e; subst e
        exact intBin_rel w hb
      · simp at hb
  case str.str a b =>
    cases hx.str_inv; cases hy.str_inv
    have hg : (eqGuard op t ox oy (.string ⟨a.toArray⟩) (.string ⟨b.toArray⟩)).run P w = .ok () w := by cases op <;> simp [eqGuard]
    simp only [Sem.run_bind, hg, Result.andThen_ok]
    exact strBin_rel w hb
  case bool.bool a b =>
    cases hx.bool_inv; cases hy.bool_inv
    have hg : (eqGuard op t ox oy (.bool a) (.bool b)).run P w = .ok () w := by cases op <;> simp [eqGuard]
    simp only [Sem.run_bind, hg, Result.andThen_ok]
    split at hb
    · rename_i e; subst e
      have hu : P.underlying t = some .bool := by
        have hk' := hk (eqBin_op hb)
        unfold eqKind at hk'
        split at hk' <;> simp at hk'
        assumption
      exact eqBin_rel w hb (fun e => by subst e; exact run_eql_bool w t a b hu) (fun e => by subst e; exact run_neq_bool w t a b hu)
    · simp at hb
  case agg.agg a b =>
    obtain ⟨va, ra, _, rfl⟩ := hx.agg_inv
    obtain ⟨vb, rb, _, rfl⟩ := hy.agg_inv
    split at hb
    · rename_i ks
      obtain ⟨r, hr, hb⟩ := Option.bind_eq_some_iff.1 hb
      have hk' := hk (eqBin_op hb)
      unfold eqKind at hk'
      split at hk' <;> simp at hk'
      rename_i fs hu
      obtain ⟨⟨g1, g2⟩, g3⟩ := hk'
      have hg : (eqGuard op t ox oy (.agg va.toArray) (.agg vb.toArray)).run P w = .ok () w := run_eqGuard_agg w op t ox oy _ _ g1
      simp only [Sem.run_bind, hg, Result.andThen_ok]
      have hfs : P.underlying t = some (.struct (P.fieldsOf t)) := by simp [Program.fieldsOf, hu]
      have heq : (Op.equalIn 10000 t (.agg va.toArray) (.agg vb.toArray)).run P w = .ok r w := by
        rw [run_equalIn_struct w 9999 t _ _ hfs g2]
        have : (P.fieldsOf t) = fs := by simp [Program.fieldsOf, hu]
        rw [this]
        refine eqFields_rel (c := c) w (d := 9998) fs.toList ks 0 a b r g3 hr (fun j x hj => ?_) (fun j x hj => ?_)
        · obtain ⟨v, h1, h2⟩ := ra.get j hj; exact ⟨v, by simpa using h1, h2⟩
        · obtain ⟨v, h1, h2⟩ := rb.get j hj; exact ⟨v, by simpa using h1, h2⟩
      exact eqBin_rel w hb (fun e => by subst e; rw [run_eql_struct, heq]; rfl) (fun e => by subst e; rw [run_neq_struct, heq]; rfl)
    · simp at hb
  case lst.lst t0 z0 xs u z1 ys =>
    by_cases hz : u = 0 ∧ ys = []
    · obtain ⟨rfl, rfl⟩ := hz
      simp only at hb
      split at hb
      · rename_i e; subst e
        have hk' := hk (eqBin_op hb)
        unfold eqKind at hk'
        split at hk' <;> simp at hk'
        rename_i hu
        obtain ⟨a, cap, vs, _, _, _, _, _, _, h0, h1, _, rfl⟩ := hx.lst_inv
        obtain ⟨a', cap', vs', _, _, _, _, _, _, h0', _, _, rfl⟩ := hy.lst_inv
        obtain ⟨rfl, rfl⟩ := h0' rfl
        have hn : a.isNone = (t0 == 0) := by
          by_cases e : t0 = 0
          · obtain ⟨rfl, _⟩ := h0 e; simp [e]
          · obtain ⟨b, o, sp, rfl, _⟩ := h1 e; simp [e]
        rw [← hn] at hb
        exact eqBin_rel w hb (fun e => by subst e; exact go_eql w rfl (by simp [eqGuard]) (eqIn_sl w hu _ _ _)) (fun e => by subst e; exact go_neq w rfl (by simp [eqGuard]) (eqIn_sl w hu _ _ _))
      · simp at hb
    · split at hb <;> simp_all
  case arr.lst i0 s0 o0 n0 u z1 ys =>
    by_cases hz : u = 0 ∧ ys = []
    · obtain ⟨rfl, rfl⟩ := hz
      simp only at hb
      split at hb
      · rename_i e; subst e
        have hk' := hk (eqBin_op hb)
        unfold eqKind at hk'
        split at hk' <;> simp at hk'
        rename_i hu
        obtain ⟨cap, b, o, lim, ab, ao, _, _, _, rfl⟩ := hx.arr_inv
        obtain ⟨a', cap', vs', _, _, _, _, _, _, h0', _, _, rfl⟩ := hy.lst_inv
        obtain ⟨rfl, rfl⟩ := h0' rfl
        exact eqBin_rel w hb (fun e => by subst e; exact go_eql w rfl (by simp [eqGuard]) (eqIn_sl w hu _ _ _)) (fun e => by subst e; exact go_neq w rfl (by simp [eqGuard]) (eqIn_sl w hu _ _ _))
      · simp at hb
    · split at hb <;> simp_all
  case nilp.nilp | nilp.ptr | ptr.nilp | nilp.elt | elt.nilp =>
    split at hb
    · rename_i e; subst e
      have hk' := hk (eqBin_op hb)
      unfold eqKind at hk'
      split at hk' <;> simp at hk'
      rename_i hu
      cases hx <;> cases hy
      exact eqBin_rel w hb (fun e => by subst e; exact go_eql w rfl (by simp [eqGuard]) (eqIn_ptr1 w hu _ _ (by simp))) (fun e => by subst e; exact go_neq w rfl (by simp [eqGuard]) (eqIn_ptr1 w hu _ _ (by simp)))
    · simp at hb
  case nilfn.nilfn | nilfn.fn | fn.nilfn =>
    split at hb
    · rename_i e; subst e
      have hk' := hk (eqBin_op hb)
      unfold eqKind at hk'
      split at hk' <;> simp at hk'
      rename_i hu
      cases hx <;> cases hy
      exact eqBin_rel w hb (fun e => by subst e; exact go_eql w rfl (by simp [eqGuard]) (eqIn_fn w hu _ _ (by simp) (by simp) (by simp))) (fun e => by subst e; exact go_neq w rfl (by simp [eqGuard]) (eqIn_fn w hu _ _ (by simp) (by simp) (by simp)))
    · simp at hb
end
end Go.Dm
/- The D-machine (7): the other operations that only compute. -/
namespace Go.Dm
set_option linter.unusedSimpArgs false
set_option linter.unusedVariables false
set_option linter.unnecessarySimpa false

section
variable {P : Program} {c : Cor} (w : World)
theorem un_rel {op : UnOp} {x : DV} {vx : Value} {v : DV} (h : unD op x = some v) (hx : VRel c x vx) : ∃ v', (Op.unary op vx).run P w = .ok v' w ∧ VRel c v v' := by
  cases x <;> simp [unD] at h
  case int k n =>
    cases hx.int_inv
    cases op <;> simp at h
    · subst h; exact ⟨_, by simp [Op.unary, Op.intArith], .int _ _⟩
    · simp [intBin] at h; subst h
      exact ⟨_, by simp [Op.unary, Op.intBits], .int _ _⟩
  case bool b =>
    cases hx.bool_inv
    cases op <;> simp at h
    subst h
    exact ⟨_, by simp [Op.unary], .bool _⟩

theorem byte?_some {x : DV} {b : UInt8} (h : byte? x = some b) : ∃ n : Int, x = .int .u8 n ∧ 0 ≤ n ∧ n < 256 ∧ b = UInt8.ofNat n.toNat := by
  unfold byte? at h
  split at h
  · split at h <;> simp at h
    exact ⟨_, rfl, by omega, by omega, h.symm⟩
  · simp at h
theorem rune?_some {x : DV} {r : Int} (h : rune? x = some r) : x = .int .i32 r := by
  unfold rune? at h
  split at h <;> simp at h
  subst h; rfl
theorem flat_scalar : ∀ (xs : List DV), (∀ x ∈ xs, ∀ cs, x ≠ .agg cs) → flat xs = xs
  | [], _ => rfl
  | x :: xs, h => by
    have h1 : x.cells = [x] := by
      have := h x (by simp)
      cases x <;> simp_all [DV.cells]
    simp only [flat, List.flatMap_cons, h1]
    have := flat_scalar xs fun y hy => h y (by simp [hy])
    simp only [flat] at this
    rw [this]; rfl
def nums (k : IntKind) (ns : List Int) : List DV := ns.map (DV.int k)
theorem nums_rel {k : IntKind} : ∀ {ns : List Int} {vs : List Value}, VRels c (nums k ns) vs → vs = ns.map (Value.int k)
  | [], vs, h => by cases h; rfl
  | n :: ns, vs, h => by
    cases h with
    | cons h hs => cases h.int_inv; rw [nums_rel hs]; rfl
theorem nums_flat (k : IntKind) (ns : List Int) : flat (nums k ns) = nums k ns := flat_scalar _ fun x hx cs e => by
  subst e; simp [nums] at hx
theorem toStr?_some : ∀ {xs : List DV} {s : List UInt8}, toStr? xs = some s → ∃ ns : List Int, xs = nums .u8 ns ∧ s = ns.map fun n => UInt8.ofNat n.toNat
  | [], s, h => by simp [toStr?] at h; subst h; exact ⟨[], rfl, rfl⟩
  | x :: xs, s, h => by
    simp only [toStr?] at h
    split at h <;> simp at h
    rename_i b s' hb hs
    subst h
    obtain ⟨n, rfl, h0, h1, rfl⟩ := byte?_some hb
    obtain ⟨ns, rfl, rfl⟩ := toStr?_some hs
    exact ⟨n :: ns, rfl, rfl⟩
theorem runesStr?_some : ∀ {xs : List DV} {s : List UInt8}, runesStr? xs = some s → ∃ ns : List Int, xs = nums .i32 ns ∧ s = ns.flatMap fun n => (Utf8.encode n).data.toList
  | [], s, h => by simp [runesStr?] at h; subst h; exact ⟨[], rfl, rfl⟩
  | x :: xs, s, h => by
    simp only [runesStr?] at h
    split at h <;> simp at h
    rename_i b s' hb hs
    subst h
    cases rune?_some hb
    obtain ⟨ns, rfl, rfl⟩ := runesStr?_some hs
    exact ⟨b :: ns, rfl, rfl⟩
theorem foldl_push : ∀ (ns : List Int) (acc : ByteArray), ns.foldl (fun (r : ByteArray) n => r.push (UInt8.ofNat n.toNat)) acc = ⟨(acc.data.toList ++ ns.map fun n => UInt8.ofNat n.toNat).toArray⟩
  | [], acc => by simp
  | n :: ns, acc => by
    simp only [List.foldl_cons]
    rw [foldl_push ns]
    simp
theorem foldl_encode : ∀ (ns : List Int) (acc : ByteArray), ns.foldl (fun (r : ByteArray) n => r ++ Utf8.encode n) acc = ⟨(acc.data.toList ++ ns.flatMap fun n => (Utf8.encode n).data.toList).toArray⟩
  | [], acc => by simp
  | n :: ns, acc => by
    simp only [List.foldl_cons]
    rw [foldl_encode ns]
    simp

def Kept (c : Cor) (w : World) : Prop := ∀ b o v, c.kp b o = some v → w.cell? ⟨b, o, none⟩ = some v
theorem add_plain (b o j : Nat) : (⟨b, o, none⟩ : Addr).add j = ⟨b, o + j, none⟩ := by unfold Addr.add; split <;> simp_all
theorem lst_cells (hk : Kept c w) {t sz : Nat} {xs : List DV} {a : Addr} {cap : Nat} (h : VRel c (.lst t sz xs) (.slice (some a) xs.length cap)) :
    ∃ vs, (∀ x ∈ xs, x.cells.length = sz) ∧ (∀ x ∈ flat xs, x.one = true) ∧ VRels c (flat xs) vs ∧ (xs ≠ [] → (loadCells a (xs.length * sz)).run P w = .ok vs.toArray w) ∧ vs.length = xs.length * sz := by
  cases h with
  | lst hsz hs hv ho hc hl h0 h1 ht =>
    rename_i vs
    have hlen : vs.length = xs.length * sz := by
      rw [← hv.length_eq]
      clear hv hc hl ht ho
      induction xs with
      | nil => simp [flat]
      | cons x xs ih =>
        have := ih fun y hy => hs y (by simp [hy])
        simp only [flat, List.flatMap_cons, List.length_append, hs x (by simp), List.length_cons] at this ⊢
        rw [this, Nat.succ_mul]; omega
    refine ⟨vs, hs, ho, hv, fun hne => ?_, hlen⟩
    obtain ⟨b, o, e, hp⟩ := hc hne
    cases e
    rw [← hlen]
    exact run_loadCells_list w ⟨b, o, none⟩ vs fun j x hj => by rw [add_plain]; exact hk _ _ _ (hp j x hj)
theorem str_nil : VRel c (.str []) (.string ByteArray.empty) := .str []
theorem bytesStr_rel (hk : Kept c w) {t sz : Nat} {xs : List DV} {s : List UInt8} {vx : Value} (h : toStr? xs = some s) (hx : VRel c (.lst t sz xs) vx) : ∃ v', (Conv.bytesToString vx).run P w = .ok v' w ∧ VRel c (.str s) v' := by
  obtain ⟨ns, rfl, rfl⟩ := toStr?_some h
  obtain ⟨a, cap, vs, q1, q2, q3, qo, q4, q5, q6, q7, q8, rfl⟩ := hx.lst_inv
  cases a with
  | none =>
    have : ns = [] := by
      cases ns with
      | nil => rfl
      | cons n ns => obtain ⟨b, o, e, _⟩ := q4 (by simp [nums]); cases e
    subst this
    exact ⟨_, rfl, str_nil⟩
  | some a =>
    obtain ⟨vs', r2, r1, r3, r4, r5⟩ := lst_cells (P := P) w hk hx
    cases ns with
    | nil =>
      have := run_bytesToString (P := P) w a 0 cap [] (by simp [loadCells, loadCellsFrom])
      exact ⟨_, this, str_nil⟩
    | cons n ns =>
      have hsz : sz = 1 := by
        have := r2 (.int .u8 n) (by simp [nums])
        simpa [DV.cells] using this.symm
      subst hsz
      rw [nums_flat] at r3
      have hv := nums_rel r3
      have hl := r4 (by simp [nums])
      rw [hv] at hl
      have := run_bytesToString (P := P) w a (nums .u8 (n :: ns)).length cap (n :: ns) (by simpa using hl)
      refine ⟨_, this, ?_⟩
      rw [foldl_push]
      exact .str _
theorem runesStr_rel (hk : Kept c w) {t sz : Nat} {xs : List DV} {s : List UInt8} {vx : Value} (h : runesStr? xs = some s) (hx : VRel c (.lst t sz xs) vx) : ∃ v', (Conv.runesToString vx).run P w = .ok v' w ∧ VRel c (.str s) v' := by
  obtain ⟨ns, rfl, rfl⟩ := runesStr?_some h
  obtain ⟨a, cap, vs, q1, q2, q3, qo, q4, q5, q6, q7, q8, rfl⟩ := hx.lst_inv
  cases a with
  | none =>
    have : ns = [] := by
      cases ns with
      | nil => rfl
      | cons n ns => obtain ⟨b, o, e, _⟩ := q4 (by simp [nums]); cases e
    subst this
    exact ⟨_, rfl, str_nil⟩
  | some a =>
    obtain ⟨vs', r2, r1, r3, r4, r5⟩ := lst_cells (P := P) w hk hx
    cases ns with
    | nil =>
      have := run_runesToString (P := P) w a 0 cap [] (by simp [loadCells, loadCellsFrom])
      exact ⟨_, this, str_nil⟩
    | cons n ns =>
      have hsz : sz = 1 := by
        have := r2 (.int .i32 n) (by simp [nums])
        simpa [DV.cells] using this.symm
      subst hsz
      rw [nums_flat] at r3
      have hv := nums_rel r3
      have hl := r4 (by simp [nums])
      rw [hv] at hl
      have := run_runesToString (P := P) w a (nums .i32 (n :: ns)).length cap (n :: ns) (by simpa using hl)
      refine ⟨_, this, ?_⟩
      rw [runesBytes, foldl_encode]
      exact .str _
/-- Bounds of a cut. -/
theorem bounds_rel {len cap : Nat} {lo hi : Option DV} {vlo vhi : Option Value} {l r : Nat} {sl : Bool} (hcap : len ≤ cap) (h : bounds len lo hi = some (l, r))
    (h1 : (lo = none ∧ vlo = none) ∨ ∃ d v, lo = some d ∧ vlo = some v ∧ VRel c d v) (h2 : (hi = none ∧ vhi = none) ∨ ∃ d v, hi = some d ∧ vhi = some v ∧ VRel c d v) :
    (Instr.sliceBounds sl len cap vlo vhi none).run P w = .ok (l, r, cap) w ∧ l ≤ r ∧ r ≤ len := by
  rcases h1 with ⟨rfl, rfl⟩ | ⟨d1, v1, rfl, rfl, r1⟩ <;> rcases h2 with ⟨rfl, rfl⟩ | ⟨d2, v2, rfl, rfl, r2⟩
  · simp [bounds] at h
    obtain ⟨rfl, rfl⟩ := h
    simp [Instr.sliceBounds]
  · cases d2 <;> simp [bounds] at h
    rename_i k n
    obtain ⟨hb, rfl, rfl⟩ := h
    cases r2.int_inv
    have := run_sliceBound (P := P) (w := w) k n cap (if sl then .sliceAcap else .sliceAlen) hb.1 (by omega)
    simp only [Instr.sliceBounds, Sem.run_bind, Sem.run_pure, Result.andThen_ok]
    rw [this]
    simp; omega
  · cases d1 <;> simp [bounds] at h
    rename_i k n
    obtain ⟨hb, rfl, rfl⟩ := h
    cases r1.int_inv
    have := run_sliceBound (P := P) (w := w) k n len .sliceB hb.1 (by omega)
    simp only [Instr.sliceBounds, Sem.run_bind, Sem.run_pure, Result.andThen_ok, Option.isSome_none, Bool.false_eq_true, if_false]
    rw [this]
    simp; omega
  · cases d1 <;> cases d2 <;> simp [bounds] at h
    rename_i k n k' n'
    obtain ⟨hb, rfl, rfl⟩ := h
    cases r1.int_inv; cases r2.int_inv
    have e1 := run_sliceBound (P := P) (w := w) k' n' cap (if sl then .sliceAcap else .sliceAlen) (by omega) (by omega)
    have e2 := run_sliceBound (P := P) (w := w) k n n'.toNat .sliceB hb.1 (by omega)
    simp only [Instr.sliceBounds, Sem.run_bind, Sem.run_pure, Result.andThen_ok, Option.isSome_none, Bool.false_eq_true, if_false]
    rw [e1]
    simp only [Result.andThen_ok]
    rw [e2]
    simp; omega
end
end Go.Dm
/- The D-machine (8): every operation that gives a value and leaves the heap alone. -/
namespace Go.Dm
set_option linter.unusedSimpArgs false
set_option linter.unusedVariables false
set_option linter.unnecessarySimpa false

/-- A world that a computation leaves: the same, but that a cell behind a block of ours may have been marked. -/
inductive Quiet (c : Cor) (w : World) : World → Prop where
  | same : Quiet c w w
  | mark {t b e lim sz : Nat} {vs : Array Value} {ty : TypeId} {f : Nat × Nat} (h : c.τ t = some (b, e, lim, sz)) (hb : w.heap[b]? = some (.cells vs ty f)) : Quiet c w (w.freeze ⟨b, vs.size, none⟩ 1)

section
variable {P : Program} {c : Cor} (w : World)
theorem loadCells_of {b o : Nat} {vs : List Value} (h : ∀ j x, vs[j]? = some x → w.cell? ⟨b, o + j, none⟩ = some x) : (loadCells ⟨b, o, none⟩ vs.length).run P w = .ok vs.toArray w :=
  run_loadCells_list w ⟨b, o, none⟩ vs fun j x hj => by rw [add_plain]; exact h j x hj
theorem loadVar_rel {t : TypeId} {sh : Shape} (hs : shapeOf P t = some sh) {b o : Nat} {ds : List DV} {vs : List Value} (hv : VRels c ds vs) (ho : ∀ x ∈ ds, x.one = true) (hl : ds.length = sh.size) (h : ∀ j x, vs[j]? = some x → w.cell? ⟨b, o + j, none⟩ = some x)
    {v : DV} (hm : mkv sh ds = some v) : ∃ v', (loadVar t ⟨b, o, none⟩).run P w = .ok v' w ∧ VRel c v v' := by
  rcases mkv_rel hv ho hm hl with ⟨n, rfl, hr⟩ | ⟨rfl, x, rfl, hr⟩
  · have h1 := loadCells_of (P := P) w h
    have hlen : vs.length = n := by rw [← hv.length_eq, hl]; rfl
    rw [hlen] at h1
    have h2 := run_sizeOf_shape (P := P) w hs
    simp only [Shape.size, Option.getD_some] at h2
    refine ⟨_, ?_, hr⟩
    simp [loadVar, run_isAgg_some w hs, h2, h1]
  · refine ⟨x, ?_, hr⟩
    have := h 0 x rfl
    simp only [Nat.add_zero] at this
    simp [loadVar, run_isAgg_none w hs, this]
theorem part_rel {t : TypeId} {sh : Shape} (hs : shapeOf P t = some sh) {cs : List DV} {vs : List Value} (hv : VRels c cs vs) (ho : ∀ x ∈ cs, x.one = true) {off : Nat} {r : List DV} {v : DV} (hc : cut cs off sh.size = some r) (hm : mkv sh r = some v) :
    ∃ v', (part t vs.toArray off).run P w = .ok v' w ∧ VRel c v v' := by
  obtain ⟨h1, rfl⟩ := cut_some hc
  have hr := (hv.drop off).take sh.size
  have hl := cut_length hc
  have hvl := hv.length_eq
  rcases mkv_rel hr (fun x hx => ho x (List.mem_of_mem_drop (List.mem_of_mem_take hx))) hm hl with ⟨n, rfl, hr'⟩ | ⟨rfl, x, hx, hr'⟩
  · refine ⟨_, ?_, hr'⟩
    have h2 := run_sizeOf_shape (P := P) w hs
    simp only [Shape.size, Option.getD_some] at h2
    have e : (vs.toArray.extract off (off + n)) = ((vs.drop off).take n).toArray := by
      simp [List.take_drop, Nat.add_comm]
    simp only [part, Sem.run_bind, run_isAgg_some w hs, Result.andThen_ok, if_true, h2, Sem.run_pure, Shape.size, Option.getD_some, e]
  · refine ⟨x, ?_, hr'⟩
    have : vs[off]? = some x := by
      have h3 : ((vs.drop off).take 1)[0]? = some x := by
        have : Shape.size none = 1 := rfl
        rw [this] at hx
        rw [hx]; rfl
      simpa using h3
    simp [part, run_isAgg_none w hs, this]

/-- A load at an address of ours. -/
theorem load_rel {CC : Code → DC → Prop} {base : Nat} {h : Heap} (hS : Sim CC base c h w.heap) {t : TypeId} {sh : Shape} (hs : shapeOf P t = some sh) {x v : DV} {vx : Value} (hx : VRel c x vx) (hl : loadD h sh x = some v) :
    ∃ v', (Instr.loadAt t vx).run P w = .ok v' w ∧ VRel c v v' := by
  cases x <;> simp only [loadD] at hl <;> try (cases hl; done)
  case ptr id off =>
    obtain ⟨b, o, lim, sz, hφ, rfl⟩ := hx.ptr_inv
    split at hl
    · rename_i cs sh' hob
      obtain ⟨r, hr, hm⟩ := Option.bind_eq_some_iff.1 hl
      obtain ⟨_, _, hlen, vs, e, f, hb, hsz, hf, hone, hcell⟩ := hS.objs id _ b o lim sz hob hφ
      obtain ⟨h1, rfl⟩ := cut_some hr
      have hx' : ∀ j x, cs[j]? = some x → ∃ v, vs[o + j]? = some v ∧ VRel c x v := hcell
      -- the cells that are read
      have : ∃ ws : List Value, VRels c ((cs.drop off).take sh.size) ws ∧ ∀ j x, ws[j]? = some x → vs[o + off + j]? = some x := by
        refine ⟨((vs.toList.drop (o + off)).take sh.size), VRels.of_get ?_ ?_, ?_⟩
        · simp; omega
        · intro i x v hi hv
          have hi1 : cs[off + i]? = some x := by
            have hlt : i < sh.size := by
              have := (List.getElem?_eq_some_iff.1 hi).1; simp at this; omega
            simpa [List.getElem?_take, hlt] using hi
          obtain ⟨u, hu, hr⟩ := hx' _ _ hi1
          have hv1 : vs[o + off + i]? = some v := by
            have hlt : i < sh.size := by
              have := (List.getElem?_eq_some_iff.1 hv).1; simp at this; omega
            simpa [List.getElem?_take, hlt] using hv
          rw [show o + (off + i) = o + off + i by omega, hv1] at hu
          cases hu; exact hr
        · intro j x hj
          have hlt : j < sh.size := by
            have := (List.getElem?_eq_some_iff.1 hj).1; simp at this; omega
          simpa [List.getElem?_take, hlt] using hj
      obtain ⟨ws, hw, hwc⟩ := this
      obtain ⟨v', h2, h3⟩ := loadVar_rel (P := P) w hs (b := b) (o := o + off) hw (fun x hx => hone x (List.mem_of_mem_drop (List.mem_of_mem_take hx))) (by simpa using cut_length hr) (fun j x hj => by
        have := hwc j x hj
        simp [World.cell?, hb, this]) hm
      exact ⟨v', by simpa [Instr.loadAt, Instr.sureAddr] using h2, h3⟩
    · simp at hl
  case elt cs =>
    obtain ⟨vs, b, o, hv, hone, hp, rfl⟩ := hx.elt_inv
    obtain ⟨r, hr, hm⟩ := Option.bind_eq_some_iff.1 hl
    obtain ⟨h1, rfl⟩ := cut_some hr
    have hw : VRels c ((cs.drop 0).take sh.size) (vs.take sh.size) := by simpa using hv.take sh.size
    obtain ⟨v', h2, h3⟩ := loadVar_rel (P := P) w hs (b := b) (o := o) hw (fun x hx => hone x (List.mem_of_mem_drop (List.mem_of_mem_take hx))) (by simpa using cut_length hr) (fun j x hj => by
      have hlt : j < sh.size := by
        have := (List.getElem?_eq_some_iff.1 hj).1; simp at this; omega
      have hj' : vs[j]? = some x := by simpa [List.getElem?_take, hlt] using hj
      obtain ⟨ws, e, f, hb, hc⟩ := hS.prot _ _ _ (hp j x hj')
      simp [World.cell?, hb, hc]) hm
    exact ⟨v', by simpa [Instr.loadAt, Instr.sureAddr] using h2, h3⟩
end
end Go.Dm
/- The D-machine (9): an operation that gives a value, in the model. -/
namespace Go.Dm
set_option linter.unusedSimpArgs false
set_option linter.unusedVariables false
set_option linter.unnecessarySimpa false

section
variable {P : Program} {cfg : Cfg} {mf : Bool} {D : DProg} {CC : Code → DC → Prop} {base : Nat} {c : Cor} {fr : Fr} {a : Act} {h G : Heap} (w : World)
/-- What 'execOp' does with an operation's own run. -/
theorem exec_val {s : Sem Value} {v : Value} {w' : World} (hs : s.run P w = .ok v w') : ((do pure (.value (← s)) : Sem Next)).run P w = .ok (.value v) w' := by
  simp [hs]

def ValOk (P : Program) (c : Cor) (w : World) (s : Sem Next) (v : DV) : Prop := ∃ v' w', s.run P w = .ok (.value v') w' ∧ VRel c v v' ∧ Quiet c w w'
theorem ValOk.of {s : Sem Value} {v : DV} (hs : ∃ v', s.run P w = .ok v' w ∧ VRel c v v') : ValOk P c w (do pure (.value (← s))) v :=
  let ⟨v', h1, h2⟩ := hs; ⟨v', w, exec_val w h1, h2, .same⟩

theorem VRel.zOf {c : Cor} {t z : Nat} {xs : List DV} {v : Value} (h : VRel c (.lst t z xs) v) : VRel c (.lst t (zOf t z) xs) v := by
  obtain ⟨a, cap, vs, q1, q2, q3, qo, q4, q5, q6, q7, q8, rfl⟩ := h.lst_inv
  cases t with
  | zero =>
    obtain ⟨rfl, rfl⟩ := q6 rfl
    obtain rfl : xs = [] := List.eq_nil_of_length_eq_zero (by omega)
    exact .lst (vs := vs) (fun e => absurd rfl e) (by simp) q3 qo (fun e => absurd rfl e) (Nat.le_refl _) (fun _ => ⟨rfl, rfl⟩) (fun e => absurd rfl e) (fun e => absurd e (by omega))
  | succ t => exact h
theorem val_slice {t e : TypeId} {n : Nat} {x v : DV} {vx : Value} {lo hi mx : Option DV} {vlo vhi vmx : Option Value} (ht : P.underlying t = some (.slice e)) (hn : sizeOfT P e = some n) (hx : VRel c x vx)
    (h1 : (lo = none ∧ vlo = none) ∨ ∃ d v, lo = some d ∧ vlo = some v ∧ VRel c d v) (h2 : (hi = none ∧ vhi = none) ∨ ∃ d v, hi = some d ∧ vhi = some v ∧ VRel c d v)
    (h3 : (mx = none ∧ vmx = none) ∨ ∃ d v, mx = some d ∧ vmx = some v ∧ VRel c d v)
    (he : sliceD n x lo hi mx = some (.val v)) : ValOk P c w (do pure (.value (← Instr.sliceAt t vx vlo vhi vmx))) v := by
  refine ValOk.of w ?_
  have hmx : mx = none := by
    unfold sliceD at he
    split at he <;> simp_all
  subst hmx
  obtain ⟨_, rfl⟩ : (none : Option DV) = none ∧ vmx = none := by
    rcases h3 with h | ⟨d, v, h, _⟩
    · exact h
    · cases h
  have hsz := run_sizeOfT (P := P) w hn
  cases x <;> simp only [sliceD] at he <;> try (cases he; done)
  case lst t0 sz xs =>
    split at he
    case isFalse => cases he
    rename_i hz
    obtain ⟨⟨l, r⟩, hb, hv⟩ := Option.map_eq_some_iff.1 he
    simp at hv; subst hv
    obtain ⟨a, cap, vs, q1, q2, q3, qo, q4, q5, q6, q7, q8, rfl⟩ := hx.lst_inv
    have hxs : ∀ y ∈ xs, y.cells.length = n := by
      rcases hz with h0 | h0
      · obtain ⟨_, hc0⟩ := q6 h0
        have : xs = [] := List.eq_nil_of_length_eq_zero (by omega)
        subst this; simp
      · subst h0; exact q2
    obtain ⟨hrun, hlr, hrl⟩ := bounds_rel (P := P) (c := c) w (sl := true) q5 hb h1 h2
    have hres : (Instr.sliceAt t (.slice a xs.length cap) vlo vhi none).run P w = .ok (.slice (if cap = l then a else a.map (·.add (l * n))) (r - l) (cap - l)) w := by
      simp only [Instr.sliceAt, Sem.run_bind, run_underlying ht, Result.andThen_ok, Instr.slice, hrun, hsz, Sem.run_pure]
    refine ⟨_, hres, ?_⟩
    -- the new slice
    have hA : l + (r - l) = r := by omega
    have hB : l + (cap - l) = cap := by omega
    have hlen : ((xs.drop l).take (r - l)).length = r - l := by simp; omega
    have hgoal : VRel c (.lst (if r = xs.length ∨ t0 = 0 then t0 else 1) n ((xs.drop l).take (r - l))) (.slice (if cap = l then a else a.map (·.add (l * n))) ((xs.drop l).take (r - l)).length (cap - l)) := by
      have hsub : ∀ y ∈ (xs.drop l).take (r - l), y ∈ xs := fun y hy => List.mem_of_mem_drop (List.mem_of_mem_take hy)
      have hfl : ∀ (ys : List DV), (∀ y ∈ ys, y.cells.length = n) → (flat ys).length = ys.length * n := by
        intro ys
        induction ys with
        | nil => simp [flat]
        | cons y ys ih =>
          intro hy
          have := ih fun z hz => hy z (by simp [hz])
          simp only [flat, List.flatMap_cons, List.length_append, hy y (by simp), List.length_cons] at this ⊢
          rw [this, Nat.succ_mul]; omega
      have hflat : flat ((xs.drop l).take (r - l)) = ((flat xs).drop (l * n)).take ((r - l) * n) := by
        have e1 : xs = xs.take l ++ ((xs.drop l).take (r - l) ++ (xs.drop l).drop (r - l)) := by rw [List.take_append_drop, List.take_append_drop]
        conv => rhs; rw [e1]
        simp only [flat, List.flatMap_append]
        have l1 := hfl (xs.take l) fun y hy => hxs y (List.mem_of_mem_take hy)
        have l2 := hfl ((xs.drop l).take (r - l)) fun y hy => hxs y (hsub y hy)
        have e2 : (xs.take l).length = l := by simp; omega
        rw [e2] at l1
        rw [hlen] at l2
        simp only [flat] at l1 l2
        rw [List.drop_append_of_le_length (Nat.le_of_eq l1.symm), List.drop_eq_nil_of_le (Nat.le_of_eq l1), List.nil_append, List.take_append_of_le_length (Nat.le_of_eq l2.symm), List.take_of_length_le (Nat.le_of_eq l2)]
      by_cases hemp : (xs.drop l).take (r - l) = []
      · -- nothing is left
        rw [hemp]
        have hrl0 : r = l := by
          have := congrArg List.length hemp
          rw [hlen] at this; simp at this; omega
        subst hrl0
        refine VRel.lst (vs := []) (sz := n) ?_ (by simp) (by simpa [flat] using VRels.nil) (by simp [flat]) (by simp) (by simp) ?_ ?_ ?_
        · intro ht0
          have h0 : t0 ≠ 0 := by
            intro e; subst e; simp at ht0
          rcases hz with h1 | h1
          · exact absurd h1 h0
          · subst h1; exact q1 h0
        · intro ht0
          have h0 : t0 = 0 := by
            by_cases e : r = xs.length ∨ t0 = 0
            · rw [if_pos e] at ht0; exact ht0
            · rw [if_neg e] at ht0; cases ht0
          obtain ⟨rfl, rfl⟩ := q6 h0
          refine ⟨by split <;> rfl, by omega⟩
        · intro ht1
          have h0 : t0 ≠ 0 := by
            intro e; subst e; simp at ht1
          obtain ⟨b, o, sp, rfl, hsp⟩ := q7 h0
          by_cases e : cap = r
          · exact ⟨b, o, sp, by simp [e], .inr (by omega)⟩
          · obtain rfl : sp = none := hsp.resolve_right (by omega)
            exact ⟨b, o + r * n, none, by simp [e, add_plain], .inl rfl⟩
        · intro ht2
          have hre : r = xs.length ∨ t0 = 0 := by
            by_cases e : r = xs.length ∨ t0 = 0
            · exact e
            · rw [if_neg e] at ht2; omega
          rw [if_pos hre] at ht2 ⊢
          obtain ⟨b, o, e, lim, rfl, hτ, hcap⟩ := q8 ht2
          have hszn : sz = n := hz.resolve_left (by omega)
          subst hszn
          have hre' : r = xs.length := hre.resolve_right (fun e => by subst e; simp at ht2)
          by_cases ec : cap = r
          · exact ⟨b, o, e, lim, by simp [ec], hτ, .inl (by omega)⟩
          · refine ⟨b, o + r * sz, e, lim, by simp [ec, add_plain], hτ, .inr ?_⟩
            rcases hcap with h0 | ⟨he', hl'⟩
            · omega
            · refine ⟨by rw [he', hre']; simp, ?_⟩
              have : o + r * sz + (cap - r) * sz = o + cap * sz := by
                rw [Nat.add_assoc, ← Nat.add_mul, hB]
              omega
      · -- something is left: the content lies further on
        have hne : xs ≠ [] := by
          intro e; subst e; simp at hemp
        obtain ⟨b, o, rfl, hcont⟩ := q4 hne
        have hszn : sz = n := by
          cases xs with
          | nil => exact absurd rfl hne
          | cons y ys => rw [← q2 y (by simp), hxs y (by simp)]
        have ht00 : t0 ≠ 0 := fun e => by
          obtain ⟨hn, _⟩ := q6 e
          cases hn
        subst hszn
        have hlt : l < r := by
          rcases Nat.lt_or_ge l r with h | h
          · exact h
          · exact absurd (List.eq_nil_of_length_eq_zero (by rw [hlen]; omega)) hemp
        have hcl : cap ≠ l := by omega
        refine VRel.lst (vs := (vs.drop (l * sz)).take ((r - l) * sz)) (sz := sz) (fun _ => q1 ht00) (fun y hy => q2 y (hsub y hy)) (by rw [hflat]; exact (q3.drop _).take _) (by rw [hflat]; exact fun x hx => qo x (List.mem_of_mem_drop (List.mem_of_mem_take hx))) ?_ (by rw [hlen]; omega) ?_ ?_ ?_
        · intro _
          refine ⟨b, o + l * sz, by simp [hcl, add_plain], fun j x hj => ?_⟩
          have hlt' : j < (r - l) * sz := by
            have := (List.getElem?_eq_some_iff.1 hj).1; simp at this; omega
          have hj' : vs[l * sz + j]? = some x := by simpa [List.getElem?_take, hlt'] using hj
          have := hcont _ _ hj'
          rwa [← Nat.add_assoc] at this
        · intro ht0
          have h0 : t0 = 0 := by
            by_cases e : r = xs.length ∨ t0 = 0
            · rw [if_pos e] at ht0; exact ht0
            · rw [if_neg e] at ht0; cases ht0
          obtain ⟨hn, _⟩ := q6 h0
          cases hn
        · intro _
          exact ⟨b, o + l * sz, none, by simp [hcl, add_plain], .inl rfl⟩
        · intro ht2
          have hre : r = xs.length ∨ t0 = 0 := by
            by_cases e : r = xs.length ∨ t0 = 0
            · exact e
            · rw [if_neg e] at ht2; omega
          rw [if_pos hre] at ht2 ⊢
          obtain ⟨b', o', e, lim, hab, hτ, hcap⟩ := q8 ht2
          cases hab
          have hre' : r = xs.length := hre.resolve_right (fun e => by subst e; simp at ht2)
          refine ⟨b, o + l * sz, e, lim, by simp [hcl, add_plain], hτ, .inr ?_⟩
          rcases hcap with h0 | ⟨he', hl'⟩
          · omega
          · rw [hlen]
            have e1 : o + l * sz + (r - l) * sz = o + r * sz := by rw [Nat.add_assoc, ← Nat.add_mul, hA]
            have e2 : o + l * sz + (cap - l) * sz = o + cap * sz := by rw [Nat.add_assoc, ← Nat.add_mul, hB]
            exact ⟨by rw [e1, he', hre'], by rw [e2]; exact hl'⟩
    rw [hlen] at hgoal
    exact hgoal.zOf
  case arr id sz off len =>
    split at he
    case isFalse => cases he
    rename_i hszn
    subst hszn
    obtain ⟨⟨l, r⟩, hb, hv⟩ := Option.map_eq_some_iff.1 he
    simp at hv; subst hv
    obtain ⟨cap, b, o, lim, ab, ao, hφ, hcap, hor, rfl⟩ := hx.arr_inv
    obtain ⟨hrun, hlr, hrl⟩ := bounds_rel (P := P) (c := c) w (sl := true) hcap hb h1 h2
    have hres : (Instr.sliceAt t (.slice (some ⟨ab, ao, none⟩) len cap) vlo vhi none).run P w = .ok (.slice (if cap = l then some ⟨ab, ao, none⟩ else some ⟨ab, ao + l * sz, none⟩) (r - l) (cap - l)) w := by
      simp only [Instr.sliceAt, Sem.run_bind, run_underlying ht, Result.andThen_ok, Instr.slice, hrun, hsz, Sem.run_pure]
      simp [add_plain]
    refine ⟨_, hres, ?_⟩
    by_cases ec : cap = l
    · rw [if_pos ec]
      exact .arr hφ (by omega) (.inl (by omega))
    · rw [if_neg ec]
      refine .arr hφ (by omega) ?_
      rcases hor with h0 | ⟨rfl, rfl, hl'⟩
      · omega
      · refine .inr ⟨rfl, by omega, ?_⟩
        have e2 : o + (off + l * sz) + (cap - l) * sz = o + off + cap * sz := by
          have : l * sz + (cap - l) * sz = cap * sz := by rw [← Nat.add_mul]; congr 1; omega
          omega
        omega

theorem kept_of_sim (hS : Sim CC base c G w.heap) : Kept c w := fun b o v h => by
  obtain ⟨vs, e, f, hb, hv⟩ := hS.prot b o v h
  simp [World.cell?, hb, hv]

theorem val_field {s : TypeId} {fs : Array Field} {f : Nat} {fd : Field} {sh : Shape} {cs r : List DV} {v : DV} {vx : Value} (hu : P.underlying s = some (.struct fs)) (hf : fs[f]? = some fd) (hs : shapeOf P fd.type = some sh)
    (hx : VRel c (.agg cs) vx) (hc : cut cs fd.offset sh.size = some r) (hm : mkv sh r = some v) : ∃ v', (Instr.field s vx f).run P w = .ok v' w ∧ VRel c v v' := by
  obtain ⟨vs, hv, ho, rfl⟩ := hx.agg_inv
  obtain ⟨v', h1, h2⟩ := part_rel (P := P) w hs hv ho hc hm
  exact ⟨v', by simp [Instr.field, run_underlying hu, hf, asAgg, h1], h2⟩
theorem val_idxArr {t e : TypeId} {len : Nat} {sh : Shape} {cs r : List DV} {v : DV} {vx : Value} {k : IntKind} {n : Int} (hu : P.underlying t = some (.array len e)) (hs : shapeOf P e = some sh)
    (hx : VRel c (.agg cs) vx) (h0 : 0 ≤ n ∧ n < len) (hc : cut cs (n.toNat * sh.size) sh.size = some r) (hm : mkv sh r = some v) : ∃ v', (Instr.index t vx (.int k n)).run P w = .ok v' w ∧ VRel c v v' := by
  obtain ⟨vs, hv, ho, rfl⟩ := hx.agg_inv
  obtain ⟨v', h1, h2⟩ := part_rel (P := P) w hs hv ho hc hm
  exact ⟨v', by simp [Instr.index, run_underlying hu, asIntOf, h0, run_sizeOf_shape w hs, h1], h2⟩
theorem val_iaddr {t e : TypeId} {sz : Nat} {x v : DV} {vx : Value} {k : IntKind} {n : Int} (hu : P.underlying t = some (.slice e)) (hs : sizeOfT P e = some sz) (hx : VRel c x vx)
    (he : (match x with
      | .lst t z xs => if 0 ≤ n ∧ (t = 0 ∨ z = sz) then (xs[n.toNat]?).map fun v => EvR.val (.elt v.cells) else none
      | .arr id z o len => if 0 ≤ n ∧ n < len ∧ z = sz then some (EvR.val (.ptr id (o + n.toNat * sz))) else none
      | _ => none) = some (.val v)) : ∃ v', (Instr.indexAt t vx (.int k n)).run P w = .ok v' w ∧ VRel c v v' := by
  have hz := run_sizeOfT (P := P) w hs
  cases x <;> simp only at he <;> try (cases he; done)
  case lst t0 z xs =>
    split at he
    case isFalse => cases he
    rename_i h0
    obtain ⟨x, hx', hv⟩ := Option.map_eq_some_iff.1 he
    simp at hv; subst hv
    obtain ⟨h0, hz0⟩ := h0
    obtain ⟨a, cap, vs, q1, q2, q3, qo, q4, q5, q6, q7, q8, rfl⟩ := hx.lst_inv
    have hne : xs ≠ [] := by intro e; subst e; simp at hx'
    obtain rfl : z = sz := hz0.resolve_left fun e => hne (List.eq_nil_of_length_eq_zero (by have := q6 e; omega))
    obtain ⟨b, o, rfl, hcont⟩ := q4 hne
    have hlt : n.toNat < xs.length := (List.getElem?_eq_some_iff.1 hx').1
    have hlt' : 0 ≤ n ∧ n < (xs.length : Int) := ⟨h0, by omega⟩
    refine ⟨.pointer (some ⟨b, o + n.toNat * z, none⟩), by simp [Instr.indexAt, asIntOf, run_underlying hu, hlt', hz, add_plain], ?_⟩
    -- the element's cells
    have hfl : ∀ (ys : List DV), (∀ y ∈ ys, y.cells.length = z) → (flat ys).length = ys.length * z := by
      intro ys
      induction ys with
      | nil => simp [flat]
      | cons y ys ih =>
        intro hy
        have := ih fun z hz => hy z (by simp [hz])
        simp only [flat, List.flatMap_cons, List.length_append, hy y (by simp), List.length_cons] at this ⊢
        rw [this, Nat.succ_mul]; omega
    have hsplit : xs = xs.take n.toNat ++ x :: xs.drop (n.toNat + 1) := by
      have h1 : xs[n.toNat] = x := by rw [List.getElem?_eq_getElem hlt] at hx'; simpa using hx'
      rw [← h1]; simp
    have hflat : (flat xs).drop (n.toNat * z) = x.cells ++ flat (xs.drop (n.toNat + 1)) := by
      have l1 := hfl (xs.take n.toNat) fun y hy => q2 y (List.mem_of_mem_take hy)
      have e2 : (xs.take n.toNat).length = n.toNat := by simp; omega
      rw [e2] at l1
      conv => lhs; rw [hsplit]
      simp only [flat, List.flatMap_append, List.flatMap_cons] at l1 ⊢
      rw [List.drop_append_of_le_length (Nat.le_of_eq l1.symm), List.drop_eq_nil_of_le (Nat.le_of_eq l1), List.nil_append]
    have hr := q3.drop (n.toNat * z)
    rw [hflat] at hr
    have hr' := hr.take x.cells.length
    rw [List.take_left] at hr'
    refine .elt hr' (fun y hy => qo y ?_) (fun j y hj => ?_)
    · have : y ∈ (flat xs).drop (n.toNat * z) := by rw [hflat]; exact List.mem_append_left _ hy
      exact List.mem_of_mem_drop this
    · have hlt2 : j < x.cells.length := by
        have := (List.getElem?_eq_some_iff.1 hj).1; simp at this; omega
      have hj' : vs[n.toNat * z + j]? = some y := by simpa [List.getElem?_take, hlt2] using hj
      have := hcont _ _ hj'
      rwa [← Nat.add_assoc] at this
  case arr id z o len =>
    split at he
    case isFalse => cases he
    rename_i h0
    simp at he; subst he
    obtain ⟨h0, h1, rfl⟩ := h0
    obtain ⟨cap, b, o', lim, ab, ao, hφ, hcap, hor, rfl⟩ := hx.arr_inv
    have hlt' : 0 ≤ n ∧ n < (len : Int) := ⟨h0, h1⟩
    rcases hor with h2 | ⟨rfl, rfl, h3⟩
    · omega
    · refine ⟨.pointer (some ⟨ab, o' + o + n.toNat * z, none⟩), by simp [Instr.indexAt, asIntOf, run_underlying hu, hlt', hz, add_plain], ?_⟩
      have := VRel.ptr (c := c) (off := o + n.toNat * z) hφ
      rwa [← Nat.add_assoc] at this
theorem val_iaddrArr {t e : TypeId} {sz len : Nat} {x v : DV} {vx : Value} {k : IntKind} {n : Int} (hu : P.underlying t = some (.array len e)) (hs : sizeOfT P e = some sz) (hx : VRel c x vx)
    (he : (match x with
      | .ptr id o => if 0 ≤ n ∧ n < len then some (EvR.val (.ptr id (o + n.toNat * sz))) else none
      | .elt cs => if 0 ≤ n ∧ n < len then some (EvR.val (.elt (cs.drop (n.toNat * sz)))) else none
      | _ => none) = some (.val v)) : ∃ v', (Instr.indexAt t vx (.int k n)).run P w = .ok v' w ∧ VRel c v v' := by
  have hz := run_sizeOfT (P := P) w hs
  cases x <;> simp only at he <;> try (cases he; done)
  case ptr id o =>
    split at he
    case isFalse => cases he
    rename_i h0
    simp at he; subst he
    obtain ⟨b, o', lim, sz', hφ, rfl⟩ := hx.ptr_inv
    refine ⟨.pointer (some ⟨b, o' + o + n.toNat * sz, none⟩), by simp [Instr.indexAt, asIntOf, run_underlying hu, Instr.sureAddr, h0, hz, add_plain], ?_⟩
    have := VRel.ptr (c := c) (off := o + n.toNat * sz) hφ
    rwa [← Nat.add_assoc] at this
  case elt cs =>
    split at he
    case isFalse => cases he
    rename_i h0
    simp at he; subst he
    obtain ⟨vs, b, o, hv, ho, hp, rfl⟩ := hx.elt_inv
    refine ⟨.pointer (some ⟨b, o + n.toNat * sz, none⟩), by simp [Instr.indexAt, asIntOf, run_underlying hu, Instr.sureAddr, h0, hz, add_plain], ?_⟩
    refine .elt (hv.drop _) (fun y hy => ho y (List.mem_of_mem_drop hy)) fun j y hj => ?_
    have : vs[n.toNat * sz + j]? = some y := by simpa using hj
    have := hp _ _ this
    rwa [← Nat.add_assoc] at this
theorem val_idxStr {t : TypeId} {s : List UInt8} {b : UInt8} {vx : Value} {k : IntKind} {n : Int} (hu : P.underlying t = some .string) (hx : VRel c (.str s) vx) (h0 : 0 ≤ n) (hb : s[n.toNat]? = some b) :
    ∃ v', (Instr.index t vx (.int k n)).run P w = .ok v' w ∧ VRel c (ofByte b) v' := by
  cases hx.str_inv
  refine ⟨.int .u8 b.toNat, ?_, .int _ _⟩
  have : (⟨s.toArray⟩ : ByteArray)[n.toNat]? = some b := by
    have hlt : n.toNat < s.length := (List.getElem?_eq_some_iff.1 hb).1
    have e : s[n.toNat] = b := by rw [List.getElem?_eq_getElem hlt] at hb; simpa using hb
    rw [getElem?_pos (⟨s.toArray⟩ : ByteArray) n.toNat (by simpa [ByteArray.size] using hlt)]
    rw [← e]; rfl
  simp [Instr.index, asIntOf, run_underlying hu, h0, this]
theorem val_sliceStr {t : TypeId} {s : List UInt8} {vx : Value} {lo hi : Option DV} {vlo vhi : Option Value} {l r : Nat} (hu : P.underlying t = some .string) (hx : VRel c (.str s) vx)
    (h1 : (lo = none ∧ vlo = none) ∨ ∃ d v, lo = some d ∧ vlo = some v ∧ VRel c d v) (h2 : (hi = none ∧ vhi = none) ∨ ∃ d v, hi = some d ∧ vhi = some v ∧ VRel c d v) (hb : bounds s.length lo hi = some (l, r)) :
    ∃ v', (Instr.sliceAt t vx vlo vhi none).run P w = .ok v' w ∧ VRel c (.str ((s.drop l).take (r - l))) v' := by
  cases hx.str_inv
  obtain ⟨hrun, hlr, hrl⟩ := bounds_rel (P := P) (c := c) w (sl := false) (Nat.le_refl _) hb h1 h2
  refine ⟨.string ((⟨s.toArray⟩ : ByteArray).extract l r), by simp [Instr.sliceAt, run_underlying hu, Instr.slice, bytes_size, hrun], ?_⟩
  have : (⟨s.toArray⟩ : ByteArray).extract l r = ⟨((s.drop l).take (r - l)).toArray⟩ := by
    apply ByteArray.ext
    simp [ByteArray.data_extract]
  rw [this]
  exact .str _
end
end Go.Dm
/- The D-machine (10): whatever operation gives a value here gives it in the model. -/
namespace Go.Dm
set_option linter.unusedSimpArgs false
set_option linter.unusedVariables false
set_option linter.unnecessarySimpa false

section
variable {P : Program} {cfg : Cfg} {mf : Bool} {D : DProg} {CC : Code → DC → Prop} {base : Nat} {c : Cor} {fr : Fr} {a : Act} {h G : Heap} (w : World)

theorem map_val {x : Option DV} {v : DV} (h : x.map EvR.val = some (.val v)) : x = some v := by
  obtain ⟨y, h1, h2⟩ := Option.map_eq_some_iff.1 h
  cases h2; exact h1

theorem val_build {t : TypeId} {fs : Array Field} {z : Value} {parts : Array (Nat × Operand)} {cs r : List DV} {ps : List (Nat × Nat × Opd)} (hg : GlobOk D c) (hf : VRels c fr.tmps a.tmps.toList)
    (hu : P.underlying t = some (.struct fs)) (hz : zeroOf P t = some (.agg cs)) (hp : partsS P fs parts.toList = some ps) (hall : fs.all (fun f => (P.info? f.type).isSome) = true)
    (hb : buildL cs (ps.map fun p => (p.1, p.2.1, ev D fr p.2.2)) = some r) :
    ∃ v', (Instr.build t (parts.map fun (i, x) => (i, a.eval x))).run P w = .ok v' w ∧ VRel c (.agg r) v' := by
  simp only [zeroOf, Option.bind_eq_some_iff] at hz
  obtain ⟨zv, ⟨i, hi, hiz⟩, hov⟩ := hz
  have hzr : VRel c (.agg cs) zv := ofVal_rel hov
  obtain ⟨vs, hvs, hvo, rfl⟩ := hzr.agg_inv
  -- the fields' places
  have hpl : ∃ places : Array (Nat × Nat), (fs.mapM (m := Sem) fun f => do pure (f.offset, ← sizeOf f.type)).run P w = .ok places w ∧ ∀ (i : Nat) (f : Field), fs[i]? = some f → ∃ n, sizeOfT P f.type = some n ∧ places[i]? = some (f.offset, n) := by
    have key : ∀ (l : List Field), (∀ f ∈ l, (P.info? f.type).isSome = true) → ∃ ps : List (Nat × Nat), (l.mapM (m := Sem) fun f => do pure (f.offset, ← sizeOf f.type)).run P w = .ok ps w ∧ ∀ (i : Nat) (f : Field), l[i]? = some f → ∃ n, sizeOfT P f.type = some n ∧ ps[i]? = some (f.offset, n) := by
      intro l
      induction l with
      | nil => intro _; exact ⟨[], by simp, by simp⟩
      | cons f l ih =>
        intro hl
        obtain ⟨ps, h1, h2⟩ := ih fun g hg => hl g (by simp [hg])
        obtain ⟨i, hi⟩ := Option.isSome_iff_exists.1 (hl f (by simp))
        refine ⟨(f.offset, i.size) :: ps, ?_, ?_⟩
        · simp only [List.mapM_cons, Sem.run_bind, sizeOf, typeInfo, run_program, hi, Sem.run_pure, Result.andThen_ok]
          simp only [sizeOf, typeInfo] at h1
          rw [h1]
          rfl
        · intro j g hj
          cases j with
          | zero => simp at hj; subst hj; exact ⟨i.size, by simp [sizeOfT, hi], rfl⟩
          | succ j => simp at hj; obtain ⟨n, h3, h4⟩ := h2 j g hj; exact ⟨n, h3, by simpa using h4⟩
    obtain ⟨ps, h1, h2⟩ := key fs.toList (fun f hf => by
      rw [Array.all_eq_true] at hall
      obtain ⟨i, hi, rfl⟩ := List.getElem_of_mem hf
      simpa using hall i (by simpa using hi))
    refine ⟨ps.toArray, ?_, fun i f hi => ?_⟩
    · rw [Array.mapM_eq_mapM_toList]
      simp only [Sem.run_map, h1, Result.andThen_ok]
    · obtain ⟨n, h3, h4⟩ := h2 i f (by simpa using hi)
      exact ⟨n, h3, by simpa using h4⟩
  obtain ⟨places, hrun, hpl⟩ := hpl
  have hall2 := partsS_rel hg hf hpl parts.toList ps hp
  obtain ⟨arr, hfill, hr, hro⟩ := fill_rel (place := (places[·]?)) parts.toList _ hall2 cs r vs.toArray (by simpa using hvs) hb hvo
  refine ⟨.agg arr, ?_, by simpa using VRel.agg hr hro⟩
  have hzero : (zeroValue t).run P w = .ok (.agg vs.toArray) w := by simp [zeroValue, typeInfo, hi, hiz]
  have hmap : (parts.map fun (x : Nat × Operand) => (x.1, a.eval x.2)).toList = parts.toList.map fun p => (p.1, a.eval p.2) := by simp
  simp only [Instr.build, Sem.run_bind, hzero, Result.andThen_ok, run_underlying hu, hrun, Value.cells]
  rw [show (Array.map (fun x => (x.fst, a.eval x.snd)) parts).toList = parts.toList.map fun p => (p.1, a.eval p.2) from hmap, hfill]
  simp

theorem opdO_cases (hg : GlobOk D c) (hf : VRels c fr.tmps a.tmps.toList) {x : Option Operand} {y : Option Opd} (h : opdO x = some y) :
    (evO D fr y = none ∧ x.map a.eval = none) ∨ ∃ d v, evO D fr y = some d ∧ x.map a.eval = some v ∧ VRel c d v := by
  rcases opdO_rel hg hf h with ⟨rfl, rfl⟩ | h
  · exact .inl ⟨rfl, rfl⟩
  · exact .inr h

theorem val_convert {s t : TypeId} {x : Operand} {d : DOp} {v : DV} (hc : compOp P cfg mf (.convert s t x) = some d) (hk : Kept c w) (hS : Sim CC base c G w.heap) (O : ∀ {y : Opd}, opd x = some y → VRel c (ev D fr y) (a.eval x))
    (hne : d.effect = false) (he : evalOp D fr h d = some (.val v)) : ValOk P c w (do pure (.value (← convert s t (a.eval x)))) v := by
  simp only [compOp] at hc
  split at hc <;> try (cases hc; done)
  · cases hc
    rename_i k x' hus hud hx
    have hr := O hx
    simp only [evalOp] at he
    generalize ev D fr x' = X at he hr
    cases X <;> simp [convD] at he
    subst he
    rw [hr.int_inv]
    exact ValOk.of w ⟨_, by simp [convert, run_underlying hus, run_underlying hud, Conv.intToInt], .int _ _⟩
  · cases hc
    rename_i x' hus hud hx
    have hr := O hx
    simp only [evalOp] at he
    generalize ev D fr x' = X at he hr
    cases X <;> simp [convD] at he
    subst he
    rw [hr.str_inv]
    exact ValOk.of w ⟨_, by simp [convert, run_underlying hus, run_underlying hud], .str _⟩
  · split at hc <;> try (cases hc; done)
    cases hc
    rename_i e x' hus hud hx _ _ _ hue hie
    simp only [evalOp] at he
    generalize ev D fr x' = X at he
    cases X <;> simp [convD] at he
    split at he <;> simp at he
  · split at hc <;> try (cases hc; done)
    · cases hc
      rename_i e x' hus hud hx _ hue
      have hr := O hx
      simp only [evalOp] at he
      generalize ev D fr x' = X at he hr
      simp [DOp.effect] at hne
      cases X <;> simp [convD, hne] at he
      obtain ⟨s', h1, rfl⟩ := he
      obtain ⟨v', h2, h3⟩ := bytesStr_rel (P := P) w hk h1 hr
      obtain ⟨_, _, _, _, _, _, _, _, _, _, _, _, hv⟩ := hr.lst_inv
      refine ValOk.of w ⟨v', ?_, h3⟩
      rw [← h2, hv]
      simp [convert, run_underlying hus, run_underlying hud, run_underlying hue]
    · cases hc
      rename_i e x' hus hud hx _ hue
      have hr := O hx
      simp only [evalOp] at he
      generalize ev D fr x' = X at he hr
      cases X <;> simp [convD] at he
      obtain ⟨s', h1, rfl⟩ := he
      obtain ⟨v', h2, h3⟩ := runesStr_rel (P := P) w hk h1 hr
      obtain ⟨_, _, _, _, _, _, _, _, _, _, _, _, hv⟩ := hr.lst_inv
      refine ValOk.of w ⟨v', ?_, h3⟩
      rw [← h2, hv]
      simp [convert, run_underlying hus, run_underlying hud, run_underlying hue]
  · cases hc
    rename_i k x' hus hud hx
    have hr := O hx
    simp only [evalOp] at he
    generalize ev D fr x' = X at he hr
    cases X <;> simp [convD] at he
    subst he
    rw [hr.int_inv]
    exact ValOk.of w ⟨_, by simp [convert, run_underlying hus, run_underlying hud, Conv.intToString], .str _⟩
  · split at hc <;> try (cases hc; done)
    split at hc <;> try (cases hc; done)
    cases hc
    rename_i e e' x' hus hud hx _ hue hst
    subst hst
    have hr := O hx
    simp only [evalOp] at he
    generalize ev D fr x' = X at he hr
    cases X <;> simp [convD] at he
    · obtain ⟨⟨ht2, hne'⟩, rfl⟩ := he
      obtain ⟨aa, cap, vs, q1, q2, q3, qo, q4, q5, q6, q7, q8, hv⟩ := hr.lst_inv
      obtain ⟨b, o, e1, lim, rfl, hτ, _⟩ := q8 ht2
      obtain ⟨b', o', e2, hp⟩ := q4 hne'
      cases e2
      have hvn : ∃ x0, vs[0]? = some x0 := by
        have hl := q3.length_eq
        cases vs with
        | cons x0 _ => exact ⟨x0, rfl⟩
        | nil =>
          exfalso
          obtain ⟨y, ys, rfl⟩ := List.exists_cons_of_ne_nil hne'
          · have h1 := q2 y (by simp)
            have h2 := q1 (by omega)
            simp only [flat, List.flatMap_cons, List.length_append, List.length_nil] at hl
            omega
      obtain ⟨x0, hx0⟩ := hvn
      obtain ⟨ws, ty, f, hb, _⟩ := hS.prot _ _ _ (hp 0 x0 hx0)
      refine ⟨_, w.freeze ⟨b, ws.size, none⟩ 1, ?_, hr, .mark hτ hb⟩
      rw [hv]
      have hshape : w.shape? b = some (ty, ws.size) := by simp [World.shape?, hb]
      simp [convert, run_underlying hus, run_underlying hud, run_underlying hue, markStringish, hshape]

theorem run_builtin {dst : Option Tmp} {ty : TypeId} {pos : String} {after : Array Edge} {guard : Option (Nat × Bool)} (b : Builtin) (args : Array Operand) (argTypes : Array TypeId) :
    execOp a.eval { dst, op := .call { callee := .builtin b, args, argTypes }, type := ty, pos, after, guard } = builtin b argTypes ty (args.map fun | .const _ => true | _ => false) (args.map a.eval) := rfl
theorem val_call {dst : Option Tmp} {ty : TypeId} {pos : String} {after : Array Edge} {guard : Option (Nat × Bool)} {cl : Call} {d : DOp} {v : DV} (hc : compOp P cfg mf (.call cl) = some d) (O : ∀ {x : Operand} {y : Opd}, opd x = some y → VRel c (ev D fr y) (a.eval x))
    (hne : d.effect = false) (he : evalOp D fr h d = some (.val v)) : ValOk P c w (execOp a.eval { dst, op := .call cl, type := ty, pos, after, guard }) v := by
  obtain ⟨callee, args, argTypes⟩ := cl
  simp only [compOp, compCall] at hc
  split at hc <;> try (cases hc; done)
  · split at hc <;> try (cases hc; done)
    cases hc
    simp [DOp.effect] at hne
  · rw [run_builtin]
    split at hc <;> try (cases hc; done)
    · -- len
      rename_i x t hA hT
      have hA' : args = #[x] := by rw [← Array.toArray_toList (xs := args), hA]
      have hT' : argTypes = #[t] := by rw [← Array.toArray_toList (xs := argTypes), hT]
      subst hA'; subst hT'
      refine ValOk.of w ?_
      split at hc <;> try (cases hc; done)
      · rename_i hu
        obtain ⟨y, hy, rfl⟩ := Option.map_eq_some_iff.1 hc
        have hr := O hy
        simp only [evalOp] at he
        generalize ev D fr y = X at he hr
        cases X <;> simp at he
        subst he
        rw [show Array.map a.eval #[x] = #[a.eval x] by simp, hr.str_inv]
        exact ⟨_, by simp [Builtin.len_, run_underlying hu, goInt]; rfl, by simpa [bytes_size] using VRel.int _ _⟩
      · rename_i hu
        obtain ⟨y, hy, rfl⟩ := Option.map_eq_some_iff.1 hc
        have hr := O hy
        simp only [evalOp] at he
        generalize ev D fr y = X at he hr
        cases X <;> simp at he <;> subst he
        · obtain ⟨_, _, _, _, _, _, _, _, _, _, _, _, hv⟩ := hr.lst_inv
          rw [show Array.map a.eval #[x] = #[a.eval x] by simp, hv]
          exact ⟨_, by simp [Builtin.len_, run_underlying hu, goInt], .int _ _⟩
        · obtain ⟨_, _, _, _, _, _, _, _, _, hv⟩ := hr.arr_inv
          rw [show Array.map a.eval #[x] = #[a.eval x] by simp, hv]
          exact ⟨_, by simp [Builtin.len_, run_underlying hu, goInt], .int _ _⟩
      · cases hc
        rename_i n e hu
        simp [evalOp, ev] at he
        subst he
        exact ⟨_, by simp [Builtin.len_, run_underlying hu, goInt], .int _ _⟩
    · -- append
      split at hc <;> try (cases hc; done)
      split at hc <;> try (cases hc; done)
      · split at hc <;> try (cases hc; done)
        cases hc; simp [DOp.effect] at hne
      · split at hc <;> try (cases hc; done)
        cases hc; simp [DOp.effect] at hne
    · -- copy
      split at hc <;> try (cases hc; done)
      split at hc <;> try (cases hc; done)
      split at hc <;> try (cases hc; done)
      cases hc; simp [DOp.effect] at hne
    · -- min
      rename_i ts x y hA
      have hA' : args = #[x, y] := by rw [← Array.toArray_toList (xs := args), hA]
      subst hA'
      split at hc <;> try (cases hc; done)
      cases hc
      rename_i x' y' hx hy
      have h1 := O hx
      have h2 := O hy
      simp only [evalOp] at he
      split at he <;> try (cases he; done)
      cases he
      rename_i hx' hy'
      rw [hx'] at h1; rw [hy'] at h2
      refine ValOk.of w ⟨_, ?_, .int _ _⟩
      rw [show Array.map a.eval #[x, y] = #[a.eval x, a.eval y] by simp, h1.int_inv, h2.int_inv]
      simp [Builtin.min_, Builtin.min2]
    · -- max
      rename_i ts x y hA
      have hA' : args = #[x, y] := by rw [← Array.toArray_toList (xs := args), hA]
      subst hA'
      split at hc <;> try (cases hc; done)
      cases hc
      rename_i x' y' hx hy
      have h1 := O hx
      have h2 := O hy
      simp only [evalOp] at he
      split at he <;> try (cases he; done)
      cases he
      rename_i hx' hy'
      rw [hx'] at h1; rw [hy'] at h2
      refine ValOk.of w ⟨_, ?_, .int _ _⟩
      rw [show Array.map a.eval #[x, y] = #[a.eval x, a.eval y] by simp, h1.int_inv, h2.int_inv]
      simp [Builtin.max_, Builtin.max2]
    · -- clear
      split at hc <;> try (cases hc; done)
      split at hc <;> try (cases hc; done)
      split at hc <;> try (cases hc; done)
      cases hc; simp [DOp.effect] at hne

set_option maxHeartbeats 1000000 in
theorem val_sound {o : Oper} {d : DOp} {v : DV} (hc : compOp P cfg mf o.op = some d) (hg : GlobOk D c) (hf : VRels c fr.tmps a.tmps.toList) (hS : Sim CC base c G w.heap) (hne : d.effect = false)
    (he : evalOp D fr h d = some (.val v)) (hld : ∀ sh x, d = .load sh x → loadD G sh (ev D fr x) = some v) : ValOk P c w (execOp a.eval o) v := by
  obtain ⟨dst, op, ty, pos, after, guard⟩ := o
  have O : ∀ {x : Operand} {y : Opd}, opd x = some y → VRel c (ev D fr y) (a.eval x) := fun h => opd_rel hg hf h
  have hk := kept_of_sim w hS
  cases op <;> simp only [compOp] at hc <;> try (cases hc; done)
  case move x =>
    simp at hc; obtain ⟨y, hy, rfl⟩ := hc
    simp [evalOp] at he; subst he
    exact ⟨_, w, by simp [execOp], O hy, .same⟩
  case assign x =>
    simp at hc; obtain ⟨y, hy, rfl⟩ := hc
    simp [evalOp] at he; subst he
    exact ⟨_, w, by simp [execOp], O hy, .same⟩
  case pick cc x y =>
    split at hc <;> simp at hc
    subst hc
    rename_i h1 h2 h3
    simp only [evalOp] at he
    have hcr := O h1
    split at he <;> simp at he <;> subst he <;> rename_i hb <;> rw [hb] at hcr <;> have hb' := hcr.bool_inv
    · exact ⟨_, w, by simp [execOp, hb', asBool], O h2, .same⟩
    · exact ⟨_, w, by simp [execOp, hb', asBool], O h3, .same⟩
  case alloc t =>
    simp [Option.bind_eq_some_iff] at hc
    obtain ⟨z, hz, hzz, rfl⟩ := hc
    simp [evalOp] at he
  case box t x =>
    split at hc <;> simp at hc
    subst hc
    simp only [evalOp] at he
    split at he <;> simp at he
  case build t parts =>
    split at hc <;> try (cases hc; done)
    split at hc <;> try (cases hc; done)
    split at hc <;> try (cases hc; done)
    cases hc
    simp only [evalOp] at he
    obtain ⟨r, hr, hv⟩ := Option.map_eq_some_iff.1 he
    cases hv
    refine ValOk.of w ?_
    exact val_build (z := default) w hg hf ‹_› ‹_› ‹_› ‹_› hr
  case buildSlice t len parts =>
    split at hc <;> try (cases hc; done)
    split at hc <;> try (cases hc; done)
    split at hc <;> try (cases hc; done)
    cases hc
    simp only [evalOp] at he
    split at he <;> simp at he
    split at he <;> simp at he
  case load t x =>
    split at hc <;> simp at hc
    subst hc
    rename_i sh y hsh hy
    have := hld sh y rfl
    exact ValOk.of w (load_rel (P := P) w hS hsh (O hy) this)
  case store t x y =>
    split at hc <;> simp at hc
    subst hc
    simp [DOp.effect] at hne
  case nilCheck x =>
    simp at hc; obtain ⟨y, hy, rfl⟩ := hc
    have hr := O hy
    simp only [evalOp] at he
    split at he <;> simp at he <;> subst he <;> rename_i hb <;> rw [hb] at hr
    · obtain ⟨b, o, lim, sz, hφ, hv⟩ := hr.ptr_inv
      exact ⟨_, w, by simp [execOp, hv], hv ▸ hr, .same⟩
    · obtain ⟨vs, b, o, h1, h2, h3, hv⟩ := hr.elt_inv
      exact ⟨_, w, by simp [execOp, hv], hv ▸ hr, .same⟩
  case binOp bop t x y yt =>
    split at hc <;> try (cases hc; done)
    rename_i x' y' hx hy
    obtain ⟨k, hk', rfl⟩ : ∃ k, ((bop = .eql ∨ bop = .neq) → eqKind P t = some k) ∧ d = .bin bop k x' y' := by
      split at hc
      · simp at hc; obtain ⟨k, h1, rfl⟩ := hc
        exact ⟨k, fun _ => h1, rfl⟩
      · simp at hc; obtain ⟨k, h1, rfl⟩ := hc
        exact ⟨k, fun _ => h1, rfl⟩
      · rename_i hn1 hn2
        simp at hc; subst hc
        exact ⟨.any, fun e => by rcases e with e | e; exact (hn1 e).elim; exact (hn2 e).elim, rfl⟩
    simp only [evalOp] at he
    have he' := map_val he
    exact ValOk.of w (bin_rel w he' (O hx) (O hy) hk')
  case unOp uop t x =>
    simp at hc; obtain ⟨y, hy, rfl⟩ := hc
    simp only [evalOp] at he
    exact ValOk.of w (un_rel w (map_val he) (O hy))
  case convert s t x => exact val_convert w hc hk hS (fun h => O h) hne he
  case makeFunc fn first caps =>
    split at hc <;> try (cases hc; done)
    cases hc
    rename_i f' _ _ hA hB
    simp [evalOp] at he; subst he
    have h1 := opds_rel hg hf hA
    have h2 := opds_rel hg hf hB
    refine ⟨_, w, by simp [execOp, Instr.makeFunc]; rfl, ?_, .same⟩
    have := VRel.fn (c := c) (.func f') h1 h2
    simpa only [List.map_toArray, Array.toArray_toList, ← Array.toList_map] using this
  case makeSlice t l cp =>
    split at hc <;> try (cases hc; done)
    split at hc <;> try (cases hc; done)
    split at hc <;> try (cases hc; done)
    cases hc
    simp only [evalOp] at he
    split at he <;> try (cases he; done)
    split at he <;> simp at he
    split at he <;> simp at he
  case slice t x lo hi mx =>
    split at hc <;> try (cases hc; done)
    · cases hc
      rename_i x' lo' hi' hu hx hlo hhi hmx
      simp only [evalOp] at he
      split at he <;> try (cases he; done)
      rename_i s hs
      obtain ⟨⟨l, r⟩, hb, hv⟩ := Option.map_eq_some_iff.1 he
      cases hv
      have hmx' : mx = none := by
        cases mx with
        | none => rfl
        | some m => simp [opdO] at hmx
      subst hmx'
      refine ValOk.of w ?_
      exact val_sliceStr (P := P) w hu (hs ▸ O hx) (opdO_cases hg hf hlo) (opdO_cases hg hf hhi) hb
    · obtain ⟨n, hn, rfl⟩ := Option.map_eq_some_iff.1 hc
      rename_i hu hx hlo hhi hmx
      simp only [evalOp] at he
      exact val_slice (P := P) w hu hn (O hx) (opdO_cases hg hf hlo) (opdO_cases hg hf hhi) (opdO_cases hg hf hmx) he
  case fieldAddr s x f =>
    split at hc <;> try (cases hc; done)
    split at hc <;> try (cases hc; done)
    split at hc <;> try (cases hc; done)
    cases hc
    rename_i fs y hu hy _ fd hfd _ n hn
    have hr := O hy
    have hz := run_sizeOfT (P := P) w hn
    simp only [evalOp] at he
    refine ValOk.of w ?_
    split at he <;> simp at he <;> subst he <;> rename_i hb <;> rw [hb] at hr
    · obtain ⟨b, o, lim, sz, hφ, hv⟩ := hr.ptr_inv
      rename_i off
      refine ⟨.pointer (some ⟨b, o + off + fd.offset, none⟩), by simp [Instr.fieldAt, run_underlying hu, hfd, hv, Instr.sureAddr, fieldPlace, hz, add_plain], ?_⟩
      have := VRel.ptr (c := c) (off := off + fd.offset) hφ
      rwa [← Nat.add_assoc] at this
    · obtain ⟨vs, b, o, h1, h2, h3, hv⟩ := hr.elt_inv
      refine ⟨.pointer (some ⟨b, o + fd.offset, none⟩), by simp [Instr.fieldAt, run_underlying hu, hfd, hv, Instr.sureAddr, fieldPlace, hz, add_plain], ?_⟩
      refine .elt (h1.drop _) (fun y hy => h2 y (List.mem_of_mem_drop hy)) fun j y hj => ?_
      have : vs[fd.offset + j]? = some y := by simpa using hj
      have := h3 _ _ this
      rwa [← Nat.add_assoc] at this
  case field s x f =>
    split at hc <;> try (cases hc; done)
    split at hc <;> try (cases hc; done)
    obtain ⟨sh, hsh, rfl⟩ := Option.map_eq_some_iff.1 hc
    rename_i fs y hu hy _ fd hfd
    have hr := O hy
    simp only [evalOp] at he
    split at he <;> try (cases he; done)
    rename_i cs hb
    rw [hb] at hr
    obtain ⟨r, hr1, hr2⟩ := Option.bind_eq_some_iff.1 (map_val he)
    exact ValOk.of w (val_field w hu hfd hsh hr hr1 hr2)
  case indexAddr t x i =>
    split at hc <;> try (cases hc; done)
    · obtain ⟨n, hn, rfl⟩ := Option.map_eq_some_iff.1 hc
      rename_i e x' i' hu hx hi
      have hr := O hx
      have hri := O hi
      simp only [evalOp] at he
      refine ValOk.of w ?_
      have hint : ∃ k m, ev D fr i' = .int k m := by
        split at he <;> first | exact ⟨_, _, ‹_›⟩ | (cases he; done)
      obtain ⟨k, m, hm⟩ := hint
      rw [hm] at hri he
      rw [hri.int_inv]
      refine val_iaddr w hu hn hr ?_
      generalize ev D fr x' = X at he hr
      cases X <;> first | (simp at he; done) | exact he | simpa using he
    · obtain ⟨n, hn, rfl⟩ := Option.map_eq_some_iff.1 hc
      rename_i len e x' i' hu hx hi
      have hr := O hx
      have hri := O hi
      simp only [evalOp] at he
      refine ValOk.of w ?_
      have hint : ∃ k m, ev D fr i' = .int k m := by
        split at he <;> first | exact ⟨_, _, ‹_›⟩ | (cases he; done)
      obtain ⟨k, m, hm⟩ := hint
      rw [hm] at hri he
      rw [hri.int_inv]
      refine val_iaddrArr w hu hn hr ?_
      generalize ev D fr x' = X at he hr
      cases X <;> first | (simp at he; done) | exact he | simpa using he
  case index t x i =>
    split at hc <;> try (cases hc; done)
    · cases hc
      rename_i x' i' hu hx hi
      have hr := O hx
      have hri := O hi
      simp only [evalOp] at he
      split at he <;> try (cases he; done)
      rename_i s k n hs hn
      rw [hs] at hr; rw [hn] at hri
      split at he <;> try (cases he; done)
      rename_i h0
      obtain ⟨b, hb, hv⟩ := Option.map_eq_some_iff.1 he
      cases hv
      refine ValOk.of w ?_
      rw [hri.int_inv]
      exact val_idxStr w hu hr h0 hb
    · obtain ⟨sh, hsh, rfl⟩ := Option.map_eq_some_iff.1 hc
      rename_i len e x' i' hu hx hi
      have hr := O hx
      have hri := O hi
      simp only [evalOp] at he
      split at he <;> try (cases he; done)
      rename_i cs k n hs hn
      rw [hs] at hr; rw [hn] at hri
      split at he <;> try (cases he; done)
      rename_i h0
      obtain ⟨r, hr1, hr2⟩ := Option.bind_eq_some_iff.1 (map_val he)
      refine ValOk.of w ?_
      rw [hri.int_inv]
      exact val_idxArr w hu hsh hr h0 hr1 hr2
  case extract x i =>
    simp at hc; obtain ⟨y, hy, rfl⟩ := hc
    have hr := O hy
    simp only [evalOp] at he
    split at he <;> try (cases he; done)
    rename_i vs hb
    rw [hb] at hr
    obtain ⟨ws, hw, hv⟩ := hr.tup_inv
    obtain ⟨u, hu1, hu2⟩ := hw.get i (map_val he)
    exact ValOk.of w ⟨u, by simp [Instr.extract, hv, hu1], hu2⟩
  case range t x =>
    split at hc <;> try (cases hc; done)
    cases hc
    simp only [evalOp] at he
    split at he <;> simp at he
  case next x s =>
    cases s <;> simp only [compOp] at hc
    · cases hc
    · obtain ⟨y, hy, rfl⟩ := Option.map_eq_some_iff.1 hc
      simp [DOp.effect] at hne
  case call cl => exact val_call w hc O hne he
  case defer cl =>
    split at hc <;> try (cases hc; done)
    split at hc <;> try (cases hc; done)
    cases hc
    simp [DOp.effect] at hne
end
end Go.Dm
/- The D-machine (11): what keeps the two heaps together. -/
namespace Go.Dm
set_option linter.unusedSimpArgs false
set_option linter.unusedVariables false
set_option linter.unnecessarySimpa false

def upd {α : Type} (f : Nat → Option α) (i : Nat) (x : α) : Nat → Option α := fun j => if j = i then some x else f j
theorem upd_same {α : Type} (f : Nat → Option α) (i : Nat) (x : α) : upd f i x i = some x := by simp [upd]
theorem upd_ne {α : Type} (f : Nat → Option α) {i j : Nat} (x : α) (h : j ≠ i) : upd f i x j = f j := by simp [upd, h]
theorem upd_some {α : Type} {f : Nat → Option α} {i j : Nat} {x y : α} (h : upd f i x j = some y) : (j = i ∧ y = x) ∨ (j ≠ i ∧ f j = some y) := by
  unfold upd at h
  split at h
  · cases h; exact .inl ⟨‹_›, rfl⟩
  · exact .inr ⟨‹_›, h⟩

/-- What lay below stays, and nothing is seen outside. -/
structure Keeps (base : Nat) (w w' : World) : Prop where
  size : w.heap.size ≤ w'.heap.size
  old : ∀ b, b < base → w'.heap[b]? = w.heap[b]?
  os : w'.os = w.os
  output : w'.output = w.output
  tape : w'.tape = w.tape
theorem Keeps.refl {base : Nat} (w : World) : Keeps base w w := ⟨Nat.le_refl _, fun _ _ => rfl, rfl, rfl, rfl⟩
theorem Keeps.trans {base : Nat} {a b c : World} (h : Keeps base a b) (k : Keeps base b c) : Keeps base a c :=
  ⟨Nat.le_trans h.size k.size, fun i hi => (k.old i hi).trans (h.old i hi), k.os.trans h.os, k.output.trans h.output, k.tape.trans h.tape⟩
theorem Keeps.drew {base : Nat} (w : World) (n : Nat) : Keeps base w { w with drawn := n } := ⟨Nat.le_refl _, fun _ _ => rfl, rfl, rfl, rfl⟩

theorem LoopRel.mono {CC : Code → DC → Prop} {c d : Cor} {r : LRec} {l : Loop} (h : LoopRel CC c r l) (hle : c.le d) : LoopRel CC d r l :=
  ⟨h.tmps.mono hle, h.ps, h.asg, h.body, h.st, h.pend, h.pn⟩
theorem ORel.mono {CC : Code → DC → Prop} {c d : Cor} {H H' : Array Obj} {b o lim sz : Nat} {ob : HObj} (h : ORel CC c H b o lim sz ob) (hle : c.le d) (hb : H'[b]? = H[b]?) : ORel CC d H' b o lim sz ob := by
  cases ob with
  | cells cs sh =>
    obtain ⟨h1, h2, vs, e, f, h3, h4, h5, h6, h7⟩ := h
    exact ⟨h1, h2, vs, e, f, hb.trans h3, h4, h5, h6, fun j x hj => let ⟨v, p, q⟩ := h7 j x hj; ⟨v, p, q.mono hle⟩⟩
  | siter s p => exact ⟨h.1, hb.trans h.2⟩
  | loop r =>
    obtain ⟨l, h1, h2⟩ := h
    exact ⟨l, hb.trans h1, h2.mono hle⟩
  | mark => exact hb.trans h
theorem ORel.lt {CC : Code → DC → Prop} {c : Cor} {H : Array Obj} {b o lim sz : Nat} {ob : HObj} (h : ORel CC c H b o lim sz ob) : b < H.size := by
  have : ∃ x, H[b]? = some x := by
    cases ob with
    | cells cs sh => obtain ⟨h1, h2, vs, e, f, h3, _⟩ := h; exact ⟨_, h3⟩
    | siter s p => exact ⟨_, h.2⟩
    | loop r => obtain ⟨l, h1, h2⟩ := h; exact ⟨_, h1⟩
    | mark => exact ⟨_, h⟩
  obtain ⟨x, hx⟩ := this
  exact (Array.getElem?_eq_some_iff.1 hx).1

section
variable {CC : Code → DC → Prop} {base : Nat} {c : Cor} {h : Heap} {H : Array Obj}

theorem Sim.kp_lt (hS : Sim CC base c h H) {b o : Nat} {v : Value} (hk : c.kp b o = some v) : b < H.size := by
  obtain ⟨vs, e, f, h1, _⟩ := hS.prot b o v hk
  exact (Array.getElem?_eq_some_iff.1 h1).1
theorem Sim.tag_lt (hS : Sim CC base c h H) {t sz b e lim sz' : Nat} (h1 : h.tags.get t = some sz) (h2 : c.τ t = some (b, e, lim, sz')) : b < H.size := by
  obtain ⟨_, _, ⟨vs, ty, f, h3, _⟩, _⟩ := hS.tags t sz b e lim sz' h1 h2
  exact (Array.getElem?_eq_some_iff.1 h3).1
theorem Sim.obj_lt (hS : Sim CC base c h H) {id b o lim sz : Nat} {ob : HObj} (h1 : h.objs.get id = some ob) (h2 : c.φ id = some (b, o, lim, sz)) : b < H.size := (hS.objs id ob b o lim sz h1 h2).2.lt
theorem Sim.φnext (hS : Sim CC base c h H) : c.φ h.next = none := by
  cases hx : c.φ h.next with
  | none => rfl
  | some x => exact absurd (hS.dφ _ _ hx) (Nat.lt_irrefl _)
theorem Sim.τnext (hS : Sim CC base c h H) : c.τ h.next = none := by
  cases hx : c.τ h.next with
  | none => rfl
  | some x => exact absurd (hS.dτ _ _ hx) (Nat.lt_irrefl _)

/-- An object that the model does not hold yet. -/
theorem Sim.add (hS : Sim CC base c h H) (ob : HObj) : Sim CC base c (h.add ob) H := by
  have hg : ∀ id x, c.φ id = some x → (h.add ob).objs.get id = h.objs.get id := fun id x hx => by
    have := hS.dφ id x hx
    simp only [Heap.add]
    exact Tr.get_set_ne _ _ (by omega)
  have ht : ∀ t, (h.add ob).tags.get t = h.tags.get t := fun t => rfl
  refine ⟨?_, ?_, hS.prot, ?_, ?_, ?_, ?_, ?_, ?_, hS.bτ, Nat.le_succ_of_le hS.next, hS.size, ?_⟩
  · intro id ob' b o lim sz h1 h2; rw [hg _ _ h2] at h1; exact hS.objs id ob' b o lim sz h1 h2
  · intro id id' ob1 ob2 b o lim sz o' lim' sz' h1 h2 h3 h4
    rw [hg _ _ h3] at h1; rw [hg _ _ h4] at h2
    exact hS.uniq _ _ _ _ _ _ _ _ _ _ _ h1 h2 h3 h4
  · intro id ob' b o lim sz h1 h2; rw [hg _ _ h2] at h1; exact hS.sep id ob' b o lim sz h1 h2
  · exact hS.tags
  · intro t sz b e lim sz' id ob' b' o' lim' sz'' h1 h2 h3 h4; rw [hg _ _ h4] at h3; exact hS.tagobj _ _ _ _ _ _ _ _ _ _ _ _ h1 h2 h3 h4
  · exact hS.tagtag
  · intro id x hx; exact Nat.lt_succ_of_lt (hS.dφ id x hx)
  · intro id x hx; exact Nat.lt_succ_of_lt (hS.dτ id x hx)
  · intro id hid
    have hid' : h.next + 1 ≤ id := hid
    obtain ⟨h1, h2⟩ := hS.fresh id (by omega)
    exact ⟨by simp only [Heap.add]; rw [Tr.get_set_ne _ _ (by omega)]; exact h1, h2⟩
theorem Sim.addTag (hS : Sim CC base c h H) (sz : Nat) : Sim CC base c (h.addTag sz) H := by
  have hg : ∀ id x, c.τ id = some x → (h.addTag sz).tags.get id = h.tags.get id := fun id x hx => by
    have := hS.dτ id x hx
    simp only [Heap.addTag]
    exact Tr.get_set_ne _ _ (by omega)
  refine ⟨hS.objs, hS.uniq, hS.prot, hS.sep, ?_, ?_, ?_, ?_, ?_, hS.bτ, Nat.le_succ_of_le hS.next, hS.size, ?_⟩
  · intro t sz b e lim sz' h1 h2; rw [hg _ _ h2] at h1; exact hS.tags _ _ _ _ _ _ h1 h2
  · intro t sz b e lim sz' id ob' b' o' lim' sz'' h1 h2 h3 h4; rw [hg _ _ h2] at h1; exact hS.tagobj _ _ _ _ _ _ _ _ _ _ _ _ h1 h2 h3 h4
  · intro t sz b e lim sz' u sz2 e' lim' sz'' h1 h2 h3 h4; rw [hg _ _ h2] at h1; rw [hg _ _ h4] at h3; exact hS.tagtag _ _ _ _ _ _ _ _ _ _ _ h1 h2 h3 h4
  · intro id x hx; exact Nat.lt_succ_of_lt (hS.dφ id x hx)
  · intro id x hx; exact Nat.lt_succ_of_lt (hS.dτ id x hx)
  · intro id hid
    have hid' : h.next + 1 ≤ id := hid
    obtain ⟨h1, h2⟩ := hS.fresh id (by omega)
    exact ⟨h1, by simp only [Heap.addTag]; rw [Tr.get_set_ne _ _ (by omega)]; exact h2⟩
theorem Sim.drop (hS : Sim CC base c h H) (id : Nat) : Sim CC base c (h.drop id) H := by
  have hg : ∀ i ob, (h.drop id).objs.get i = some ob → h.objs.get i = some ob := fun i ob hi => by
    simp only [Heap.drop, Tr.get_set] at hi
    split at hi
    · cases hi
    · exact hi
  refine ⟨?_, ?_, hS.prot, ?_, hS.tags, ?_, hS.tagtag, hS.dφ, hS.dτ, hS.bτ, hS.next, hS.size, ?_⟩
  · intro id ob' b o lim sz h1 h2; exact hS.objs id ob' b o lim sz (hg _ _ h1) h2
  · intro id id' ob1 ob2 b o lim sz o' lim' sz' h1 h2 h3 h4
    exact hS.uniq _ _ _ _ _ _ _ _ _ _ _ (hg _ _ h1) (hg _ _ h2) h3 h4
  · intro id ob' b o lim sz h1 h2; exact hS.sep id ob' b o lim sz (hg _ _ h1) h2
  · intro t sz b e lim sz' id ob' b' o' lim' sz'' h1 h2 h3 h4; exact hS.tagobj _ _ _ _ _ _ _ _ _ _ _ _ h1 h2 (hg _ _ h3) h4
  · intro i hi
    obtain ⟨h1, h2⟩ := hS.fresh i hi
    refine ⟨?_, h2⟩
    simp only [Heap.drop, Tr.get_set]
    split
    · rfl
    · exact h1
theorem Sim.spend (hS : Sim CC base c h H) (t : Nat) : Sim CC base c (h.spend t) H := by
  have hg : ∀ i sz, (h.spend t).tags.get i = some sz → h.tags.get i = some sz := fun i ob hi => by
    simp only [Heap.spend, Tr.get_set] at hi
    split at hi
    · cases hi
    · exact hi
  refine ⟨hS.objs, hS.uniq, hS.prot, hS.sep, ?_, ?_, ?_, hS.dφ, hS.dτ, hS.bτ, hS.next, hS.size, ?_⟩
  · intro t sz b e lim sz' h1 h2; exact hS.tags _ _ _ _ _ _ (hg _ _ h1) h2
  · intro t sz b e lim sz' id ob' b' o' lim' sz'' h1 h2 h3 h4; exact hS.tagobj _ _ _ _ _ _ _ _ _ _ _ _ (hg _ _ h1) h2 h3 h4
  · intro t sz b e lim sz' u sz2 e' lim' sz'' h1 h2 h3 h4; exact hS.tagtag _ _ _ _ _ _ _ _ _ _ _ (hg _ _ h1) h2 (hg _ _ h3) h4
  · intro i hi
    obtain ⟨h1, h2⟩ := hS.fresh i hi
    refine ⟨h1, ?_⟩
    simp only [Heap.spend, Tr.get_set]
    split
    · rfl
    · exact h2

theorem getElem?_push_lt' {H : Array Obj} {x : Obj} {b : Nat} (hb : b < H.size) : (H.push x)[b]? = H[b]? := by
  rw [Array.getElem?_push]; simp [Nat.ne_of_lt hb]
def Cor.obj (c : Cor) (id b o lim sz : Nat) : Cor := { c with φ := upd c.φ id (b, o, lim, sz) }
theorem Cor.le_obj {c : Cor} {id : Nat} (hn : c.φ id = none) (b o lim sz : Nat) : c.le (c.obj id b o lim sz) :=
  ⟨fun i x hx => by
    have : i ≠ id := fun e => by subst e; rw [hn] at hx; cases hx
    simpa [Cor.obj, upd, this] using hx, fun _ _ h => h, fun _ _ _ h => h⟩

/-- Something else is laid in the model's heap. -/
theorem Sim.push (hS : Sim CC base c h H) (x : Obj) : Sim CC base c h (H.push x) := by
  refine ⟨?_, hS.uniq, ?_, hS.sep, ?_, hS.tagobj, hS.tagtag, hS.dφ, hS.dτ, hS.bτ, hS.next, ?_, hS.fresh⟩
  · intro id ob b o lim sz h1 h2
    obtain ⟨h3, h4⟩ := hS.objs id ob b o lim sz h1 h2
    exact ⟨h3, h4.mono (Cor.le.refl c) (getElem?_push_lt' h4.lt)⟩
  · intro b o v hk
    obtain ⟨vs, e, f, h1, h2⟩ := hS.prot b o v hk
    exact ⟨vs, e, f, by rw [getElem?_push_lt' (hS.kp_lt hk)]; exact h1, h2⟩
  · intro t sz b e lim sz' h1 h2
    obtain ⟨h3, h4, ⟨vs, ty, f, h5, h6⟩, h7⟩ := hS.tags t sz b e lim sz' h1 h2
    exact ⟨h3, h4, ⟨vs, ty, f, by rw [getElem?_push_lt' (hS.tag_lt h1 h2)]; exact h5, h6⟩, h7⟩
  · have := hS.size; simp; omega

theorem Sim.obj (hS : Sim CC base c h H) {id : Nat} {ob : HObj} (hn : c.φ id = none) (hi : id < h.next) (hg : h.objs.get id = some ob) {x : Obj} {lim sz : Nat}
    (ho : ORel CC (c.obj id H.size 0 lim sz) (H.push x) H.size 0 lim sz ob) : Sim CC base (c.obj id H.size 0 lim sz) h (H.push x) := by
  have hP := hS.push x
  have hle := Cor.le_obj hn H.size 0 lim sz
  have hφ : ∀ i y, (c.obj id H.size 0 lim sz).φ i = some y → (i = id ∧ y = (H.size, 0, lim, sz)) ∨ (i ≠ id ∧ c.φ i = some y) := fun i y hy => upd_some hy
  refine ⟨?_, ?_, hP.prot, ?_, hP.tags, ?_, hS.tagtag, ?_, hS.dτ, hS.bτ, hS.next, hP.size, hS.fresh⟩
  · intro i ob' b o lim' sz' h1 h2
    rcases hφ _ _ h2 with ⟨rfl, e⟩ | ⟨_, e⟩
    · cases e
      rw [hg] at h1; cases h1
      exact ⟨hS.size, ho⟩
    · obtain ⟨h3, h4⟩ := hP.objs i ob' b o lim' sz' h1 e
      exact ⟨h3, h4.mono hle rfl⟩
  · intro i j ob1 ob2 b o lim1 sz1 o' lim' sz' h1 h2 h3 h4
    rcases hφ _ _ h3 with ⟨rfl, e3⟩ | ⟨n3, e3⟩ <;> rcases hφ _ _ h4 with ⟨rfl, e4⟩ | ⟨n4, e4⟩
    · rfl
    · cases e3
      have := hS.obj_lt h2 e4
      omega
    · cases e4
      have := hS.obj_lt h1 e3
      omega
    · exact hS.uniq _ _ _ _ _ _ _ _ _ _ _ h1 h2 e3 e4
  · intro i ob' b o lim' sz' h1 h2 j
    rcases hφ _ _ h2 with ⟨rfl, e⟩ | ⟨_, e⟩
    · cases e
      cases hk : (c.obj i H.size 0 lim sz).kp H.size j with
      | none => rfl
      | some v => have := hS.kp_lt (b := H.size) (o := j) (v := v) hk; omega
    · exact hS.sep i ob' b o lim' sz' h1 e j
  · intro t sz1 b e lim1 sz' i ob' b' o' lim' sz'' h1 h2 h3 h4
    rcases hφ _ _ h4 with ⟨rfl, e'⟩ | ⟨_, e'⟩
    · cases e'
      have := hS.tag_lt h1 h2
      omega
    · exact hS.tagobj _ _ _ _ _ _ _ _ _ _ _ _ h1 h2 h3 e'
  · intro i y hy
    rcases hφ _ _ hy with ⟨rfl, e⟩ | ⟨_, e⟩
    · exact hi
    · exact hS.dφ _ _ e

def Cor.tag (c : Cor) (t b e lim sz : Nat) (k : Nat → Nat → Option Value) : Cor := { c with τ := upd c.τ t (b, e, lim, sz), kp := k }
/-- Cells that stay: those of a list, at a block's place. -/
def keep (k : Nat → Nat → Option Value) (b o : Nat) (vs : List Value) : Nat → Nat → Option Value := fun b' j => if b' = b ∧ o ≤ j ∧ j < o + vs.length then vs[j - o]? else k b' j
theorem keep_in (k : Nat → Nat → Option Value) (b o : Nat) (vs : List Value) {j : Nat} {v : Value} (h : vs[j]? = some v) : keep k b o vs b (o + j) = some v := by
  have := (List.getElem?_eq_some_iff.1 h).1
  unfold keep
  rw [if_pos ⟨rfl, by omega, by omega⟩, show o + j - o = j by omega, h]
theorem keep_out (k : Nat → Nat → Option Value) (b o : Nat) (vs : List Value) {b' j : Nat} (h : b' ≠ b ∨ j < o ∨ o + vs.length ≤ j) : keep k b o vs b' j = k b' j := by
  unfold keep
  rw [if_neg (by omega)]
theorem keep_some {k : Nat → Nat → Option Value} {b o : Nat} {vs : List Value} {b' j : Nat} {v : Value} (h : keep k b o vs b' j = some v) : (b' = b ∧ o ≤ j ∧ vs[j - o]? = some v) ∨ k b' j = some v := by
  unfold keep at h
  split at h
  · rename_i hc; exact .inl ⟨hc.1, hc.2.1, h⟩
  · exact .inr h

theorem Sim.tag (hS : Sim CC base c h H) {t sz : Nat} (hn : c.τ t = none) (hi : t < h.next) (hg : h.tags.get t = some sz) {vs : List Value} {cs : Array Value} {ty : TypeId} {f : Nat × Nat} (hf : FOk cs.size f)
    (hv : ∀ (j : Nat) (v : Value), vs[j]? = some v → cs[j]? = some v) :
    let c' := c.tag t H.size vs.length cs.size sz (keep c.kp H.size 0 vs)
    c.le c' ∧ Sim CC base c' h (H.push (.cells cs ty f)) := by
  intro c'
  have hP := hS.push (.cells cs ty f)
  have hle : c.le c' := ⟨fun _ _ h => h, fun i x hx => by
    have : i ≠ t := fun e => by subst e; rw [hn] at hx; cases hx
    simpa [c', Cor.tag, upd, this] using hx, fun b o x hx => by
    have := hS.kp_lt hx
    simp only [c', Cor.tag]
    rw [keep_out _ _ _ _ (.inl (by omega))]; exact hx⟩
  have hτ : ∀ i y, c'.τ i = some y → (i = t ∧ y = (H.size, vs.length, cs.size, sz)) ∨ (i ≠ t ∧ c.τ i = some y) := fun i y hy => upd_some hy
  refine ⟨hle, ?_, hS.uniq, ?_, ?_, ?_, ?_, ?_, hS.dφ, ?_, ?_, hS.next, hP.size, hS.fresh⟩
  · intro i ob' b o lim' sz' h1 h2
    obtain ⟨h3, h4⟩ := hP.objs i ob' b o lim' sz' h1 h2
    exact ⟨h3, h4.mono hle rfl⟩
  · intro b o v hk
    rcases keep_some hk with ⟨rfl, _, h2⟩ | h2
    · exact ⟨cs, ty, f, by simp, by simpa using hv _ _ h2⟩
    · exact hP.prot b o v h2
  · intro i ob' b o lim' sz' h1 h2 j
    have := hS.obj_lt h1 h2
    simp only [c', Cor.tag]
    rw [keep_out _ _ _ _ (.inl (by omega))]
    exact hS.sep i ob' b o lim' sz' h1 h2 j
  · intro u sz1 b e lim sz' h1 h2
    rcases hτ _ _ h2 with ⟨rfl, e'⟩ | ⟨_, e'⟩
    · cases e'
      rw [hg] at h1; cases h1
      refine ⟨rfl, hS.size, ⟨cs, ty, f, by simp, rfl, hf⟩, fun j hj => ?_⟩
      simp only [c', Cor.tag]
      rw [keep_out _ _ _ _ (.inr (.inr (by omega)))]
      cases hk : c.kp H.size j with
      | none => rfl
      | some v => have := hS.kp_lt hk; omega
    · obtain ⟨h3, h4, h5, h6⟩ := hP.tags u sz1 b e lim sz' h1 e'
      refine ⟨h3, h4, h5, fun j hj => ?_⟩
      have := hS.tag_lt h1 e'
      simp only [c', Cor.tag]
      rw [keep_out _ _ _ _ (.inl (by omega))]
      exact h6 j hj
  · intro u sz1 b e lim sz' id ob' b' o' lim' sz'' h1 h2 h3 h4
    rcases hτ _ _ h2 with ⟨rfl, e'⟩ | ⟨_, e'⟩
    · cases e'
      have := hS.obj_lt h3 h4
      omega
    · exact hS.tagobj _ _ _ _ _ _ _ _ _ _ _ _ h1 e' h3 h4
  · intro u sz1 b e lim sz' u' sz2 e' lim' sz'' h1 h2 h3 h4
    rcases hτ _ _ h2 with ⟨rfl, e2⟩ | ⟨_, e2⟩ <;> rcases hτ _ _ h4 with ⟨rfl, e4⟩ | ⟨_, e4⟩
    · rfl
    · cases e2
      have := hS.tag_lt h3 e4
      omega
    · cases e4
      have := hS.tag_lt h1 e2
      omega
    · exact hS.tagtag _ _ _ _ _ _ _ _ _ _ _ h1 e2 h3 e4
  · intro i y hy
    rcases hτ _ _ hy with ⟨rfl, e⟩ | ⟨_, e⟩
    · exact hi
    · exact hS.dτ _ _ e
  · intro i b e lim sz' hy
    rcases hτ _ _ hy with ⟨rfl, e⟩ | ⟨_, e⟩
    · cases e; exact hS.size
    · exact hS.bτ _ _ _ _ _ e

/-- An object of ours is turned into another, in its own block. -/
theorem Sim.put (hS : Sim CC base c h H) {id b o lim sz : Nat} {ob ob' : HObj} {H' : Array Obj} (hg : h.objs.get id = some ob) (hφ : c.φ id = some (b, o, lim, sz)) (ho : ORel CC c H' b o lim sz ob')
    (hH : ∀ i, i ≠ b → H'[i]? = H[i]?) (hs : H'.size = H.size) : Sim CC base c (h.put id ob') H' := by
  have hp : ∀ i ob1, (h.put id ob').objs.get i = some ob1 → (i = id ∧ ob1 = ob') ∨ (i ≠ id ∧ h.objs.get i = some ob1) := fun i ob1 hi => by
    simp only [Heap.put, Tr.get_set] at hi
    split at hi
    · cases hi; exact .inl ⟨‹_›, rfl⟩
    · exact .inr ⟨‹_›, hi⟩
  have hlive : ∀ i ob1, (h.put id ob').objs.get i = some ob1 → ∃ ob2, h.objs.get i = some ob2 := fun i ob1 hi => by
    rcases hp _ _ hi with ⟨rfl, _⟩ | ⟨_, e⟩
    · exact ⟨_, hg⟩
    · exact ⟨_, e⟩
  refine ⟨?_, ?_, ?_, ?_, ?_, ?_, hS.tagtag, hS.dφ, hS.dτ, hS.bτ, hS.next, by rw [hs]; exact hS.size, ?_⟩
  · intro i ob1 b1 o1 lim1 sz1 h1 h2
    rcases hp _ _ h1 with ⟨rfl, rfl⟩ | ⟨n, e⟩
    · rw [hφ] at h2; cases h2
      exact ⟨(hS.objs _ _ _ _ _ _ hg hφ).1, ho⟩
    · obtain ⟨h3, h4⟩ := hS.objs i ob1 b1 o1 lim1 sz1 e h2
      refine ⟨h3, h4.mono (Cor.le.refl c) (hH _ fun eb => n ?_)⟩
      subst eb
      exact hS.uniq _ _ _ _ _ _ _ _ _ _ _ e hg h2 hφ
  · intro i j ob1 ob2 b o lim1 sz1 o' lim' sz' h1 h2 h3 h4
    obtain ⟨_, h1'⟩ := hlive _ _ h1
    obtain ⟨_, h2'⟩ := hlive _ _ h2
    exact hS.uniq _ _ _ _ _ _ _ _ _ _ _ h1' h2' h3 h4
  · intro b1 o1 v hk
    obtain ⟨vs, e, f, h1, h2⟩ := hS.prot b1 o1 v hk
    refine ⟨vs, e, f, ?_, h2⟩
    rw [hH _ fun eb => ?_]; exact h1
    subst eb
    have := hS.sep id ob _ o lim sz hg hφ o1
    rw [this] at hk; cases hk
  · intro i ob1 b o lim1 sz1 h1 h2
    obtain ⟨_, h1'⟩ := hlive _ _ h1
    exact hS.sep _ _ _ _ _ _ h1' h2
  · intro t sz1 b1 e lim1 sz' h1 h2
    obtain ⟨h3, h4, ⟨vs, ty, f, h5, h6⟩, h7⟩ := hS.tags t sz1 b1 e lim1 sz' h1 h2
    refine ⟨h3, h4, ⟨vs, ty, f, ?_, h6⟩, h7⟩
    rw [hH _ fun eb => ?_]; exact h5
    exact hS.tagobj _ _ _ _ _ _ _ _ _ _ _ _ h1 h2 hg hφ eb
  · intro t sz1 b1 e lim1 sz' i ob1 b' o' lim' sz'' h1 h2 h3 h4
    obtain ⟨_, h3'⟩ := hlive _ _ h3
    exact hS.tagobj _ _ _ _ _ _ _ _ _ _ _ _ h1 h2 h3' h4
  · intro i hi
    obtain ⟨h1, h2⟩ := hS.fresh i hi
    refine ⟨?_, h2⟩
    simp only [Heap.put, Tr.get_set]
    split
    · rename_i e; subst e; rw [hg] at h1; cases h1
    · exact h1
end
end Go.Dm
/- The D-machine (12): blocks that are turned, taken over, kept. -/
namespace Go.Dm
set_option linter.unusedSimpArgs false
set_option linter.unusedVariables false
set_option linter.unnecessarySimpa false

section
variable {CC : Code → DC → Prop} {base : Nat} {c : Cor} {h : Heap} {H H' : Array Obj}

/-- No live object of ours lies in the block. -/
def NoObj (c : Cor) (h : Heap) (b : Nat) : Prop := ∀ id ob b' o lim sz, h.objs.get id = some ob → c.φ id = some (b', o, lim, sz) → b' ≠ b
def NoTag (c : Cor) (h : Heap) (b : Nat) : Prop := ∀ t sz b' e lim sz', h.tags.get t = some sz → c.τ t = some (b', e, lim, sz') → b' ≠ b

theorem Sim.frost (hS : Sim CC base c h H) {b : Nat} {vs : Array Value} {ty : TypeId} {f f' : Nat × Nat} (hb : H[b]? = some (.cells vs ty f)) (hf : FOk vs.size f → FOk vs.size f') (hb' : H'[b]? = some (.cells vs ty f'))
    (hH : ∀ i, i ≠ b → H'[i]? = H[i]?) (hs : H'.size = H.size) : Sim CC base c h H' := by
  refine ⟨?_, hS.uniq, ?_, hS.sep, ?_, hS.tagobj, hS.tagtag, hS.dφ, hS.dτ, hS.bτ, hS.next, by rw [hs]; exact hS.size, hS.fresh⟩
  · intro id ob b1 o lim sz h1 h2
    obtain ⟨h3, h4⟩ := hS.objs id ob b1 o lim sz h1 h2
    refine ⟨h3, ?_⟩
    by_cases e : b1 = b
    · subst e
      cases ob with
      | cells cs sh =>
        obtain ⟨q1, q2, vs1, e1, f1, q3, q4, q5, q6, q7⟩ := h4
        rw [hb] at q3
        cases q3
        subst q4
        exact ⟨q1, q2, vs, ty, f', hb', rfl, hf q5, q6, q7⟩
      | siter s p => have := h4.2; rw [hb] at this; cases this
      | loop r => obtain ⟨l, q1, q2⟩ := h4; rw [hb] at q1; cases q1
      | mark => have h5 : H[b1]? = some (.deferred (some [])) := h4; rw [hb] at h5; cases h5
    · exact h4.mono (Cor.le.refl c) (hH _ e)
  · intro b1 o v hk
    obtain ⟨vs1, e, f1, h1, h2⟩ := hS.prot b1 o v hk
    by_cases eb : b1 = b
    · subst eb
      rw [hb] at h1; cases h1
      exact ⟨_, _, _, hb', h2⟩
    · exact ⟨vs1, e, f1, by rw [hH _ eb]; exact h1, h2⟩
  · intro t sz b1 e lim sz' h1 h2
    obtain ⟨h3, h4, ⟨vs1, ty1, f1, h5, h6, h8⟩, h7⟩ := hS.tags t sz b1 e lim sz' h1 h2
    refine ⟨h3, h4, ?_, h7⟩
    by_cases eb : b1 = b
    · subst eb
      rw [hb] at h5; cases h5
      subst h6
      exact ⟨_, _, _, hb', rfl, hf h8⟩
    · exact ⟨vs1, ty1, f1, by rw [hH _ eb]; exact h5, h6, h8⟩

theorem Sim.quiet {w w' : World} (hS : Sim CC base c h w.heap) (hq : Quiet c w w') : Sim CC base c h w'.heap ∧ Keeps base w w' := by
  cases hq with
  | same => exact ⟨hS, Keeps.refl w⟩
  | mark hτ hb =>
    rename_i t b e lim sz vs ty f
    have hlt := (Array.getElem?_eq_some_iff.1 hb).1
    have hbase := hS.bτ _ _ _ _ _ hτ
    have hself : (w.freeze ⟨b, vs.size, none⟩ 1).heap[b]? = some (.cells vs ty (if f.1 == f.2 then (vs.size, vs.size + 1) else (min f.1 vs.size, max f.2 (vs.size + 1)))) := by
      simp only [World.freeze, Nat.one_ne_zero, if_false]
      rw [Array.getElem?_modify, if_pos rfl, hb]
      rfl
    have hoth : ∀ i, i ≠ b → (w.freeze ⟨b, vs.size, none⟩ 1).heap[i]? = w.heap[i]? := fun i hi => by
      simp only [World.freeze, Nat.one_ne_zero, if_false]
      rw [Array.getElem?_modify, if_neg (Ne.symm hi)]
    have hsz : (w.freeze ⟨b, vs.size, none⟩ 1).heap.size = w.heap.size := by
      simp [World.freeze]
    refine ⟨hS.frost hb ?_ hself hoth hsz, by omega, fun i hi => hoth i (by omega), rfl, rfl, rfl⟩
    intro hf
    unfold FOk at hf ⊢
    split
    · right; exact Nat.le_refl _
    · rename_i hne
      have hne' : f.1 ≠ f.2 := by simpa using hne
      right
      rcases hf with h1 | h1
      · exact absurd h1 hne'
      · simp; omega

theorem Sim.alter (hS : Sim CC base c h H) {b : Nat} (hH : ∀ i, i ≠ b → H'[i]? = H[i]?) (hs : H'.size = H.size) (ho : NoObj c h b) (ht : NoTag c h b)
    (hk : ∀ j v, c.kp b j = some v → ∃ vs e f, H'[b]? = some (.cells vs e f) ∧ vs[j]? = some v) : Sim CC base c h H' := by
  refine ⟨?_, hS.uniq, ?_, hS.sep, ?_, hS.tagobj, hS.tagtag, hS.dφ, hS.dτ, hS.bτ, hS.next, by rw [hs]; exact hS.size, hS.fresh⟩
  · intro id ob b1 o lim sz h1 h2
    obtain ⟨h3, h4⟩ := hS.objs id ob b1 o lim sz h1 h2
    exact ⟨h3, h4.mono (Cor.le.refl c) (hH _ (ho _ _ _ _ _ _ h1 h2))⟩
  · intro b1 o v hk1
    by_cases eb : b1 = b
    · subst eb; exact hk _ _ hk1
    · obtain ⟨vs1, e, f1, h1, h2⟩ := hS.prot b1 o v hk1
      exact ⟨vs1, e, f1, by rw [hH _ eb]; exact h1, h2⟩
  · intro t sz b1 e lim sz' h1 h2
    obtain ⟨h3, h4, ⟨vs1, ty1, f1, h5, h6, h8⟩, h7⟩ := hS.tags t sz b1 e lim sz' h1 h2
    exact ⟨h3, h4, ⟨vs1, ty1, f1, by rw [hH _ (ht _ _ _ _ _ _ h1 h2)]; exact h5, h6, h8⟩, h7⟩

theorem Sim.objAt (hS : Sim CC base c h H) {id b o lim sz : Nat} {ob : HObj} (hn : c.φ id = none) (hi : id < h.next) (hg : h.objs.get id = some ob) (hb : base ≤ b) (h1' : NoObj c h b) (h2' : NoTag c h b) (h3' : ∀ j, c.kp b j = none)
    (ho : ORel CC (c.obj id b o lim sz) H b o lim sz ob) : Sim CC base (c.obj id b o lim sz) h H := by
  have hle := Cor.le_obj hn b o lim sz
  have hφ : ∀ i y, (c.obj id b o lim sz).φ i = some y → (i = id ∧ y = (b, o, lim, sz)) ∨ (i ≠ id ∧ c.φ i = some y) := fun i y hy => upd_some hy
  refine ⟨?_, ?_, hS.prot, ?_, hS.tags, ?_, hS.tagtag, ?_, hS.dτ, hS.bτ, hS.next, hS.size, hS.fresh⟩
  · intro i ob' b1 o1 lim' sz' h1 h2
    rcases hφ _ _ h2 with ⟨rfl, e⟩ | ⟨_, e⟩
    · cases e
      rw [hg] at h1; cases h1
      exact ⟨hb, ho⟩
    · obtain ⟨h3, h4⟩ := hS.objs i ob' b1 o1 lim' sz' h1 e
      exact ⟨h3, h4.mono hle rfl⟩
  · intro i j ob1 ob2 b1 o1 lim1 sz1 o' lim' sz' h1 h2 h3 h4
    rcases hφ _ _ h3 with ⟨rfl, e3⟩ | ⟨n3, e3⟩ <;> rcases hφ _ _ h4 with ⟨rfl, e4⟩ | ⟨n4, e4⟩
    · rfl
    · cases e3
      exact absurd rfl (h1' _ _ _ _ _ _ h2 e4)
    · cases e4
      exact absurd rfl (h1' _ _ _ _ _ _ h1 e3)
    · exact hS.uniq _ _ _ _ _ _ _ _ _ _ _ h1 h2 e3 e4
  · intro i ob' b1 o1 lim' sz' h1 h2 j
    rcases hφ _ _ h2 with ⟨rfl, e⟩ | ⟨_, e⟩
    · cases e
      exact h3' j
    · exact hS.sep i ob' b1 o1 lim' sz' h1 e j
  · intro t sz1 b1 e lim1 sz' i ob' b' o' lim' sz'' h1 h2 h3 h4
    rcases hφ _ _ h4 with ⟨rfl, e'⟩ | ⟨_, e'⟩
    · cases e'
      exact h2' _ _ _ _ _ _ h1 h2
    · exact hS.tagobj _ _ _ _ _ _ _ _ _ _ _ _ h1 h2 h3 e'
  · intro i y hy
    rcases hφ _ _ hy with ⟨rfl, e⟩ | ⟨_, e⟩
    · exact hi
    · exact hS.dφ _ _ e

theorem Sim.tagAt (hS : Sim CC base c h H) {t sz b e0 : Nat} (hn : c.τ t = none) (hi : t < h.next) (hg : h.tags.get t = some sz) (hbase : base ≤ b) {vs : List Value} {cs : Array Value} {ty : TypeId} {f : Nat × Nat} (hb : H[b]? = some (.cells cs ty f)) (hf : FOk cs.size f)
    (h1' : NoObj c h b) (h2' : NoTag c h b) (h3' : ∀ j, e0 ≤ j → c.kp b j = none) (hv : ∀ (j : Nat) (v : Value), vs[j]? = some v → cs[e0 + j]? = some v) :
    let c' := c.tag t b (e0 + vs.length) cs.size sz (keep c.kp b e0 vs)
    c.le c' ∧ Sim CC base c' h H := by
  intro c'
  have hkk : ∀ b1 o x, c.kp b1 o = some x → c'.kp b1 o = some x := fun b1 o x hx => by
    simp only [c', Cor.tag]
    rw [keep_out]; exact hx
    by_cases eb : b1 = b
    · subst eb
      right; left
      by_cases hlt : o < e0
      · exact hlt
      · rw [h3' o (by omega)] at hx; cases hx
    · exact .inl eb
  have hle : c.le c' := ⟨fun _ _ h => h, fun i x hx => by
    have : i ≠ t := fun e => by subst e; rw [hn] at hx; cases hx
    simpa [c', Cor.tag, upd, this] using hx, hkk⟩
  have hτ : ∀ i y, c'.τ i = some y → (i = t ∧ y = (b, e0 + vs.length, cs.size, sz)) ∨ (i ≠ t ∧ c.τ i = some y) := fun i y hy => upd_some hy
  refine ⟨hle, ?_, hS.uniq, ?_, ?_, ?_, ?_, ?_, hS.dφ, ?_, ?_, hS.next, hS.size, hS.fresh⟩
  · intro i ob' b1 o lim' sz' h1 h2
    obtain ⟨h3, h4⟩ := hS.objs i ob' b1 o lim' sz' h1 h2
    exact ⟨h3, h4.mono hle rfl⟩
  · intro b1 o v hk
    rcases keep_some hk with ⟨rfl, ho, h2⟩ | h2
    · refine ⟨cs, ty, f, hb, ?_⟩
      have := hv _ _ h2
      rwa [show e0 + (o - e0) = o by omega] at this
    · exact hS.prot b1 o v h2
  · intro i ob' b1 o lim' sz' h1 h2 j
    simp only [c', Cor.tag]
    rw [keep_out _ _ _ _ (.inl (h1' _ _ _ _ _ _ h1 h2))]
    exact hS.sep i ob' b1 o lim' sz' h1 h2 j
  · intro u sz1 b1 e lim sz' h1 h2
    rcases hτ _ _ h2 with ⟨rfl, e'⟩ | ⟨_, e'⟩
    · cases e'
      rw [hg] at h1; cases h1
      refine ⟨rfl, hbase, ⟨cs, ty, f, hb, rfl, hf⟩, fun j hj => ?_⟩
      simp only [c', Cor.tag]
      rw [keep_out _ _ _ _ (.inr (.inr (by omega)))]
      exact h3' j (by omega)
    · obtain ⟨h3, h4, h5, h6⟩ := hS.tags u sz1 b1 e lim sz' h1 e'
      refine ⟨h3, h4, h5, fun j hj => ?_⟩
      simp only [c', Cor.tag]
      rw [keep_out _ _ _ _ (.inl (h2' _ _ _ _ _ _ h1 e'))]
      exact h6 j hj
  · intro u sz1 b1 e lim sz' id ob' b' o' lim' sz'' h1 h2 h3 h4
    rcases hτ _ _ h2 with ⟨rfl, e'⟩ | ⟨_, e'⟩
    · cases e'
      exact Ne.symm (h1' _ _ _ _ _ _ h3 h4)
    · exact hS.tagobj _ _ _ _ _ _ _ _ _ _ _ _ h1 e' h3 h4
  · intro u sz1 b1 e lim sz' u' sz2 e' lim' sz'' h1 h2 h3 h4
    rcases hτ _ _ h2 with ⟨rfl, e2⟩ | ⟨_, e2⟩ <;> rcases hτ _ _ h4 with ⟨rfl, e4⟩ | ⟨_, e4⟩
    · rfl
    · cases e2
      exact absurd rfl (h2' _ _ _ _ _ _ h3 e4)
    · cases e4
      exact absurd rfl (h2' _ _ _ _ _ _ h1 e2)
    · exact hS.tagtag _ _ _ _ _ _ _ _ _ _ _ h1 e2 h3 e4
  · intro i y hy
    rcases hτ _ _ hy with ⟨rfl, e⟩ | ⟨_, e⟩
    · exact hi
    · exact hS.dτ _ _ e
  · intro i b1 e lim sz' hy
    rcases hτ _ _ hy with ⟨rfl, e⟩ | ⟨_, e⟩
    · cases e; exact hbase
    · exact hS.bτ _ _ _ _ _ e

theorem Sim.protect (hS : Sim CC base c h H) {b : Nat} {cs : Array Value} {ty : TypeId} {f : Nat × Nat} (hb : H[b]? = some (.cells cs ty f)) (h1' : NoObj c h b) (h2' : NoTag c h b) (h3' : ∀ j, c.kp b j = none) :
    let c' : Cor := { c with kp := keep c.kp b 0 cs.toList }
    c.le c' ∧ Sim CC base c' h H := by
  intro c'
  have hle : c.le c' := ⟨fun _ _ h => h, fun _ _ h => h, fun b1 o x hx => by
    simp only [c']
    rw [keep_out]; exact hx
    by_cases eb : b1 = b
    · subst eb; rw [h3'] at hx; cases hx
    · exact .inl eb⟩
  refine ⟨hle, ?_, hS.uniq, ?_, ?_, ?_, hS.tagobj, hS.tagtag, hS.dφ, hS.dτ, hS.bτ, hS.next, hS.size, hS.fresh⟩
  · intro i ob' b1 o lim' sz' h1 h2
    obtain ⟨h3, h4⟩ := hS.objs i ob' b1 o lim' sz' h1 h2
    exact ⟨h3, h4.mono hle rfl⟩
  · intro b1 o v hk
    rcases keep_some hk with ⟨rfl, ho, h2⟩ | h2
    · exact ⟨cs, ty, f, hb, by simpa using h2⟩
    · exact hS.prot b1 o v h2
  · intro i ob' b1 o lim' sz' h1 h2 j
    simp only [c']
    rw [keep_out _ _ _ _ (.inl (h1' _ _ _ _ _ _ h1 h2))]
    exact hS.sep i ob' b1 o lim' sz' h1 h2 j
  · intro u sz1 b1 e lim sz' h1 h2
    obtain ⟨h3, h4, h5, h6⟩ := hS.tags u sz1 b1 e lim sz' h1 h2
    refine ⟨h3, h4, h5, fun j hj => ?_⟩
    simp only [c']
    rw [keep_out _ _ _ _ (.inl (h2' _ _ _ _ _ _ h1 h2))]
    exact h6 j hj

/-- When an object is dropped its block is free; and likewise for what was spent. -/
theorem Sim.noObj_drop (hS : Sim CC base c h H) {id b o lim sz : Nat} {ob : HObj} (hg : h.objs.get id = some ob) (hφ : c.φ id = some (b, o, lim, sz)) : NoObj c (h.drop id) b := by
  intro i ob1 b1 o1 lim1 sz1 h1 h2 e
  subst e
  simp only [Heap.drop, Tr.get_set] at h1
  split at h1
  · cases h1
  · rename_i hne
    exact hne (hS.uniq _ _ _ _ _ _ _ _ _ _ _ h1 hg h2 hφ)
theorem Sim.noTag_obj (hS : Sim CC base c h H) {id b o lim sz : Nat} {ob : HObj} (hg : h.objs.get id = some ob) (hφ : c.φ id = some (b, o, lim, sz)) : NoTag c h b := fun t sz1 b1 e lim1 sz' h1 h2 =>
  hS.tagobj _ _ _ _ _ _ _ _ _ _ _ _ h1 h2 hg hφ
theorem Sim.noTag_spend (hS : Sim CC base c h H) {t sz b e lim sz' : Nat} (hg : h.tags.get t = some sz) (hτ : c.τ t = some (b, e, lim, sz')) : NoTag c (h.spend t) b := by
  intro u sz1 b1 e1 lim1 sz1' h1 h2 eb
  subst eb
  simp only [Heap.spend, Tr.get_set] at h1
  split at h1
  · cases h1
  · rename_i hne
    exact hne (hS.tagtag _ _ _ _ _ _ _ _ _ _ _ h1 h2 hg hτ)
theorem Sim.noObj_tag (hS : Sim CC base c h H) {t sz b e lim sz' : Nat} (hg : h.tags.get t = some sz) (hτ : c.τ t = some (b, e, lim, sz')) : NoObj c h b := fun i ob1 b1 o1 lim1 sz1 h1 h2 =>
  Ne.symm (hS.tagobj _ _ _ _ _ _ _ _ _ _ _ _ hg hτ h1 h2)
end
end Go.Dm
/- The D-machine (13): what is laid anew. -/
namespace Go.Dm
set_option linter.unusedSimpArgs false
set_option linter.unusedVariables false
set_option linter.unnecessarySimpa false

theorem flat_length {sz : Nat} : ∀ (xs : List DV), (∀ x ∈ xs, x.cells.length = sz) → (flat xs).length = xs.length * sz
  | [], _ => by simp [flat]
  | x :: xs, h => by
    have := flat_length xs fun y hy => h y (by simp [hy])
    simp only [flat, List.flatMap_cons, List.length_append, h x (by simp), List.length_cons] at this ⊢
    rw [this, Nat.succ_mul]; omega
theorem flat_append (xs ys : List DV) : flat (xs ++ ys) = flat xs ++ flat ys := by simp [flat]

def NewOk (P : Program) (CC : Code → DC → Prop) (base : Nat) (c : Cor) (G : Heap) (w : World) (id : Nat) (s : Sem Next) (v : DV) : Prop :=
  ∃ v' w' c', s.run P w = .ok (.value v') w' ∧ c.le c' ∧ Sim CC base c' G w'.heap ∧ VRel c' v v' ∧ Keeps base w w' ∧ ∀ i, i ≠ id → c'.φ i = c.φ i ∧ c'.τ i = c.τ i

section
variable {P : Program} {CC : Code → DC → Prop} {base : Nat} {c : Cor} {G : Heap} (w : World) {id : Nat}

theorem Keeps.alloc' (hs : base ≤ w.heap.size) (x : Obj) (n : Nat) (w' : World) (h : w'.heap = w.heap.push x) (h1 : w'.os = w.os) (h2 : w'.output = w.output) (h3 : w'.tape = w.tape) : Keeps base w w' :=
  ⟨by rw [h]; simp, fun b hb => by rw [h]; exact getElem?_push_lt' (by omega), h1, h2, h3⟩

/-- A new row of ours that is written into. -/
theorem new_cells (hS : Sim CC base c G w.heap) (hn : c.φ id = none) (hi : id < G.next) {ds : List DV} {sh : Shape} (hg : G.objs.get id = some (.cells ds sh)) {cs : Array Value} {ty : TypeId} {f : Nat × Nat} (hf : FOk cs.size f)
    (hlen : ds.length ≤ cs.size) (hv : ∀ (j : Nat) x, ds[j]? = some x → ∃ v, cs[j]? = some v ∧ VRel c x v) (ho : ∀ x ∈ ds, x.one = true) :
    let c' := c.obj id w.heap.size 0 cs.size sh.size
    c.le c' ∧ Sim CC base c' G (w.heap.push (.cells cs ty f)) ∧ c'.φ id = some (w.heap.size, 0, cs.size, sh.size) ∧ ∀ i, i ≠ id → c'.φ i = c.φ i ∧ c'.τ i = c.τ i := by
  intro c'
  have hle := Cor.le_obj hn w.heap.size 0 cs.size sh.size
  refine ⟨hle, hS.obj hn hi hg ?_, upd_same _ _ _, fun i hne => ⟨upd_ne _ _ hne, rfl⟩⟩
  refine ⟨rfl, by omega, cs, ty, f, by simp, rfl, hf, ho, fun j x hj => ?_⟩
  obtain ⟨v, h1, h2⟩ := hv j x hj
  exact ⟨v, by simpa using h1, h2.mono hle⟩

/-- A new list. -/
theorem new_list (hS : Sim CC base c G w.heap) (hn : c.τ id = none) (hi : id < G.next) (h2 : 2 ≤ id) {sz : Nat} (hsz : 0 < sz) (hg : G.tags.get id = some sz) {xs : List DV} {vs : List Value} {cs : Array Value} {ty : TypeId} {f : Nat × Nat} {cap : Nat} (hf : FOk cs.size f)
    (hs : ∀ x ∈ xs, x.cells.length = sz) (hv : VRels c (flat xs) vs) (ho : ∀ x ∈ flat xs, x.one = true) (hcs : ∀ (j : Nat) (v : Value), vs[j]? = some v → cs[j]? = some v) (hcap : xs.length ≤ cap) (hlim : cap * sz ≤ cs.size) :
    let c' := c.tag id w.heap.size vs.length cs.size sz (keep c.kp w.heap.size 0 vs)
    c.le c' ∧ Sim CC base c' G (w.heap.push (.cells cs ty f)) ∧ VRel c' (.lst id sz xs) (.slice (some ⟨w.heap.size, 0, none⟩) xs.length cap) ∧ ∀ i, i ≠ id → c'.φ i = c.φ i ∧ c'.τ i = c.τ i := by
  intro c'
  obtain ⟨hle, hS'⟩ := hS.tag hn hi hg (vs := vs) (cs := cs) (ty := ty) (f := f) hf hcs
  have hl : vs.length = xs.length * sz := by rw [← hv.length_eq, flat_length xs hs]
  refine ⟨hle, hS', ?_, fun i hne => ⟨rfl, upd_ne _ _ hne⟩⟩
  refine .lst (vs := vs) (fun _ => hsz) hs (hv.mono hle) ho (fun _ => ⟨_, _, rfl, fun j x hj => keep_in _ _ _ _ hj⟩) hcap (by omega) (fun _ => ⟨_, _, _, rfl, .inl rfl⟩) fun _ => ?_
  exact ⟨_, _, _, _, rfl, upd_same _ _ _, .inr ⟨by omega, by omega⟩⟩

/-! ### rows of zeros -/
theorem flat_replicate_get {z : DV} {sz : Nat} (hz : z.cells.length = sz) (hsz : 0 < sz) : ∀ (n j : Nat), j < n * sz → (flat (List.replicate n z))[j]? = z.cells[j % sz]?
  | 0, j, h => by simp at h
  | n + 1, j, h => by
    simp only [List.replicate_succ, flat, List.flatMap_cons]
    by_cases hj : j < sz
    · rw [List.getElem?_append_left (by omega), Nat.mod_eq_of_lt hj]
    · rw [List.getElem?_append_right (by omega), hz]
      have := flat_replicate_get hz hsz n (j - sz) (by rw [Nat.succ_mul] at h; omega)
      simp only [flat] at this
      rw [this]
      rw [Nat.mod_eq_sub_mod (by omega : j ≥ sz)]
theorem zeros_rel {z : DV} {vz : Value} {sz : Nat} (hz : z.cells.length = sz) (hsz : 0 < sz) (hr : VRel c z vz) (n : Nat) :
    VRels c (flat (List.replicate n z)) ((Array.range (n * sz)).map (vz.cells[· % vz.cells.size]!)).toList := by
  have hvs : vz.cells.size = sz := by rw [hr.cells_size, hz]
  refine VRels.of_get ?_ fun i x v hx hv => ?_
  · rw [flat_length (sz := sz) _ (by intro x hx; rw [List.eq_of_mem_replicate hx]; exact hz)]; simp
  · have hi : i < n * sz := by
      have := (List.getElem?_eq_some_iff.1 hv).1; simpa using this
    rw [flat_replicate_get hz hsz n i hi] at hx
    have hm : i % sz < sz := Nat.mod_lt _ hsz
    obtain ⟨u, h1, h2⟩ := hr.cells.get _ hx
    have h3 : v = u := by
      simp [List.getElem?_eq_some_iff] at hv
      obtain ⟨_, ⟨_, rfl⟩, rfl⟩ := hv
      have h4 : vz.cells[i % sz]? = some u := by simpa using h1
      rw [hvs, getElem!_def, h4]
    rw [h3]; exact h2

end
end Go.Dm
/- The D-machine (14): operations that lay something anew. -/
namespace Go.Dm
set_option linter.unusedSimpArgs false
set_option linter.unusedVariables false
set_option linter.unnecessarySimpa false

theorem flat_set {sz : Nat} : ∀ (xs : List DV) (i : Nat) (v : DV), (∀ x ∈ xs, x.cells.length = sz) → v.cells.length = sz → i < xs.length → flat (xs.set i v) = ovl (flat xs) (i * sz) v.cells
  | [], i, v, _, _, h => by simp at h
  | x :: xs, 0, v, h, hv, _ => by
    have hx := h x (by simp)
    simp only [List.set_cons_zero, flat, List.flatMap_cons, ovl, Nat.zero_mul, List.take_zero, List.nil_append, Nat.zero_add, hv]
    rw [List.drop_left' hx]
  | x :: xs, i + 1, v, h, hv, hi => by
    have hx := h x (by simp)
    have ih := flat_set xs i v (fun y hy => h y (by simp [hy])) hv (by simpa using hi)
    simp only [List.set_cons_succ, flat, List.flatMap_cons] at ih ⊢
    rw [ih]
    simp only [ovl]
    have e : (i + 1) * sz = x.cells.length + i * sz := by rw [hx, Nat.succ_mul]; omega
    rw [e, List.take_length_add_append, Nat.add_assoc, List.drop_length_add_append]
    simp

section
variable {c : Cor}
theorem fillS_rel {sz : Nat} {ρ : Operand → Value} : ∀ (ps : List (Nat × Operand)) (qs : List (Nat × DV)),
    All2 (fun (p : Nat × Operand) (q : Nat × DV) => p.1 = q.1 ∧ VRel c q.2 (ρ p.2)) ps qs →
    ∀ (xs : List DV) (arr : Array Value), VRels c (flat xs) arr.toList → (∀ x ∈ xs, x.cells.length = sz) → (∀ q ∈ qs, q.1 < xs.length ∧ q.2.cells.length = sz ∧ q.2.okv = true) → (∀ x ∈ flat xs, x.one = true) →
    ∃ arr', Instr.fill (fun i => some (i * sz, sz)) arr (ps.map fun p => (p.1, ρ p.2)) = some arr' ∧ VRels c (flat (fillL xs qs)) arr'.toList ∧ (∀ x ∈ fillL xs qs, x.cells.length = sz) ∧ (∀ x ∈ flat (fillL xs qs), x.one = true) ∧ (fillL xs qs).length = xs.length := by
  intro ps
  induction ps with
  | nil =>
    intro qs hq xs arr hv hs _ ho
    cases hq
    exact ⟨arr, rfl, hv, hs, ho, rfl⟩
  | cons p ps ih =>
    intro qs hq xs arr hv hs hb ho
    cases hq with
    | cons h hr =>
      rename_i q qs
      obtain ⟨hp, hx⟩ := h
      obtain ⟨i, d⟩ := q
      simp only at hp hx
      obtain ⟨hb1, hb2, hb3⟩ := hb (i, d) (by simp)
      simp only at hb1 hb2 hb3
      have hsz := hx.cells_size
      have hl := hv.length_eq
      rw [flat_length xs hs] at hl
      have hfit : i * sz + sz ≤ xs.length * sz := by
        have : (i + 1) * sz ≤ xs.length * sz := Nat.mul_le_mul_right _ hb1
        rw [Nat.succ_mul] at this; exact this
      simp only [List.map_cons, Instr.fill, hp]
      have hn : ¬ (((ρ p.2).cells.size ≠ sz || decide (i * sz + (ρ p.2).cells.size > arr.size)) = true) := by
        simp at hl ⊢
        exact ⟨by omega, by omega⟩
      rw [if_neg hn]
      have hset := flat_set xs i d hs hb2 hb1
      have harr := foldl_set_array (ρ p.2).cells arr (i * sz) (by simp at hl; omega)
      obtain ⟨arr', h1, h2, h3, h4, h5⟩ := ih qs hr (xs.set i d) _ (by rw [harr, hset]; exact VRels.ovl hv hx.cells (i * sz))
        (fun y hy => by
          rcases List.mem_or_eq_of_mem_set hy with h | h
          · exact hs y h
          · subst h; exact hb2)
        (fun q hq => by
          have := hb q (by simp [hq])
          simpa using this)
        (fun y hy => by
          rw [hset] at hy
          simp only [ovl, List.mem_append] at hy
          rcases hy with (h | h) | h
          · exact ho y (List.mem_of_mem_take h)
          · exact hx.okv_one hb3 y h
          · exact ho y (List.mem_of_mem_drop h))
      exact ⟨arr', h1, h2, h3, h4, by rw [fillL, h5]; simp⟩
end

section
variable {P : Program} {cfg : Cfg} {mf : Bool} {D : DProg} {CC : Code → DC → Prop} {base : Nat} {c : Cor} {fr : Fr} {a : Act} {h G : Heap} (w : World) {id : Nat}

theorem partsL_rel (hg : GlobOk D c) (hf : VRels c fr.tmps a.tmps.toList) : ∀ (ps : List (Nat × Operand)) (qs : List (Nat × Opd)), partsL ps = some qs →
    All2 (fun (p : Nat × Operand) (q : Nat × DV) => p.1 = q.1 ∧ VRel c q.2 (a.eval p.2)) ps (qs.map fun q => (q.1, ev D fr q.2)) := by
  intro ps
  induction ps with
  | nil => intro qs h; simp [partsL] at h; subst h; exact .nil
  | cons p ps ih =>
    intro qs h
    obtain ⟨i, x⟩ := p
    simp only [partsL] at h
    split at h <;> simp at h
    subst h
    rename_i h1 h2
    exact .cons ⟨rfl, opd_rel hg hf h1⟩ (ih _ h2)
theorem zeroOf_some {t : TypeId} {z : DV} (h : zeroOf P t = some z) : ∃ i v, P.info? t = some i ∧ i.zero = some v ∧ ofVal v = some z ∧ (zeroValue t).run P w = .ok v w := by
  simp only [zeroOf, Option.bind_eq_some_iff] at h
  obtain ⟨v, ⟨i, hi, hz⟩, ho⟩ := h
  exact ⟨i, v, hi, hz, ho, by simp [zeroValue, typeInfo, hi, hz]⟩

theorem exec_valN {s : Sem Value} {v : DV} (hs : ∃ v' w' c', s.run P w = .ok v' w' ∧ c.le c' ∧ Sim CC base c' G w'.heap ∧ VRel c' v v' ∧ Keeps base w w' ∧ ∀ i, i ≠ id → c'.φ i = c.φ i ∧ c'.τ i = c.τ i) : NewOk P CC base c G w id (do pure (.value (← s))) v :=
  let ⟨v', w', c', h1, h2⟩ := hs; ⟨v', w', c', exec_val w h1, h2⟩

/-- A row of a buildSlice, a make: of whatever use. -/
theorem new_row (hS : Sim CC base c G w.heap) (hi : id < G.next) (h2 : 2 ≤ id) {mu : Bool} {sh : Shape} (hsz : 0 < sh.size) {xs : List DV} {cs : Array Value} {ty : TypeId} {w' : World} {len : Nat} {v : DV} (hlen : xs.length = len)
    (hs : ∀ x ∈ xs, x.cells.length = sh.size) (hv : VRels c (flat xs) cs.toList) (ho : ∀ x ∈ flat xs, x.one = true) (hw : w'.heap = w.heap.push (.cells cs ty)) (hk : Keeps base w w') {cap : Nat} (hcap : len = cap)
    (hm : if mu then v = .arr id sh.size 0 len ∧ c.φ id = none ∧ G.objs.get id = some (.cells (flat xs) sh) else v = .lst id sh.size xs ∧ c.τ id = none ∧ G.tags.get id = some sh.size) :
    ∃ c', c.le c' ∧ Sim CC base c' G w'.heap ∧ VRel c' v (.slice (some ⟨w.heap.size, 0, none⟩) len cap) ∧ Keeps base w w' ∧ ∀ i, i ≠ id → c'.φ i = c.φ i ∧ c'.τ i = c.τ i := by
  have hcl : cs.size = len * sh.size := by
    have := hv.length_eq
    rw [flat_length xs hs, hlen] at this; simpa using this.symm
  subst hcap
  cases mu with
  | false =>
    simp only [Bool.false_eq_true, if_false] at hm
    obtain ⟨rfl, hn, hg⟩ := hm
    subst hlen
    obtain ⟨q1, q2, q3, q4⟩ := new_list w hS hn hi h2 hsz hg (xs := xs) (vs := cs.toList) (cs := cs) (ty := ty) (f := (0, 0)) (cap := xs.length) (.inl rfl) hs hv ho (fun j v hj => by simpa using hj) (Nat.le_refl _) (by omega)
    exact ⟨_, q1, by rw [hw]; exact q2, q3, hk, q4⟩
  | true =>
    simp only [if_true] at hm
    obtain ⟨rfl, hn, hg⟩ := hm
    obtain ⟨q1, q2, q3, q4⟩ := new_cells w hS hn hi hg (cs := cs) (ty := ty) (f := (0, 0)) (.inl rfl) (by rw [flat_length xs hs, hlen]; omega) (fun j x hj => by
      obtain ⟨u, h3, h4⟩ := hv.get j hj
      exact ⟨u, by simpa using h3, h4⟩) ho
    exact ⟨_, q1, by rw [hw]; exact q2, .arr q3 (Nat.le_refl _) (.inr ⟨rfl, rfl, by omega⟩), hk, q4⟩

/-- What the machine of ours lays: an object, or a tag. -/
def Lays (c : Cor) (G : Heap) (id : Nat) : EvR → DV → Prop
  | .newO ob mk, v => v = mk id ∧ c.φ id = none ∧ G.objs.get id = some ob
  | .newT sz mk, v => v = mk id ∧ c.τ id = none ∧ G.tags.get id = some sz
  | _, _ => False

theorem alloc_run (w : World) (t : TypeId) (v : Value) : (newVar t v).run P w = .ok ⟨w.heap.size, 0, none⟩ (w.alloc (.cells v.cells t)) := rfl
theorem Keeps.alloc (hs : base ≤ w.heap.size) (x : Obj) : Keeps base w (w.alloc x) := Keeps.alloc' w hs x 0 _ rfl rfl rfl rfl
theorem Keeps.drewAlloc (hs : base ≤ w.heap.size) (x : Obj) : Keeps base w (w.drew.alloc x) := Keeps.alloc' w hs x 0 _ rfl rfl rfl rfl

theorem new_alloc (hS : Sim CC base c G w.heap) (hi : id < G.next) {t : TypeId} {z : DV} (hz : zeroOf P t = some z) (hok : z.okv = true) {v : DV} (hl : Lays c G id (.newO (.cells z.cells none) (fun i => .ptr i 0)) v) :
    NewOk P CC base c G w id (do pure (.value (← Instr.alloc t true (.tuple #[])))) v := by
  obtain ⟨i, zv, h1, h2, h3, h4⟩ := zeroOf_some w hz
  obtain ⟨rfl, hn, hg⟩ := hl
  have hr : VRel c z zv := ofVal_rel h3
  obtain ⟨q1, q2, q3, q4⟩ := new_cells w hS hn hi hg (cs := zv.cells) (ty := t) (f := (0, 0)) (.inl rfl) (by rw [hr.cells_size]; exact Nat.le_refl _) (fun j x hj => by
      obtain ⟨u, h3, h4⟩ := hr.cells.get j hj
      exact ⟨u, by simpa using h3, h4⟩) (hr.okv_one hok)
  refine exec_valN w ⟨_, w.alloc (.cells zv.cells t), _, ?_, q1, q2, .ptr q3, Keeps.alloc w hS.size _, q4⟩
  simp only [Instr.alloc, Sem.run_bind, h4, Result.andThen_ok, alloc_run, Sem.run_pure]
theorem new_box (hS : Sim CC base c G w.heap) (hi : id < G.next) {t : TypeId} {x : DV} {vx : Value} (hr : VRel c x vx) (hok : x.okv = true) {v : DV} (hl : Lays c G id (.newO (.cells x.cells none) (fun i => .ptr i 0)) v) :
    NewOk P CC base c G w id (do pure (.value (← Instr.box t vx))) v := by
  obtain ⟨rfl, hn, hg⟩ := hl
  obtain ⟨q1, q2, q3, q4⟩ := new_cells w hS hn hi hg (cs := vx.cells) (ty := t) (f := (0, 0)) (.inl rfl) (by rw [hr.cells_size]; exact Nat.le_refl _) (fun j x hj => by
      obtain ⟨u, h3, h4⟩ := hr.cells.get j hj
      exact ⟨u, by simpa using h3, h4⟩) (hr.okv_one hok)
  refine exec_valN w ⟨_, w.alloc (.cells vx.cells t), _, ?_, q1, q2, .ptr q3, Keeps.alloc w hS.size _, q4⟩
  simp only [Instr.box, Sem.run_bind, alloc_run, Result.andThen_ok, Sem.run_pure]
theorem new_buildSlice (hS : Sim CC base c G w.heap) (hi : id < G.next) (h2 : 2 ≤ id) (hg : GlobOk D c) (hf : VRels c fr.tmps a.tmps.toList) {t e : TypeId} {sh : Shape} {z : DV} {len : Nat} {parts : Array (Nat × Operand)} {ps : List (Nat × Opd)} {mu : Bool}
    (hu : P.underlying t = some (.slice e)) (hsh : shapeOf P e = some sh) (hz : zeroOf P e = some z) (hps : partsL parts.toList = some ps) (hzc : z.cells.length = sh.size) (hzo : z.okv = true) {r : EvR} {v : DV}
    (he : evalOp D fr h (.mks mu sh z len ps) = some r) (hl : Lays c G id r v) :
    NewOk P CC base c G w id (do pure (.value (← Instr.buildSlice t len (parts.map fun (i, x) => (i, a.eval x))))) v := by
  obtain ⟨i, zv, h1, h2', h3, h4⟩ := zeroOf_some w hz
  have hr : VRel c z zv := ofVal_rel h3
  obtain ⟨_, hpos⟩ := shapeOf_size hsh
  have hso := run_sizeOf_shape w hsh
  simp only [evalOp] at he
  split at he
  case isFalse => cases he
  rename_i hcond
  obtain ⟨hc1, hc2⟩ := hcond
  have hzr := zeros_rel (n := len) hzc hpos hr
  obtain ⟨arr, f1, f2, f3, f4, f5⟩ := fillS_rel (c := c) (sz := sh.size) (ρ := a.eval) parts.toList _ (partsL_rel hg hf _ _ hps) (List.replicate len z) _ hzr
    (fun x hx => by rw [List.eq_of_mem_replicate hx]; exact hzc)
    (fun q hq => by
      obtain ⟨p, hp, rfl⟩ := List.mem_map.1 hq
      have := hc2 p hp
      simpa using this)
    (fun x hx => by
      simp only [flat, List.mem_flatMap] at hx
      obtain ⟨y, hy, hxy⟩ := hx
      rw [List.eq_of_mem_replicate hy] at hxy
      exact hr.okv_one hzo x hxy)
  have hrun : (Instr.buildSlice t len (parts.map fun (i, x) => (i, a.eval x))).run P w = .ok (.slice (some ⟨w.heap.size, 0, none⟩) len len) (w.alloc (.cells arr e)) := by
    have hmap : (parts.map fun (x : Nat × Operand) => (x.1, a.eval x.2)).toList = parts.toList.map fun p => (p.1, a.eval p.2) := by simp
    have hbig : ¬ (len * sh.size > 2 ^ 24) := by simp; omega
    simp only [Instr.buildSlice, Sem.run_bind, run_underlying hu, Result.andThen_ok, hso, hbig, if_false]
    by_cases h0 : len * sh.size = 0
    · have hl0 : len = 0 := by
        rcases Nat.mul_eq_zero.1 h0 with h | h <;> omega
      have hnil : parts.toList.map (fun p => (p.1, a.eval p.2)) = [] := by
        cases hpt : parts.toList with
        | nil => rfl
        | cons p pt =>
          rw [hpt] at hps
          simp only [partsL] at hps
          split at hps <;> simp at hps
          subst hps
          have := (hc2 _ (List.mem_cons_self ..)).1
          omega
      have hnone : ∀ g : Nat → Value, (Array.range (len * sh.size)).map g = #[] := fun g => by rw [h0]; simp
      rw [hnone, hnil] at f1
      cases f1
      rw [hmap, hnil]
      simp only [h0, if_true, Sem.run_pure, Result.andThen_ok]
      simp [Instr.fill, newRow, hl0]
      rw [show (Array.range 0) = #[] from rfl]
      simp
    · rw [hmap]
      simp only [h0, if_false, Sem.run_bind, h4, Result.andThen_ok, Sem.run_pure, f1]
      rfl
  have hmain := new_row (mu := mu) w hS hi h2 hpos (xs := fillL (List.replicate len z) (ps.map fun q => (q.1, ev D fr q.2))) (cs := arr) (ty := e) (w' := w.alloc (.cells arr e)) (len := len) (v := v) (by rw [f5]; simp) f3 f2 f4 rfl (Keeps.alloc w hS.size _) rfl
    (by
      cases he
      cases mu with
      | true => exact hl
      | false => exact hl)
  obtain ⟨c', m1, m2, m3, m4, m5⟩ := hmain
  exact exec_valN w ⟨_, _, c', hrun, m1, m2, m3, m4, m5⟩
theorem askRoom_run (n : Nat) (w : World) : (askRoom n).run P w = .ok () w := by
  unfold askRoom; first | rfl | (split <;> rfl) | simp
theorem new_makeSlice (hS : Sim CC base c G w.heap) (hi : id < G.next) (h2 : 2 ≤ id) {t e : TypeId} {sh : Shape} {z : DV} {mu : Bool} {i : TypeInfo} {x y : DV} {vx vy : Value} (hx : VRel c x vx) (hy : VRel c y vy)
    (hu : P.underlying t = some (.slice e)) (hsh : shapeOf P e = some sh) (hz : zeroOf P e = some z) (hie : P.info? e = some i) (hzc : z.cells.length = sh.size) (hzo : z.okv = true) {k1 k2 : IntKind} {l cp : Int} (ex : x = .int k1 l) (ey : y = .int k2 cp)
    (hb : 0 ≤ l ∧ l ≤ cp ∧ cp * i.bytes ≤ 140737488355328 ∧ cp ≤ 9223372036854775807) {v : DV}
    (hl : Lays c G id (if mu then .newO (.cells (flat (List.replicate l.toNat z)) sh) (fun i => .arr i sh.size 0 l.toNat) else .newT sh.size (fun t => .lst t sh.size (List.replicate l.toNat z))) v) :
    NewOk P CC base c G w id (do pure (.value (← Instr.makeSlice t vx vy))) v := by
  obtain ⟨i', zv, h1, h2', h3, h4⟩ := zeroOf_some w hz
  have hr : VRel c z zv := ofVal_rel h3
  obtain ⟨_, hpos⟩ := shapeOf_size hsh
  have hso := run_sizeOf_shape w hsh
  rw [hie] at h1; cases h1
  subst ex; subst ey
  have ex := hx.int_inv
  have ey := hy.int_inv
  subst ex; subst ey
  obtain ⟨hb1, hb2, hb3, hb4⟩ := hb
  have wl : IntKind.i64.wrap l = l := by rw [IntKind.wrap_i64]; omega
  have wc : IntKind.i64.wrap cp = cp := by rw [IntKind.wrap_i64]; omega
  have hbc : (i.bytes : Int) * cp ≤ 140737488355328 := by rw [Int.mul_comm]; exact hb3
  have n1 : ¬ cp < 0 := by omega
  have n2 : ¬ (281474976710656 < (i.bytes : Int) * cp) := by omega
  have n3 : ¬ l < 0 := by omega
  have n4 : ¬ cp < l := by omega
  have hzr := zeros_rel (n := cp.toNat) hzc hpos hr
  let cs : Array Value := (Array.range (cp.toNat * sh.size)).map (zv.cells[· % zv.cells.size]!)
  have hrun : (Instr.makeSlice t (.int k1 l) (.int k2 cp)).run P w = .ok (.slice (some ⟨w.heap.size, 0, none⟩) l.toNat cp.toNat) (w.alloc (.cells cs e)) := by
    have hai : ∀ (k : IntKind) (n : Int) (w : World), (asInt (.int k n)).run P w = .ok n w := fun k n w => by simp [asInt, asIntOf]
    simp only [Instr.makeSlice, Sem.run_bind, run_underlying hu, hai, typeInfo, run_program, hie, Sem.run_pure, Result.andThen_ok, wl, wc]
    rw [if_neg (by simp; omega)]
    by_cases h0 : cp.toNat * sh.size = 0
    · have hnone : ∀ g : Nat → Value, (Array.range (cp.toNat * sh.size)).map g = #[] := fun g => by rw [h0]; simp
      simp only [Sem.run_bind, askRoom_run, Result.andThen_ok, hso, h0, if_true, Sem.run_pure]
      simp only [h0] at hnone
      simp [cs, newRow, h0]
      rw [show (Array.range 0) = #[] from rfl]
      simp
    · simp only [Sem.run_bind, askRoom_run, Result.andThen_ok, hso, h0, if_false, Sem.run_pure, h4]
      rfl
  have hcl : cs.size = cp.toNat * sh.size := by simp [cs]
  have hlc : l.toNat ≤ cp.toNat := by omega
  have hle : l.toNat * sh.size ≤ cp.toNat * sh.size := Nat.mul_le_mul_right _ hlc
  have hsx : ∀ n, ∀ x ∈ List.replicate n z, x.cells.length = sh.size := fun n x hx => by rw [List.eq_of_mem_replicate hx]; exact hzc
  have hone : ∀ n, ∀ x ∈ flat (List.replicate n z), x.one = true := fun n x hx => by
      simp only [flat, List.mem_flatMap] at hx
      obtain ⟨y, hy, hxy⟩ := hx
      rw [List.eq_of_mem_replicate hy] at hxy
      exact hr.okv_one hzo x hxy
  have hpre : flat (List.replicate l.toNat z) = (flat (List.replicate cp.toNat z)).take (l.toNat * sh.size) := by
    have e : List.replicate cp.toNat z = List.replicate l.toNat z ++ List.replicate (cp.toNat - l.toNat) z := by rw [List.replicate_append_replicate]; congr 1; omega
    rw [e, flat_append, List.take_left' (by rw [flat_length _ (hsx _)]; simp)]
  have hv : VRels c (flat (List.replicate l.toNat z)) (cs.toList.take (l.toNat * sh.size)) := by
    rw [hpre]; exact hzr.take _
  have hcs : ∀ (j : Nat) (v : Value), (cs.toList.take (l.toNat * sh.size))[j]? = some v → cs[j]? = some v := fun j v hj => by
    have hlt := (List.getElem?_eq_some_iff.1 hj).1
    simp only [List.length_take] at hlt
    rw [List.getElem?_take, if_pos (by omega)] at hj
    simpa using hj
  cases mu with
  | false =>
    simp only [Bool.false_eq_true, if_false] at hl
    obtain ⟨rfl, hn, hg⟩ := hl
    obtain ⟨q1, q2, q3, q4⟩ := new_list w hS hn hi h2 hpos hg (xs := List.replicate l.toNat z) (vs := cs.toList.take (l.toNat * sh.size)) (cs := cs) (ty := e) (f := (0, 0)) (cap := cp.toNat) (.inl rfl) (hsx _) hv (hone _) hcs (by simpa using hlc) (by omega)
    refine exec_valN w ⟨_, _, _, hrun, q1, q2, ?_, Keeps.alloc w hS.size _, q4⟩
    simpa using q3
  | true =>
    simp only [if_true] at hl
    obtain ⟨rfl, hn, hg⟩ := hl
    obtain ⟨q1, q2, q3, q4⟩ := new_cells w hS hn hi hg (cs := cs) (ty := e) (f := (0, 0)) (.inl rfl) (by rw [flat_length _ (hsx _)]; simp; omega) (fun j x hj => by
      obtain ⟨u, h3, h4⟩ := hv.get j hj
      exact ⟨u, hcs _ _ h3, h4⟩) (hone _)
    exact exec_valN w ⟨_, _, _, hrun, q1, q2, .arr q3 hlc (.inr ⟨rfl, rfl, by omega⟩), Keeps.alloc w hS.size _, q4⟩

theorem new_range (hS : Sim CC base c G w.heap) (hi : id < G.next) {t : TypeId} {s : List UInt8} {vx : Value} (hu : P.underlying t = some .string) (hx : VRel c (.str s) vx) {v : DV} (hl : Lays c G id (.newO (.siter s 0) (fun i => .ptr i 0)) v) :
    NewOk P CC base c G w id (do pure (.value (← Instr.range t vx))) v := by
  obtain ⟨rfl, hn, hg⟩ := hl
  have := hx.str_inv
  subst this
  have q2 := hS.obj hn hi hg (x := .stringIter ⟨s.toArray⟩ 0) (lim := 0) (sz := 0) ⟨rfl, by simp⟩
  refine exec_valN w ⟨.pointer (some ⟨w.heap.size, 0, none⟩), w.alloc (.stringIter ⟨s.toArray⟩ 0), c.obj id w.heap.size 0 0 0, ?_, Cor.le_obj hn _ _ _ _, q2, .ptr (upd_same _ _ _), Keeps.alloc w hS.size _, fun i hne => ⟨upd_ne _ _ hne, rfl⟩⟩
  simp only [Instr.range, Sem.run_bind, run_underlying hu, Result.andThen_ok, Sem.run_pure]
  rfl

theorem bytesV_cells (s : List UInt8) : ∀ x ∈ bytesV s, x.cells.length = 1 := by
  intro x hx
  simp only [bytesV, List.mem_map] at hx
  obtain ⟨b, _, rfl⟩ := hx
  rfl
theorem bytesV_flat (s : List UInt8) : flat (bytesV s) = bytesV s := flat_scalar _ fun x hx cs e => by
  subst e; simp [bytesV, ofByte] at hx
theorem bytesV_one (s : List UInt8) : ∀ x ∈ bytesV s, x.one = true := by
  intro x hx
  simp only [bytesV, List.mem_map] at hx
  obtain ⟨b, _, rfl⟩ := hx
  rfl
theorem bytesV_rel (s : List UInt8) : VRels c (bytesV s) (s.map fun b => Value.int .u8 b.toNat) := by
  induction s with
  | nil => exact .nil
  | cons b s ih => exact .cons (.int _ _) ih
theorem new_strBytes (hS : Sim CC base c G w.heap) (hi : id < G.next) (h2 : 2 ≤ id) {st t e : TypeId} {s : List UInt8} {vx : Value} {mu : Bool} (hus : P.underlying st = some .string) (hu : P.underlying t = some (.slice e)) (hue : P.underlying e = some (.int .u8)) (hx : VRel c (.str s) vx) {v : DV}
    (hl : Lays c G id (if mu then .newO (.cells (bytesV s) none) (fun i => .arr i 1 0 s.length) else .newT 1 (fun t => .lst t 1 (bytesV s))) v) :
    NewOk P CC base c G w id (do pure (.value (← convert st t vx))) v := by
  have := hx.str_inv
  subst this
  let cap := grownCap w s.length 0 e
  have hge : s.length ≤ cap := grownCap_ge w s.length 0 e
  let cs : Array Value := (s.map fun b => Value.int .u8 b.toNat).toArray ++ Array.replicate (cap - s.length) (.int .u8 0)
  have hcs : cs.size = cap := by simp [cs]; omega
  let w1 : World := w.drew.alloc (.cells cs e)
  have hw1 : w1.heap = w.heap.push (.cells cs e) := rfl
  let w2 : World := w1.freeze ⟨w.heap.size, cs.size, none⟩ 1
  have hw2 : w2.heap = w.heap.push (.cells cs e (cs.size, cs.size + 1)) := by
    have : w2.heap = w1.heap.modify w.heap.size fun
      | .cells c elem (lo, hi) => .cells c elem (if lo == hi then (cs.size, cs.size + 1) else (min lo cs.size, max hi (cs.size + 1)))
      | o => o := rfl
    rw [this, hw1]
    apply Array.ext
    · simp
    · intro i hi1 hi2
      rw [Array.getElem_modify]
      by_cases hi3 : w.heap.size = i
      · subst hi3; simp
      · simp only [hi3, if_false]
        simp at hi1
        rw [Array.getElem_push, Array.getElem_push]
        simp [show i < w.heap.size by omega]
  have hrun : (convert st t (.string ⟨s.toArray⟩)).run P w = .ok (.slice (some ⟨w.heap.size, 0, none⟩) s.length cap) w2 := by
    have hsize : (⟨s.toArray⟩ : ByteArray).size = s.length := by simp [bytes_size]
    have hshape : w1.shape? w.heap.size = some (e, cs.size) := by simp [World.shape?, hw1]
    simp [convert, run_underlying hus, run_underlying hu, run_underlying hue, Conv.stringToBytes, hsize, newRow, markStringish, Question.forced]
    change (Sem.run P (match w1.shape? w.heap.size with
      | some (_, n) => freeze { block := w.heap.size, off := n } 1
      | _ => pure ()) w1).andThen _ = _
    rw [hshape]
    rfl
  have hf : FOk cs.size (cs.size, cs.size + 1) := .inr (Nat.le_refl _)
  have hk : Keeps base w w2 := Keeps.alloc' w hS.size _ 0 w2 hw2 rfl rfl rfl
  have hpre : ∀ (j : Nat) (v : Value), (s.map fun b => Value.int .u8 b.toNat)[j]? = some v → cs[j]? = some v := fun j v hj => by
    have hlt := (List.getElem?_eq_some_iff.1 hj).1
    simp only [cs]
    rw [Array.getElem?_append_left (by simpa using hlt)]
    simpa using hj
  have hv := bytesV_rel (c := c) s
  cases mu with
  | false =>
    simp only [Bool.false_eq_true, if_false] at hl
    obtain ⟨rfl, hn, hg⟩ := hl
    obtain ⟨q1, q2, q3, q4⟩ := new_list w hS hn hi h2 (by omega) hg (xs := bytesV s) (vs := s.map fun b => Value.int .u8 b.toNat) (cs := cs) (ty := e) (cap := cap) hf (bytesV_cells s) (by rw [bytesV_flat]; exact hv) (by rw [bytesV_flat]; exact bytesV_one s) hpre
      (by simpa [bytesV] using hge) (by omega)
    refine exec_valN w ⟨_, _, _, hrun, q1, by rw [hw2]; exact q2, ?_, hk, q4⟩
    simpa [bytesV] using q3
  | true =>
    simp only [if_true] at hl
    obtain ⟨rfl, hn, hg⟩ := hl
    obtain ⟨q1, q2, q3, q4⟩ := new_cells w hS hn hi hg (cs := cs) (ty := e) hf (by simp [bytesV]; omega) (fun j x hj => by
      obtain ⟨u, h3, h4⟩ := hv.get j hj
      exact ⟨u, hpre _ _ h3, h4⟩) (bytesV_one s)
    exact exec_valN w ⟨_, _, _, hrun, q1, by rw [hw2]; exact q2, .arr q3 hge (.inr ⟨rfl, rfl, by simp [Nat.mul_one]; omega⟩), hk, q4⟩
end
end Go.Dm
/- The D-machine (15): what lays something anew, together; what the effects read. -/
namespace Go.Dm
set_option linter.unusedSimpArgs false
set_option linter.unusedVariables false
set_option linter.unnecessarySimpa false

theorem setCells_heap {b : Nat} : ∀ (vs : List Value) (o : Nat) (w : World) (cur : Array Value) (e : TypeId) (f : Nat × Nat), w.heap[b]? = some (.cells cur e f) → o + vs.length ≤ cur.size →
    (w.setCells b o vs).heap[b]? = some (.cells (ovl cur.toList o vs).toArray e f) ∧ (∀ i, i ≠ b → (w.setCells b o vs).heap[i]? = w.heap[i]?) ∧ (w.setCells b o vs).heap.size = w.heap.size ∧
      (w.setCells b o vs).os = w.os ∧ (w.setCells b o vs).output = w.output ∧ (w.setCells b o vs).tape = w.tape
  | [], o, w, cur, e, f, h, _ => by
    refine ⟨?_, fun _ _ => rfl, rfl, rfl, rfl, rfl⟩
    simpa [World.setCells, ovl] using h
  | v :: vs, o, w, cur, e, f, h, hl => by
    have h1 : (w.setCell ⟨b, o, none⟩ v).heap[b]? = some (.cells (cur.setIfInBounds o v) e f) := by
      simp only [World.setCell]
      rw [Array.getElem?_modify, if_pos rfl, h]
      rfl
    have h2 : ∀ i, i ≠ b → (w.setCell ⟨b, o, none⟩ v).heap[i]? = w.heap[i]? := fun i hi => by
      simp only [World.setCell]
      rw [Array.getElem?_modify, if_neg (Ne.symm hi)]
    have h3 : (w.setCell ⟨b, o, none⟩ v).heap.size = w.heap.size := by simp [World.setCell]
    obtain ⟨q1, q2, q3, q4, q5, q6⟩ := setCells_heap vs (o + 1) _ _ e f h1 (by simp at hl ⊢; omega)
    refine ⟨?_, fun i hi => (q2 i hi).trans (h2 i hi), q3.trans h3, q4, q5, q6⟩
    rw [World.setCells, q1]
    have hlt : o < cur.toList.length := by simp at hl ⊢; omega
    congr 3
    simp only [ovl, Array.toList_setIfInBounds, List.length_cons]
    rw [List.take_set, List.drop_set_of_lt (by omega), List.take_add_one, List.getElem?_eq_getElem hlt]
    simp only [Option.toList_some]
    rw [List.set_append_right _ _ (by simp; omega)]
    have hl2 : (List.take o cur.toList).length = o := by simp; simp at hlt; omega
    simp [hl2]
    rw [show o + 1 + vs.length = o + (vs.length + 1) by omega]
theorem ovl_get_out {α : Type} {cs xs : List α} {off j : Nat} (hl : off + xs.length ≤ cs.length) (h : j < off ∨ off + xs.length ≤ j) : (ovl cs off xs)[j]? = cs[j]? := by
  unfold ovl
  rcases h with h | h
  · rw [List.append_assoc, List.getElem?_append_left (by simp; omega), List.getElem?_take, if_pos h]
  · rw [List.getElem?_append_right (by simp; omega), List.getElem?_drop]
    congr 1
    simp; omega
theorem ovl_get_in {α : Type} {cs xs : List α} {off j : Nat} (hl : off + xs.length ≤ cs.length) (h : j < xs.length) : (ovl cs off xs)[off + j]? = xs[j]? := by
  unfold ovl
  have h1 : (List.take off cs).length = off := by simp; omega
  rw [List.append_assoc, List.getElem?_append_right (by omega), h1, List.getElem?_append_left (by omega)]
  congr 1; omega

section
variable {P : Program} {cfg : Cfg} {mf : Bool} {D : DProg} {CC : Code → DC → Prop} {base : Nat} {c : Cor} {fr : Fr} {a : Act} {h G : Heap} (w : World) {id : Nat}

/-- Whatever lays something and turns nothing else. -/
theorem new_sound {o : Oper} {d : DOp} {v : DV} {r : EvR} (hc : compOp P cfg mf o.op = some d) (hg : GlobOk D c) (hf : VRels c fr.tmps a.tmps.toList) (hS : Sim CC base c G w.heap) (hne : d.effect = false)
    (he : evalOp D fr h d = some r) (hi : id < G.next) (h2 : 2 ≤ id) (hl : Lays c G id r v) : NewOk P CC base c G w id (execOp a.eval o) v := by
  obtain ⟨dst, op, ty, pos, after, guard⟩ := o
  have O : ∀ {x : Operand} {y : Opd}, opd x = some y → VRel c (ev D fr y) (a.eval x) := fun h => opd_rel hg hf h
  have noVal : ∀ {x : DV}, r = .val x → False := fun e => by subst e; exact hl
  have noMap : ∀ {x : Option DV}, x.map EvR.val = some r → False := fun e => by
    obtain ⟨y, _, h2⟩ := Option.map_eq_some_iff.1 e
    exact noVal h2.symm
  cases op <;> simp only [compOp] at hc <;> try (cases hc; done)
  case move x => obtain ⟨y, hy, rfl⟩ := Option.map_eq_some_iff.1 hc; simp only [evalOp] at he; cases he; exact (noVal rfl).elim
  case assign x => obtain ⟨y, hy, rfl⟩ := Option.map_eq_some_iff.1 hc; simp only [evalOp] at he; cases he; exact (noVal rfl).elim
  case pick cc x y =>
    split at hc <;> try (cases hc; done)
    cases hc
    simp only [evalOp] at he
    split at he <;> cases he <;> exact (noVal rfl).elim
  case alloc t =>
    obtain ⟨z, hz, hz2⟩ := Option.bind_eq_some_iff.1 hc
    split at hz2 <;> cases hz2
    rename_i hok
    simp only [evalOp] at he; cases he
    exact new_alloc w hS hi hz hok hl
  case box t x =>
    split at hc <;> try (cases hc; done)
    cases hc
    rename_i hx hn
    simp only [evalOp] at he
    split at he <;> cases he
    rename_i hcond
    exact new_box w hS hi (O hx) hcond.2 hl
  case build t parts =>
    split at hc <;> try (cases hc; done)
    split at hc <;> try (cases hc; done)
    split at hc <;> try (cases hc; done)
    cases hc
    simp only [evalOp] at he
    obtain ⟨r', _, hv⟩ := Option.map_eq_some_iff.1 he
    exact (noVal hv.symm).elim
  case buildSlice t len parts =>
    split at hc <;> try (cases hc; done)
    split at hc <;> try (cases hc; done)
    split at hc <;> try (cases hc; done)
    cases hc
    rename_i e hu _ _ _ sh z ps hsh hz hps hcond
    exact new_buildSlice w hS hi h2 hg hf hu hsh hz hps hcond.1 hcond.2 he hl
  case load t x =>
    split at hc <;> try (cases hc; done)
    cases hc
    simp only [evalOp] at he
    exact (noMap he).elim
  case store t x y =>
    split at hc <;> try (cases hc; done)
    cases hc
    simp [DOp.effect] at hne
  case nilCheck x =>
    obtain ⟨y, hy, rfl⟩ := Option.map_eq_some_iff.1 hc
    simp only [evalOp] at he
    split at he <;> cases he <;> exact (noVal rfl).elim
  case binOp bop t x y yt =>
    split at hc <;> try (cases hc; done)
    rename_i x' y' hx hy
    obtain ⟨k, rfl⟩ : ∃ k, d = .bin bop k x' y' := by
      split at hc
      · simp at hc; obtain ⟨k, h1, rfl⟩ := hc
        exact ⟨k, rfl⟩
      · simp at hc; obtain ⟨k, h1, rfl⟩ := hc
        exact ⟨k, rfl⟩
      · simp at hc; subst hc
        exact ⟨.any, rfl⟩
    simp only [evalOp] at he
    exact (noMap he).elim
  case unOp uop t x =>
    obtain ⟨y, hy, rfl⟩ := Option.map_eq_some_iff.1 hc
    simp only [evalOp] at he
    exact (noMap he).elim
  case convert s t x =>
    split at hc <;> try (cases hc; done)
    · cases hc
      simp only [evalOp] at he
      generalize ev D fr _ = X at he
      cases X <;> simp [convD] at he
      exact (noVal he.symm).elim
    · cases hc
      simp only [evalOp] at he
      generalize ev D fr _ = X at he
      cases X <;> simp [convD] at he
      exact (noVal he.symm).elim
    · split at hc <;> try (cases hc; done)
      cases hc
      rename_i e x' hus hud hx _ _ _ hue hie
      have hr := O hx
      simp only [evalOp] at he
      generalize ev D fr x' = X at he hr
      cases X <;> simp only [convD] at he <;> try (cases he; done)
      split at he <;> cases he
      exact new_strBytes w hS hi h2 hus hud hue hr hl
    · split at hc <;> try (cases hc; done)
      · cases hc
        simp [DOp.effect] at hne
        simp only [evalOp] at he
        generalize ev D fr _ = X at he
        cases X <;> simp [convD, hne] at he
        obtain ⟨_, _, he⟩ := he
        exact (noVal he.symm).elim
      · cases hc
        simp only [evalOp] at he
        generalize ev D fr _ = X at he
        cases X <;> simp [convD] at he
        obtain ⟨_, _, he⟩ := he
        exact (noVal he.symm).elim
    · cases hc
      simp only [evalOp] at he
      generalize ev D fr _ = X at he
      cases X <;> simp [convD] at he
      exact (noVal he.symm).elim
    · split at hc <;> try (cases hc; done)
      split at hc <;> try (cases hc; done)
      cases hc
      simp only [evalOp] at he
      generalize ev D fr _ = X at he
      cases X <;> simp [convD] at he
      exact (noVal he.2.symm).elim
  case makeFunc fn first caps =>
    split at hc <;> try (cases hc; done)
    cases hc
    simp only [evalOp] at he; cases he
    exact (noVal rfl).elim
  case makeSlice t l cp =>
    split at hc <;> try (cases hc; done)
    split at hc <;> try (cases hc; done)
    split at hc <;> try (cases hc; done)
    cases hc
    rename_i e x' y' hu hx hy _ _ _ sh z i hsh hz hie hcond
    simp only [evalOp] at he
    split at he <;> try (cases he; done)
    rename_i ex ey
    split at he <;> try (cases he; done)
    rename_i hb
    cases he
    exact new_makeSlice w hS hi h2 (O hx) (O hy) hu hsh hz hie hcond.1 hcond.2 ex ey hb hl
  case slice t x lo hi mx =>
    split at hc <;> try (cases hc; done)
    · cases hc
      simp only [evalOp] at he
      split at he <;> try (cases he; done)
      obtain ⟨_, _, hv⟩ := Option.map_eq_some_iff.1 he
      exact (noVal hv.symm).elim
    · obtain ⟨n, hn, rfl⟩ := Option.map_eq_some_iff.1 hc
      simp only [evalOp, sliceD] at he
      split at he <;> try (cases he; done)
      · split at he <;> try (cases he; done)
        obtain ⟨_, _, hv⟩ := Option.map_eq_some_iff.1 he
        exact (noVal hv.symm).elim
      · split at he <;> try (cases he; done)
        obtain ⟨_, _, hv⟩ := Option.map_eq_some_iff.1 he
        exact (noVal hv.symm).elim
  case fieldAddr s x f =>
    split at hc <;> try (cases hc; done)
    split at hc <;> try (cases hc; done)
    split at hc <;> try (cases hc; done)
    cases hc
    simp only [evalOp] at he
    split at he <;> cases he <;> exact (noVal rfl).elim
  case field s x f =>
    split at hc <;> try (cases hc; done)
    split at hc <;> try (cases hc; done)
    obtain ⟨sh, hsh, rfl⟩ := Option.map_eq_some_iff.1 hc
    simp only [evalOp] at he
    split at he <;> try (cases he; done)
    exact (noMap he).elim
  case indexAddr t x i =>
    split at hc <;> try (cases hc; done)
    · obtain ⟨n, hn, rfl⟩ := Option.map_eq_some_iff.1 hc
      simp only [evalOp] at he
      split at he <;> try (cases he; done)
      · split at he <;> try (cases he; done)
        obtain ⟨_, _, hv⟩ := Option.map_eq_some_iff.1 he
        exact (noVal hv.symm).elim
      · split at he <;> cases he
        exact (noVal rfl).elim
    · obtain ⟨n, hn, rfl⟩ := Option.map_eq_some_iff.1 hc
      simp only [evalOp] at he
      split at he <;> try (cases he; done)
      · split at he <;> cases he
        exact (noVal rfl).elim
      · split at he <;> cases he
        exact (noVal rfl).elim
  case index t x i =>
    split at hc <;> try (cases hc; done)
    · cases hc
      simp only [evalOp] at he
      split at he <;> try (cases he; done)
      split at he <;> try (cases he; done)
      obtain ⟨_, _, hv⟩ := Option.map_eq_some_iff.1 he
      exact (noVal hv.symm).elim
    · obtain ⟨sh, hsh, rfl⟩ := Option.map_eq_some_iff.1 hc
      simp only [evalOp] at he
      split at he <;> try (cases he; done)
      split at he <;> try (cases he; done)
      exact (noMap he).elim
  case extract x i =>
    obtain ⟨y, hy, rfl⟩ := Option.map_eq_some_iff.1 hc
    simp only [evalOp] at he
    split at he <;> try (cases he; done)
    exact (noMap he).elim
  case range t x =>
    split at hc <;> try (cases hc; done)
    cases hc
    rename_i x' hu hx
    have hr := O hx
    simp only [evalOp] at he
    split at he <;> try (cases he; done)
    rename_i s hs
    rw [hs] at hr
    cases he
    exact new_range w hS hi hu hr hl
  case next x s =>
    cases s <;> simp only [compOp] at hc
    · cases hc
    · obtain ⟨y, hy, rfl⟩ := Option.map_eq_some_iff.1 hc
      simp [DOp.effect] at hne
  case call cl =>
    obtain ⟨callee, args, argTypes⟩ := cl
    simp only [compCall] at hc
    split at hc <;> try (cases hc; done)
    · split at hc <;> try (cases hc; done)
      cases hc
      simp [DOp.effect] at hne
    · split at hc <;> try (cases hc; done)
      · split at hc <;> try (cases hc; done)
        · obtain ⟨y, hy, rfl⟩ := Option.map_eq_some_iff.1 hc
          simp only [evalOp] at he
          split at he <;> cases he <;> exact (noVal rfl).elim
        · obtain ⟨y, hy, rfl⟩ := Option.map_eq_some_iff.1 hc
          simp only [evalOp] at he
          split at he <;> cases he <;> exact (noVal rfl).elim
        · cases hc
          simp only [evalOp] at he; cases he; exact (noVal rfl).elim
      · split at hc <;> try (cases hc; done)
        split at hc <;> try (cases hc; done)
        · split at hc <;> try (cases hc; done)
          cases hc; simp [DOp.effect] at hne
        · split at hc <;> try (cases hc; done)
          cases hc; simp [DOp.effect] at hne
      · split at hc <;> try (cases hc; done)
        split at hc <;> try (cases hc; done)
        split at hc <;> try (cases hc; done)
        cases hc; simp [DOp.effect] at hne
      · split at hc <;> try (cases hc; done)
        cases hc
        simp only [evalOp] at he
        split at he <;> cases he
        exact (noVal rfl).elim
      · split at hc <;> try (cases hc; done)
        cases hc
        simp only [evalOp] at he
        split at he <;> cases he
        exact (noVal rfl).elim
      · split at hc <;> try (cases hc; done)
        split at hc <;> try (cases hc; done)
        split at hc <;> try (cases hc; done)
        cases hc; simp [DOp.effect] at hne
  case defer cl =>
    split at hc <;> try (cases hc; done)
    split at hc <;> try (cases hc; done)
    cases hc
    simp [DOp.effect] at hne
end
end Go.Dm
/- The D-machine (16): effects. -/
namespace Go.Dm
set_option linter.unusedSimpArgs false
set_option linter.unusedVariables false
set_option linter.unnecessarySimpa false

/-- What a run of ours and the model's have come to, from where they stood. -/
structure Out (CC : Code → DC → Prop) (base : Nat) (c : Cor) (h : Heap) (w : World) (c' : Cor) (h' : Heap) (w' : World) : Prop where
  le : c.le c'
  sim : Sim CC base c' h' w'.heap
  keeps : Keeps base w w'
  next : h.next ≤ h'.next
  extφ : ∀ id, id < h.next → c.φ id = none → c'.φ id = none ∧ h'.objs.get id = h.objs.get id
  extτ : ∀ t, t < h.next → c.τ t = none → c'.τ t = none ∧ h'.tags.get t = h.tags.get t
section
variable {CC : Code → DC → Prop} {base : Nat} {c c1 c2 : Cor} {h h1 h2 : Heap} {w w1 w2 : World}
theorem Out.refl (hS : Sim CC base c h w.heap) : Out CC base c h w c h w := ⟨Cor.le.refl c, hS, Keeps.refl w, Nat.le_refl _, fun _ _ h => ⟨h, rfl⟩, fun _ _ h => ⟨h, rfl⟩⟩
theorem Out.trans (p : Out CC base c h w c1 h1 w1) (q : Out CC base c1 h1 w1 c2 h2 w2) : Out CC base c h w c2 h2 w2 :=
  ⟨p.le.trans q.le, q.sim, p.keeps.trans q.keeps, Nat.le_trans p.next q.next,
   fun id hi hn => let ⟨a1, a2⟩ := p.extφ id hi hn; let ⟨b1, b2⟩ := q.extφ id (Nat.lt_of_lt_of_le hi p.next) a1; ⟨b1, b2.trans a2⟩,
   fun id hi hn => let ⟨a1, a2⟩ := p.extτ id hi hn; let ⟨b1, b2⟩ := q.extτ id (Nat.lt_of_lt_of_le hi p.next) a1; ⟨b1, b2.trans a2⟩⟩
theorem Out.quiet (hS : Sim CC base c h w.heap) (hq : Quiet c w w1) : Out CC base c h w c h w1 :=
  let ⟨h1, h2⟩ := hS.quiet hq; ⟨Cor.le.refl c, h1, h2, Nat.le_refl _, fun _ _ h => ⟨h, rfl⟩, fun _ _ h => ⟨h, rfl⟩⟩
theorem Out.drew (hS : Sim CC base c h w.heap) (n : Nat) : Out CC base c h w c h { w with drawn := n } :=
  ⟨Cor.le.refl c, hS, Keeps.drew w n, Nat.le_refl _, fun _ _ h => ⟨h, rfl⟩, fun _ _ h => ⟨h, rfl⟩⟩
/-- One object of ours, that the model holds, is turned. -/
theorem Out.put {id : Nat} {ob : HObj} {x : Nat × Nat × Nat × Nat} (hφ : c.φ id = some x) (hS' : Sim CC base c (h.put id ob) w1.heap) (hk : Keeps base w w1) : Out CC base c h w c (h.put id ob) w1 :=
  ⟨Cor.le.refl c, hS', hk, Nat.le_refl _, fun i _ hn => ⟨hn, by
    simp only [Heap.put]
    exact Tr.get_set_ne _ _ (fun e => by subst e; rw [hφ] at hn; cases hn)⟩, fun _ _ h => ⟨h, rfl⟩⟩

def EffOk (P : Program) (CC : Code → DC → Prop) (base : Nat) (c : Cor) (h : Heap) (w : World) (s : Sem Next) (v : DV) (h' : Heap) : Prop :=
  ∃ n w' c' v', s.run P w = .ok n w' ∧ (n = .value v' ∨ (n = .skip ∧ v' = undef)) ∧ Out CC base c h w c' h' w' ∧ VRel c' v v'

variable {P : Program}
theorem EffOk.ofVal {s : Sem Next} {v : DV} (hS : Sim CC base c h w.heap) (hv : ValOk P c w s v) : EffOk P CC base c h w s v h :=
  let ⟨v', w', h1, h2, h3⟩ := hv; ⟨_, w', c, v', h1, .inl rfl, Out.quiet hS h3, h2⟩
theorem EffOk.ofNewO {s : Sem Next} {v : DV} {ob : HObj} (hv : NewOk P CC base c (h.add ob) w h.next s v) : EffOk P CC base c h w s v (h.add ob) :=
  let ⟨v', w', c', q1, q2, q3, q4, q5, q6⟩ := hv
  ⟨_, w', c', v', q1, .inl rfl, ⟨q2, q3, q5, Nat.le_succ _, fun i hi hn => ⟨by rw [(q6 i (by omega)).1]; exact hn, by simp only [Heap.add]; exact Tr.get_set_ne _ _ (by omega)⟩,
    fun i hi hn => ⟨by rw [(q6 i (by omega)).2]; exact hn, rfl⟩⟩, q4⟩
theorem EffOk.ofNewT {s : Sem Next} {v : DV} {sz : Nat} (hv : NewOk P CC base c (h.addTag sz) w h.next s v) : EffOk P CC base c h w s v (h.addTag sz) :=
  let ⟨v', w', c', q1, q2, q3, q4, q5, q6⟩ := hv
  ⟨_, w', c', v', q1, .inl rfl, ⟨q2, q3, q5, Nat.le_succ _, fun i hi hn => ⟨by rw [(q6 i (by omega)).1]; exact hn, rfl⟩,
    fun i hi hn => ⟨by rw [(q6 i (by omega)).2]; exact hn, by simp only [Heap.addTag]; exact Tr.get_set_ne _ _ (by omega)⟩⟩, q4⟩

theorem not_frozen {b : Nat} {vs : Array Value} {e : TypeId} {f : Nat × Nat} (hb : w.heap[b]? = some (.cells vs e f)) (hf : FOk vs.size f) {j : Nat} (hj : j < vs.size) : w.frozen? ⟨b, j, none⟩ = false := by
  simp only [World.frozen?, hb]
  rcases hf with h | h
  · simp; omega
  · simp; omega
theorem cell_is {b : Nat} {vs : Array Value} {e : TypeId} {f : Nat × Nat} (hb : w.heap[b]? = some (.cells vs e f)) {j : Nat} : w.cell? ⟨b, j, none⟩ = vs[j]? := by
  simp [World.cell?, hb]

/-- Cells of a live object are written. -/
theorem write_obj (hS : Sim CC base c h w.heap) {id b o lim sz : Nat} {cs xs : List DV} {sh : Shape} {vs : List Value} {off : Nat} (hg : h.objs.get id = some (.cells cs sh)) (hφ : c.φ id = some (b, o, lim, sz))
    (hv : VRels c xs vs) (ho : ∀ x ∈ xs, x.one = true) (hl : off + xs.length ≤ cs.length) :
    (∀ i, (storeCells ⟨b, o + off, none⟩ vs i).run P w = (storeCells ⟨b, o + off, none⟩ vs i).run P w) ∧
    (storeCells ⟨b, o + off, none⟩ vs).run P w = .ok () (w.setCells b (o + off) vs) ∧ Out CC base c h w c (h.put id (.cells (overwrite cs off xs) sh)) (w.setCells b (o + off) vs) := by
  obtain ⟨hb0, q1, q2, ws, e, f, q3, q4, q5, q6, q7⟩ := hS.objs id _ b o lim sz hg hφ
  have hlen := hv.length_eq
  have hfit : o + off + vs.length ≤ ws.size := by omega
  obtain ⟨s1, s2, s3, s4, s5, s6⟩ := setCells_heap vs (o + off) w ws e f q3 hfit
  refine ⟨fun _ => rfl, ?_, ?_⟩
  · have := run_storeCells_cells (P := P) b (o + off) vs 0 w (fun j hj => by
      rw [cell_is q3]
      simp; omega) (fun j hj => not_frozen q3 (by rw [q4]; exact q5) (by omega)) (hv.all_one ho)
    simpa using this
  · refine Out.put hφ (hS.put hg hφ ?_ s2 s3) ⟨by omega, fun i hi => s2 i (by omega), s4, s5, s6⟩
    have hol : (overwrite cs off xs).length = cs.length := ovl_length _ _ _ hl
    have hwl : (ovl ws.toList (o + off) vs).length = ws.size := by rw [ovl_length _ _ _ (by simpa using hfit)]; simp
    refine ⟨q1, by rw [hol]; exact q2, _, e, f, s1, by simpa [hwl] using q4, q5, fun y hy => ?_, fun j x hj => ?_⟩
    · simp only [overwrite, List.mem_append] at hy
      rcases hy with (h1 | h1) | h1
      · exact q6 y (List.mem_of_mem_take h1)
      · exact ho y h1
      · exact q6 y (List.mem_of_mem_drop h1)
    · simp only [List.getElem?_toArray]
      by_cases hin : off ≤ j ∧ j < off + xs.length
      · have e1 : j = off + (j - off) := by omega
        rw [e1, overwrite_eq, ovl_get_in hl (by omega)] at hj
        obtain ⟨v, h1, h2⟩ := hv.get _ hj
        refine ⟨v, ?_, h2⟩
        have e2 : o + j = o + off + (j - off) := by omega
        rw [e2, ovl_get_in (by simpa using hfit) (by omega)]; exact h1
      · rw [overwrite_eq, ovl_get_out hl (by omega)] at hj
        obtain ⟨v, h1, h2⟩ := q7 j x hj
        refine ⟨v, ?_, h2⟩
        rw [ovl_get_out (by simpa using hfit) (by omega)]
        simpa using h1

theorem eff_store (hS : Sim CC base c h w.heap) {t : TypeId} {sh : Shape} (hs : shapeOf P t = some sh) {x y : DV} {vx vy : Value} (hx : VRel c x vx) (hy : VRel c y vy) {h' : Heap} (he : storeD h sh.size x y = some h') :
    EffOk P CC base c h w (do Instr.storeAt t vx vy; pure .skip) .undef h' := by
  unfold storeD at he
  split at he
  · rename_i id off
    split at he
    · rename_i cs sh' hob
      split at he
      · rename_i hcond
        cases he
        obtain ⟨b, o, lim, sz, hφ, rfl⟩ := hx.ptr_inv
        obtain ⟨_, h1, h2⟩ := write_obj (P := P) hS hob hφ (off := off) hy.cells (hy.okv_one hcond.2.2) (by rw [hcond.1]; exact hcond.2.1)
        refine ⟨.skip, _, c, undef, ?_, .inr ⟨rfl, rfl⟩, h2, .undef⟩
        have hsz : vy.cells.size = sh.size := by rw [hy.cells_size]; exact hcond.1
        simp only [Instr.storeAt, Instr.sureAddr, storeVar, Sem.run_bind, Sem.run_pure, Result.andThen_ok, run_sizeOf_shape w hs, hsz, ne_eq, not_true_eq_false, if_false, h1]
      · cases he
    · cases he
  · cases he

theorem eff_next (hS : Sim CC base c h w.heap) {ty : TypeId} {x : DV} {vx : Value} (hx : VRel c x vx) {D : DProg} {fr : Fr} {X : Opd} (hX : ev D fr X = x) {v : DV} {h' : Heap} (he : evalOp D fr h (.next X) = some (.eff v h')) :
    EffOk P CC base c h w (do pure (.value (← Instr.next vx true ty))) v h' := by
  simp only [evalOp, hX] at he
  split at he <;> try (cases he; done)
  rename_i i
  split at he <;> try (cases he; done)
  rename_i s pos hob
  obtain ⟨b, o, lim, sz, hφ, rfl⟩ := hx.ptr_inv
  obtain ⟨hb0, ho, hb⟩ := hS.objs i _ b o lim sz hob hφ
  subst ho
  have hsize : (⟨s.toArray⟩ : ByteArray).size = s.length := by simp [bytes_size]
  have hget : (getObj b).run P w = .ok (.stringIter ⟨s.toArray⟩ pos) w := by simp [getObj, Sem.run, hb]
  split at he
  · rename_i hlt
    simp only [Option.some.injEq, EvR.eff.injEq] at he
    obtain ⟨rfl, rfl⟩ := he
    generalize hdec : Utf8.decode ⟨s.toArray⟩ pos = d at *
    obtain ⟨ch, wd⟩ := d
    have hset : (setObj b (.stringIter ⟨s.toArray⟩ (pos + wd))).run P w = .ok () { w with heap := w.heap.setIfInBounds b (.stringIter ⟨s.toArray⟩ (pos + wd)) } := by
      simp [setObj, Sem.run, hb]
    have hlt' := (Array.getElem?_eq_some_iff.1 hb).1
    refine ⟨_, { w with heap := w.heap.setIfInBounds b (.stringIter ⟨s.toArray⟩ (pos + wd)) }, c, .tuple #[.bool true, goInt pos, .int .i32 ch], ?_, .inl rfl, Out.put hφ (hS.put hob hφ ⟨rfl, by simp [hlt']⟩ (fun j hj => by simp [Ne.symm hj]) (by simp)) ⟨by simp, fun j hj => by simp [show ¬ b = j by omega], rfl, rfl, rfl⟩, ?_⟩
    · simp only [Nat.add_zero, Instr.next, Sem.run_bind, hget, Result.andThen_ok, hsize, hlt, if_true, hdec, hset, Sem.run_pure]
    · exact .tup (.cons (.bool _) (.cons (.int _ _) (.cons (.int _ _) .nil)))
  · rename_i hlt
    simp only [Option.some.injEq, EvR.eff.injEq] at he
    obtain ⟨rfl, rfl⟩ := he
    refine ⟨_, w, c, .tuple #[.bool false], ?_, .inl rfl, Out.refl hS, .tup (.cons (.bool _) .nil)⟩
    simp only [Nat.add_zero, Instr.next, Sem.run_bind, hget, Result.andThen_ok, hsize, hlt, if_false, Sem.run_pure]
end
end Go.Dm
/- The D-machine (17): append, copy, clear. -/
namespace Go.Dm
set_option linter.unusedSimpArgs false
set_option linter.unusedVariables false
set_option linter.unnecessarySimpa false

theorem group_spec {sh : Shape} (hpos : 0 < sh.size) : ∀ (n : Nat) (cs : List DV), cs.length = n * sh.size → (∀ x ∈ cs, x.one = true) → flat (group sh n cs) = cs ∧ (∀ x ∈ group sh n cs, x.cells.length = sh.size) ∧ (group sh n cs).length = n ∧ ∀ x ∈ group sh n cs, x.okv = true
  | 0, cs, hl, _ => by
    have : cs = [] := List.eq_nil_of_length_eq_zero (by simpa using hl)
    subst this; simp [group, flat]
  | n + 1, cs, hl, ho => by
    have hl' : cs.length = n * sh.size + sh.size := by rw [hl, Nat.succ_mul]
    obtain ⟨h1, h2, h3, h4⟩ := group_spec hpos n (cs.drop sh.size) (by simp; omega) (fun x hx => ho x (List.mem_of_mem_drop hx))
    have hhead : ∃ d, mkv sh (cs.take sh.size) = some d ∧ d.cells = cs.take sh.size ∧ d.okv = true := by
      cases sh with
      | some k => exact ⟨.agg (cs.take k), rfl, rfl, rfl⟩
      | none =>
        have : Shape.size none = 1 := rfl
        rw [this] at hl' ⊢
        cases cs with
        | nil => simp at hl'
        | cons x cs =>
          have hx := ho x (by simp)
          refine ⟨x, rfl, ?_, ?_⟩
          · cases x <;> simp_all [DV.cells, DV.one]
          · cases x <;> simp_all [DV.okv, DV.one]
    obtain ⟨d, hd1, hd2, hd3⟩ := hhead
    simp only [group, hd1, Option.getD_some]
    refine ⟨?_, ?_, by simp [h3], ?_⟩
    · simp only [flat, List.flatMap_cons, hd2] at h1 ⊢
      rw [h1, List.take_append_drop]
    · intro x hx
      rcases List.mem_cons.1 hx with rfl | hx
      · rw [hd2]; simp; omega
      · exact h2 x hx
    · intro x hx
      rcases List.mem_cons.1 hx with rfl | hx
      · exact hd3
      · exact h4 x hx

section
variable {P : Program} {CC : Code → DC → Prop} {base : Nat} {c : Cor} {h : Heap} {w : World}

/-- What an operand yields, read az elements. -/
structure Reads (P : Program) (c : Cor) (w : World) (size : Nat) (vy : Value) (ys : List DV) (news : List Value) : Prop where
  sz : ∀ x ∈ ys, x.cells.length = size
  rel : VRels c (flat ys) news
  one : ∀ x ∈ flat ys, x.one = true
  len : ∀ w' : World, (Builtin.lenOf vy).run P w' = .ok ys.length w'
  cells : ∀ w' : World, w'.heap = w.heap → ∀ m, m ≤ ys.length → (Builtin.firstCells size m vy).run P w' = .ok (news.take (m * size)).toArray w'
theorem Reads.news_len {size : Nat} {vy : Value} {ys : List DV} {news : List Value} (r : Reads P c w size vy ys news) : news.length = ys.length * size := by rw [← r.rel.length_eq, flat_length _ r.sz]
theorem Reads.src {size : Nat} {vy : Value} {ys : List DV} {news : List Value} (r : Reads P c w size vy ys news) {tx : TypeId} (hk : (∃ e', P.underlying tx = some (.slice e')) ∨ P.underlying tx = some .string) : Src P size tx vy ys.length news w := by
  have hn := r.news_len
  refine ⟨hk, r.len, ?_, ?_, hn, r.rel.all_one r.one⟩
  · have := r.cells w rfl ys.length (Nat.le_refl _)
    rwa [← hn, List.take_length] at this
  · have := r.cells w.drew rfl ys.length (Nat.le_refl _)
    rwa [← hn, List.take_length] at this

theorem cells_take {a : Addr} {vs : List Value} {w' : World} (hb : a.spot = none) (h : ∀ (j : Nat) (x : Value), vs[j]? = some x → w'.cell? ⟨a.block, a.off + j, none⟩ = some x) (m : Nat) (len cap size : Nat) (hm : m * size ≤ vs.length) :
    (Builtin.firstCells size m (.slice (some a) len cap)).run P w' = .ok (vs.take (m * size)).toArray w' := by
  obtain ⟨b, o, s⟩ := a
  simp only at hb h
  subst hb
  exact run_firstCells_some w' size m ⟨b, o, none⟩ len cap _ (by simp; omega) fun j v hj => by
    rw [add_plain]
    refine h j v ?_
    rw [List.getElem?_take] at hj
    split at hj
    · exact hj
    · cases hj

theorem elems_rel (hS : Sim CC base c h w.heap) {sh : Shape} (hpos : 0 < sh.size) {y : DV} {vy : Value} (hy : VRel c y vy) {ys : List DV} (he : elems h sh y = some ys) : ∃ news, Reads P c w sh.size vy ys news := by
  cases y <;> simp only [elems] at he <;> try (cases he; done)
  case lst t sz xs =>
    split at he
    case isFalse => cases he
    rename_i hz
    obtain rfl : xs = ys := by simpa using he
    obtain ⟨a, cap, vs, q1, q2, q3, qo, q4, q5, q6, q7, q8, rfl⟩ := hy.lst_inv
    have hxs : ∀ y ∈ xs, y.cells.length = sh.size := by
      rcases hz with h0 | h0
      · obtain ⟨_, hc0⟩ := q6 h0
        have : xs = [] := List.eq_nil_of_length_eq_zero (by omega)
        subst this; simp
      · subst h0; exact q2
    have hvl : vs.length = xs.length * sh.size := by rw [← q3.length_eq, flat_length _ hxs]
    refine ⟨vs, hxs, q3, qo, fun _ => rfl, fun w' hw m hm => ?_⟩
    cases a with
    | none =>
      have : xs = [] := by
        cases hxs' : xs with
        | nil => rfl
        | cons x xs1 => obtain ⟨b, o, e, _⟩ := q4 (by simp [hxs']); cases e
      subst this
      have hvs : vs = [] := List.eq_nil_of_length_eq_zero (by simpa using hvl)
      subst hvs
      simp [Builtin.firstCells]
    | some a =>
      by_cases hne : xs = []
      · subst hne
        have hvs : vs = [] := List.eq_nil_of_length_eq_zero (by simpa using hvl)
        subst hvs
        have : m = 0 := by simpa using hm
        subst this
        simp [Builtin.firstCells, loadCells, loadCellsFrom]
      · obtain ⟨b, o, e, hp⟩ := q4 hne
        cases e
        refine cells_take rfl (fun j x hj => ?_) m _ _ _ (by rw [hvl]; exact Nat.mul_le_mul_right _ hm)
        obtain ⟨ws, ty, f, hb, hc⟩ := hS.prot _ _ _ (hp j x hj)
        simp [World.cell?, hw, hb, hc]
  case str s =>
    split at he
    case isFalse => cases he
    rename_i h1
    cases he
    have := hy.str_inv
    subst this
    have hlen : (bytesV s).length = s.length := by simp [bytesV]
    refine ⟨s.map fun b => Value.int .u8 b.toNat, by rw [h1]; exact bytesV_cells s, by rw [bytesV_flat]; exact bytesV_rel s, by rw [bytesV_flat]; exact bytesV_one s, fun w' => ?_, fun w' hw m hm => ?_⟩
    · simp [Builtin.lenOf, bytes_size, hlen]
    · rw [hlen] at hm
      simp only [Builtin.firstCells, h1, Nat.mul_one, Sem.run_pure]
      congr 1
      apply Array.ext'
      simp
  case arr id sz off n =>
    split at he <;> try (cases he; done)
    rename_i cs sh' hob
    split at he
    case isFalse => cases he
    rename_i hcond
    obtain ⟨r, hr, rfl⟩ := Option.map_eq_some_iff.1 he
    obtain ⟨cap, b, o, lim, ab, ao, hφ, hlc, hcap, rfl⟩ := hy.arr_inv
    obtain ⟨hb0, q1, q2, ws, e, f, q3, q4, q5, q6, q7⟩ := hS.objs id _ b o lim sz hob hφ
    obtain ⟨hcut, rfl⟩ := cut_some hr
    have hone : ∀ x ∈ (cs.drop off).take (n * sh.size), x.one = true := fun x hx => q6 x (List.mem_of_mem_drop (List.mem_of_mem_take hx))
    have hrl : ((cs.drop off).take (n * sh.size)).length = n * sh.size := cut_length hr
    obtain ⟨g1, g2, g3, g4⟩ := group_spec hpos n _ hrl hone
    let news : List Value := (ws.toList.drop (o + off)).take (n * sh.size)
    have hnl : news.length = n * sh.size := by simp [news]; omega
    have hnw : ∀ (j : Nat) (x : Value), news[j]? = some x → ws[o + off + j]? = some x := fun j x hj => by
      have hlt := (List.getElem?_eq_some_iff.1 hj).1
      rw [hnl] at hlt
      simp only [news, List.getElem?_take, hlt, if_true, List.getElem?_drop] at hj
      simpa using hj
    refine ⟨news, g2, ?_, by rw [g1]; exact hone, fun _ => by rw [g3]; rfl, fun w' hw m hm => ?_⟩
    · rw [g1]
      refine VRels.of_get (by rw [hrl, hnl]) fun j x v hj hv => ?_
      have hlt := (List.getElem?_eq_some_iff.1 hj).1
      rw [hrl] at hlt
      rw [List.getElem?_take, if_pos hlt, List.getElem?_drop] at hj
      obtain ⟨u, hu, hru⟩ := q7 _ _ hj
      have h2 := hnw j v hv
      rw [show o + (off + j) = o + off + j by omega] at hu
      rw [hu] at h2; cases h2
      exact hru
    · rw [g3] at hm
      by_cases h0 : cap = 0
      · have : m = 0 := by omega
        subst this
        simp [Builtin.firstCells, loadCells, loadCellsFrom]
      · rcases hcap with hcap | ⟨rfl, rfl, hfit⟩
        · exact absurd hcap h0
        · refine cells_take rfl (fun j x hj => ?_) m _ _ _ (by rw [hnl]; exact Nat.mul_le_mul_right _ hm)
          have := hnw j x hj
          simp [World.cell?, hw, q3, this]

theorem cap_fits {need old bytes : Nat} (h : old < need) (hb : need * bytes ≤ 140737488355328) : Builtin.nextslicecap need old * bytes ≤ 281474976710656 := by
  have := Nat.mul_le_mul_right bytes (Room.nextslicecap_le' h)
  rw [Nat.mul_assoc] at this
  omega

/-- An append that must lay a new row. -/
theorem append_new {t tx ty e : TypeId} {i : TypeInfo} {z : Value} {sh : Shape} (ht : P.underlying t = some (.slice e)) (hi : P.info? e = some i) (hz : i.zero = some z) (hsz : i.size = sh.size) {base0 : Option Addr} {sLen sCap : Nat} {olds : List Value}
    (hold : (Builtin.firstCells sh.size sLen (.slice base0 sLen sCap)).run P w.drew = .ok olds.toArray w.drew) {x : Value} {n : Nat} {news : List Value} (hs : Src P sh.size tx x n news w)
    (hg : sCap < sLen + n) (h63 : sLen + n ≤ 9223372036854775807) (hb : (sLen + n) * i.bytes ≤ 140737488355328) (hzs : 0 < z.cells.size → z.cells.size = sh.size) (hz0 : 0 < z.cells.size) (hol : olds.length = sLen * sh.size) :
    ∃ cap cs, (Builtin.append_ #[t, tx] ty #[.slice base0 sLen sCap, x]).run P w = .ok (.slice (some ⟨w.heap.size, 0, none⟩) (sLen + n) cap) (w.drew.alloc (.cells cs e)) ∧ sLen + n ≤ cap ∧ cs.size = cap * sh.size ∧ ∀ (j : Nat) (v : Value), (olds ++ news)[j]? = some v → cs[j]? = some v := by
  rw [← hsz] at hold hs
  have := run_append_grow_src (P := P) w t tx ty e i z ht hi hz base0 sLen sCap olds hold x n news hs hg (by omega) (cap_fits hg hb)
  refine ⟨_, _, this, grownCap_ge _ _ _ _, ?_, fun j v hj => ?_⟩
  · have hge := grownCap_ge w (sLen + n) sCap e
    have hnl := hs.newsLen
    have hz' := hzs hz0
    simp [Builtin.zeroCells, hol, hnl, hz', hsz]
    rw [← Nat.add_mul, ← Nat.add_mul]
    congr 1; omega
  · have hlt := (List.getElem?_eq_some_iff.1 hj).1
    rw [Array.getElem?_append_left (by simpa using hlt)]
    simpa using hj
end
end Go.Dm
/- The D-machine (18): append. -/
namespace Go.Dm
set_option linter.unusedSimpArgs false
set_option linter.unusedVariables false
set_option linter.unnecessarySimpa false

def stepEv (h : Heap) : EvR → Option (DV × Heap)
  | .val v => some (v, h)
  | .newO b mk => some (mk h.next, h.add b)
  | .newT sz mk => some (mk h.next, h.addTag sz)
  | .eff v h' => some (v, h')
  | _ => none

section
variable {P : Program} {CC : Code → DC → Prop} {base : Nat} {c : Cor} {h : Heap} {w : World}

theorem Out.tagStep {c' : Cor} {w' : World} {t sz : Nat} {x : Nat × Nat × Nat × Nat} (hτ : c.τ t = some x) (hle : c.le c') (hS : Sim CC base c' ((h.spend t).addTag sz) w'.heap) (hk : Keeps base w w')
    (hφ' : ∀ i, c'.φ i = c.φ i) (hτ' : ∀ i, i ≠ h.next → c'.τ i = c.τ i) : Out CC base c h w c' ((h.spend t).addTag sz) w' :=
  ⟨hle, hS, hk, Nat.le_succ _, fun i _ hn => ⟨by rw [hφ']; exact hn, rfl⟩, fun i hi hn => ⟨by rw [hτ' i (by omega)]; exact hn, by
    simp only [Heap.addTag, Heap.spend]
    rw [Tr.get_set_ne _ _ (by omega), Tr.get_set_ne _ _ (fun e => by subst e; rw [hτ] at hn; cases hn)]⟩⟩
theorem Out.objStep {c' : Cor} {w' : World} {t : Nat} {ob : HObj} {x : Nat × Nat × Nat × Nat} (hφ : c.φ t = some x) (hle : c.le c') (hS : Sim CC base c' ((h.drop t).add ob) w'.heap) (hk : Keeps base w w')
    (hτ' : ∀ i, c'.τ i = c.τ i) (hφ' : ∀ i, i ≠ h.next → c'.φ i = c.φ i) : Out CC base c h w c' ((h.drop t).add ob) w' :=
  ⟨hle, hS, hk, Nat.le_succ _, fun i hi hn => ⟨by rw [hφ' i (by omega)]; exact hn, by
    simp only [Heap.add, Heap.drop]
    rw [Tr.get_set_ne _ _ (by omega), Tr.get_set_ne _ _ (fun e => by subst e; rw [hφ] at hn; cases hn)]⟩, fun i _ hn => ⟨by rw [hτ']; exact hn, rfl⟩⟩

theorem append_nothing {t u ty e : TypeId} {sh : Shape} (ht : P.underlying t = some (.slice e)) (hku : (∃ e', P.underlying u = some (.slice e')) ∨ P.underlying u = some .string) (hsh : shapeOf P e = some sh) {a : Option Addr} {len cap : Nat} (hl : len ≤ cap) {vy : Value} {ys : List DV} {news : List Value}
    (hr : Reads P c w sh.size vy ys news) (hy : ys = []) : (Builtin.append_ #[t, u] ty #[.slice a len cap, vy]).run P w = .ok (.slice a len cap) w := by
  subst hy
  obtain ⟨⟨i, hi, hsz⟩, _⟩ := shapeOf_size hsh
  have hs := hr.src hku
  have hn : news = [] := List.eq_nil_of_length_eq_zero (by simpa using hr.news_len)
  subst hn
  rw [← hsz] at hs
  exact run_append_nothing w t u ty e i ht hi a len cap hl vy hs

theorem eff_append (hS : Sim CC base c h w.heap) {t u ty e : TypeId} {i : TypeInfo} {sh : Shape} {z : DV} {mu : Bool} (ht : P.underlying t = some (.slice e)) (hku : (∃ e', P.underlying u = some (.slice e')) ∨ P.underlying u = some .string)
    (hsh : shapeOf P e = some sh) (hi : P.info? e = some i) (hz : zeroOf P e = some z) (hzc : z.cells.length = sh.size) {x y : DV} {vx vy : Value} (hx : VRel c x vx) (hy : VRel c y vy) {r : EvR} (he : appendD h mu sh i.bytes x y = some r) {v : DV} {h' : Heap} (hr : stepEv h r = some (v, h')) :
    EffOk P CC base c h w (do pure (.value (← Builtin.append_ #[t, u] ty #[vx, vy]))) v h' := by
  obtain ⟨⟨i', hi', hsz⟩, hpos⟩ := shapeOf_size hsh
  rw [hi] at hi'; cases hi'
  obtain ⟨i', zv, hi', hizv, hov, _⟩ := zeroOf_some w hz
  rw [hi] at hi'; cases hi'
  have hzr : VRel c z zv := ofVal_rel hov
  have hzs : zv.cells.size = sh.size := by rw [hzr.cells_size, hzc]
  unfold appendD at he
  split at he
  · -- a list
    rename_i t0 sz xs ys hys
    obtain ⟨news, hrd⟩ := elems_rel (P := P) hS hpos hy hys
    have hsrc := hrd.src hku
    have hnl := hrd.news_len
    obtain ⟨a, cap, vs, q1, q2, q3, qo, q4, q5, q6, q7, q8, hvx⟩ := hx.lst_inv
    by_cases hemp : ys = []
    · rw [if_pos hemp] at he
      cases he
      cases hr
      subst hvx
      have := append_nothing (ty := ty) (a := a) ht hku hsh q5 hrd hemp
      exact EffOk.ofVal hS (ValOk.of w ⟨_, this, hx⟩)
    rw [if_neg hemp] at he
    have hyp : 0 < ys.length := List.length_pos_iff.2 hemp
    split at he
    case isFalse => cases he
    rename_i hcond
    obtain ⟨hzsz, hroom1, hroom2⟩ := hcond
    by_cases h0 : t0 = 0
    · -- onto nil
      obtain ⟨ha, hc0⟩ := q6 h0
      subst ha; subst hc0; subst hvx
      have hxs : xs = [] := List.eq_nil_of_length_eq_zero (by omega)
      subst hxs
      obtain ⟨cap', cs, hrun, hcap', hcs, hget⟩ := append_new (P := P) (ty := ty) ht hi hizv hsz (base0 := none) (sLen := 0) (sCap := 0) (olds := []) (by simp [Builtin.firstCells]) hsrc (by omega) (by simpa using hroom2) (by simpa using hroom1) (fun _ => hzs) (by omega) (by simp)
      simp only [Nat.zero_add, List.nil_append] at hrun hcap' hget
      simp only [List.length_nil] at hrun ⊢
      simp only [h0, if_true] at he
      have hle : ys.length * sh.size ≤ cap' * sh.size := Nat.mul_le_mul_right _ hcap'
      by_cases hmu : mu = true
      · simp only [hmu, if_true] at he
        cases he; cases hr
        refine EffOk.ofNewO (exec_valN w ?_)
        have hadd := hS.add (.cells (flat ys) sh)
        obtain ⟨p1, p2, p3, p4⟩ := new_cells w hadd hS.φnext (Nat.lt_succ_self _) (by simp only [Heap.add]; exact Tr.get_set_same _ _ _) (cs := cs) (ty := e) (f := (0, 0)) (.inl rfl) (by rw [flat_length _ hrd.sz]; omega) (fun j x hj => by
          obtain ⟨u, h3, h4⟩ := hrd.rel.get j hj
          exact ⟨u, hget _ _ h3, h4⟩) hrd.one
        exact ⟨_, _, _, hrun, p1, p2, .arr p3 hcap' (.inr ⟨rfl, rfl, by omega⟩), Keeps.drewAlloc w hS.size _, p4⟩
      · simp only [hmu, Bool.false_eq_true, if_false] at he
        cases he; cases hr
        refine EffOk.ofNewT (exec_valN w ?_)
        have hadd := hS.addTag sh.size
        obtain ⟨p1, p2, p3, p4⟩ := new_list w hadd hS.τnext (Nat.lt_succ_self _) hS.next hpos (by simp only [Heap.addTag]; exact Tr.get_set_same _ _ _) (xs := ys) (vs := news) (cs := cs) (ty := e) (f := (0, 0)) (cap := cap') (.inl rfl) hrd.sz hrd.rel hrd.one hget hcap' (by omega)
        exact ⟨_, _, _, hrun, p1, p2, p3, Keeps.drewAlloc w hS.size _, p4⟩
    · -- behind what is there
      have hzsz' : sz = sh.size := hzsz.resolve_left h0
      subst hzsz'
      by_cases hmu : mu = true
      · simp [hmu, h0] at he
      simp only [hmu, h0, Bool.false_eq_true, if_false] at he
      split at he
      case isFalse => cases he
      rename_i htag
      obtain ⟨ht2, htag⟩ := htag
      cases he; cases hr
      obtain ⟨b, o, e0, lim, ha, hτ, hcase⟩ := q8 ht2
      subst ha; subst hvx
      obtain ⟨_, hb0, ⟨ws, ty0, f0, hb, hwl, hfok⟩, hkp⟩ := hS.tags _ _ _ _ _ _ htag hτ
      have hvl : vs.length = xs.length * sh.size := by rw [← q3.length_eq, flat_length _ q2]
      have hall : ∀ x ∈ xs ++ ys, x.cells.length = sh.size := fun x hx => by
        rcases List.mem_append.1 hx with h | h
        · exact q2 x h
        · exact hrd.sz x h
      have hone : ∀ x ∈ flat (xs ++ ys), x.one = true := fun x hx => by
        rw [flat_append] at hx
        rcases List.mem_append.1 hx with h | h
        · exact qo x h
        · exact hrd.one x h
      by_cases hfit : xs.length + ys.length ≤ cap
      · -- there is room
        rcases hcase with hcase | ⟨he0, hlim⟩
        · omega
        subst he0
        have hmul : (xs.length + ys.length) * sh.size ≤ cap * sh.size := Nat.mul_le_mul_right _ hfit
        rw [Nat.add_mul] at hmul
        have hwfit : o + xs.length * sh.size + news.length ≤ ws.size := by omega
        have hsrc' := hsrc
        rw [← hsz] at hsrc'
        have hrun := run_append_room_src (P := P) w t u ty e i ht hi b o xs.length cap vy ys.length news hsrc' hfit (fun j hj => by
          rw [cell_is hb, hsz]; simp; omega) (fun j hj => not_frozen hb (by rw [hwl]; exact hfok) (by rw [hsz]; omega))
        rw [hsz] at hrun
        obtain ⟨s1, s2, s3, s4, s5, s6⟩ := setCells_heap news (o + xs.length * sh.size) w ws ty0 f0 hb hwfit
        have hovl : (ovl ws.toList (o + xs.length * sh.size) news).length = ws.size := by rw [ovl_length _ _ _ (by simpa using hwfit)]; simp
        have hSp := hS.spend t0
        have hno : NoObj c (h.spend t0) b := hS.noObj_tag htag hτ
        have hnt := hS.noTag_spend htag hτ
        have hA := hSp.alter s2 s3 hno hnt (fun j v hk => by
          have hj : j < o + xs.length * sh.size := by
            by_cases hlt : j < o + xs.length * sh.size
            · exact hlt
            · rw [hkp j (by omega)] at hk; cases hk
          obtain ⟨ws', _, _, h1, h2⟩ := hS.prot _ _ _ hk
          rw [hb] at h1; cases h1
          refine ⟨_, _, _, s1, ?_⟩
          rw [List.getElem?_toArray, ovl_get_out (by simpa using hwfit) (.inl hj)]
          simpa using h2)
        have hB := hA.addTag sh.size
        obtain ⟨hle, hC⟩ := hB.tagAt (t := h.next) (sz := sh.size) (b := b) (e0 := o + xs.length * sh.size) hS.τnext (Nat.lt_succ_self _) (by simp only [Heap.addTag, Heap.spend]; exact Tr.get_set_same _ _ _) hb0 (vs := news) s1 (by rw [List.size_toArray, hovl, hwl]; exact hfok)
          hno (fun t1 sz1 b1 e1 lim1 sz1' h1 h2 => by
            simp only [Heap.addTag, Heap.spend, Tr.get_set] at h1
            split at h1
            · rename_i e2; subst e2; rw [hS.τnext] at h2; cases h2
            · refine hnt t1 sz1 b1 e1 lim1 sz1' ?_ h2
              simpa only [Heap.spend, Tr.get_set] using h1)
          hkp (fun j v hj => by
            rw [List.getElem?_toArray, ovl_get_in (by simpa using hwfit) (List.getElem?_eq_some_iff.1 hj).1]; exact hj)
        refine ⟨_, _, _, _, exec_val w hrun, .inl rfl, Out.tagStep hτ hle hC ⟨by omega, fun j hj => s2 j (by omega), s4, s5, s6⟩ (fun _ => rfl) (fun j hj => upd_ne _ _ hj), ?_⟩
        have hv' := VRel.lst (c := c.tag h.next b (o + xs.length * sh.size + news.length) (ovl ws.toList (o + xs.length * sh.size) news).toArray.size sh.size (keep c.kp b (o + xs.length * sh.size) news)) (t := h.next) (sz := sh.size) (xs := xs ++ ys) (a := some ⟨b, o, none⟩) (cap := cap) (vs := vs ++ news)
          (fun _ => hpos) hall (by rw [flat_append]; exact (q3.mono hle).append (hrd.rel.mono hle)) hone
          (fun _ => ⟨b, o, rfl, fun j x hj => by
            by_cases hlt : j < vs.length
            · rw [List.getElem?_append_left hlt] at hj
              refine hle.kp _ _ _ ?_
              have hne : xs ≠ [] := by
                intro e; rw [e] at hvl; simp only [List.length_nil, Nat.zero_mul] at hvl; omega
              obtain ⟨b', o', e', hp⟩ := q4 hne
              cases e'
              exact hp j x hj
            · rw [List.getElem?_append_right (by omega)] at hj
              have := keep_in c.kp b (o + xs.length * sh.size) news hj
              rwa [show o + xs.length * sh.size + (j - vs.length) = o + j by omega] at this⟩)
          (by simp; exact hfit) (fun e => by have := hS.next; omega) (fun _ => ⟨_, _, _, rfl, .inl rfl⟩)
          (fun _ => ⟨b, o, _, _, rfl, upd_same _ _ _, .inr ⟨by rw [List.length_append, Nat.add_mul]; omega, by rw [List.size_toArray, hovl, hwl]; exact hlim⟩⟩)
        rw [List.length_append] at hv'
        exact hv'
      · -- there is none
        have hold : (Builtin.firstCells sh.size xs.length (.slice (some ⟨b, o, none⟩) xs.length cap)).run P w.drew = .ok vs.toArray w.drew := by
          by_cases hne : xs = []
          · subst hne
            have : vs = [] := List.eq_nil_of_length_eq_zero (by simpa using hvl)
            subst this
            simp [Builtin.firstCells, loadCells, loadCellsFrom]
          · obtain ⟨b', o', e', hp⟩ := q4 hne
            cases e'
            have := cells_take (P := P) (a := ⟨b, o, none⟩) (vs := vs) (w' := w.drew) rfl (fun j x hj => by
              obtain ⟨ws', ty', f', h1, h2⟩ := hS.prot _ _ _ (hp j x hj)
              show w.cell? _ = _
              simp [World.cell?, h1, h2]) xs.length xs.length cap sh.size (by omega)
            rwa [← hvl, List.take_length] at this
        obtain ⟨cap', cs, hrun, hcap', hcs, hget⟩ := append_new (P := P) (ty := ty) ht hi hizv hsz hold hsrc (by omega) hroom2 hroom1 (fun _ => hzs) (by omega) hvl
        have hle' : (xs.length + ys.length) * sh.size ≤ cap' * sh.size := Nat.mul_le_mul_right _ hcap'
        have hB := (hS.spend t0).addTag sh.size
        obtain ⟨p1, p2, p3, p4⟩ := new_list w hB hS.τnext (Nat.lt_succ_self _) hS.next hpos (by simp only [Heap.addTag, Heap.spend]; exact Tr.get_set_same _ _ _) (xs := xs ++ ys) (vs := vs ++ news) (cs := cs) (ty := e) (f := (0, 0)) (cap := cap') (.inl rfl) hall (by rw [flat_append]; exact q3.append hrd.rel) hone hget (by simpa using hcap') (by omega)
        refine ⟨_, _, _, _, exec_val w hrun, .inl rfl, Out.tagStep hτ p1 p2 (Keeps.drewAlloc w hS.size _) (fun _ => rfl) (fun j hj => upd_ne _ _ hj), ?_⟩
        rw [@List.length_append _ xs ys] at p3
        exact p3
  · -- a row that is written into
    rename_i i0 sz off n ys hys
    obtain ⟨news, hrd⟩ := elems_rel (P := P) hS hpos hy hys
    have hsrc := hrd.src hku
    have hnl := hrd.news_len
    obtain ⟨cap, b, o, lim, ab, ao, hφ, hlc, hcap, hvx⟩ := hx.arr_inv
    by_cases hemp : ys = []
    · rw [if_pos hemp] at he
      cases he
      cases hr
      subst hvx
      have := append_nothing (ty := ty) (a := some ⟨ab, ao, none⟩) ht hku hsh hlc hrd hemp
      exact EffOk.ofVal hS (ValOk.of w ⟨_, this, hx⟩)
    rw [if_neg hemp] at he
    have hyp : 0 < ys.length := List.length_pos_iff.2 hemp
    split at he <;> try (cases he; done)
    rename_i cs sh' hob
    split at he <;> try (cases he; done)
    rename_i old hcut
    split at he
    case isFalse => cases he
    rename_i hcond
    obtain ⟨hshe, hzz, _, hroom1, hroom2⟩ := hcond
    subst hshe
    cases he; cases hr
    subst hvx
    obtain ⟨hb0, w1, w2, ws, e1, f1, w3, w4, w5, w6, w7⟩ := hS.objs i0 _ b o lim sz hob hφ
    obtain ⟨hcl, hold0⟩ := cut_some hcut
    have holdl := cut_length hcut
    have hone : ∀ x ∈ old ++ flat ys, x.one = true := fun x hx => by
      rcases List.mem_append.1 hx with h | h
      · subst hold0; exact w6 x (List.mem_of_mem_drop (List.mem_of_mem_take h))
      · exact hrd.one x h
    have holdv : ∀ (j : Nat) (x : DV), old[j]? = some x → ∃ v, ws[o + off + j]? = some v ∧ VRel c x v := fun j x hj => by
      have hlt := (List.getElem?_eq_some_iff.1 hj).1
      rw [hold0, List.getElem?_take, if_pos (by omega), List.getElem?_drop] at hj
      obtain ⟨v, h1, h2⟩ := w7 _ _ hj
      exact ⟨v, by rw [← h1]; congr 1; omega, h2⟩
    have hSd := hS.drop i0
    have hno := hS.noObj_drop hob hφ
    have hnt : NoTag c (h.drop i0) b := hS.noTag_obj hob hφ
    have hnk := hS.sep i0 _ b o lim sz hob hφ
    by_cases hfit : n + ys.length ≤ cap
    · rcases hcap with hcap | ⟨rfl, rfl, hlim⟩
      · omega
      have hmul : (n + ys.length) * sh'.size ≤ cap * sh'.size := Nat.mul_le_mul_right _ hfit
      rw [Nat.add_mul] at hmul
      have hlim' : o + off + cap * sh'.size ≤ lim := by rw [← hzz]; exact hlim
      have hwfit : o + off + n * sh'.size + news.length ≤ ws.size := by omega
      have hsrc' := hsrc
      rw [← hsz] at hsrc'
      have hrun := run_append_room_src (P := P) w t u ty e i ht hi ab (o + off) n cap vy ys.length news hsrc' hfit (fun j hj => by
        rw [cell_is w3, hsz]; simp; omega) (fun j hj => not_frozen w3 (by rw [w4]; exact w5) (by rw [hsz]; omega))
      rw [hsz] at hrun
      obtain ⟨s1, s2, s3, s4, s5, s6⟩ := setCells_heap news (o + off + n * sh'.size) w ws e1 f1 w3 hwfit
      have hovl : (ovl ws.toList (o + off + n * sh'.size) news).length = ws.size := by rw [ovl_length _ _ _ (by simpa using hwfit)]; simp
      have hA := hSd.alter s2 s3 hno hnt (fun j v hk => by rw [hnk] at hk; cases hk)
      have hB := hA.add (.cells (old ++ flat ys) sh')
      have hC := hB.objAt (id := h.next) (b := ab) (o := o + off) (lim := lim) (sz := sh'.size) (ob := .cells (old ++ flat ys) sh') hS.φnext (Nat.lt_succ_self _) (by simp only [Heap.add, Heap.drop]; exact Tr.get_set_same _ _ _) hb0
        (fun id1 ob1 b1 o1 lim1 sz1 h1 h2 => by
          simp only [Heap.add, Heap.drop, Tr.get_set] at h1
          split at h1
          · rename_i e2; subst e2; rw [hS.φnext] at h2; cases h2
          · refine hno id1 ob1 b1 o1 lim1 sz1 ?_ h2
            simpa only [Heap.drop, Tr.get_set] using h1)
        hnt hnk
        (by
          refine ⟨rfl, by rw [List.length_append, flat_length _ hrd.sz]; omega, _, e1, f1, s1, by rw [List.size_toArray, hovl, w4], w5, hone, fun j x hj => ?_⟩
          simp only [List.getElem?_toArray]
          by_cases hlt : j < old.length
          · rw [List.getElem?_append_left hlt] at hj
            obtain ⟨v, h1, h2⟩ := holdv j x hj
            refine ⟨v, ?_, h2.mono (Cor.le_obj hS.φnext _ _ _ _)⟩
            rw [ovl_get_out (by simpa using hwfit) (.inl (by omega))]
            simpa using h1
          · rw [List.getElem?_append_right (by omega)] at hj
            obtain ⟨v, h1, h2⟩ := hrd.rel.get _ hj
            refine ⟨v, ?_, h2.mono (Cor.le_obj hS.φnext _ _ _ _)⟩
            rw [show o + off + j = o + off + n * sh'.size + (j - old.length) by omega, ovl_get_in (by simpa using hwfit) (List.getElem?_eq_some_iff.1 h1).1]
            exact h1)
      refine ⟨_, _, _, _, exec_val w hrun, .inl rfl, Out.objStep hφ (Cor.le_obj hS.φnext _ _ _ _) hC ⟨by omega, fun j hj => s2 j (by omega), s4, s5, s6⟩ (fun _ => rfl) (fun j hj => upd_ne _ _ hj), ?_⟩
      exact .arr (upd_same _ _ _) hfit (.inr ⟨rfl, rfl, by omega⟩)
    · have hold : ∃ olds : List Value, olds.length = n * sh'.size ∧ (Builtin.firstCells sh'.size n (.slice (some ⟨ab, ao, none⟩) n cap)).run P w.drew = .ok olds.toArray w.drew ∧ VRels c old olds := by
        refine ⟨(ws.toList.drop (o + off)).take (n * sh'.size), by simp; omega, ?_, ?_⟩
        · by_cases h0 : cap = 0
          · have : n = 0 := by omega
            subst this
            simp [Builtin.firstCells, loadCells, loadCellsFrom]
          · rcases hcap with hcap | ⟨rfl, rfl, _⟩
            · exact absurd hcap h0
            · have := cells_take (P := P) (a := ⟨ab, o + off, none⟩) (vs := (ws.toList.drop (o + off)).take (n * sh'.size)) (w' := w.drew) rfl (fun j x hj => by
                have hlt := (List.getElem?_eq_some_iff.1 hj).1
                simp at hlt
                rw [List.getElem?_take, if_pos (by omega), List.getElem?_drop] at hj
                have : ws[o + off + j]? = some x := by simpa using hj
                show w.cell? _ = _
                simp [World.cell?, w3, this]) n n cap sh'.size (by simp; omega)
              rw [this]
              congr 2
              rw [List.take_of_length_le (by simp; omega)]
        · refine VRels.of_get (by rw [holdl]; simp; omega) fun j x v hj hv => ?_
          obtain ⟨u, h1, h2⟩ := holdv j x hj
          have hlt := (List.getElem?_eq_some_iff.1 hv).1
          simp at hlt
          rw [List.getElem?_take, if_pos (by omega), List.getElem?_drop] at hv
          have : ws[o + off + j]? = some v := by simpa using hv
          rw [h1] at this; cases this
          exact h2
      obtain ⟨olds, hol, hold, holr⟩ := hold
      obtain ⟨cap', cs', hrun, hcap', hcs, hget⟩ := append_new (P := P) (ty := ty) ht hi hizv hsz hold hsrc (by omega) hroom2 hroom1 (fun _ => hzs) (by omega) hol
      have hle' : (n + ys.length) * sh'.size ≤ cap' * sh'.size := Nat.mul_le_mul_right _ hcap'
      have hB := hSd.add (.cells (old ++ flat ys) sh')
      obtain ⟨p1, p2, p3, p4⟩ := new_cells w hB hS.φnext (Nat.lt_succ_self _) (by simp only [Heap.add, Heap.drop]; exact Tr.get_set_same _ _ _) (cs := cs') (ty := e) (f := (0, 0)) (.inl rfl) (by rw [List.length_append, flat_length _ hrd.sz, hcs]; rw [Nat.add_mul] at hle'; omega) (fun j x hj => by
          obtain ⟨u, h3, h4⟩ := (holr.append hrd.rel).get j hj
          exact ⟨u, hget _ _ h3, h4⟩) hone
      refine ⟨_, _, _, _, exec_val w hrun, .inl rfl, Out.objStep hφ p1 p2 (Keeps.drewAlloc w hS.size _) (fun _ => rfl) (fun j hj => upd_ne _ _ hj), ?_⟩
      exact .arr p3 hcap' (.inr ⟨rfl, rfl, by omega⟩)
  · cases he
end
end Go.Dm
/- The D-machine (19): the other effects; every operation that is no call. -/
namespace Go.Dm
set_option linter.unusedSimpArgs false
set_option linter.unusedVariables false
set_option linter.unnecessarySimpa false

section
variable {P : Program} {CC : Code → DC → Prop} {base : Nat} {c : Cor} {h : Heap} {w : World}

theorem flat_take {sz : Nat} : ∀ (n : Nat) (xs : List DV), (∀ x ∈ xs, x.cells.length = sz) → flat (xs.take n) = (flat xs).take (n * sz)
  | 0, xs, _ => by simp [flat]
  | n + 1, [], _ => by simp [flat]
  | n + 1, x :: xs, h => by
    have hx := h x (by simp)
    have ih := flat_take n xs fun y hy => h y (by simp [hy])
    simp only [List.take_succ_cons, flat, List.flatMap_cons] at ih ⊢
    rw [ih, Nat.succ_mul, Nat.add_comm, ← hx, List.take_length_add_append]

theorem eff_copy (hS : Sim CC base c h w.heap) {t u ty e : TypeId} {sh : Shape} (ht : P.underlying t = some (.slice e)) (hsh : shapeOf P e = some sh) {x y : DV} {vx vy : Value} (hx : VRel c x vx) (hy : VRel c y vy) {r : EvR} (he : copyD h sh x y = some r)
    {v : DV} {h' : Heap} (hr : stepEv h r = some (v, h')) : EffOk P CC base c h w (do pure (.value (← Builtin.copy_ #[t, u] ty #[vx, vy]))) v h' := by
  obtain ⟨_, hpos⟩ := shapeOf_size hsh
  unfold copyD at he
  split at he
  · rename_i i z o1 n
    split at he
    · rename_i cs sh' ys hob hys
      obtain ⟨news, hrd⟩ := elems_rel (P := P) hS hpos hy hys
      have hnl := hrd.news_len
      obtain ⟨cap, b, o, lim, ab, ao, hφ, hlc, hcap, hvx⟩ := hx.arr_inv
      simp only at he
      split at he
      case isFalse => cases he
      rename_i hcond
      obtain ⟨hshe, hz, hfit⟩ := hcond
      subst hshe
      cases he; cases hr
      subst hvx
      let m := min ys.length n
      have hm1 : m ≤ ys.length := Nat.min_le_left _ _
      have hfc := hrd.cells w rfl m hm1
      have hsz := run_sizeOf_shape w hsh
      have hmle : m * sh'.size ≤ n * sh'.size := Nat.mul_le_mul_right _ (Nat.min_le_right _ _)
      have hmle2 : m * sh'.size ≤ ys.length * sh'.size := Nat.mul_le_mul_right _ hm1
      have htk : flat (ys.take n) = (flat ys).take (m * sh'.size) := by
        rw [show ys.take n = ys.take m by simp [m, List.take_eq_take_iff, Nat.min_comm], flat_take _ _ hrd.sz]
      have hvr : VRels c (flat (ys.take n)) (news.take (m * sh'.size)) := by rw [htk]; exact hrd.rel.take _
      have hvl : (flat (ys.take n)).length = m * sh'.size := by rw [hvr.length_eq]; simp; omega
      have hone : ∀ x ∈ flat (ys.take n), x.one = true := fun x hx => by rw [htk] at hx; exact hrd.one x (List.mem_of_mem_take hx)
      obtain ⟨_, h1, h2⟩ := write_obj (P := P) hS hob hφ (off := o1) hvr hone (by omega)
      by_cases h0 : cap = 0
      · have hm0 : m = 0 := by have := Nat.min_le_right ys.length n; omega
        have hnil : flat (ys.take n) = [] := List.eq_nil_of_length_eq_zero (by rw [hvl, hm0]; simp)
        have hnil2 : news.take (m * sh'.size) = [] := by rw [hm0]; simp
        rw [hnil2] at h2 hfc
        refine ⟨_, w, c, goInt (m : Nat), exec_val w ?_, .inl rfl, h2, .int _ _⟩
        simp only [Builtin.copy_, List.getElem?_toArray, List.getElem?_cons_zero, List.getElem?_cons_succ, Sem.run_bind, run_underlying ht, Result.andThen_ok, hrd.len, hsz]
        change ((Builtin.firstCells sh'.size m vy).run P w).andThen _ = _
        rw [hfc]
        rfl
      · rcases hcap with hcap | ⟨rfl, rfl, _⟩
        · exact absurd hcap h0
        refine ⟨_, _, c, goInt (m : Nat), exec_val w ?_, .inl rfl, h2, .int _ _⟩
        simp only [Builtin.copy_, List.getElem?_toArray, List.getElem?_cons_zero, List.getElem?_cons_succ, Sem.run_bind, run_underlying ht, Result.andThen_ok, hrd.len, hsz]
        change ((Builtin.firstCells sh'.size m vy).run P w).andThen _ = _
        rw [hfc]
        simp only [Result.andThen_ok, Sem.run_bind, h1]
        rfl
    · cases he
  · cases he

theorem eff_clear (hS : Sim CC base c h w.heap) {D : DProg} {fr : Fr} {t ty e : TypeId} {sh : Shape} {z : DV} (ht : P.underlying t = some (.slice e)) (hsh : shapeOf P e = some sh) (hz : zeroOf P e = some z) (hzc : z.cells.length = sh.size) (hzo : z.okv = true)
    {x : DV} {X : Opd} (hX : ev D fr X = x) {vx : Value} (hx : VRel c x vx) {r : EvR} (he : evalOp D fr h (.clear z.cells X) = some r)
    {v : DV} {h' : Heap} (hr : stepEv h r = some (v, h')) : EffOk P CC base c h w (do pure (.value (← Builtin.clear_ #[t] ty #[vx]))) v h' := by
  obtain ⟨_, hpos⟩ := shapeOf_size hsh
  obtain ⟨i', zv, hi', hizv, hov, hzrun⟩ := zeroOf_some w hz
  have hzr : VRel c z zv := ofVal_rel hov
  simp only [evalOp, hX] at he
  split at he
  · cases he; cases hr
    obtain ⟨a, cap, vs, _, _, _, _, _, _, _, _, _, hvx⟩ := hx.lst_inv
    subst hvx
    refine EffOk.ofVal hS (ValOk.of w ⟨.tuple #[], ?_, .tup .nil⟩)
    cases a <;> simp [Builtin.clear_, run_underlying ht]
  · rename_i i z' o1 n
    obtain ⟨cap, b, o, lim, ab, ao, hφ, hlc, hcap, hvx⟩ := hx.arr_inv
    by_cases hn0 : n = 0
    · rw [if_pos hn0] at he
      cases he; cases hr
      subst hvx
      subst hn0
      exact EffOk.ofVal hS (ValOk.of w ⟨.tuple #[], by simp [Builtin.clear_, run_underlying ht], .tup .nil⟩)
    · rw [if_neg hn0] at he
      split at he <;> try (cases he; done)
      rename_i cs sh' hob
      split at he
      case isFalse => cases he
      rename_i hcond
      cases he; cases hr
      subst hvx
      rcases hcap with hcap | ⟨rfl, rfl, _⟩
      · omega
      have hzz := zeros_rel (n := n) hzc hpos hzr
      have hfl : (List.replicate n z.cells).flatten = flat (List.replicate n z) := by
        simp [flat, List.flatMap, List.map_replicate]
      have hall : ∀ x ∈ List.replicate n z, x.cells.length = sh.size := fun x hx => by rw [List.eq_of_mem_replicate hx]; exact hzc
      have hone : ∀ x ∈ flat (List.replicate n z), x.one = true := fun x hx => by
        simp only [flat, List.mem_flatMap] at hx
        obtain ⟨y, hy, hxy⟩ := hx
        rw [List.eq_of_mem_replicate hy] at hxy
        exact hzr.okv_one hzo x hxy
      obtain ⟨_, h1, h2⟩ := write_obj (P := P) hS hob hφ (off := o1) hzz hone (by rw [flat_length _ hall]; simp; rw [← hzc]; exact hcond.1)
      rw [hfl]
      refine ⟨_, _, c, .tuple #[], exec_val w ?_, .inl rfl, h2, .tup .nil⟩
      have hzc2 : (Builtin.zeroCells zv.cells n).toList = ((Array.range (n * sh.size)).map (zv.cells[· % zv.cells.size]!)).toList := by
        have : zv.cells.size = sh.size := by rw [hzr.cells_size, hzc]
        simp only [Builtin.zeroCells, this]
      match n, hn0 with
      | n + 1, _ =>
        simp only [Builtin.clear_, List.getElem?_toArray, List.getElem?_cons_zero, Sem.run_bind, run_underlying ht, Result.andThen_ok, hzrun, hzc2, h1, Sem.run_pure]
  · cases he

theorem eff_bytesStr (hS : Sim CC base c h w.heap) {s t e : TypeId} (hus : P.underlying s = some (.slice e)) (hut : P.underlying t = some .string) (hue : P.underlying e = some (.int .u8)) {x : DV} {vx : Value} (hx : VRel c x vx) {r : EvR} (he : convD h .bytesStr true x = some r)
    {v : DV} {h' : Heap} (hr : stepEv h r = some (v, h')) : EffOk P CC base c h w (do pure (.value (← convert s t vx))) v h' := by
  cases x <;> simp only [convD] at he <;> try (cases he; done)
  case arr id sz off n =>
    simp only [if_true] at he
    obtain ⟨str, hs, rfl⟩ := Option.map_eq_some_iff.1 he
    obtain ⟨ys, hys, hstr⟩ := Option.bind_eq_some_iff.1 hs
    cases hr
    obtain ⟨news, hrd⟩ := elems_rel (P := P) hS (sh := none) (by simp [Shape.size]) hx hys
    obtain ⟨ns, rfl, rfl⟩ := toStr?_some hstr
    obtain ⟨cap, b, o, lim, ab, ao, hφ, hlc, hcap, hvx⟩ := hx.arr_inv
    have hv := hrd.rel
    rw [nums_flat] at hv
    have hnews := nums_rel hv
    have hfc := hrd.cells w rfl (nums .u8 ns).length (Nat.le_refl _)
    have hl := hrd.len w
    subst hvx
    have hln : n = (nums .u8 ns).length := by
      simp only [Builtin.lenOf, Sem.run_pure, Result.ok.injEq] at hl
      exact hl.1
    have hsize : Shape.size none = 1 := rfl
    rw [hsize, Nat.mul_one, hnews, List.take_of_length_le (by simp [nums])] at hfc
    have hload : (loadCells ⟨ab, ao, none⟩ n).run P w = .ok (ns.map (Value.int .u8)).toArray w := by
      rw [← hln] at hfc
      simpa [Builtin.firstCells] using hfc
    have hrun := run_bytesToString (P := P) w (⟨ab, ao, none⟩ : Addr) n cap ns hload
    refine EffOk.ofVal hS (ValOk.of w ⟨.string ⟨(ns.map fun n => UInt8.ofNat n.toNat).toArray⟩, ?_, ?_⟩)
    · simp only [convert, Sem.run_bind, run_underlying hus, run_underlying hut, run_underlying hue, Result.andThen_ok]
      rw [hrun, foldl_push]
      simp
    · exact .str _
end

section
variable {P : Program} {cfg : Cfg} {mf : Bool} {D : DProg} {CC : Code → DC → Prop} {base : Nat} {c : Cor} {fr : Fr} {a : Act} {h : Heap} {w : World}

/-- **Every operation that is neither a call nor a defer.** -/
theorem eff_sound {o : Oper} {d : DOp} {r : EvR} {v : DV} {h' : Heap} (hc : compOp P cfg mf o.op = some d) (hg : GlobOk D c) (hf : VRels c fr.tmps a.tmps.toList) (hS : Sim CC base c h w.heap)
    (he : evalOp D fr h d = some r) (hr : stepEv h r = some (v, h')) : EffOk P CC base c h w (execOp a.eval o) v h' := by
  by_cases hne : d.effect = false
  · cases r with
    | val v' =>
      cases hr
      refine EffOk.ofVal hS (val_sound w hc hg hf hS hne he fun sh x e => ?_)
      subst e
      simp only [evalOp] at he
      obtain ⟨y, h1, h2⟩ := Option.map_eq_some_iff.1 he
      cases h2; exact h1
    | newO ob mk =>
      cases hr
      exact EffOk.ofNewO (new_sound w hc hg hf (hS.add ob) hne he (Nat.lt_succ_self _) hS.next ⟨rfl, hS.φnext, by simp only [Heap.add]; exact Tr.get_set_same _ _ _⟩)
    | newT sz mk =>
      cases hr
      exact EffOk.ofNewT (new_sound w hc hg hf (hS.addTag sz) hne he (Nat.lt_succ_self _) hS.next ⟨rfl, hS.τnext, by simp only [Heap.addTag]; exact Tr.get_set_same _ _ _⟩)
    | eff v' h1 =>
      exfalso
      cases d <;> simp [DOp.effect] at hne <;> simp only [evalOp] at he
      all_goals first
        | (cases he; done)
        | (obtain ⟨_, _, h2⟩ := Option.map_eq_some_iff.1 he; cases h2; done)
        | (split at he <;> first | (cases he; done) | (obtain ⟨_, _, h2⟩ := Option.map_eq_some_iff.1 he; cases h2; done) | (split at he <;> first | (cases he; done) | (obtain ⟨_, _, h2⟩ := Option.map_eq_some_iff.1 he; cases h2; done) | (split at he <;> cases he; done)); done)
        | skip
      case conv k mu x =>
        unfold convD at he
        split at he <;> try (cases he; done)
        all_goals first
          | (obtain ⟨_, _, h2⟩ := Option.map_eq_some_iff.1 he; cases h2; done)
          | (split at he <;> first | (cases he; done) | (obtain ⟨_, _, h2⟩ := Option.map_eq_some_iff.1 he; cases h2; done) | (simp at he; split at he <;> cases he; done))
          | skip
        all_goals simp at hne
        all_goals simp [hne] at he
      case slice sz x lo hi mx =>
        unfold sliceD at he
        split at he <;> try (cases he; done)
        all_goals (split at he <;> first | (cases he; done) | (obtain ⟨_, _, h2⟩ := Option.map_eq_some_iff.1 he; cases h2; done))
    | call _ _ _ => cases hr
    | yield _ _ => cases hr
    | defr _ _ => cases hr
  · obtain ⟨dst, op, ty, pos, after, guard⟩ := o
    have O : ∀ {x : Operand} {y : Opd}, opd x = some y → VRel c (ev D fr y) (a.eval x) := fun h => opd_rel hg hf h
    cases op <;> simp only [compOp] at hc <;> try (cases hc; done)
    case store t x y =>
      split at hc <;> try (cases hc; done)
      cases hc
      rename_i sh x' y' hsh hx hy
      simp only [evalOp] at he
      obtain ⟨h1, he1, he2⟩ := Option.map_eq_some_iff.1 he
      subst he2
      cases hr
      exact eff_store hS hsh (O hx) (O hy) he1
    case next x s =>
      cases s <;> simp only [compOp] at hc
      · cases hc
      · obtain ⟨y, hy, rfl⟩ := Option.map_eq_some_iff.1 hc
        have : r = .eff v h' := by
          simp only [evalOp] at he
          split at he <;> try (cases he; done)
          split at he <;> try (cases he; done)
          split at he <;> (cases he; cases hr; rfl)
        subst this
        exact eff_next hS (O hy) rfl he
    case convert s t x =>
      split at hc <;> try (cases hc; done)
      · cases hc; simp [DOp.effect] at hne
      · cases hc; simp [DOp.effect] at hne
      · split at hc <;> try (cases hc; done)
        cases hc; simp [DOp.effect] at hne
      · split at hc <;> try (cases hc; done)
        · cases hc
          rename_i e x' hus hud hx _ hue
          have hmu : (mf || cfg.mutTy e) = true := by
            cases hm : (mf || cfg.mutTy e) with
            | true => rfl
            | false => exact absurd hm hne
          simp only [evalOp, hmu] at he
          exact eff_bytesStr hS hus hud hue (O hx) he hr
        · cases hc; simp [DOp.effect] at hne
      · cases hc; simp [DOp.effect] at hne
      · split at hc <;> try (cases hc; done)
        split at hc <;> try (cases hc; done)
        cases hc; simp [DOp.effect] at hne
    case call cl =>
      obtain ⟨callee, args, argTypes⟩ := cl
      simp only [compCall] at hc
      split at hc <;> try (cases hc; done)
      · split at hc <;> try (cases hc; done)
        cases hc
        simp only [evalOp, callV] at he
        split at he <;> cases he <;> cases hr
      · rw [run_builtin]
        split at hc <;> try (cases hc; done)
        · split at hc <;> try (cases hc; done)
          · obtain ⟨y, hy, rfl⟩ := Option.map_eq_some_iff.1 hc; simp [DOp.effect] at hne
          · obtain ⟨y, hy, rfl⟩ := Option.map_eq_some_iff.1 hc; simp [DOp.effect] at hne
          · cases hc; simp [DOp.effect] at hne
        · rename_i x y t u hA hT
          have hA' : args = #[x, y] := by rw [← Array.toArray_toList (xs := args), hA]
          have hT' : argTypes = #[t, u] := by rw [← Array.toArray_toList (xs := argTypes), hT]
          subst hA'; subst hT'
          rw [show Array.map a.eval #[x, y] = #[a.eval x, a.eval y] by simp]
          split at hc <;> try (cases hc; done)
          rename_i e x' y' hu hx hy
          split at hc <;> try (cases hc; done)
          · split at hc <;> try (cases hc; done)
            rename_i sh i z e' hsh hi hz hu2 hcond
            cases hc
            simp only [evalOp] at he
            exact eff_append hS hu (.inl ⟨_, hu2⟩) hsh hi hz hcond.2 (O hx) (O hy) he hr
          · split at hc <;> try (cases hc; done)
            rename_i i z hsh hi hz hu2 hcond
            cases hc
            simp only [evalOp] at he
            exact eff_append hS hu (.inr hu2) hsh hi hz hcond (O hx) (O hy) he hr
        · rename_i x y t u hA hT
          have hA' : args = #[x, y] := by rw [← Array.toArray_toList (xs := args), hA]
          have hT' : argTypes = #[t, u] := by rw [← Array.toArray_toList (xs := argTypes), hT]
          subst hA'; subst hT'
          rw [show Array.map a.eval #[x, y] = #[a.eval x, a.eval y] by simp]
          split at hc <;> try (cases hc; done)
          rename_i e x' y' hu hx hy
          split at hc <;> try (cases hc; done)
          split at hc <;> try (cases hc; done)
          rename_i sh e' hsh hu2 hcond
          cases hc
          simp only [evalOp] at he
          exact eff_copy hS hu hsh (O hx) (O hy) he hr
        · split at hc <;> try (cases hc; done)
          cases hc; simp [DOp.effect] at hne
        · split at hc <;> try (cases hc; done)
          cases hc; simp [DOp.effect] at hne
        · rename_i x t hA hT
          have hA' : args = #[x] := by rw [← Array.toArray_toList (xs := args), hA]
          have hT' : argTypes = #[t] := by rw [← Array.toArray_toList (xs := argTypes), hT]
          subst hA'; subst hT'
          rw [show Array.map a.eval #[x] = #[a.eval x] by simp]
          split at hc <;> try (cases hc; done)
          rename_i e x' hu hx
          split at hc <;> try (cases hc; done)
          rename_i sh z hsh hz
          split at hc <;> try (cases hc; done)
          rename_i hcond
          cases hc
          exact eff_clear hS hu hsh hz hcond.1 hcond.2 rfl (O hx) he hr
    case defer cl =>
      split at hc <;> try (cases hc; done)
      split at hc <;> try (cases hc; done)
      cases hc
      simp only [evalOp] at he
      split at he <;> try (cases he; done)
      split at he <;> cases he
      cases hr
    all_goals
      exfalso
      apply hne
      first
        | (split at hc <;> cases hc; rfl)
        | (obtain ⟨_, _, rfl⟩ := Option.map_eq_some_iff.1 hc; rfl)
        | (split at hc <;> try (cases hc; done)
           split at hc <;> first | (cases hc; rfl) | (cases hc; done) | (obtain ⟨_, _, rfl⟩ := Option.map_eq_some_iff.1 hc; rfl) | (split at hc <;> cases hc; rfl))
        | skip
    all_goals first
      | (obtain ⟨_, _, h2⟩ := Option.bind_eq_some_iff.1 hc; split at h2 <;> cases h2; rfl)
      | (repeat' first | (cases hc; done) | (cases hc; rfl) | (obtain ⟨_, _, rfl⟩ := Option.map_eq_some_iff.1 hc; rfl) | split at hc)
end
end Go.Dm
