/- The D-machine (6): sums, comparisons, conversions. -/
import Derived.Test.YtjhednolknlpiaaDmE
import Derived.Laws.StructEq
import Derived.WideLaws
import Derived.LaidEql
namespace Go.Dm
set_option linter.unusedSimpArgs false
set_option linter.unusedVariables false
set_option linter.unnecessarySimpa false

section
variable {P : Program} {c : Cor} (w : World)
theorem bytes_eq_iff (a b : List UInt8) : ((⟨a.toArray⟩ : ByteArray).toList == (⟨b.toArray⟩ : ByteArray).toList) = decide (a = b) := by
  rw [ByteArray.toList_eq, ByteArray.toList_eq]
  by_cases h : a = b
  · subst h; simp
  · simp [h]
theorem beq_dec (x y : List UInt8) : (x == y) = decide (x = y) := by
  by_cases h : x = y <;> simp [h]
theorem bytes_toList (a : List UInt8) : (⟨a.toArray⟩ : ByteArray).toList = a := by
  rw [ByteArray.toList_eq]
theorem bytes_size (a : List UInt8) : (⟨a.toArray⟩ : ByteArray).size = a.length := by
  simp [ByteArray.size]
theorem bytes_append (a b : List UInt8) : (⟨a.toArray⟩ : ByteArray) ++ ⟨b.toArray⟩ = ⟨(a ++ b).toArray⟩ := by
  apply ByteArray.ext
  simp [ByteArray.data_append]

theorem intBin_rel {op : BinOp} {k : IntKind} {x y : Int} {v : DV} {t : TypeId} (h : intBin op k x y = some v) : ∃ v', (binOp op t (.int k x) (.int k y)).run P w = .ok v' w ∧ VRel c v v' := by
  cases op <;> simp only [intBin] at h
  case quo | rem =>
    split at h <;> simp at h
    subst h
    rename_i h0
    exact ⟨_, by simp [binOp, Op.intDiv, h0], .int _ _⟩
  all_goals first
    | (simp at h; subst h; exact ⟨_, by simp [binOp, Op.intArith, Op.intBits, Op.intCmp, bne]; try rfl, by first | exact .int _ _ | exact .bool _⟩)
    | (simp at h)
theorem strBin_rel {op : BinOp} {x y : List UInt8} {v : DV} {t : TypeId} (h : strBin op x y = some v) : ∃ v', (binOp op t (.string ⟨x.toArray⟩) (.string ⟨y.toArray⟩)).run P w = .ok v' w ∧ VRel c v v' := by
  cases op <;> simp only [strBin] at h
  case add =>
    split at h <;> simp at h
    subst h
    rename_i h0
    refine ⟨_, ?_, .str _⟩
    have h1 : ¬ (IntKind.i64.max < (x.length : Int) + (y.length : Int)) := by
      simp [IntKind.max, IntKind.signed, IntKind.bits]; omega
    simp [binOp, Op.stringOp, bytes_size, h1, bytes_append]
    omega
  all_goals first
    | (simp at h; subst h; refine ⟨_, ?_, .bool _⟩; simp only [binOp, Op.stringOp, bytes_eq_iff, bytes_toList, strLess]; simp [beq_dec])
    | (simp at h)
theorem eqBin_rel {op : BinOp} {r : Bool} {v : DV} {s : Sem Value} (h : eqBin op r = some v) (he : op = .eql → s.run P w = .ok (.bool r) w) (hn : op = .neq → s.run P w = .ok (.bool (!r)) w) : ∃ v', s.run P w = .ok v' w ∧ VRel c v v' := by
  cases op <;> simp [eqBin] at h
  · subst h; exact ⟨_, he rfl, .bool _⟩
  · subst h; exact ⟨_, hn rfl, .bool _⟩
theorem eqBin_op {op : BinOp} {r : Bool} {v : DV} (h : eqBin op r = some v) : op = .eql ∨ op = .neq := by
  cases op <;> simp [eqBin] at h <;> simp

theorem fieldKs_cons {off : Nat} {f : Field} {fs : List Field} {ks : List SK} (h : fieldKs P off (f :: fs) = some ks) :
    f.name ≠ "_" ∧ f.offset = off ∧ ∃ k ks', scalarK P f.type = some k ∧ shapeOf P f.type = some none ∧ fieldKs P (off + 1) fs = some ks' ∧ ks = k :: ks' := by
  simp only [fieldKs] at h
  split at h
  · rename_i h0
    split at h <;> simp at h
    subst h
    simp at h0
    exact ⟨h0.1, h0.2, _, _, ‹_›, ‹_›, ‹_›, rfl⟩
  · simp at h
theorem part_none {t : TypeId} (h : shapeOf P t = some none) {cs : Array Value} {off : Nat} {v : Value} (hv : cs[off]? = some v) : (part t cs off).run P w = .ok v w := by
  simp [part, run_isAgg_none w h, hv]
theorem equalIn_scalar {k : SK} {d : Nat} {t : TypeId} (h : scalarK P t = some k) :
    (k = .int → ∀ q a b, (Op.equalIn (d + 1) t (.int q a) (.int q b)).run P w = .ok (a == b) w) ∧
    (k = .bool → ∀ a b, (Op.equalIn (d + 1) t (.bool a) (.bool b)).run P w = .ok (a == b) w) ∧
    (k = .str → ∀ a b, (Op.equalIn (d + 1) t (.string a) (.string b)).run P w = .ok (a.toList == b.toList) w) := by
  unfold scalarK at h
  split at h <;> simp at h <;> subst h <;> rename_i hu
  · exact ⟨by simp, fun _ a b => run_equalIn_bool w d t a b hu, by simp⟩
  · exact ⟨fun _ q a b => run_equalIn_int w d t q _ a b hu, by simp, by simp⟩
  · exact ⟨by simp, by simp, fun _ a b => run_equalIn_string w d t a b hu⟩
theorem eqFields_rel {d : Nat} {xs ys : Array Value} : ∀ (fs : List Field) (ks : List SK) (off : Nat) (as bs : List DV) (r : Bool), fieldKs P off fs = some ks → plainEq ks as bs = some r →
    (∀ j x, as[j]? = some x → ∃ v, xs[off + j]? = some v ∧ VRel c x v) → (∀ j x, bs[j]? = some x → ∃ v, ys[off + j]? = some v ∧ VRel c x v) →
    (Op.eqFields (d + 1) xs ys fs).run P w = .ok r w := by
  intro fs
  induction fs with
  | nil =>
    intro ks off as bs r hk hp _ _
    simp [fieldKs] at hk; subst hk
    cases as <;> cases bs <;> simp [plainEq] at hp
    subst hp
    simp [Op.eqFields]
  | cons f fs ih =>
    intro ks off as bs r hk hp hx hy
    obtain ⟨hn, ho, k, ks', h1, h2, h3, rfl⟩ := fieldKs_cons hk
    match as, bs with
    | [], _ => cases k <;> simp [plainEq] at hp
    | _ :: _, [] => cases k <;> simp [plainEq] at hp
    | x :: as, y :: bs =>
      obtain ⟨vx, hvx, rx⟩ := hx 0 x rfl
      obtain ⟨vy, hvy, ry⟩ := hy 0 y rfl
      have hx' : ∀ j z, as[j]? = some z → ∃ v, xs[off + 1 + j]? = some v ∧ VRel c z v := fun j z hz => by
        have := hx (j + 1) z (by simpa using hz)
        rwa [show off + (j + 1) = off + 1 + j by omega] at this
      have hy' : ∀ j z, bs[j]? = some z → ∃ v, ys[off + 1 + j]? = some v ∧ VRel c z v := fun j z hz => by
        have := hy (j + 1) z (by simpa using hz)
        rwa [show off + (j + 1) = off + 1 + j by omega] at this
      obtain ⟨e1, e2, e3⟩ := equalIn_scalar (P := P) w (d := d) h1
      simp only [Nat.add_zero] at hvx hvy
      have px := part_none w h2 (ho ▸ hvx)
      have py := part_none w h2 (ho ▸ hvy)
      have key : ∀ q : Bool, (Op.equalIn (d + 1) f.type vx vy).run P w = .ok q w → (∀ r', plainEq ks' as bs = some r' → r = (q && r')) → (plainEq ks' as bs).isSome → (Op.eqFields (d + 1) xs ys (f :: fs)).run P w = .ok r w := by
        intro q hq hr hs
        obtain ⟨r', hr'⟩ := Option.isSome_iff_exists.1 hs
        have := hr r' hr'
        simp only [Op.eqFields, hn, ne_eq, not_false_eq_true, if_true, Sem.run_bind, px, py, Result.andThen_ok, hq]
        cases q
        · simp at this; subst this; simp
        · simp at this; subst this; simpa using ih ks' (off + 1) as bs r h3 hr' hx' hy'
      cases k with
      | int =>
        cases x <;> cases y <;> simp only [plainEq] at hp <;> try (cases hp; done)
        split at hp
        · rename_i e; subst e
          obtain ⟨r', hr', hrr⟩ := Option.map_eq_some_iff.1 hp
          cases rx.int_inv; cases ry.int_inv
          exact key _ (e1 rfl _ _ _) (fun z hz => by rw [hr'] at hz; cases hz; rw [← hrr]; rfl) (by simp [hr'])
        · simp at hp
      | bool =>
        cases x <;> cases y <;> simp only [plainEq] at hp <;> try (cases hp; done)
        obtain ⟨r', hr', hrr⟩ := Option.map_eq_some_iff.1 hp
        cases rx.bool_inv; cases ry.bool_inv
        exact key _ (e2 rfl _ _) (fun z hz => by rw [hr'] at hz; cases hz; rw [← hrr]) (by simp [hr'])
      | str =>
        cases x <;> cases y <;> simp only [plainEq] at hp <;> try (cases hp; done)
        obtain ⟨r', hr', hrr⟩ := Option.map_eq_some_iff.1 hp
        cases rx.str_inv; cases ry.str_inv
        refine key _ (e3 rfl _ _) (fun z hz => ?_) (by simp [hr'])
        rw [hr'] at hz; cases hz; rw [← hrr, bytes_eq_iff]

theorem eqIn_ptr1 {t e : TypeId} {d : Nat} (hu : P.underlying t = some (.pointer e)) (a b : Option Addr) (h : a = none ∨ b = none) : (Op.equalIn (d + 1) t (.pointer a) (.pointer b)).run P w = .ok (a.isNone && b.isNone) w := by
  rcases h with rfl | rfl
  · simp [Op.equalIn, run_underlying hu]
  · cases a <;> simp [Op.equalIn, run_underlying hu]
theorem eqIn_sl {t e : TypeId} {d : Nat} (hu : P.underlying t = some (.slice e)) (a : Option Addr) (n c : Nat) : (Op.equalIn (d + 1) t (.slice a n c) (.slice none 0 0)).run P w = .ok a.isNone w := by
  cases a <;> simp [Op.equalIn, run_underlying hu]
def isNilF : Value → Bool
  | .nilFunc => true
  | _ => false
theorem eqIn_fn {t : TypeId} {ps rs : Array TypeId} {vd : Bool} {d : Nat} (hu : P.underlying t = some (.func ps rs vd)) (x y : Value) (hx : x = .nilFunc ∨ ∃ f a b, x = .func f a b) (hy : y = .nilFunc ∨ ∃ f a b, y = .func f a b)
    (h : x = .nilFunc ∨ y = .nilFunc) : (Op.equalIn (d + 1) t x y).run P w = .ok (isNilF x && isNilF y) w := by
  rcases hx with rfl | ⟨f, a, b, rfl⟩ <;> rcases hy with rfl | ⟨g, a', b', rfl⟩
  · simp [Op.equalIn, run_underlying hu, isNilF]
  · simp [Op.equalIn, run_underlying hu, isNilF]
  · simp [Op.equalIn, run_underlying hu, isNilF]
  · simp at h
theorem go_eql {t : TypeId} {x y : Value} {ox oy : Operand} {r : Bool} (hb : binOp .eql t x y = (do pure (.bool (← Op.equal t x y)))) (hg : (eqGuard .eql t ox oy x y).run P w = .ok () w) (h : (Op.equalIn (9999 + 1) t x y).run P w = .ok r w) :
    ((do eqGuard .eql t ox oy x y; binOp .eql t x y : Sem Value)).run P w = .ok (.bool r) w := by
  rw [Sem.run_bind, hg, hb]
  simp only [Result.andThen_ok, Sem.run_bind]
  rw [show (Op.equal t x y).run P w = .ok r w from h]
  rfl
theorem go_neq {t : TypeId} {x y : Value} {ox oy : Operand} {r : Bool} (hb : binOp .neq t x y = (do pure (.bool (!(← Op.equal t x y))))) (hg : (eqGuard .neq t ox oy x y).run P w = .ok () w) (h : (Op.equalIn (9999 + 1) t x y).run P w = .ok r w) :
    ((do eqGuard .neq t ox oy x y; binOp .neq t x y : Sem Value)).run P w = .ok (.bool (!r)) w := by
  rw [Sem.run_bind, hg, hb]
  simp only [Result.andThen_ok, Sem.run_bind]
  rw [show (Op.equal t x y).run P w = .ok r w from h]
  rfl
theorem bin_rel {op : BinOp} {t : TypeId} {ek : EqK} {x y : DV} {vx vy : Value} {v : DV} {ox oy : Operand} (hb : binD op ek x y = some v) (hx : VRel c x vx) (hy : VRel c y vy)
    (hk : (op = .eql ∨ op = .neq) → eqKind P t = some ek) :
    ∃ v', ((do eqGuard op t ox oy vx vy; binOp op t vx vy : Sem Value)).run P w = .ok v' w ∧ VRel c v v' := by
  cases x <;> cases y <;> simp only [binD] at hb <;> try (cases hb; done)
  case int.int k a l b =>
    cases hx.int_inv; cases hy.int_inv
    have hg : (eqGuard op t ox oy (.int k a) (.int l b)).run P w = .ok () w := by cases op <;> simp [eqGuard]
    simp only [Sem.run_bind, hg, Result.andThen_ok]
    split at hb
    · split at hb <;> simp at hb
      subst hb
      exact ⟨_, by simp [binOp, Op.shift, ‹¬ _›], .int _ _⟩
    · split at hb <;> simp at hb
      subst hb
      exact ⟨_, by simp [binOp, Op.shift, ‹¬ _›], .int _ _⟩
    · split at hb
      · rename_i e; subst e
        exact intBin_rel w hb
      · simp at hb
  case str.str a b =>
    cases hx.str_inv; cases hy.str_inv
    have hg : (eqGuard op t ox oy (.string ⟨a.toArray⟩) (.string ⟨b.toArray⟩)).run P w = .ok () w := by cases op <;> simp [eqGuard]
    simp only [Sem.run_bind, hg, Result.andThen_ok]
    exact strBin_rel w hb
  case bool.bool a b =>
    cases hx.bool_inv; cases hy.bool_inv
    have hg : (eqGuard op t ox oy (.bool a) (.bool b)).run P w = .ok () w := by cases op <;> simp [eqGuard]
    simp only [Sem.run_bind, hg, Result.andThen_ok]
    split at hb
    · rename_i e; subst e
      have hu : P.underlying t = some .bool := by
        have hk' := hk (eqBin_op hb)
        unfold eqKind at hk'
        split at hk' <;> simp at hk'
        assumption
      exact eqBin_rel w hb (fun e => by subst e; exact run_eql_bool w t a b hu) (fun e => by subst e; exact run_neq_bool w t a b hu)
    · simp at hb
  case agg.agg a b =>
    obtain ⟨va, ra, _, rfl⟩ := hx.agg_inv
    obtain ⟨vb, rb, _, rfl⟩ := hy.agg_inv
    split at hb
    · rename_i ks
      obtain ⟨r, hr, hb⟩ := Option.bind_eq_some_iff.1 hb
      have hk' := hk (eqBin_op hb)
      unfold eqKind at hk'
      split at hk' <;> simp at hk'
      rename_i fs hu
      obtain ⟨⟨g1, g2⟩, g3⟩ := hk'
      have hg : (eqGuard op t ox oy (.agg va.toArray) (.agg vb.toArray)).run P w = .ok () w := run_eqGuard_agg w op t ox oy _ _ g1
      simp only [Sem.run_bind, hg, Result.andThen_ok]
      have hfs : P.underlying t = some (.struct (P.fieldsOf t)) := by simp [Program.fieldsOf, hu]
      have heq : (Op.equalIn 10000 t (.agg va.toArray) (.agg vb.toArray)).run P w = .ok r w := by
        rw [run_equalIn_struct w 9999 t _ _ hfs g2]
        have : (P.fieldsOf t) = fs := by simp [Program.fieldsOf, hu]
        rw [this]
        refine eqFields_rel (c := c) w (d := 9998) fs.toList ks 0 a b r g3 hr (fun j x hj => ?_) (fun j x hj => ?_)
        · obtain ⟨v, h1, h2⟩ := ra.get j hj; exact ⟨v, by simpa using h1, h2⟩
        · obtain ⟨v, h1, h2⟩ := rb.get j hj; exact ⟨v, by simpa using h1, h2⟩
      exact eqBin_rel w hb (fun e => by subst e; rw [run_eql_struct, heq]; rfl) (fun e => by subst e; rw [run_neq_struct, heq]; rfl)
    · simp at hb
  case lst.lst t0 z0 xs u z1 ys =>
    by_cases hz : u = 0 ∧ ys = []
    · obtain ⟨rfl, rfl⟩ := hz
      simp only at hb
      split at hb
      · rename_i e; subst e
        have hk' := hk (eqBin_op hb)
        unfold eqKind at hk'
        split at hk' <;> simp at hk'
        rename_i hu
        obtain ⟨a, cap, vs, _, _, _, _, _, _, h0, h1, _, rfl⟩ := hx.lst_inv
        obtain ⟨a', cap', vs', _, _, _, _, _, _, h0', _, _, rfl⟩ := hy.lst_inv
        obtain ⟨rfl, rfl⟩ := h0' rfl
        have hn : a.isNone = (t0 == 0) := by
          by_cases e : t0 = 0
          · obtain ⟨rfl, _⟩ := h0 e; simp [e]
          · obtain ⟨b, o, sp, rfl, _⟩ := h1 e; simp [e]
        rw [← hn] at hb
        exact eqBin_rel w hb (fun e => by subst e; exact go_eql w rfl (by simp [eqGuard]) (eqIn_sl w hu _ _ _)) (fun e => by subst e; exact go_neq w rfl (by simp [eqGuard]) (eqIn_sl w hu _ _ _))
      · simp at hb
    · split at hb <;> simp_all
  case arr.lst i0 s0 o0 n0 u z1 ys =>
    by_cases hz : u = 0 ∧ ys = []
    · obtain ⟨rfl, rfl⟩ := hz
      simp only at hb
      split at hb
      · rename_i e; subst e
        have hk' := hk (eqBin_op hb)
        unfold eqKind at hk'
        split at hk' <;> simp at hk'
        rename_i hu
        obtain ⟨cap, b, o, lim, ab, ao, _, _, _, rfl⟩ := hx.arr_inv
        obtain ⟨a', cap', vs', _, _, _, _, _, _, h0', _, _, rfl⟩ := hy.lst_inv
        obtain ⟨rfl, rfl⟩ := h0' rfl
        exact eqBin_rel w hb (fun e => by subst e; exact go_eql w rfl (by simp [eqGuard]) (eqIn_sl w hu _ _ _)) (fun e => by subst e; exact go_neq w rfl (by simp [eqGuard]) (eqIn_sl w hu _ _ _))
      · simp at hb
    · split at hb <;> simp_all
  case nilp.nilp | nilp.ptr | ptr.nilp | nilp.elt | elt.nilp =>
    split at hb
    · rename_i e; subst e
      have hk' := hk (eqBin_op hb)
      unfold eqKind at hk'
      split at hk' <;> simp at hk'
      rename_i hu
      cases hx <;> cases hy
      exact eqBin_rel w hb (fun e => by subst e; exact go_eql w rfl (by simp [eqGuard]) (eqIn_ptr1 w hu _ _ (by simp))) (fun e => by subst e; exact go_neq w rfl (by simp [eqGuard]) (eqIn_ptr1 w hu _ _ (by simp)))
    · simp at hb
  case nilfn.nilfn | nilfn.fn | fn.nilfn =>
    split at hb
    · rename_i e; subst e
      have hk' := hk (eqBin_op hb)
      unfold eqKind at hk'
      split at hk' <;> simp at hk'
      rename_i hu
      cases hx <;> cases hy
      exact eqBin_rel w hb (fun e => by subst e; exact go_eql w rfl (by simp [eqGuard]) (eqIn_fn w hu _ _ (by simp) (by simp) (by simp))) (fun e => by subst e; exact go_neq w rfl (by simp [eqGuard]) (eqIn_fn w hu _ _ (by simp) (by simp) (by simp)))
    · simp at hb
end
end Go.Dm
