/- The D-machine (40): a law's row out of what it does on typed values. -/
import Derived.Test.YtjhednolknlpiaaDmOp
import Derived.Test.YtjhednolknlpiaaDmRi
import Derived.ChangeSame
import Derived.OpenShut
namespace Go.Dm
set_option linter.unusedSimpArgs false
set_option linter.unusedVariables false
set_option linter.unnecessarySimpa false
open Go.ChangeShapes Go.WideShapes Go.RowKit
section
variable {H : Type} {enc : TypeId × Value → H} {P : Program} {W W' : World}
theorem cell_keep (hk : Keeps W.heap.size W W') {a : Addr} {v : Value} (h : W.cell? a = some v) : W'.cell? a = some v := by
  have hlt : a.block < W.heap.size := by
    rcases Nat.lt_or_ge a.block W.heap.size with h1 | h1
    · exact h1
    · unfold World.cell? at h; rw [Array.getElem?_eq_none h1] at h; cases h
  unfold World.cell? at h ⊢
  rw [hk.old _ hlt]; exact h
theorem cells_keep (hk : Keeps W.heap.size W W') {base : Nat} {a : Addr} {n : Nat} {cs : List Value} (h : W.cells? base a n = some cs) : W'.cells? base a n = some cs := by
  unfold World.cells? at h ⊢
  split at h <;> try (cases h; done)
  rename_i hb
  rw [if_pos hb]
  have aux : ∀ (l : List Nat) (cs : List Value), l.mapM (fun i => W.cell? (a.add i)) = some cs → l.mapM (fun i => W'.cell? (a.add i)) = some cs := by
    intro l
    induction l with
    | nil => intro cs h; exact h
    | cons x l ih =>
      intro cs h
      rw [List.mapM_cons] at h ⊢
      simp only [Option.bind_eq_bind, Option.bind_eq_some_iff, Option.pure_def, Option.some.injEq] at h ⊢
      obtain ⟨y, h1, ys, h2, rfl⟩ := h
      exact ⟨y, cell_keep hk h1, ys, ih ys h2, rfl⟩
  exact aux _ _ h
theorem mapM_agree {α β : Type} {f g : α → Option β} : ∀ {l : List α} {r : List β}, l.mapM f = some r → (∀ x ∈ l, ∀ y, f x = some y → g x = some y) → l.mapM g = some r
  | [], r, h, _ => h
  | x :: l, r, h, hfg => by
    rw [List.mapM_cons] at h ⊢
    simp only [Option.bind_eq_bind, Option.bind_eq_some_iff, Option.pure_def, Option.some.injEq] at h ⊢
    obtain ⟨y, h1, ys, h2, rfl⟩ := h
    exact ⟨y, hfg x (by simp) y h1, ys, mapM_agree h2 (fun z hz => hfg z (by simp [hz])), rfl⟩
/-- What reads reads behind as before. -/
theorem trod_keep {S : List TypeId} (hS : tyB P S = true) (hk : Keeps W.heap.size W W') {held : Bool} : ∀ (fuel : Nat) (t : TypeId) (cs : List Value) (x : DataW H × List MemPlace), t ∈ S → DataW.trod enc P W 0 (fun _ => true) held fuel t cs = some x →
    DataW.trod enc P W' 0 (fun b => decide (b < W.heap.size)) held fuel t cs = some x := by
  intro fuel
  induction fuel with
  | zero => intro t cs x _ h; simp [DataW.trod] at h
  | succ fuel ih =>
    intro t cs x ht h
    have hst := List.all_eq_true.1 hS t ht
    cases hu : P.underlying t with
    | none => rw [hu] at hst; cases hst
    | some u =>
      rw [hu] at hst
      cases u <;> simp only [Bool.false_eq_true] at hst
      case bool => obtain ⟨b, rfl, rfl⟩ := DataW.trod_bool hu h; simp [DataW.trod, hu]
      case int k => obtain ⟨n, rfl, rfl, hw⟩ := DataW.trod_int hu h; simp [DataW.trod, hu, hw]
      case string => obtain ⟨s, rfl, rfl, hl⟩ := DataW.trod_string hu h; simp [DataW.trod, hu, hl]
      case slice e =>
        simp only [Bool.and_eq_true] at hst
        obtain ⟨⟨h1, he⟩, hpos⟩ := hst
        have he : e ∈ S := by simpa using he
        have hpos : 0 < P.cellsOf e := Nat.le_of_ble_eq_true hpos
        have step : ∀ (a : Addr) y, (W.cells? 0 a (P.cellsOf e)).bind (DataW.trod enc P W 0 (fun _ => true) held fuel e) = some y →
            (W'.cells? 0 a (P.cellsOf e)).bind (DataW.trod enc P W' 0 (fun b => decide (b < W.heap.size)) held fuel e) = some y := by
          intro a y hy
          obtain ⟨cs1, q1, q2⟩ := Option.bind_eq_some_iff.1 hy
          rw [cells_keep hk q1]
          exact ih e cs1 y he q2
        rcases DataW.trod_slice hu h with ⟨rfl, rfl⟩ | ⟨a, len, cap, elems, rest, n, hn, rfl, rfl, hb, hlc, hcm, hlen, hel, hsp, _⟩
        · simp [DataW.trod, hu]
        · unfold DataW.trod at h ⊢
          rw [hu] at h ⊢
          simp only [hb, hlc, hcm, and_self, if_true] at h ⊢
          obtain ⟨el, g1, g2⟩ := Option.bind_eq_some_iff.1 h
          have g1' := mapM_agree g1 (fun i _ y hy => step _ y hy)
          rw [g1']
          simp only [Option.bind_some] at g2 ⊢
          by_cases hblk : a.block < W.heap.size
          · simp only [hblk, decide_true, if_true] at g2 ⊢
            obtain ⟨rs, k1, k2⟩ := Option.map_eq_some_iff.1 g2
            have k1' := mapM_agree k1 (fun j _ y hy => step _ y hy)
            rw [k1']; simp only [Option.map_some]; rw [k2]
          · -- no cell of it reads: it has none
            have hc0 : cap - len = 0 := by
              rcases Nat.eq_zero_or_pos (cap - len) with h0 | h0
              · exact h0
              · exfalso
                obtain ⟨hr1, hr2⟩ := hsp rfl
                have hy := hr2 0 h0
                rw [List.getElem?_eq_getElem (by omega)] at hy
                obtain ⟨cs1, q1, _⟩ := Option.bind_eq_some_iff.1 hy
                have := World.cells?_block q1 hpos
                rw [block_add] at this
                exact hblk this
            rw [hc0] at g2 ⊢
            simp only [hblk, decide_false, Bool.false_eq_true, if_false]
            simpa using g2
      case struct fs =>
        simp only [Bool.and_eq_true] at hst
        obtain ⟨hfs, hoff⟩ := hst
        have hfS : ∀ f ∈ fs.toList, f.type ∈ S := fun f hf => by
          have := List.all_eq_true.1 hfs f hf
          simpa using this
        unfold DataW.trod at h ⊢
        rw [hu] at h ⊢
        simp only at h ⊢
        split at h <;> try (cases h; done)
        rename_i hl
        rw [if_pos hl]
        obtain ⟨rs, k1, k2⟩ := Option.map_eq_some_iff.1 h
        have k1' := mapM_agree k1 (fun f hf y hy => ih f.type _ y (hfS f hf) hy)
        rw [k1']; simp only [Option.map_some]; rw [k2]
theorem trodAll_keep {S : List TypeId} (hS : tyB P S = true) (hk : Keeps W.heap.size W W') {held : Bool} : ∀ {ts : List TypeId} {vs : List Value} {ds : List (DataW H)} {ps : List MemPlace}, (∀ t ∈ ts, t ∈ S) → DataW.TrodAll enc P W 0 (fun _ => true) held ts vs ds ps →
    DataW.TrodAll enc P W' 0 (fun b => decide (b < W.heap.size)) held ts vs ds ps
  | [], vs, ds, ps, _, h => by obtain ⟨rfl, rfl, rfl⟩ := trodAll_nil h; rfl
  | t :: ts, vs, ds, ps, hts, h => by
    obtain ⟨v, vs1, d, ds1, a, b, rfl, rfl, rfl, h1, h2⟩ := trodAll_cons h
    obtain ⟨fuel, h1⟩ := h1
    exact ⟨a, b, ⟨fuel, trod_keep hS hk fuel t _ _ (hts t (by simp)) h1⟩, trodAll_keep hS hk (fun u hu => hts u (by simp [hu])) h2, rfl⟩
/-- Arguments of types. -/
inductive TAs (P : Program) : List TypeId → List DV → Prop where
  | nil : TAs P [] []
  | cons {t : TypeId} {cs : List DV} {ts : List TypeId} {ds : List DV} : TC P t cs → TAs P ts ds → TAs P (t :: ts) (toVal P t cs :: ds)
theorem toVal_rel {S : List TypeId} (hS : tyB P S = true) {t : TypeId} (ht : t ∈ S) {ds : List DV} {v : Value} {r : Reach} {b : Nat} (hval : Value.okWide P W r b t v) (hv : VRels (Cor.start W) ds v.cells.toList) (ho : ∀ d ∈ ds, d.one = true) (hc : TC P t ds) : VRel (Cor.start W) (toVal P t ds) v := by
  have hone : ∀ {d : DV}, ds = [d] → (match P.underlying t with | some (.struct _) | some (.array _ _) => False | _ => True) → toVal P t ds = d ∧ VRel (Cor.start W) d v := by
    intro d hd hn
    subst hd
    have h1 : toVal P t [d] = d := by
      unfold toVal
      split
      · rename_i h; rw [h] at hn; exact hn.elim
      · rfl
    refine ⟨h1, ?_⟩
    cases hvv : v <;> try (rw [hvv] at hv; simp only [Value.cells] at hv; cases hv with | cons h _ => exact h)
    rename_i cs
    exfalso
    subst hvv
    unfold Value.okWide at hval
    split at hval
    · rename_i h; rw [h] at hn; exact hn
    · rename_i h; rw [h] at hn; exact hn
    · unfold Cell.okWide at hval
      split at hval <;> first | (simp_all; done) | (unfold Cell.ok at hval; split at hval <;> simp_all)
  cases hc with
  | bool h1 => obtain ⟨e, h⟩ := hone rfl (by rw [h1]; trivial); rw [e]; exact h
  | int h1 _ => obtain ⟨e, h⟩ := hone rfl (by rw [h1]; trivial); rw [e]; exact h
  | str h1 _ => obtain ⟨e, h⟩ := hone rfl (by rw [h1]; trivial); rw [e]; exact h
  | nil h1 => obtain ⟨e, h⟩ := hone rfl (by rw [h1]; trivial); rw [e]; exact h
  | slice h1 _ _ => obtain ⟨e, h⟩ := hone rfl (by rw [h1]; trivial); rw [e]; exact h
  | @struct _ fs _ h1 _ =>
    unfold Value.okWide at hval
    rw [h1] at hval
    obtain ⟨cs, rfl, _, _⟩ := hval
    have h2 : toVal P t ds = .agg ds := by unfold toVal; rw [h1]
    rw [h2]
    simp only [Value.cells] at hv
    have := VRel.agg hv ho
    simpa using this
theorem open_all {S : List TypeId} (hS : tyB P S = true) {held : Bool} {r : Reach} {b : Nat} : ∀ {ts : List TypeId} {vs : List Value} {ds : List (DataW H)} {ps : List MemPlace}, (∀ t ∈ ts, t ∈ S) → (∀ (j : Nat) t v, ts[j]? = some t → vs[j]? = some v → Value.okWide P W r b t v) →
    DataW.TrodAll enc P W 0 (fun _ => true) held ts vs ds ps → ∃ dvs, VRels (Cor.start W) dvs vs ∧ TAs P ts dvs ∧ ds.length = ts.length
  | [], vs, ds, ps, _, _, h => by obtain ⟨rfl, rfl, rfl⟩ := trodAll_nil h; exact ⟨[], .nil, .nil, rfl⟩
  | t :: ts, vs, ds, ps, hts, hval, h => by
    obtain ⟨v, vs1, d, ds1, a, b', rfl, rfl, rfl, h1, h2⟩ := trodAll_cons h
    obtain ⟨fuel, h1⟩ := h1
    obtain ⟨cs, q1, q2, q3, q4⟩ := open_gen hS fuel t _ _ (hts t (by simp)) h1
    obtain ⟨dvs, r1, r2, r3⟩ := open_all hS (fun u hu => hts u (by simp [hu])) (fun j t v ht hv => hval (j + 1) t v (by simpa using ht) (by simpa using hv)) h2
    exact ⟨toVal P t cs :: dvs, .cons (toVal_rel hS (hts t (by simp)) (hval 0 t v rfl rfl) q1 q2 q3) r1, .cons q3 r2, by simp [r3]⟩
theorem TC.boolV {t : TypeId} {cs : List DV} (hu : P.underlying t = some .bool) (h : TC P t cs) : ∃ b, toVal P t cs = .bool b := by
  cases h with
  | @bool _ b h1 => exact ⟨b, by simp [toVal, hu]⟩
  | int h1 _ => rw [hu] at h1; cases h1
  | str h1 _ => rw [hu] at h1; cases h1
  | nil h1 => rw [hu] at h1; cases h1
  | slice h1 _ _ => rw [hu] at h1; cases h1
  | struct h1 _ => rw [hu] at h1; cases h1
theorem TC.intV {t : TypeId} {k : IntKind} {cs : List DV} (hu : P.underlying t = some (.int k)) (h : TC P t cs) : ∃ n, toVal P t cs = .int k n ∧ cs = [.int k n] ∧ (Lit.int k n).wf = true := by
  cases h with
  | bool h1 => rw [hu] at h1; cases h1
  | int h1 h2 => rw [hu] at h1; cases h1; exact ⟨_, by simp [toVal, hu], rfl, h2⟩
  | str h1 _ => rw [hu] at h1; cases h1
  | nil h1 => rw [hu] at h1; cases h1
  | slice h1 _ _ => rw [hu] at h1; cases h1
  | struct h1 _ => rw [hu] at h1; cases h1
theorem TC.strV {t : TypeId} {cs : List DV} (hu : P.underlying t = some .string) (h : TC P t cs) : ∃ s, toVal P t cs = .str s ∧ cs = [.str s] ∧ s.length ≤ maxLen := by
  cases h with
  | bool h1 => rw [hu] at h1; cases h1
  | int h1 _ => rw [hu] at h1; cases h1
  | str h1 h2 => exact ⟨_, by simp [toVal, hu], rfl, h2⟩
  | nil h1 => rw [hu] at h1; cases h1
  | slice h1 _ _ => rw [hu] at h1; cases h1
  | struct h1 _ => rw [hu] at h1; cases h1
/-- A slice's elements, read in a way of their own. -/
theorem TC.sliceV {t e : TypeId} {α : Type} {f : α → DV} {q : α → Prop} {cs : List DV} (hu : P.underlying t = some (.slice e)) (hp : 0 < P.cellsOf e) (hf : ∀ ys, TC P e ys → ∃ a, toVal P e ys = f a ∧ q a) (h : TC P t cs) :
    ∃ (t' : Nat) (as : List α), toVal P t cs = .lst t' (zOf t' (P.cellsOf e)) (as.map f) ∧ cs = [.lst t' (zOf t' (P.cellsOf e)) (as.map f)] ∧ as.length ≤ maxLen ∧ (∀ a ∈ as, q a) ∧ (t' = 0 → as = []) := by
  cases h with
  | bool h1 => rw [hu] at h1; cases h1
  | int h1 _ => rw [hu] at h1; cases h1
  | str h1 _ => rw [hu] at h1; cases h1
  | nil h1 => exact ⟨0, [], by simp [toVal, hu, zOf], by simp [zOf], by simp, by simp, fun _ => rfl⟩
  | @slice _ e' yss h1 h2 h3 =>
    rw [hu] at h1; cases h1
    have aux : ∀ (yss : List (List DV)), TVs P e yss → ∃ as : List α, yss.map (toVal P e) = as.map f ∧ as.length = yss.length ∧ ∀ a ∈ as, q a := by
      intro yss
      induction yss with
      | nil => intro _; exact ⟨[], rfl, rfl, by simp⟩
      | cons ys yss ih =>
        intro h
        cases h with
        | cons h1 h2 =>
          obtain ⟨a, e1, e2⟩ := hf ys h1
          obtain ⟨as, g1, g2, g3⟩ := ih h2
          refine ⟨a :: as, by simp [e1, g1], by simp [g2], fun b hb => ?_⟩
          rcases List.mem_cons.1 hb with rfl | hb
          · exact e2
          · exact g3 b hb
    obtain ⟨as, g1, g2, g3⟩ := aux yss h3
    exact ⟨1, as, by rw [g1]; simp [toVal, hu, zOf], by rw [g1]; simp [zOf], by omega, g3, fun h => by cases h⟩
  | struct h1 _ => rw [hu] at h1; cases h1
theorem TC.intsV {t e : TypeId} {k : IntKind} {cs : List DV} (hu : P.underlying t = some (.slice e)) (he : P.underlying e = some (.int k)) (hp : P.cellsOf e = 1) (h : TC P t cs) :
    ∃ (t' : Nat) (as : List Int), toVal P t cs = .lst t' (zOf t' 1) (as.map (DV.int k)) ∧ as.length ≤ maxLen ∧ (∀ a ∈ as, (Lit.int k a).wf = true) := by
  obtain ⟨t', as, h1, _, h2, h3, _⟩ := TC.sliceV (f := DV.int k) (q := fun a => (Lit.int k a).wf = true) hu (by omega) (fun ys hy => by obtain ⟨n, g1, _, g2⟩ := TC.intV he hy; exact ⟨n, g1, g2⟩) h
  exact ⟨t', as, by rw [h1, hp], h2, h3⟩
/-- A law's contract. -/
theorem contract_gen {cfg : Cfg} {D : DProg} {S : List TypeId} {f : Nat} {fn : Func} {s : ChangeSpec} {tb : TypeId} (hS : tyB P S = true) (hm : P.follows .mixedOrders = true) (hD : ∀ f df, D.fn f = some df → compF P cfg f = some df) (hprim : PrimOk P cfg D)
    (hps : fn.params.toList.all (fun t => S.contains t) = true) (hres : fn.resultTypes = #[tb]) (htb : P.underlying tb = some .bool) (hvars : s.vars = []) (hspec : ∀ ds : List (DataW H), ds.length = fn.params.toList.length → s.fn H (ds ++ []) = { results := [.lit (.bool true)], args := ds })
    (run : ∀ dvs, TAs P fn.params.toList dvs → F0 D f dvs Heap.start (fun v _ => v = .bool true))
    (W : World) (args : Array Value) (ds gs : List (DataW H)) (before : List MemPlace)
    {base : Nat} (hval : ∀ (j : Nat) t v, fn.params[j]? = some t → args[j]? = some v → Value.okWide P W .any base t v)
    (hW : DataW.Whole enc P fn.params.toList s.vars false W args.toList ds gs before) (hg : GlobOk D (Cor.start W)) :
    Calls P f args W fun e W' => ∃ v, e = .returned v ∧ s.post enc P fn false true false false W args v W' := by
  have hW' := hW
  obtain ⟨p, q, hA, hV, rfl, hfz, hnd⟩ := hW
  rw [hvars] at hV
  obtain ⟨rfl, rfl⟩ : gs = [] ∧ q = [] := by
    cases gs with
    | nil => exact ⟨rfl, hV⟩
    | cons g gs => exact hV.elim
  have hts : ∀ t ∈ fn.params.toList, t ∈ S := fun t ht => by have := List.all_eq_true.1 hps t ht; simpa using this
  obtain ⟨dvs, hv, ht, hlen⟩ := open_all hS hts (fun j t v h1 h2 => hval j t v (by simpa using h1) (by simpa using h2)) hA
  obtain ⟨v, h', cs', hr, _, rfl⟩ := run dvs ht
  refine (calls_true hm hD hprim hr hv hg).mono fun e W' ⟨he, hk⟩ => ?_
  subst he
  refine ⟨_, rfl, ds, [], _, [], p, [], hW', ?_, ?_, ?_, hk.but _, fun h => by cases h⟩
  · rw [hspec ds (by simpa using hlen), hres]
    exact trodAll_cons_mk (shut_bool htb _) trodAll_mk0
  · rw [hspec ds (by simpa using hlen)]
    exact trodAll_keep hS hk hts hA
  · rw [hvars, hspec ds (by simpa using hlen)]; rfl
end
end Go.Dm
