/- The D-machine (23): regions: the list of their operations, in order or in our order. -/
import Derived.Test.YtjhednolknlpiaaDmV
namespace Go.Dm
set_option linter.unusedSimpArgs false
set_option linter.unusedVariables false
set_option linter.unnecessarySimpa false

section
variable {P : Program} {cfg : Cfg} {mf : Bool} {CC : Code → DC → Prop} {base : Nat} {D : DProg} {c : Cor} {h : Heap} {w : World}

theorem rop_some {ops : Array Oper} {o : Oper} {ro : ROp} (hc : compRop P cfg mf ops o = some ro) : compOp P cfg mf o.op = some ro.op ∧ ro.dst = o.dst ∧ ro.chk = [] ∧
    ((o.guard = none ∧ ro.guard = none) ∨ ∃ j b d, o.guard = some (j, b) ∧ ro.guard = some (d, b) ∧ (ops[j]?).bind (·.dst) = some d) := by
  unfold compRop at hc
  split at hc <;> try (cases hc; done)
  rename_i op hop
  split at hc
  · rename_i hg
    cases hc
    exact ⟨hop, rfl, rfl, .inl ⟨hg, rfl⟩⟩
  · rename_i j b hg
    split at hc <;> try (cases hc; done)
    rename_i d hd
    cases hc
    exact ⟨hop, rfl, rfl, .inr ⟨j, b, d, hg, rfl, hd⟩⟩
theorem wanted_rel {ops : Array Oper} {o : Oper} {ro : ROp} (hc : compRop P cfg mf ops o = some ro) {fr : Fr} {a : Act} (hf : VRels c fr.tmps a.tmps.toList) : Region.wanted o (yielded ops a.tmps) = wantedG ro.guard fr := by
  rcases (rop_some hc).2.2.2 with ⟨h1, h2⟩ | ⟨j, b, d, h1, h2, h3⟩
  · simp [Region.wanted, wantedG, h1, h2]
  · simp only [Region.wanted, wantedG, h1, h2, yielded, h3, Option.bind_some]
    cases hx : fr.tmps[d]? with
    | none =>
      have : a.tmps[d]? = none := by
        have h4 := hf.length_eq
        simp at hx h4 ⊢; omega
      rw [this, List.getD_eq_getElem?_getD, hx]
      simp
    | some x =>
      obtain ⟨v, h4, h5⟩ := hf.get d hx
      have h6 : a.tmps[d]? = some v := by simpa using h4
      rw [h6, List.getD_eq_getElem?_getD, hx]
      simp only [Option.getD_some]
      cases h5 <;> simp

/-- **A region in the order of its text.** -/
theorem seq_sound {E : Ex} (hCall : CallOk P CC base D (callD D E)) (hCode : CodeOk P CC base D E) {ops : Array Oper} {r : Option Nat} {k : Nat} {fr' : Fr} {h' : Heap} {Q : Exit → Act → World → Prop} :
    ∀ (l : List Oper) (rs : List ROp) (c : Cor) (fr : Fr) (h : Heap) (a : Act) (w : World), compRops P cfg mf ops l = some rs → runOps D E rs fr h = some (fr', h') → GlobOk D c → FrRel c r fr a → Sim CC base c h w.heap →
      (∀ a' w' c', Out CC base c h w c' h' w' → FrRel c' r fr' a' → Q .normal a' w') → wpListIn (FF r) k P ops Q l a w := by
  intro l
  induction l with
  | nil =>
    intro rs c fr h a w hc he hg hfr hS hQ
    simp [compRops] at hc; subst hc
    simp [runOps] at he
    obtain ⟨rfl, rfl⟩ := he
    exact hQ a w c (Out.refl hS) hfr
  | cons o l ih =>
    intro rs c fr h a w hc he hg hfr hS hQ
    simp only [compRops] at hc
    split at hc <;> try (cases hc; done)
    rename_i ro ros h1 h2
    cases hc
    obtain ⟨q1, q2, q3, _⟩ := rop_some h1
    simp only [wpListIn]
    rw [wanted_rel h1 hfr.tmps, show wantedG ro.guard fr = wantedD ro fr from rfl]
    simp only [runOps] at he
    split at he
    · rename_i hw
      rw [if_pos hw]
      split at he <;> try (cases he; done)
      rename_i fr1 hh1 hop
      split at he
      case isFalse => cases he
      exact op_sound hCall hCode q1 q2 hop hg hfr hS fun a' w' c' o1 f1 => ih ros c' fr1 hh1 a' w' h2 he (hg.mono o1.le) f1 o1.sim fun a2 w2 c2 o2 f2 => hQ a2 w2 c2 (o1.trans o2) f2
    · rename_i hw
      rw [if_neg hw, ← q2]
      exact ⟨fun _ _ => trivial, ih ros c _ h _ w h2 he hg (hfr.put _ .undef) hS hQ⟩

/-! ### an operation looks at its operands alone -/
theorem evs_congr {fr fr2 : Fr} : ∀ {xs : List Opd}, (∀ x ∈ xs, ev D fr x = ev D fr2 x) → evs D fr xs = evs D fr2 xs
  | [], _ => rfl
  | x :: xs, h => by
    simp only [evs, List.map_cons]
    rw [h x (by simp)]
    have := evs_congr (xs := xs) fun y hy => h y (by simp [hy])
    simp only [evs] at this
    rw [this]
theorem evO_congr {fr fr2 : Fr} {x : Option Opd} (h : ∀ y ∈ x.toList, ev D fr y = ev D fr2 y) : evO D fr x = evO D fr2 x := by
  cases x with
  | none => rfl
  | some y => simp [evO, h y (by simp)]
theorem evalOp_congr {fr fr2 : Fr} (d : DOp) (h1 : ∀ x ∈ d.opds, ev D fr x = ev D fr2 x) (h2 : fr.inr = fr2.inr) : evalOp D fr h d = evalOp D fr2 h d := by
  cases d
  case build zero ps =>
    have e : ps.map (fun p => (p.1, p.2.1, ev D fr p.2.2)) = ps.map fun p => (p.1, p.2.1, ev D fr2 p.2.2) := List.map_congr_left fun p hp => by
      rw [h1 p.2.2 (by simp only [DOp.opds, List.mem_map]; exact ⟨p, hp, rfl⟩)]
    simp only [evalOp, e]
  case mks mu sh zero len ps =>
    have e1 : ∀ p ∈ ps, ev D fr p.2 = ev D fr2 p.2 := fun p hp => h1 p.2 (by simp only [DOp.opds, List.mem_map]; exact ⟨p, hp, rfl⟩)
    have e : ps.map (fun p => (p.1, ev D fr p.2)) = ps.map fun p => (p.1, ev D fr2 p.2) := List.map_congr_left fun p hp => by rw [e1 p hp]
    have e2 : (∀ p ∈ ps, p.1 < len ∧ (ev D fr p.2).cells.length = sh.size ∧ (ev D fr p.2).okv = true) ↔ ∀ p ∈ ps, p.1 < len ∧ (ev D fr2 p.2).cells.length = sh.size ∧ (ev D fr2 p.2).okv = true := by
      constructor <;> intro hh p hp <;> have := hh p hp
      · rwa [e1 p hp] at this
      · rwa [← e1 p hp] at this
    simp only [evalOp, e, e2]
  case call f xs z =>
    have e1 := h1 f (by simp [DOp.opds])
    have e2 := evs_congr (D := D) (xs := xs) fun x hx => h1 x (by simp [DOp.opds, hx])
    simp only [evalOp, e1, e2]
  case defr f xs =>
    have e1 := h1 f (by simp [DOp.opds])
    have e2 := evs_congr (D := D) (xs := xs) fun x hx => h1 x (by simp [DOp.opds, hx])
    simp only [evalOp, e1, e2, h2]
  case mkfn f a b =>
    have e1 := evs_congr (D := D) (xs := a) fun x hx => h1 x (by simp [DOp.opds, hx])
    have e2 := evs_congr (D := D) (xs := b) fun x hx => h1 x (by simp [DOp.opds, hx])
    simp only [evalOp, e1, e2]
  case sliceStr x lo hi =>
    have e1 := h1 x (by simp [DOp.opds])
    have e2 := evO_congr (D := D) (x := lo) fun y hy => h1 y (by simp only [DOp.opds, List.mem_append, List.mem_cons]; exact .inl (.inr hy))
    have e3 := evO_congr (D := D) (x := hi) fun y hy => h1 y (by simp only [DOp.opds, List.mem_append, List.mem_cons]; exact .inr hy)
    simp only [evalOp, e1, e2, e3]
  case slice sz x lo hi mx =>
    have e1 := h1 x (by simp [DOp.opds])
    have e2 := evO_congr (D := D) (x := lo) fun y hy => h1 y (by simp only [DOp.opds, List.mem_append, List.mem_cons]; exact .inl (.inl (.inr hy)))
    have e3 := evO_congr (D := D) (x := hi) fun y hy => h1 y (by simp only [DOp.opds, List.mem_append, List.mem_cons]; exact .inl (.inr hy))
    have e4 := evO_congr (D := D) (x := mx) fun y hy => h1 y (by simp only [DOp.opds, List.mem_append, List.mem_cons]; exact .inr hy)
    simp only [evalOp, e1, e2, e3, e4]
  all_goals simp only [DOp.opds, List.mem_cons, List.not_mem_nil, or_false, forall_eq_or_imp, forall_eq] at h1
  all_goals simp only [evalOp]
  all_goals simp only [h1]
theorem ev_congr {fr fr2 : Fr} {x : Opd} (h1 : ∀ t, x.slot? = some t → fr.tmps.getD t .undef = fr2.tmps.getD t .undef) : ev D fr x = ev D fr2 x := by
  cases x <;> simp only [ev]
  exact h1 _ rfl
/-- Two frames alike where an operation looks. -/
def Alike (ro : ROp) (fr fr2 : Fr) : Prop := ∀ t ∈ ro.slots, fr.tmps.getD t .undef = fr2.tmps.getD t .undef
theorem Alike.opds {ro : ROp} {fr fr2 : Fr} (ha : Alike ro fr fr2) : ∀ x ∈ ro.op.opds, ev D fr x = ev D fr2 x := fun x hx => ev_congr fun t ht => ha t (by
  simp only [ROp.slots, List.mem_append, List.mem_filterMap]
  exact .inl (.inr ⟨x, hx, ht⟩))
theorem Alike.evalOp {ro : ROp} {fr fr2 : Fr} (ha : Alike ro fr fr2) (hi : fr.inr = fr2.inr) : evalOp D fr h ro.op = Dm.evalOp D fr2 h ro.op := evalOp_congr _ ha.opds hi
theorem Alike.wanted {ro : ROp} {fr fr2 : Fr} (ha : Alike ro fr fr2) : wantedG ro.guard fr = wantedG ro.guard fr2 := by
  cases hg : ro.guard with
  | none => rfl
  | some g =>
    obtain ⟨t, b⟩ := g
    have := ha t (by simp [ROp.slots, hg])
    simp only [wantedG, this]
theorem isDefr_not {ro : ROp} (hnd : isDefr ro = false) : ∀ f as, ro.op ≠ .defr f as := fun f as e => by simp [isDefr, e] at hnd
theorem runOp_congr {E : Ex} {ro : ROp} {fr fr2 fr' : Fr} {h' : Heap} (ha : Alike ro fr fr2) (hi : fr.inr = fr2.inr) (hnd : isDefr ro = false) (he : runOp D E ro fr h = some (fr', h')) :
    ∃ v, fr' = fr.put ro.dst v ∧ runOp D E ro fr2 h = some (fr2.put ro.dst v, h') := by
  unfold runOp at he ⊢
  rw [← ha.evalOp (D := D) (h := h) hi]
  cases hev : Dm.evalOp D fr h ro.op with
  | none => rw [hev] at he; cases he
  | some r0 =>
    rw [hev] at he
    rcases evalOp_cases hev with ⟨v, h1, hst⟩ | ⟨g, as, z, f, xs, rfl, hop, hcv⟩ | ⟨l, as, z, f, xs, rfl, hop, hcv⟩ | ⟨g, as, f, xs, rfl, hop⟩
    · cases r0 <;> simp only [stepEv] at hst <;> cases hst <;> cases he <;> exact ⟨_, rfl, rfl⟩
    · simp only at he ⊢
      split at he <;> try (cases he; done)
      rename_i v h1 hcall
      split at he
      · rename_i hz
        obtain ⟨⟨v2, h2⟩, hfz, he2⟩ := Option.map_eq_some_iff.1 he
        cases he2
        rw [if_pos hz, hfz]
        exact ⟨v2, rfl, rfl⟩
      · rename_i hz
        cases he
        rw [if_neg hz]
        exact ⟨v, rfl, rfl⟩
    · simp only at he ⊢
      obtain ⟨⟨v, h1⟩, hy, he2⟩ := Option.map_eq_some_iff.1 he
      cases he2
      rw [hy]
      exact ⟨v, rfl, rfl⟩
    · exact absurd hop (isDefr_not hnd f xs)

/-! ### a run, step by step -/
def StepAt (D : DProg) (E : Ex) (ro : ROp) (fr : Fr) (h : Heap) (fr' : Fr) (h' : Heap) : Prop :=
  (wantedG ro.guard fr = true ∧ runOp D E ro fr h = some (fr', h') ∧ chkOk D fr' h' ro.chk = true) ∨ (wantedG ro.guard fr = false ∧ fr' = fr.put ro.dst .undef ∧ h' = h)
theorem trace_of {E : Ex} : ∀ (rs : List ROp) (fr : Fr) (h : Heap) (fr' : Fr) (h' : Heap), runOps D E rs fr h = some (fr', h') →
    ∃ (F : Nat → Fr) (H : Nat → Heap), F 0 = fr ∧ H 0 = h ∧ F rs.length = fr' ∧ H rs.length = h' ∧ ∀ k ro, rs[k]? = some ro → StepAt D E ro (F k) (H k) (F (k + 1)) (H (k + 1))
  | [], fr, h, fr', h', he => by
    simp [runOps] at he
    obtain ⟨rfl, rfl⟩ := he
    exact ⟨fun _ => fr, fun _ => h, rfl, rfl, rfl, rfl, by simp⟩
  | o :: rs, fr, h, fr', h', he => by
    simp only [runOps] at he
    have key : ∀ fr1 h1, StepAt D E o fr h fr1 h1 → runOps D E rs fr1 h1 = some (fr', h') → ∃ (F : Nat → Fr) (H : Nat → Heap), F 0 = fr ∧ H 0 = h ∧ F (o :: rs).length = fr' ∧ H (o :: rs).length = h' ∧ ∀ k ro, (o :: rs)[k]? = some ro → StepAt D E ro (F k) (H k) (F (k + 1)) (H (k + 1)) := by
      intro fr1 h1 hst hrest
      obtain ⟨F, H, f0, h0, fm, hm, hs⟩ := trace_of rs fr1 h1 fr' h' hrest
      refine ⟨fun | 0 => fr | k + 1 => F k, fun | 0 => h | k + 1 => H k, rfl, rfl, fm, hm, fun k ro hk => ?_⟩
      cases k with
      | zero =>
        simp at hk; subst hk
        simp only [f0, h0]
        exact hst
      | succ k => exact hs k ro (by simpa using hk)
    split at he
    · rename_i hw
      split at he <;> try (cases he; done)
      rename_i fr1 h1 hop
      split at he
      case isFalse => cases he
      rename_i hck
      exact key fr1 h1 (.inl ⟨hw, hop, hck⟩) he
    · rename_i hw
      exact key _ h (.inr ⟨by simpa [wantedD] using hw, rfl, rfl⟩) he
end
end Go.Dm
