/- The D-machine (28): its runs, put together piece by piece. -/
import Derived.Test.YtjhednolknlpiaaDmZA
namespace Go.Dm
set_option linter.unusedSimpArgs false
set_option linter.unusedVariables false
set_option linter.unnecessarySimpa false

def ExLe (E E' : Ex) : Prop := ∀ dc fr h r, E dc fr h = some r → E' dc fr h = some r
section
variable {D : DProg} {E E' : Ex}
theorem bodyD_le (hE : ExLe E E') {f : Nat} {args : List DV} {h : Heap} {r} (he : bodyD D E f args h = some r) : bodyD D E' f args h = some r := by
  unfold bodyD at he ⊢
  split at he <;> try (cases he; done)
  split at he <;> try (cases he; done)
  · rename_i hx
    simp only [hE _ _ _ _ hx]; exact he
  · rename_i hx
    simp only [hE _ _ _ _ hx]; exact he
theorem callDef_le (hE : ExLe E E') {f : Nat} {args : List DV} {h : Heap} {r} (he : callDef D E f args h = some r) : callDef D E' f args h = some r := by
  unfold callDef at he ⊢
  split at he <;> try (cases he; done)
  rename_i hx
  simp only [bodyD_le hE hx]; exact he
theorem leaveD_le {C C' : Nat → List DV → Heap → Option Heap} (hC : ∀ f a h r, C f a h = some r → C' f a h = some r) : ∀ {ds : List DDef} {h : Heap} {r}, leaveD ds h C = some r → leaveD ds h C' = some r
  | [], h, r, he => he
  | .mark m :: ds, h, r, he => by
    simp only [leaveD] at he ⊢
    split at he <;> try (cases he; done)
    exact leaveD_le hC he
  | .call f args :: ds, h, r, he => by
    simp only [leaveD] at he ⊢
    obtain ⟨h1, h2, h3⟩ := Option.bind_eq_some_iff.1 he
    rw [hC _ _ _ _ h2]
    exact leaveD_le hC h3
theorem callD_le (hE : ExLe E E') {f : Nat} {args : List DV} {h : Heap} {r} (he : callD D E f args h = some r) : callD D E' f args h = some r := by
  unfold callD at he ⊢
  split at he
  · exact he
  · split at he <;> try (cases he; done)
    rename_i hx
    simp only [bodyD_le hE hx]
    split at he <;> try (cases he; done)
    rename_i hy
    simp only [leaveD_le (fun f a h r => callDef_le hE) hy]
    exact he
theorem yieldD_le (hE : ExLe E E') {l : Nat} {args : List DV} {h : Heap} {r} (he : yieldD E l args h = some r) : yieldD E' l args h = some r := by
  unfold yieldD at he ⊢
  split at he <;> try (cases he; done)
  split at he
  case isFalse => cases he
  rename_i hc
  rw [if_pos hc]
  split at he <;> try (cases he; done)
  rename_i hx
  simp only [hE _ _ _ _ hx]
  split at he <;> try (cases he; done)
  split at he
  case isFalse => cases he
  rename_i hc2
  rw [if_pos hc2]
  split at he <;> try (cases he; done)
  rename_i hy
  simp only [hE _ _ _ _ hy]
  exact he
theorem runOp_le (hE : ExLe E E') {o : ROp} {fr : Fr} {h : Heap} {r} (he : runOp D E o fr h = some r) : runOp D E' o fr h = some r := by
  unfold runOp at he ⊢
  split at he <;> try exact he
  · split at he <;> try (cases he; done)
    rename_i hx
    simp only [callD_le hE hx]; exact he
  · obtain ⟨a, h1, h2⟩ := Option.map_eq_some_iff.1 he
    rw [yieldD_le hE h1, ← h2]; rfl
theorem runOps_le (hE : ExLe E E') : ∀ {os : List ROp} {fr : Fr} {h : Heap} {r}, runOps D E os fr h = some r → runOps D E' os fr h = some r
  | [], _, _, _, he => he
  | o :: os, fr, h, r, he => by
    simp only [runOps] at he ⊢
    split at he
    · rename_i hw
      rw [if_pos hw]
      split at he <;> try (cases he; done)
      rename_i hx
      simp only [runOp_le hE hx]
      split at he
      case isFalse => cases he
      rename_i hk
      rw [if_pos hk]
      exact runOps_le hE he
    · rename_i hw
      rw [if_neg hw]
      exact runOps_le hE he
theorem rangeD_le (hE : ExLe E E') {f : Opd} {ps : List Nat} {asg body : DC} {fr : Fr} {h : Heap} {r} (he : rangeD D E f ps asg body fr h = some r) : rangeD D E' f ps asg body fr h = some r := by
  unfold rangeD at he ⊢
  split at he <;> try (cases he; done)
  simp only at he ⊢
  split at he <;> try (cases he; done)
  split at he <;> try (cases he; done)
  rename_i hx
  simp only [callD_le hE hx]; exact he
theorem stepD_le (hE : ExLe E E') : ExLe (stepD D E) (stepD D E') := by
  intro dc fr h r he
  cases dc with
  | skip => exact he
  | region ops =>
    simp only [stepD] at he ⊢
    obtain ⟨a, h1, h2⟩ := Option.map_eq_some_iff.1 he
    rw [runOps_le hE h1, ← h2]; rfl
  | seq a b =>
    simp only [stepD] at he ⊢
    split at he
    · rename_i hx
      simp only [hE _ _ _ _ hx]
      exact hE _ _ _ _ he
    · rename_i hne
      rw [hE _ _ _ _ he]
      obtain ⟨x, fr', h'⟩ := r
      cases x with
      | normal => exact absurd he (hne _ _)
      | exit i => rfl
      | ret => rfl
  | cond c a b =>
    simp only [stepD] at he ⊢
    split at he
    · exact hE _ _ _ _ he
    · exact hE _ _ _ _ he
    · cases he
  | block id b =>
    simp only [stepD] at he ⊢
    split at he
    · rename_i hx
      simp only [hE _ _ _ _ hx]; exact he
    · rename_i hne
      rw [hE _ _ _ _ he]
      obtain ⟨x, fr', h'⟩ := r
      cases x with
      | normal => rfl
      | exit i => exact absurd he (hne _ _ _)
      | ret => rfl
  | loop b =>
    simp only [stepD] at he ⊢
    split at he
    · rename_i hx
      simp only [hE _ _ _ _ hx]
      exact hE _ _ _ _ he
    · rename_i hne
      rw [hE _ _ _ _ he]
      obtain ⟨x, fr', h'⟩ := r
      cases x with
      | normal => exact absurd he (hne _ _)
      | exit i => rfl
      | ret => rfl
  | range f ps asg body => exact rangeD_le hE he
  | exit id => exact he
  | ret => exact he
theorem exec_succ (D : DProg) : ∀ n, ExLe (exec D n) (exec D (n + 1))
  | 0 => fun _ _ _ _ h => by cases h
  | n + 1 => stepD_le (exec_succ D n)
theorem exec_le {n m : Nat} (h : n ≤ m) : ExLe (exec D n) (exec D m) := by
  induction h with
  | refl => exact fun _ _ _ _ h => h
  | step _ ih => exact fun dc fr h r he => exec_succ D _ dc fr h r (ih dc fr h r he)
end

/-! ### runs of whatever length -/
section
variable (D : DProg)
def Runs (f : Nat) (args : List DV) (h : Heap) (v : DV) (h' : Heap) : Prop := ∃ n, run D n f args h = some (v, h')
def Wp (dc : DC) (fr : Fr) (h : Heap) (Q : DX → Fr → Heap → Prop) : Prop := ∃ n x fr' h', exec D n dc fr h = some (x, fr', h') ∧ Q x fr' h'
def WpOps (os : List ROp) (fr : Fr) (h : Heap) (K : Fr → Heap → Prop) : Prop := ∃ n fr' h', runOps D (exec D n) os fr h = some (fr', h') ∧ K fr' h'
variable {D}
theorem Runs.mono {f : Nat} {args : List DV} {h h' : Heap} {v : DV} (hr : Runs D f args h v h') : ∃ n, ∀ m, n ≤ m → callD D (exec D m) f args h = some (v, h') :=
  let ⟨n, hn⟩ := hr; ⟨n, fun _ hm => callD_le (exec_le hm) hn⟩
theorem Wp.mono {dc : DC} {fr : Fr} {h : Heap} {Q Q' : DX → Fr → Heap → Prop} (hw : Wp D dc fr h Q) (hq : ∀ x fr' h', Q x fr' h' → Q' x fr' h') : Wp D dc fr h Q' :=
  let ⟨n, x, fr', h', h1, h2⟩ := hw; ⟨n, x, fr', h', h1, hq _ _ _ h2⟩
theorem Wp.skip {fr : Fr} {h : Heap} {Q : DX → Fr → Heap → Prop} (hq : Q .normal fr h) : Wp D .skip fr h Q := ⟨1, _, _, _, rfl, hq⟩
theorem Wp.exit {i : Nat} {fr : Fr} {h : Heap} {Q : DX → Fr → Heap → Prop} (hq : Q (.exit i) fr h) : Wp D (.exit i) fr h Q := ⟨1, _, _, _, rfl, hq⟩
theorem Wp.ret {fr : Fr} {h : Heap} {Q : DX → Fr → Heap → Prop} (hq : Q .ret fr h) : Wp D .ret fr h Q := ⟨1, _, _, _, rfl, hq⟩
/-- What follows in a sequence. -/
def Then (K : Fr → Heap → Prop) (Q : DX → Fr → Heap → Prop) : DX → Fr → Heap → Prop
  | .normal, fr, h => K fr h
  | x, fr, h => Q x fr h
theorem Wp.seq {a b : DC} {fr : Fr} {h : Heap} {Q : DX → Fr → Heap → Prop} (hw : Wp D a fr h (Then (fun fr' h' => Wp D b fr' h' Q) Q)) : Wp D (.seq a b) fr h Q := by
  obtain ⟨n, x, fr', h', h1, h2⟩ := hw
  cases x with
  | normal =>
    obtain ⟨m, x2, fr2, hh2, h3, h4⟩ := h2
    refine ⟨max n m + 1, x2, fr2, hh2, ?_, h4⟩
    show stepD D (exec D (max n m)) (.seq a b) fr h = _
    simp only [stepD, exec_le (Nat.le_max_left n m) _ _ _ _ h1]
    exact exec_le (Nat.le_max_right n m) _ _ _ _ h3
  | exit i =>
    refine ⟨n + 1, .exit i, fr', h', ?_, h2⟩
    show stepD D (exec D n) (.seq a b) fr h = _
    simp only [stepD, h1]
  | ret =>
    refine ⟨n + 1, .ret, fr', h', ?_, h2⟩
    show stepD D (exec D n) (.seq a b) fr h = _
    simp only [stepD, h1]
theorem Wp.cond {c : Opd} {a b : DC} {fr : Fr} {h : Heap} {Q : DX → Fr → Heap → Prop} {t : Bool} (hc : ev D fr c = .bool t) (hw : if t then Wp D a fr h Q else Wp D b fr h Q) : Wp D (.cond c a b) fr h Q := by
  cases t with
  | true =>
    obtain ⟨n, x, fr', h', h1, h2⟩ := hw
    refine ⟨n + 1, x, fr', h', ?_, h2⟩
    show stepD D (exec D n) (.cond c a b) fr h = _
    simp only [stepD, hc, h1]
  | false =>
    obtain ⟨n, x, fr', h', h1, h2⟩ := hw
    refine ⟨n + 1, x, fr', h', ?_, h2⟩
    show stepD D (exec D n) (.cond c a b) fr h = _
    simp only [stepD, hc, h1]
def InBlock (id : Nat) (Q : DX → Fr → Heap → Prop) : DX → Fr → Heap → Prop
  | .exit i, fr, h => if i = id then Q .normal fr h else Q (.exit i) fr h
  | x, fr, h => Q x fr h
theorem Wp.block {id : Nat} {b : DC} {fr : Fr} {h : Heap} {Q : DX → Fr → Heap → Prop} (hw : Wp D b fr h (InBlock id Q)) : Wp D (.block id b) fr h Q := by
  obtain ⟨n, x, fr', h', h1, h2⟩ := hw
  cases x with
  | normal =>
    refine ⟨n + 1, .normal, fr', h', ?_, h2⟩
    show stepD D (exec D n) (.block id b) fr h = _
    simp only [stepD, h1]
  | exit i =>
    by_cases e : i = id
    · subst e
      simp only [InBlock, if_true] at h2
      refine ⟨n + 1, .normal, fr', h', ?_, h2⟩
      show stepD D (exec D n) (.block i b) fr h = _
      simp only [stepD, h1, if_true]
    · simp only [InBlock, e, if_false] at h2
      refine ⟨n + 1, .exit i, fr', h', ?_, h2⟩
      show stepD D (exec D n) (.block id b) fr h = _
      simp only [stepD, h1, e, if_false]
  | ret =>
    refine ⟨n + 1, .ret, fr', h', ?_, h2⟩
    show stepD D (exec D n) (.block id b) fr h = _
    simp only [stepD, h1]
theorem Wp.loop1 {b : DC} {fr : Fr} {h : Heap} {Q : DX → Fr → Heap → Prop} (hw : Wp D b fr h (Then (fun fr' h' => Wp D (.loop b) fr' h' Q) Q)) : Wp D (.loop b) fr h Q := by
  obtain ⟨n, x, fr', h', h1, h2⟩ := hw
  cases x with
  | normal =>
    obtain ⟨m, x2, fr2, hh2, h3, h4⟩ := h2
    refine ⟨max n m + 1, x2, fr2, hh2, ?_, h4⟩
    show stepD D (exec D (max n m)) (.loop b) fr h = _
    simp only [stepD, exec_le (Nat.le_max_left n m) _ _ _ _ h1]
    exact exec_le (Nat.le_max_right n m) _ _ _ _ h3
  | exit i =>
    refine ⟨n + 1, .exit i, fr', h', ?_, h2⟩
    show stepD D (exec D n) (.loop b) fr h = _
    simp only [stepD, h1]
  | ret =>
    refine ⟨n + 1, .ret, fr', h', ?_, h2⟩
    show stepD D (exec D n) (.loop b) fr h = _
    simp only [stepD, h1]
/-- A loop that does a list's elements, one a round, or whatever else grows less. -/
theorem Wp.loop {b : DC} {Q : DX → Fr → Heap → Prop} (I : Nat → Fr → Heap → Prop) (round : ∀ n fr h, I n fr h → Wp D b fr h (Then (fun fr' h' => ∃ m, m < n ∧ I m fr' h') Q)) : ∀ (n : Nat) (fr : Fr) (h : Heap), I n fr h → Wp D (.loop b) fr h Q := by
  intro n
  induction n using Nat.strongRecOn with
  | ind n ih =>
    intro fr h hI
    refine Wp.loop1 ((round n fr h hI).mono fun x fr' h' hq => ?_)
    cases x with
    | normal => obtain ⟨m, hm, hI'⟩ := hq; exact ih m hm fr' h' hI'
    | exit i => exact hq
    | ret => exact hq
theorem Wp.region {os : List ROp} {fr : Fr} {h : Heap} {Q : DX → Fr → Heap → Prop} (hw : WpOps D os fr h fun fr' h' => Q .normal fr' h') : Wp D (.region os) fr h Q := by
  obtain ⟨n, fr', h', h1, h2⟩ := hw
  refine ⟨n + 1, .normal, fr', h', ?_, h2⟩
  show stepD D (exec D n) (.region os) fr h = _
  simp only [stepD, h1, Option.map_some]
theorem WpOps.nil {fr : Fr} {h : Heap} {K : Fr → Heap → Prop} (hk : K fr h) : WpOps D [] fr h K := ⟨0, _, _, rfl, hk⟩
/-- An operation that is no call. -/
theorem WpOps.op {o : ROp} {os : List ROp} {fr : Fr} {h : Heap} {K : Fr → Heap → Prop} {r : EvR} {v : DV} {h1 : Heap} (hw : wantedG o.guard fr = true) (he : evalOp D fr h o.op = some r) (hs : stepEv h r = some (v, h1)) (hc : chkOk D (fr.put o.dst v) h1 o.chk = true)
    (hk : WpOps D os (fr.put o.dst v) h1 K) : WpOps D (o :: os) fr h K := by
  obtain ⟨n, fr', h', q1, q2⟩ := hk
  refine ⟨n, fr', h', ?_, q2⟩
  have hrun : runOp D (exec D n) o fr h = some (fr.put o.dst v, h1) := by
    unfold runOp
    rw [he]
    cases r <;> simp only [stepEv] at hs <;> cases hs <;> rfl
  simp only [runOps, wantedD, hw, if_true, hrun, hc, q1]
theorem WpOps.off {o : ROp} {os : List ROp} {fr : Fr} {h : Heap} {K : Fr → Heap → Prop} (hw : wantedG o.guard fr = false) (hk : WpOps D os (fr.put o.dst .undef) h K) : WpOps D (o :: os) fr h K := by
  obtain ⟨n, fr', h', q1, q2⟩ := hk
  refine ⟨n, fr', h', ?_, q2⟩
  simp only [runOps, wantedD, hw, Bool.false_eq_true, if_false, q1]
theorem WpOps.call {o : ROp} {os : List ROp} {fr : Fr} {h : Heap} {K : Fr → Heap → Prop} {f : Nat} {args : List DV} {v : DV} {h1 : Heap} (hw : wantedG o.guard fr = true) (he : evalOp D fr h o.op = some (.call f args false)) (hr : Runs D f args h v h1) (hc : chkOk D (fr.put o.dst v) h1 o.chk = true)
    (hk : WpOps D os (fr.put o.dst v) h1 K) : WpOps D (o :: os) fr h K := by
  obtain ⟨n, fr', h', q1, q2⟩ := hk
  obtain ⟨m, hm⟩ := hr.mono
  refine ⟨max n m, fr', h', ?_, q2⟩
  have hrun : runOp D (exec D (max n m)) o fr h = some (fr.put o.dst v, h1) := by
    unfold runOp
    rw [he]
    simp only [hm _ (Nat.le_max_right n m), Bool.false_eq_true, if_false]
  simp only [runOps, wantedD, hw, if_true, hrun, hc, runOps_le (exec_le (Nat.le_max_left n m)) q1]
theorem WpOps.callF {o : ROp} {os : List ROp} {fr : Fr} {h : Heap} {K : Fr → Heap → Prop} {f : Nat} {args : List DV} {v v2 : DV} {h1 h2 : Heap} (hw : wantedG o.guard fr = true) (he : evalOp D fr h o.op = some (.call f args true)) (hr : Runs D f args h v h1) (hz : frzV h1 v = some (v2, h2)) (hc : chkOk D (fr.put o.dst v2) h2 o.chk = true)
    (hk : WpOps D os (fr.put o.dst v2) h2 K) : WpOps D (o :: os) fr h K := by
  obtain ⟨n, fr', h', q1, q2⟩ := hk
  obtain ⟨m, hm⟩ := hr.mono
  refine ⟨max n m, fr', h', ?_, q2⟩
  have hrun : runOp D (exec D (max n m)) o fr h = some (fr.put o.dst v2, h2) := by
    unfold runOp
    rw [he]
    simp only [hm _ (Nat.le_max_right n m), if_true, hz, Option.map_some]
  simp only [runOps, wantedD, hw, if_true, hrun, hc, runOps_le (exec_le (Nat.le_max_left n m)) q1]
/-- A function from its body; it defers nothing. -/
theorem Runs.of_body {f : Nat} {d : DFunc} {args : List DV} {h h' : Heap} {v : DV} (hp : D.prim f = none) (hd : D.fn f = some d)
    (hw : Wp D d.body { tmps := args ++ List.replicate (d.nt - args.length) .undef, defers := [], inr := none } h fun x fr h2 => (x = .normal ∨ x = .ret) ∧ fr.defers = [] ∧ h2 = h' ∧ (resD fr h2 d.res).map tupD = some v) : Runs D f args h v h' := by
  obtain ⟨n, x, fr', h2, h1, hx, hdf, rfl, hres⟩ := hw
  refine ⟨n, ?_⟩
  obtain ⟨vs, hvs, rfl⟩ := Option.map_eq_some_iff.1 hres
  have hb : bodyD D (exec D n) f args h = some (d, fr', h2) := by
    unfold bodyD
    rw [hd]
    simp only [h1]
    rcases hx with rfl | rfl <;> rfl
  unfold run callD
  rw [hp]
  simp only [hb, hdf, leaveD, hvs, Option.map_some]
end
end Go.Dm
