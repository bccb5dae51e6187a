/- The D-machine (25): a region that draws its order. -/
import Derived.Test.YtjhednolknlpiaaDmX
namespace Go.Dm
set_option linter.unusedSimpArgs false
set_option linter.unusedVariables false
set_option linter.unnecessarySimpa false

def und : List Bool → Nat
  | [] => 0
  | b :: l => (if b then 0 else 1) + und l
theorem und_set : ∀ (l : List Bool) (j : Nat), l[j]? = some false → und (l.set j true) + 1 = und l
  | [], j, h => by simp at h
  | b :: l, 0, h => by simp at h; subst h; simp [und]; omega
  | b :: l, j + 1, h => by
    have := und_set l j (by simpa using h)
    simp only [List.set_cons_succ, und]; omega
theorem und_zero : ∀ (l : List Bool), und l = 0 → ∀ j : Nat, j < l.length → l[j]? = some true
  | b :: l, h, 0, _ => by cases b <;> simp_all [und]
  | b :: l, h, j + 1, hj => by
    have := und_zero l (by simp only [und] at h; omega) j (by simpa using hj)
    simpa using this
theorem und_replicate : ∀ n, und (List.replicate n false) = n
  | 0 => rfl
  | n + 1 => by simp [List.replicate_succ, und, und_replicate n]; omega

section
variable {P : Program} {cfg : Cfg} {mf : Bool} {CC : Code → DC → Prop} {base : Nat} {D : DProg} {E : Ex}

theorem Fr.put_get (fr : Fr) (dst : Option Nat) (v : DV) (t : Nat) (h : dst ≠ some t) : (fr.put dst v).tmps.getD t .undef = fr.tmps.getD t .undef := by
  cases dst with
  | none => rfl
  | some d =>
    have : d ≠ t := fun e => h (by rw [e])
    simp [Fr.put, List.getD_eq_getElem?_getD, List.getElem?_set, this]
theorem Fr.put_len (fr : Fr) (dst : Option Nat) (v : DV) : (fr.put dst v).tmps.length = fr.tmps.length := by
  cases dst <;> simp [Fr.put]
theorem Fr.put_inr (fr : Fr) (dst : Option Nat) (v : DV) : (fr.put dst v).inr = fr.inr := by cases dst <;> rfl
theorem Fr.put_defers (fr : Fr) (dst : Option Nat) (v : DV) : (fr.put dst v).defers = fr.defers := by cases dst <;> rfl
theorem Fr.put_same (fr : Fr) (d : Nat) (v : DV) (h : d < fr.tmps.length) : (fr.put (some d) v).tmps[d]? = some v := by
  simp [Fr.put, h]

theorem loadD_add {h : Heap} (hf : h.objs.get h.next = none) {sh : Shape} {x v : DV} (ob : HObj) (hl : loadD h sh x = some v) : loadD (h.add ob) sh x = some v := by
  cases x <;> simp only [loadD] at hl ⊢ <;> try (cases hl; done)
  case ptr id off =>
    cases hg : h.objs.get id with
    | none => rw [hg] at hl; cases hl
    | some o =>
      have hne : id ≠ h.next := fun e => by subst e; rw [hf] at hg; cases hg
      have : (h.add ob).objs.get id = h.objs.get id := by simp only [Heap.add]; exact Tr.get_set_ne _ _ hne
      rw [this]; rw [hg] at hl ⊢; exact hl
  case elt => exact hl

/-- An operation that is no effect. -/
theorem pure_cases {d : DOp} (hne : d.effect = false) {fr : Fr} {h : Heap} {r : EvR} (he : evalOp D fr h d = some r) : (∃ v, r = .val v) ∨ (∃ b mk, r = .newO b mk) ∨ ∃ sz mk, r = .newT sz mk := by
  cases r with
  | val v => exact .inl ⟨v, rfl⟩
  | newO b mk => exact .inr (.inl ⟨b, mk, rfl⟩)
  | newT sz mk => exact .inr (.inr ⟨sz, mk, rfl⟩)
  | eff v' h1 =>
    exfalso
    cases d <;> simp [DOp.effect] at hne <;> simp only [evalOp] at he
    all_goals first
      | (cases he; done)
      | (obtain ⟨_, _, h2⟩ := Option.map_eq_some_iff.1 he; cases h2; done)
      | (split at he <;> first | (cases he; done) | (obtain ⟨_, _, h2⟩ := Option.map_eq_some_iff.1 he; cases h2; done) | (split at he <;> first | (cases he; done) | (obtain ⟨_, _, h2⟩ := Option.map_eq_some_iff.1 he; cases h2; done) | (split at he <;> cases he; done)); done)
      | skip
    case conv k mu x =>
      unfold convD at he
      split at he <;> try (cases he; done)
      all_goals first
        | (obtain ⟨_, _, h2⟩ := Option.map_eq_some_iff.1 he; cases h2; done)
        | (split at he <;> first | (cases he; done) | (obtain ⟨_, _, h2⟩ := Option.map_eq_some_iff.1 he; cases h2; done) | (simp at he; split at he <;> cases he; done))
        | skip
      all_goals simp at hne
      all_goals simp [hne] at he
    case slice sz x lo hi mx =>
      unfold sliceD at he
      split at he <;> try (cases he; done)
      all_goals (split at he <;> first | (cases he; done) | (obtain ⟨_, _, h2⟩ := Option.map_eq_some_iff.1 he; cases h2; done))
  | call g as z =>
    rcases evalOp_cases he with ⟨v, h1, hst⟩ | ⟨_, _, _, f, xs, _, hop, _⟩ | ⟨_, _, _, _, _, h, _⟩ | ⟨_, _, _, _, h, _⟩
    · cases hst
    · subst hop; simp [DOp.effect] at hne
    · cases h
    · cases h
  | yield l as =>
    rcases evalOp_cases he with ⟨v, h1, hst⟩ | ⟨_, _, _, _, _, h, _⟩ | ⟨_, _, _, f, xs, _, hop, _⟩ | ⟨_, _, _, _, h, _⟩
    · cases hst
    · cases h
    · subst hop; simp [DOp.effect] at hne
    · cases h
  | defr g as =>
    rcases evalOp_cases he with ⟨v, h1, hst⟩ | ⟨_, _, _, _, _, h, _⟩ | ⟨_, _, _, _, _, h, _⟩ | ⟨_, _, _, _, _, hop⟩
    · cases hst
    · cases h
    · cases h
    · subst hop; simp [DOp.effect] at hne

def don (κ : List Nat) (listed : Array Bool) (k : Nat) : Bool := match κ[k]? with
  | some j => listed.getD j false
  | none => false

/-- What an operation that has not come yet, though ours has passed it, still finds. -/
def Owed (D : DProg) (c : Cor) (G : Heap) (ro : ROp) (fr : Fr) (h : Heap) : Prop := ∀ r, evalOp D fr h ro.op = some r →
  match r with
  | .newO b _ => c.φ h.next = none ∧ G.objs.get h.next = some b ∧ h.next < G.next
  | .newT sz _ => c.τ h.next = none ∧ G.tags.get h.next = some sz ∧ h.next < G.next
  | .val v => ∀ sh x, ro.op = .load sh x → loadD G sh (ev D fr x) = some v
  | _ => True

variable {ops : Array Oper} {bef : Array Nat} {κ : List Nat} {rops : List ROp} {F : Nat → Fr} {H : Nat → Heap}

structure Inv (CC : Code → DC → Prop) (base : Nat) (D : DProg) (ops : Array Oper) (bef : Array Nat) (κ : List Nat) (rops : List ROp) (F : Nat → Fr) (H : Nat → Heap) (r : Option Nat) (c0 : Cor) (w0 : World) (listed : Array Bool) (T : Nat) (c : Cor) (fv : Fr) (a : Act) (w : World) : Prop where
  size : listed.size = ops.size
  Tm : T ≤ ops.size
  effT : ∀ (k : Nat) (ro : ROp), rops[k]? = some ro → ro.op.effect = true → (don κ listed k = true ↔ k < T)
  ahead : ∀ k, T ≤ k → don κ listed k = false
  down : ∀ (i j a b : Nat), κ[i]? = some a → κ[j]? = some b → don κ listed j = true → ordered bef a b = true → don κ listed i = true
  out : Out CC base c0 (H 0) w0 c (H T) w
  fr : FrRel c r fv a
  inr : fv.inr = (F 0).inr
  defers : fv.defers = (F 0).defers
  len : fv.tmps.length = (F 0).tmps.length
  slots : ∀ t, ∃ p, p ≤ ops.size ∧ fv.tmps.getD t .undef = (F p).tmps.getD t .undef ∧ ∀ (k : Nat) (ro : ROp), rops[k]? = some ro → ro.dst = some t → (don κ listed k = true ↔ k < p)
  mono : ∀ i j, i ≤ j → j ≤ T → (H i).next ≤ (H j).next
  owed : ∀ (k : Nat) (ro : ROp), k < T → rops[k]? = some ro → don κ listed k = false → wantedG ro.guard (F k) = true → Owed D c (H T) ro (F k) (H k)

section
variable (hP : Plan P cfg mf D E ops bef κ rops F H)
include hP
theorem Plan.rget {k : Nat} {ro : ROp} (h : rops[k]? = some ro) : ∃ (j : Nat) (o : Oper), κ[k]? = some j ∧ ops[j]? = some o ∧ compOp P cfg mf o.op = some ro.op ∧ ro.dst = o.dst ∧ isDefr ro = false ∧ loadOk ro = true ∧
    ∀ (c : Cor) (fr : Fr) (a : Act), VRels c fr.tmps a.tmps.toList → Region.wanted o (yielded ops a.tmps) = wantedG ro.guard fr := by
  have hk := (List.getElem?_eq_some_iff.1 h).1
  rw [hP.rl] at hk
  have hj : κ[k]? = some κ[k] := List.getElem?_eq_getElem hk
  obtain ⟨ro', o, h1, h2, h3⟩ := hP.op k _ hj
  rw [h] at h1; cases h1
  exact ⟨_, o, hj, h2, h3⟩
theorem Plan.fstep {k : Nat} {ro : ROp} (h : rops[k]? = some ro) : ∃ v, F (k + 1) = (F k).put ro.dst v := by
  rcases hP.step k ro h with ⟨_, hr, _⟩ | ⟨_, hf, _⟩
  · obtain ⟨_, _, _, _, _, _, hnd, _⟩ := hP.rget h
    obtain ⟨v, hv, _⟩ := runOp_congr (fr2 := F k) (fun _ _ => rfl) rfl hnd hr
    exact ⟨v, hv⟩
  · exact ⟨_, hf⟩
theorem Plan.fkeep {t i j : Nat} (hij : i ≤ j) (hj : j ≤ ops.size) (hw : ∀ (k : Nat) (ro : ROp), i ≤ k → k < j → rops[k]? = some ro → ro.dst ≠ some t) : (F j).tmps.getD t .undef = (F i).tmps.getD t .undef := by
  induction j with
  | zero => have : i = 0 := by omega
            subst this; rfl
  | succ j ih =>
    by_cases e : i = j + 1
    · subst e; rfl
    · have hlt : j < rops.length := by rw [hP.rl, hP.κl]; omega
      obtain ⟨v, hv⟩ := hP.fstep (List.getElem?_eq_getElem hlt)
      rw [hv, Fr.put_get _ _ _ _ (hw j _ (by omega) (by omega) (List.getElem?_eq_getElem hlt))]
      exact ih (by omega) (by omega) fun k ro h1 h2 h3 => hw k ro h1 (by omega) h3
theorem Plan.fconst (j : Nat) (hj : j ≤ ops.size) : (F j).inr = (F 0).inr ∧ (F j).defers = (F 0).defers ∧ (F j).tmps.length = (F 0).tmps.length := by
  induction j with
  | zero => exact ⟨rfl, rfl, rfl⟩
  | succ j ih =>
    have hlt : j < rops.length := by rw [hP.rl, hP.κl]; omega
    obtain ⟨v, hv⟩ := hP.fstep (List.getElem?_eq_getElem hlt)
    obtain ⟨h1, h2, h3⟩ := ih (by omega)
    rw [hv, Fr.put_inr, Fr.put_defers, Fr.put_len]
    exact ⟨h1, h2, h3⟩
/-- What an operation that may come now finds in its slots. -/
theorem Plan.alike {r : Option Nat} {c0 c : Cor} {w0 w : World} {listed : Array Bool} {T : Nat} {fv : Fr} {a : Act} (hI : Inv CC base D ops bef κ rops F H r c0 w0 listed T c fv a w) {k j : Nat} {ro : ROp} (hk : κ[k]? = some j) (hro : rops[k]? = some ro)
    (hnd : don κ listed k = false) (hready : ∀ i a, κ[i]? = some a → ordered bef a j = true → don κ listed i = true) : Alike ro fv (F k) := by
  intro t ht
  obtain ⟨p, hp1, hp2, hp3⟩ := hI.slots t
  rw [hp2]
  have hkl : k < ops.size := by have := (List.getElem?_eq_some_iff.1 hk).1; rw [hP.κl] at this; exact this
  -- who writes t ahead of k has come; who writes it behind has not
  have before : ∀ (i : Nat) (ri : ROp), i < k → rops[i]? = some ri → ri.dst = some t → don κ listed i = true := fun i ri hik hri hd => by
    obtain ⟨b, o, hb, _⟩ := hP.rget hri
    exact hready i b hb ((hP.ord i k b j ri ro hik hb hk hri hro).2 (.inr (.inl ⟨t, hd, ht⟩)))
  have behind : ∀ (i : Nat) (ri : ROp), k < i → rops[i]? = some ri → ri.dst = some t → don κ listed i = false := fun i ri hki hri hd => by
    obtain ⟨b, o, hb, _⟩ := hP.rget hri
    have ho := (hP.ord k i j b ro ri hki hk hb hro hri).2 (.inr (.inr ⟨t, hd, ht⟩))
    cases hdon : don κ listed i with
    | false => rfl
    | true => have := hI.down k i j b hk hb hdon ho; rw [hnd] at this; cases this
  rcases Nat.le_total p k with h | h
  · refine (hP.fkeep h (by omega) fun i ri h1 h2 h3 h4 => ?_).symm
    have := before i ri h2 h3 h4
    have := (hp3 i ri h3 h4).1 this
    omega
  · refine hP.fkeep h hp1 fun i ri h1 h2 h3 h4 => ?_
    have hd := (hp3 i ri h3 h4).2 h2
    by_cases e : i = k
    · subst e; rw [hnd] at hd; cases hd
    · have := behind i ri (by omega) h3 h4
      rw [this] at hd; cases hd

theorem don_set {listed : Array Bool} (hs : listed.size = ops.size) {k j : Nat} (hk : κ[k]? = some j) (i : Nat) : don κ (listed.setIfInBounds j true) i = (don κ listed i || decide (i = k)) := by
  unfold don
  cases hi : κ[i]? with
  | none =>
    have : i ≠ k := fun e => by subst e; rw [hk] at hi; cases hi
    simp [this]
  | some b =>
    have hjs := hP.κs k j hk
    by_cases e : i = k
    · subst e; rw [hk] at hi; cases hi
      simp [Array.getD_eq_getD_getElem?, hs, hjs]
    · have hne : b ≠ j := fun e2 => by subst e2; exact e (hP.κi i k b hi hk)
      simp [Array.getD_eq_getD_getElem?, Array.getElem?_setIfInBounds_ne (Ne.symm hne), e]
end
end
end Go.Dm
