/- The D-machine (24): what is known of a region in our order. -/
import Derived.Test.YtjhednolknlpiaaDmW
namespace Go.Dm
set_option linter.unusedSimpArgs false
set_option linter.unusedVariables false
set_option linter.unnecessarySimpa false

section
variable {P : Program} {cfg : Cfg} {mf : Bool}

theorem compRops_spec {ops : Array Oper} : ∀ (l : List Oper) (rs : List ROp), compRops P cfg mf ops l = some rs → rs.length = l.length ∧ ∀ (j : Nat) (ro : ROp), rs[j]? = some ro → ∃ o, l[j]? = some o ∧ compRop P cfg mf ops o = some ro
  | [], rs, h => by simp [compRops] at h; subst h; simp
  | o :: l, rs, h => by
    simp only [compRops] at h
    split at h <;> try (cases h; done)
    rename_i ro ros h1 h2
    cases h
    obtain ⟨h3, h4⟩ := compRops_spec l ros h2
    refine ⟨by simp [h3], fun j r hj => ?_⟩
    cases j with
    | zero => simp at hj; subst hj; exact ⟨o, rfl, h1⟩
    | succ j => simpa using h4 j r (by simpa using hj)

/-! ### the program's order, closed -/
def befG (acc : Array Nat) (o : Oper) : Nat := o.after.foldl (fun s e => if Region.binds .any e then s ||| 2 ^ e.on ||| acc.getD e.on 0 else s) 0
theorem befG_bit (acc : Array Nat) (i : Nat) : ∀ (es : List Edge) (s : Nat), (es.foldl (fun s e => if Region.binds .any e then s ||| 2 ^ e.on ||| acc.getD e.on 0 else s) s).testBit i = true →
    s.testBit i = true ∨ ∃ e ∈ es, Region.binds .any e = true ∧ (i = e.on ∨ (acc.getD e.on 0).testBit i = true)
  | [], s, h => .inl h
  | e :: es, s, h => by
    simp only [List.foldl_cons] at h
    rcases befG_bit acc i es _ h with h1 | ⟨e', he', h2⟩
    · split at h1
      · rename_i hb
        simp only [Nat.testBit_or, Bool.or_eq_true, Nat.testBit_two_pow, decide_eq_true_eq] at h1
        rcases h1 with (h1 | h1) | h1
        · exact .inl h1
        · exact .inr ⟨e, by simp, hb, .inl h1.symm⟩
        · exact .inr ⟨e, by simp, hb, .inr h1⟩
      · exact .inl h1
    · exact .inr ⟨e', by simp [he'], h2⟩
theorem befFold (l : List Oper) : ∀ (acc : Array Nat), (∀ j, j < acc.size → True) → (l.foldl (fun acc o => acc.push (befG acc o)) acc).size = acc.size + l.length ∧ (∀ j, j < acc.size → (l.foldl (fun acc o => acc.push (befG acc o)) acc)[j]? = acc[j]?) ∧
    ∀ (j : Nat) (o : Oper), l[j]? = some o → ∃ pre : Array Nat, pre.size = acc.size + j ∧ (∀ i, i < pre.size → (l.foldl (fun acc o => acc.push (befG acc o)) acc)[i]? = pre[i]?) ∧ (l.foldl (fun acc o => acc.push (befG acc o)) acc)[acc.size + j]? = some (befG pre o) := by
  induction l with
  | nil => intro acc _; simp
  | cons o l ih =>
    intro acc hacc
    obtain ⟨h1, h2, h3⟩ := ih (acc.push (befG acc o)) fun _ _ => trivial
    simp only [List.foldl_cons]
    refine ⟨by rw [h1]; simp; omega, fun j hj => ?_, fun j o' hj => ?_⟩
    · rw [h2 j (by simp; omega), Array.getElem?_push]
      simp [Nat.ne_of_lt hj]
    · cases j with
      | zero =>
        simp at hj; subst hj
        refine ⟨acc, rfl, fun i hi => ?_, ?_⟩
        · rw [h2 i (by simp; omega), Array.getElem?_push]
          simp [Nat.ne_of_lt hi]
        · rw [Nat.add_zero, h2 acc.size (by simp)]
          simp
      | succ j =>
        obtain ⟨pre, p1, p2, p3⟩ := h3 j o' (by simpa using hj)
        refine ⟨pre, by rw [p1]; simp; omega, p2, ?_⟩
        rw [show acc.size + (j + 1) = (acc.push (befG acc o)).size + j by simp; omega]
        exact p3
theorem before_spec (ops : Array Oper) (j : Nat) (o : Oper) (hj : ops[j]? = some o) (hed : ∀ e ∈ o.after, Region.binds .any e = true → e.on < j) (i : Nat) (hi : ordered (Region.before ops) i j = true) :
    ∃ e ∈ o.after, Region.binds .any e = true ∧ (i = e.on ∨ ordered (Region.before ops) i e.on = true) := by
  have hB : Region.before ops = ops.toList.foldl (fun acc o => acc.push (befG acc o)) #[] := by
    unfold Region.before
    rw [← Array.foldl_toList]
    rfl
  obtain ⟨_, _, h3⟩ := befFold ops.toList #[] fun _ _ => trivial
  obtain ⟨pre, p1, p2, p3⟩ := h3 j o (by simpa using hj)
  rw [← hB] at p2 p3
  simp only [Array.size_empty, Nat.zero_add] at p1 p3
  have hbit : (befG pre o).testBit i = true := by
    unfold ordered at hi
    rw [Array.getD_eq_getD_getElem?, p3] at hi
    exact hi
  unfold befG at hbit
  rw [← Array.foldl_toList] at hbit
  rcases befG_bit pre i _ _ hbit with h | ⟨e, he, hb, h⟩
  · simp at h
  · refine ⟨e, by simpa using he, hb, ?_⟩
    rcases h with h | h
    · exact .inl h
    · right
      have hlt := hed e (by simpa using he) hb
      unfold ordered
      rw [Array.getD_eq_getD_getElem?, p2 e.on (by omega), ← Array.getD_eq_getD_getElem?]
      exact h
theorem edgesOk_spec {ops : Array Oper} (h : edgesOk ops = true) (j : Nat) (o : Oper) (hj : ops[j]? = some o) (e : Edge) (he : e ∈ o.after) (hb : Region.binds .any e = true) : e.on < j := by
  unfold edgesOk at h
  rw [List.all_eq_true] at h
  have := h (o, j) (by
    rw [List.mem_zipIdx_iff_getElem?]
    simpa using hj)
  simp only [Array.all_eq_true_iff_forall_mem] at this
  have := this e he
  simpa [hb] using this

/-! ### what is laid -/
theorem lay_spec {ra : Array ROp} {bef : Array Nat} : ∀ (κ done : List Nat) (rops : List ROp), lay ra bef done κ = some rops → rops.length = κ.length ∧
    ∀ (k j : Nat), κ[k]? = some j → ∃ ro x, ra[j]? = some ro ∧ rops[k]? = some { ro with chk := x } ∧ (ro.op.effect = true → chkOf ra bef j ro.dst.toList ((κ.take k).reverse ++ done) = some x)
  | [], done, rops, h => by simp [lay] at h; subst h; simp
  | i :: κ, done, rops, h => by
    simp only [lay] at h
    split at h <;> try (cases h; done)
    rename_i ro hro
    split at h <;> try (cases h; done)
    rename_i x os hx hos
    cases h
    obtain ⟨h1, h2⟩ := lay_spec κ (i :: done) os hos
    refine ⟨by simp [h1], fun k j hk => ?_⟩
    cases k with
    | zero =>
      simp at hk; subst hk
      refine ⟨ro, x, hro, rfl, fun heff => ?_⟩
      rw [if_pos heff] at hx
      simpa using hx
    | succ k =>
      obtain ⟨ro', x', a1, a2, a3⟩ := h2 k j (by simpa using hk)
      exact ⟨ro', x', a1, by simpa using a2, fun heff => by simpa using a3 heff⟩
theorem chkOf_spec {ra : Array ROp} {bef : Array Nat} {j : Nat} : ∀ (l ws : List Nat) (x : List (Opd × Shape × Nat × Option (Nat × Bool))), chkOf ra bef j ws l = some x → ∀ (n i : Nat) (a : ROp) (e : Opd × Shape × Nat × Option (Nat × Bool)), l[n]? = some i → ra[i]? = some a → a.load? = some e →
    ordered bef i j = true ∨ (e ∈ x ∧ (∀ t ∈ ws, t ∉ a.slots) ∧ ∀ (n' i' : Nat) (a' : ROp), n' < n → l[n']? = some i' → ra[i']? = some a' → ∀ t, a'.dst = some t → t ∉ a.slots)
  | [], ws, x, h, n, i, a, e, hn, _, _ => by simp at hn
  | i0 :: l, ws, x, h, n, i, a, e, hn, ha, he => by
    simp only [chkOf] at h
    split at h <;> try (cases h; done)
    rename_i a0 ha0
    split at h <;> try (cases h; done)
    rename_i x0 hx0
    have hsub : ∀ y ∈ x0, y ∈ x := by
      split at h
      · split at h
        · cases h; exact fun y hy => hy
        · split at h <;> cases h
          exact fun y hy => by simp [hy]
      · cases h; exact fun y hy => hy
    cases n with
    | zero =>
      simp at hn; subst hn
      rw [ha0] at ha; cases ha
      rw [he] at h
      simp only at h
      split at h
      · exact .inl ‹_›
      · split at h
        · cases h
        · rename_i hno
          cases h
          right
          refine ⟨by simp, fun t ht hts => ?_, fun n' _ _ hn' => absurd hn' (Nat.not_lt_zero _)⟩
          apply hno
          rw [List.any_eq_true]
          exact ⟨t, ht, by simpa using hts⟩
    | succ n =>
      rcases chkOf_spec l _ x0 hx0 n i a e (by simpa using hn) ha he with h1 | ⟨h1, h2, h3⟩
      · exact .inl h1
      · right
        refine ⟨hsub _ h1, fun t ht => h2 t (by simp [ht]), fun n' i' a' hn' hi' ha' t ht => ?_⟩
        cases n' with
        | zero =>
          simp at hi'; subst hi'
          rw [ha0] at ha'; cases ha'
          exact h2 t (by simp [ht])
        | succ n' => exact h3 n' i' a' (by omega) (by simpa using hi') ha' t ht
theorem pairsOk_spec {ra : Array ROp} {bef : Array Nat} : ∀ (κ : List Nat), pairsOk ra bef κ = true → ∀ (i k a b : Nat), i < k → κ[i]? = some a → κ[k]? = some b → pairOk ra bef a b = true
  | [], _, i, k, a, b, _, h1, _ => by simp at h1
  | x :: κ, h, i, k, a, b, hik, h1, h2 => by
    simp only [pairsOk, Bool.and_eq_true, List.all_eq_true] at h
    cases k with
    | zero => omega
    | succ k =>
      cases i with
      | zero =>
        simp at h1; subst h1
        exact h.1 b (List.mem_of_getElem? (by simpa using h2))
      | succ i => exact pairsOk_spec κ h.2 i k a b (by omega) (by simpa using h1) (by simpa using h2)

variable {D : DProg} {E : Ex}
/-- All that is known of a region's operations in our order, and of their run. -/
structure Plan (P : Program) (cfg : Cfg) (mf : Bool) (D : DProg) (E : Ex) (ops : Array Oper) (bef : Array Nat) (κ : List Nat) (rops : List ROp) (F : Nat → Fr) (H : Nat → Heap) : Prop where
  κl : κ.length = ops.size
  κs : ∀ (k j : Nat), κ[k]? = some j → j < ops.size
  κi : ∀ (k k' j : Nat), κ[k]? = some j → κ[k']? = some j → k = k'
  κe : ∀ (j : Nat), j < ops.size → ∃ k : Nat, κ[k]? = some j
  rl : rops.length = κ.length
  op : ∀ (k j : Nat), κ[k]? = some j → ∃ ro o, rops[k]? = some ro ∧ ops[j]? = some o ∧ compOp P cfg mf o.op = some ro.op ∧ ro.dst = o.dst ∧ isDefr ro = false ∧ loadOk ro = true ∧
    ∀ (c : Cor) (fr : Fr) (a : Act), VRels c fr.tmps a.tmps.toList → Region.wanted o (yielded ops a.tmps) = wantedG ro.guard fr
  /-- what must come ahead -/
  ord : ∀ (i k a b : Nat) (ri rk : ROp), i < k → κ[i]? = some a → κ[k]? = some b → rops[i]? = some ri → rops[k]? = some rk → ordered bef b a = false ∧ ((ri.op.effect = true ∨ (∃ t, ri.dst = some t ∧ t ∈ rk.slots) ∨ ∃ t, rk.dst = some t ∧ t ∈ ri.slots) → ordered bef a b = true)
  ready : ∀ (j : Nat) (o : Oper) (i : Nat), ops[j]? = some o → ordered bef i j = true → ∃ e ∈ o.after, Region.binds .any e = true ∧ (i = e.on ∨ ordered bef i e.on = true)
  edge : ∀ (j : Nat) (o : Oper) (e : Edge), ops[j]? = some o → e ∈ o.after → Region.binds .any e = true → e.on < j
  chk : ∀ (i k a b : Nat) (ri rk : ROp) (e : Opd × Shape × Nat × Option (Nat × Bool)), i < k → κ[i]? = some a → κ[k]? = some b → rops[i]? = some ri → rops[k]? = some rk → rk.op.effect = true → ri.load? = some e →
    ordered bef a b = true ∨ (e ∈ rk.chk ∧ ∀ (l : Nat) (rl : ROp) (t : Nat), i < l → l ≤ k → rops[l]? = some rl → rl.dst = some t → t ∉ ri.slots)
  step : ∀ (k : Nat) (ro : ROp), rops[k]? = some ro → StepAt D E ro (F k) (H k) (F (k + 1)) (H (k + 1))

theorem slotConf_chk (a b : ROp) (x y : List (Opd × Shape × Nat × Option (Nat × Bool))) : slotConf { a with chk := x } { b with chk := y } = slotConf a b := rfl

theorem plan_of {ops : Array Oper} {rops : List ROp} (hc : compRegion P cfg mf ops true = some rops) {fr fr' : Fr} {h h' : Heap} (he : runOps D E rops fr h = some (fr', h')) :
    ∃ (κ : List Nat) (F : Nat → Fr) (H : Nat → Heap), F 0 = fr ∧ H 0 = h ∧ F ops.size = fr' ∧ H ops.size = h' ∧ Plan P cfg mf D E ops (Region.before ops) κ rops F H := by
  unfold compRegion at hc
  split at hc <;> try (cases hc; done)
  rename_i rs hrs
  simp only [Bool.true_eq_false, if_false] at hc
  split at hc
  case isFalse => cases hc
  rename_i hcond
  obtain ⟨c1, c2, c3, c4, c5, c6, c7⟩ := hcond
  obtain ⟨s1, s2⟩ := compRops_spec _ _ hrs
  obtain ⟨l1, l2⟩ := lay_spec _ _ _ hc
  generalize canonGo ops (effAt rs.toArray) ops.size [] = κ at *
  obtain ⟨F, H, f0, h0, fm, hm, hstep⟩ := trace_of rops fr h fr' h' he
  rw [List.all_eq_true] at c2 c3 c7
  have hκ : ∀ (k j : Nat), κ[k]? = some j → ∃ ro0 x o, rs[j]? = some ro0 ∧ rops[k]? = some { ro0 with chk := x } ∧ ops[j]? = some o ∧ compRop P cfg mf ops o = some ro0 ∧ (ro0.op.effect = true → chkOf rs.toArray (Region.before ops) j ro0.dst.toList (κ.take k).reverse = some x) := by
    intro k j hk
    obtain ⟨ro0, x, a1, a2, a3⟩ := l2 k j hk
    have a1' : rs[j]? = some ro0 := by simpa using a1
    obtain ⟨o, b1, b2⟩ := s2 j ro0 a1'
    exact ⟨ro0, x, o, a1', a2, by simpa using b1, b2, fun heff => by simpa using a3 heff⟩
  refine ⟨κ, F, H, f0, h0, by rw [← fm, l1, c1], by rw [← hm, l1, c1], ?_⟩
  refine { κl := c1, κs := ?_, κi := ?_, κe := ?_, rl := l1, op := ?_, ord := ?_, ready := ?_, edge := ?_, chk := ?_, step := hstep }
  · intro k j hk
    simpa using c2 j (List.mem_of_getElem? hk)
  · intro k k' j hk hk'
    obtain ⟨q1, q2⟩ := List.getElem?_eq_some_iff.1 hk
    obtain ⟨q3, q4⟩ := List.getElem?_eq_some_iff.1 hk'
    have hp := List.pairwise_iff_getElem.1 c4
    rcases Nat.lt_trichotomy k k' with hlt | heq | hgt
    · exact absurd (q2.trans q4.symm) (hp k k' q1 q3 hlt)
    · exact heq
    · exact absurd (q4.trans q2.symm) (hp k' k q3 q1 hgt)
  · intro j hj
    have := c3 j (by simpa using hj)
    simp only [List.contains_eq_mem, decide_eq_true_eq] at this
    obtain ⟨k, hk⟩ := List.mem_iff_getElem?.1 this
    exact ⟨k, hk⟩
  · intro k j hk
    obtain ⟨ro0, x, o, a1, a2, a3, a4, a5⟩ := hκ k j hk
    obtain ⟨q1, q2, q3, q4⟩ := rop_some a4
    have hcl := c7 ro0 (List.mem_of_getElem? a1)
    simp only [Bool.and_eq_true, Bool.not_eq_true'] at hcl
    exact ⟨_, o, a2, a3, q1, q2, hcl.1, hcl.2, fun c fr a hv => wanted_rel a4 hv⟩
  · intro i k a b ri rk hik hi hk hri hrk
    obtain ⟨ro1, x1, o1, a1, a2, a3, a4, a5⟩ := hκ i a hi
    obtain ⟨ro2, x2, o2, b1, b2, b3, b4, b5⟩ := hκ k b hk
    rw [hri] at a2; cases a2
    rw [hrk] at b2; cases b2
    have hp := pairsOk_spec _ c5 i k a b hik hi hk
    have a1' : rs.toArray[a]? = some ro1 := by simpa using a1
    have b1' : rs.toArray[b]? = some ro2 := by simpa using b1
    simp only [pairOk, a1', b1', Bool.and_eq_true, Bool.not_eq_true', Bool.or_eq_true] at hp
    refine ⟨hp.1, fun hh => ?_⟩
    rcases hp.2 with h1 | h1
    · exfalso
      have h1' : (ro1.op.effect || slotConf ro1 ro2) = false := h1
      simp only [Bool.or_eq_false_iff, slotConf] at h1'
      obtain ⟨h2, h3, h4⟩ := h1'
      rcases hh with hh | ⟨t, ht, hts⟩ | ⟨t, ht, hts⟩
      · have : ro1.op.effect = true := hh
        rw [h2] at this; cases this
      · have ht' : ro1.dst = some t := ht
        rw [ht'] at h3
        simp only [writesIn, List.contains_eq_mem, decide_eq_false_iff_not] at h3
        exact h3 hts
      · have ht' : ro2.dst = some t := ht
        rw [ht'] at h4
        simp only [writesIn, List.contains_eq_mem, decide_eq_false_iff_not] at h4
        exact h4 hts
    · exact h1
  · intro j o i hj hi
    exact before_spec ops j o hj (fun e he hb => edgesOk_spec c6 j o hj e he hb) i hi
  · intro j o e hj he hb
    exact edgesOk_spec c6 j o hj e he hb
  · intro i k a b ri rk e hik hi hk hri hrk heff hload
    obtain ⟨ro1, x1, o1, a1, a2, a3, a4, a5⟩ := hκ i a hi
    obtain ⟨ro2, x2, o2, b1, b2, b3, b4, b5⟩ := hκ k b hk
    rw [hri] at a2; cases a2
    rw [hrk] at b2; cases b2
    have hki := (List.getElem?_eq_some_iff.1 hi).1
    have hkl := (List.getElem?_eq_some_iff.1 hk).1
    have hrev : ∀ l : Nat, l < k → (κ.take k).reverse[k - 1 - l]? = κ[l]? := fun l hl => by
      rw [List.getElem?_reverse (by simp; omega)]
      have : (κ.take k).length - 1 - (k - 1 - l) = l := by simp; omega
      rw [this, List.getElem?_take, if_pos hl]
    rcases chkOf_spec _ _ _ (b5 heff) (k - 1 - i) a ro1 e (by rw [hrev i hik]; exact hi) (by simpa using a1) hload with h1 | ⟨h1, h2, h3⟩
    · exact .inl h1
    · refine .inr ⟨h1, fun l rl t hil hlk hrl ht => ?_⟩
      by_cases hlk' : l = k
      · subst hlk'
        rw [hrk] at hrl; cases hrl
        have ht' : ro2.dst = some t := ht
        exact h2 t (by simp [ht'])
      · have hll : l < κ.length := by omega
        obtain ⟨ro3, x3, o3, d1, d2, d3, d4, d5⟩ := hκ l κ[l] (List.getElem?_eq_getElem hll)
        rw [hrl] at d2; cases d2
        exact h3 (k - 1 - l) κ[l] ro3 (by omega) (by rw [hrev l (by omega)]; exact List.getElem?_eq_getElem hll) (by simpa using d1) t ht
end
end Go.Dm
