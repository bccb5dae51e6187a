/- The D-machine (26): a region that draws its order: whatever the order. -/
import Derived.Test.YtjhednolknlpiaaDmY
namespace Go.Dm
set_option linter.unusedSimpArgs false
set_option linter.unusedVariables false
set_option linter.unnecessarySimpa false

section
variable {P : Program} {cfg : Cfg} {mf : Bool} {CC : Code → DC → Prop} {base : Nat} {D : DProg} {E : Ex}
variable {ops : Array Oper} {bef : Array Nat} {κ : List Nat} {rops : List ROp} {F : Nat → Fr} {H : Nat → Heap}
variable {r : Option Nat} {c0 : Cor} {w0 : World}

theorem Out.add {c : Cor} {h : Heap} {w : World} (hS : Sim CC base c h w.heap) (ob : HObj) : Out CC base c h w c (h.add ob) w :=
  ⟨Cor.le.refl c, hS.add ob, Keeps.refl w, Nat.le_succ _, fun i hi hn => ⟨hn, by simp only [Heap.add]; exact Tr.get_set_ne _ _ (by omega)⟩, fun _ _ hn => ⟨hn, rfl⟩⟩
theorem Out.addTag {c : Cor} {h : Heap} {w : World} (hS : Sim CC base c h w.heap) (sz : Nat) : Out CC base c h w c (h.addTag sz) w :=
  ⟨Cor.le.refl c, hS.addTag sz, Keeps.refl w, Nat.le_succ _, fun _ _ hn => ⟨hn, rfl⟩, fun i hi hn => ⟨hn, by simp only [Heap.addTag]; exact Tr.get_set_ne _ _ (by omega)⟩⟩
theorem Owed.add {c : Cor} {G h : Heap} {ro : ROp} {fr : Fr} (ho : Owed D c G ro fr h) (hf : G.objs.get G.next = none) (ob : HObj) : Owed D c (G.add ob) ro fr h := by
  intro r hr
  have := ho r hr
  cases r with
  | val v => exact fun sh x e => loadD_add hf ob (this sh x e)
  | newO b mk => exact ⟨this.1, by simp only [Heap.add]; rw [Tr.get_set_ne _ _ (by omega)]; exact this.2.1, Nat.lt_succ_of_lt this.2.2⟩
  | newT sz mk => exact ⟨this.1, this.2.1, Nat.lt_succ_of_lt this.2.2⟩
  | eff _ _ => trivial
  | call _ _ _ => trivial
  | yield _ _ => trivial
  | defr _ _ => trivial
theorem Owed.addTag {c : Cor} {G h : Heap} {ro : ROp} {fr : Fr} (ho : Owed D c G ro fr h) (n : Nat) : Owed D c (G.addTag n) ro fr h := by
  intro r hr
  have := ho r hr
  cases r with
  | val v => exact this
  | newO b mk => exact ⟨this.1, this.2.1, Nat.lt_succ_of_lt this.2.2⟩
  | newT sz mk => exact ⟨this.1, by simp only [Heap.addTag]; rw [Tr.get_set_ne _ _ (by omega)]; exact this.2.1, Nat.lt_succ_of_lt this.2.2⟩
  | eff _ _ => trivial
  | call _ _ _ => trivial
  | yield _ _ => trivial
  | defr _ _ => trivial

theorem advance (hP : Plan P cfg mf D E ops bef κ rops F H) {listed : Array Bool} {c : Cor} {fv : Fr} {a : Act} {w : World} : ∀ (n T : Nat), ops.size - T = n → Inv CC base D ops bef κ rops F H r c0 w0 listed T c fv a w →
    ∃ T', T ≤ T' ∧ Inv CC base D ops bef κ rops F H r c0 w0 listed T' c fv a w ∧ ∀ ro, rops[T']? = some ro → ro.op.effect = true := by
  intro n
  induction n with
  | zero =>
    intro T hn hI
    refine ⟨T, Nat.le_refl _, hI, fun ro hro => ?_⟩
    have := (List.getElem?_eq_some_iff.1 hro).1
    rw [hP.rl, hP.κl] at this
    omega
  | succ n ih =>
    intro T hn hI
    have hlt : T < rops.length := by rw [hP.rl, hP.κl]; omega
    have hro : rops[T]? = some rops[T] := List.getElem?_eq_getElem hlt
    generalize rops[T] = ro at hro
    cases heff : ro.op.effect with
    | true => exact ⟨T, Nat.le_refl _, hI, fun ro' h' => by rw [hro] at h'; cases h'; exact heff⟩
    | false =>
      have hS := hI.out.sim
      -- what the step lays
      have key : Out CC base c (H T) w c (H (T + 1)) w ∧ (∀ (k : Nat) (rk : ROp), Owed D c (H T) rk (F k) (H k) → Owed D c (H (T + 1)) rk (F k) (H k)) ∧ (wantedG ro.guard (F T) = true → Owed D c (H (T + 1)) ro (F T) (H T)) := by
        rcases hP.step T ro hro with ⟨hw, hrun, _⟩ | ⟨hw, _, hH⟩
        · unfold runOp at hrun
          cases hev : evalOp D (F T) (H T) ro.op with
          | none => rw [hev] at hrun; cases hrun
          | some r0 =>
            rw [hev] at hrun
            rcases pure_cases heff hev with ⟨v, rfl⟩ | ⟨b, mk, rfl⟩ | ⟨sz, mk, rfl⟩
            · simp only [Option.some.injEq, Prod.mk.injEq] at hrun
              obtain ⟨_, hH⟩ := hrun
              rw [← hH]
              refine ⟨Out.refl hS, fun _ _ h => h, fun _ r1 hr1 => ?_⟩
              rw [hev] at hr1; cases hr1
              intro sh x e
              rw [e] at hev
              simp only [evalOp] at hev
              obtain ⟨y, h1, h2⟩ := Option.map_eq_some_iff.1 hev
              cases h2; exact h1
            · simp only [Option.some.injEq, Prod.mk.injEq] at hrun
              obtain ⟨_, hH⟩ := hrun
              rw [← hH]
              refine ⟨Out.add hS b, fun _ _ h => h.add (hS.fresh _ (Nat.le_refl _)).1 b, fun _ r1 hr1 => ?_⟩
              rw [hev] at hr1; cases hr1
              exact ⟨hS.φnext, by simp only [Heap.add]; exact Tr.get_set_same _ _ _, Nat.lt_succ_self _⟩
            · simp only [Option.some.injEq, Prod.mk.injEq] at hrun
              obtain ⟨_, hH⟩ := hrun
              rw [← hH]
              refine ⟨Out.addTag hS sz, fun _ _ h => h.addTag sz, fun _ r1 hr1 => ?_⟩
              rw [hev] at hr1; cases hr1
              exact ⟨hS.τnext, by simp only [Heap.addTag]; exact Tr.get_set_same _ _ _, Nat.lt_succ_self _⟩
        · rw [hH]
          exact ⟨Out.refl hS, fun _ _ h => h, fun hw' => by rw [hw] at hw'; cases hw'⟩
      obtain ⟨k1, k2, k3⟩ := key
      have hI' : Inv CC base D ops bef κ rops F H r c0 w0 listed (T + 1) c fv a w := by
        refine { size := hI.size, Tm := by omega, effT := fun k rk hk he => ?_, ahead := fun k hk => hI.ahead k (by omega), down := hI.down, out := hI.out.trans k1, fr := hI.fr, inr := hI.inr, defers := hI.defers, len := hI.len, slots := hI.slots, mono := fun i j hij hj => ?_, owed := fun k rk hk hrk hd hw => ?_ }
        · have hne : k ≠ T := fun e => by subst e; rw [hro] at hk; cases hk; rw [heff] at he; cases he
          rw [hI.effT k rk hk he]
          omega
        · by_cases e : j = T + 1
          · subst e
            by_cases e2 : i = T + 1
            · subst e2; exact Nat.le_refl _
            · exact Nat.le_trans (hI.mono i T (by omega) (Nat.le_refl _)) k1.next
          · exact hI.mono i j hij (by omega)
        · by_cases e : k = T
          · subst e; rw [hro] at hrk; cases hrk; exact k3 hw
          · exact k2 k rk (hI.owed k rk (by omega) hrk hd hw)
      obtain ⟨T', h1, h2, h3⟩ := ih (T + 1) (by omega) hI'
      exact ⟨T', by omega, h2, h3⟩

/-- One operation has come: what of the invariant turns by itself. -/
theorem inv_step (hP : Plan P cfg mf D E ops bef κ rops F H) {listed : Array Bool} {T : Nat} {c : Cor} {fv : Fr} {a : Act} {w : World} (hI : Inv CC base D ops bef κ rops F H r c0 w0 listed T c fv a w)
    {k j : Nat} {ro : ROp} (hk : κ[k]? = some j) (hro : rops[k]? = some ro) (hnd : don κ listed k = false) (hready : ∀ i a, κ[i]? = some a → ordered bef a j = true → don κ listed i = true) {v : DV} (hF : F (k + 1) = (F k).put ro.dst v)
    {T' : Nat} (hT : (k < T ∧ T' = T ∧ ro.op.effect = false) ∨ (k = T ∧ T' = T + 1)) {c' : Cor} {a' : Act} {w' : World} (hout : Out CC base c0 (H 0) w0 c' (H T') w') (hfr : FrRel c' r (fv.put ro.dst v) a')
    (hmono : ∀ i j, i ≤ j → j ≤ T' → (H i).next ≤ (H j).next)
    (howed : ∀ (k' : Nat) (rk : ROp), k' < T' → k' ≠ k → rops[k']? = some rk → don κ listed k' = false → wantedG rk.guard (F k') = true → Owed D c' (H T') rk (F k') (H k')) :
    Inv CC base D ops bef κ rops F H r c0 w0 (listed.setIfInBounds j true) T' c' (fv.put ro.dst v) a' w' := by
  have hset := don_set hP hI.size hk
  have hkl : k < ops.size := by have := (List.getElem?_eq_some_iff.1 hk).1; rw [hP.κl] at this; exact this
  have hslots := hP.alike hI hk hro hnd hready
  refine { size := by simp [hI.size], Tm := by have := hI.Tm; omega, effT := fun k' rk hrk he => ?_, ahead := fun k' hk' => ?_, down := fun i j' x y hi hj' hd ho => ?_, out := hout, fr := hfr, inr := by rw [Fr.put_inr]; exact hI.inr, defers := by rw [Fr.put_defers]; exact hI.defers,
           len := by rw [Fr.put_len]; exact hI.len, slots := fun t => ?_, mono := hmono, owed := fun k' rk hk' hrk hd hw => ?_ }
  · rw [hset, Bool.or_eq_true, hI.effT k' rk hrk he, decide_eq_true_eq]
    rcases hT with ⟨h1, rfl, h2⟩ | ⟨h1, rfl⟩
    · constructor
      · rintro (h | rfl)
        · exact h
        · exact h1
      · exact .inl
    · omega
  · rw [hset, hI.ahead k' (by omega)]
    simp; omega
  · rw [hset, Bool.or_eq_true, decide_eq_true_eq] at hd ⊢
    rcases hd with hd | rfl
    · exact .inl (hI.down i j' x y hi hj' hd ho)
    · rw [hk] at hj'; cases hj'
      exact .inl (hready i x hi ho)
  · by_cases ht : ro.dst = some t
    · refine ⟨k + 1, by omega, ?_, fun k' rk hrk hd => ?_⟩
      · rw [hF, ht]
        have hl1 := hI.len
        have hl2 := (hP.fconst k (by omega)).2.2
        by_cases hlt : t < fv.tmps.length
        · rw [List.getD_eq_getElem?_getD, List.getD_eq_getElem?_getD, Fr.put_same _ _ _ hlt, Fr.put_same _ _ _ (by omega)]
        · rw [List.getD_eq_getElem?_getD, List.getD_eq_getElem?_getD, List.getElem?_eq_none (by rw [Fr.put_len]; omega), List.getElem?_eq_none (by rw [Fr.put_len]; omega)]
      · rw [hset, Bool.or_eq_true, decide_eq_true_eq]
        obtain ⟨b, o, hb, _⟩ := hP.rget hrk
        have hts : t ∈ ro.slots := by simp [ROp.slots, ht]
        rcases Nat.lt_trichotomy k' k with hlt | heq | hgt
        · have := hready k' b hb ((hP.ord k' k b j rk ro hlt hb hk hrk hro).2 (.inr (.inl ⟨t, hd, hts⟩)))
          simp [this]; omega
        · subst heq; simp
        · have ho := (hP.ord k k' j b ro rk hgt hk hb hro hrk).2 (.inr (.inr ⟨t, hd, hts⟩))
          have : don κ listed k' = false := by
            cases hdon : don κ listed k' with
            | false => rfl
            | true => have := hI.down k k' j b hk hb hdon ho; rw [hnd] at this; cases this
          simp [this]; omega
    · obtain ⟨p, p1, p2, p3⟩ := hI.slots t
      refine ⟨p, p1, by rw [Fr.put_get _ _ _ _ ht]; exact p2, fun k' rk hrk hd => ?_⟩
      have hne : k' ≠ k := fun e => by subst e; rw [hro] at hrk; cases hrk; exact ht hd
      rw [hset, p3 k' rk hrk hd |> Bool.eq_iff_iff.2 ∘ fun h => (by simpa using h : don κ listed k' = true ↔ decide (k' < p) = true)]
      simp [hne]
  · rw [hset, Bool.or_eq_false_iff] at hd
    exact howed k' rk hk' (by simpa using hd.2) hrk hd.1 hw
end
end Go.Dm
