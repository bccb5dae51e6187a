/- The D-machine (27): every region; every code. -/
import Derived.Test.YtjhednolknlpiaaDmZ
import Derived.Sort.LoopGhostIn
namespace Go.Dm
set_option linter.unusedSimpArgs false
set_option linter.unusedVariables false
set_option linter.unnecessarySimpa false

section
variable {P : Program} {cfg : Cfg} {mf : Bool} {CC : Code → DC → Prop} {base : Nat} {D : DProg} {E : Ex}
variable {ops : Array Oper} {bef : Array Nat} {κ : List Nat} {rops : List ROp} {F : Nat → Fr} {H : Nat → Heap}
variable {r : Option Nat} {c0 : Cor} {w0 : World}

theorem list_ext_getD {x y : List DV} (hl : x.length = y.length) (h : ∀ t, x.getD t .undef = y.getD t .undef) : x = y := by
  apply List.ext_getElem hl
  intro i h1 h2
  have := h i
  rw [List.getD_eq_getElem?_getD, List.getD_eq_getElem?_getD, List.getElem?_eq_getElem h1, List.getElem?_eq_getElem h2] at this
  exact this

theorem owed_chk (hP : Plan P cfg mf D E ops bef κ rops F H) {listed : Array Bool} {T : Nat} {c : Cor} {fv : Fr} {a : Act} {w : World} (hI : Inv CC base D ops bef κ rops F H r c0 w0 listed T c fv a w) {j : Nat} {ro : ROp} (hk : κ[T]? = some j) (hro : rops[T]? = some ro) (heff : ro.op.effect = true)
    (hck : chkOk D (F (T + 1)) (H (T + 1)) ro.chk = true) (hready : ∀ i a, κ[i]? = some a → ordered bef a j = true → don κ listed i = true) {k' : Nat} {rk : ROp} (hk' : k' < T) (hrk : rops[k']? = some rk) (hd : don κ listed k' = false) (hw : wantedG rk.guard (F k') = true)
    {sh : Shape} {x : Opd} {v : DV} (hop : rk.op = .load sh x) (hev : evalOp D (F k') (H k') rk.op = some (.val v)) : loadD (H (T + 1)) sh (ev D (F k') x) = some v := by
  obtain ⟨b, o, hb, _, _, _, hnd, hld, _⟩ := hP.rget hrk
  have hTl : T < ops.size := by have := (List.getElem?_eq_some_iff.1 hk).1; rw [hP.κl] at this; exact this
  have hld2 : ∃ d, rk.dst = some d ∧ x.slot? ≠ some d ∧ rk.guard.map (·.1) ≠ some d := by
    unfold loadOk at hld
    rw [hop] at hld
    simp only at hld
    split at hld
    · rename_i d hd
      simp only [Bool.and_eq_true, decide_eq_true_eq] at hld
      exact ⟨d, hd, hld.1, hld.2⟩
    · cases hld
  obtain ⟨d, hdst, hdx1, hdx2⟩ := hld2
  have hload : rk.load? = some (x, sh, d, rk.guard) := by simp [ROp.load?, hop, hdst]
  rcases hP.chk k' T b j rk ro _ hk' hb hk hrk hro heff hload with h | ⟨hmem, hno⟩
  · have := hready k' b hb h
    rw [hd] at this; cases this
  · -- its slots are as they were
    have hkeep : ∀ t ∈ rk.slots, ∀ i, k' + 1 ≤ i → i ≤ T + 1 → (F i).tmps.getD t .undef = (F (k' + 1)).tmps.getD t .undef := fun t ht i h1 h2 =>
      hP.fkeep h1 (by omega) fun l rl hl1 hl2 hrl hld => hno l rl t (by omega) (by omega) hrl hld ht
    have hstep := hP.step k' rk hrk
    rcases hstep with ⟨_, hrun, _⟩ | ⟨hw', _, _⟩
    case inr => rw [hw] at hw'; cases hw'
    have hF : F (k' + 1) = (F k').put rk.dst v := by
      unfold runOp at hrun
      rw [hev] at hrun
      simp only [Option.some.injEq, Prod.mk.injEq] at hrun
      exact hrun.1.symm
    have hmem2 := hck
    unfold chkOk at hmem2
    rw [List.all_eq_true] at hmem2
    have hent := hmem2 _ hmem
    simp only at hent
    have hdm : d ∈ rk.slots := by simp [ROp.slots, hdst]
    have hx : ev D (F (T + 1)) x = ev D (F k') x := ev_congr fun t ht => by
      have hne : t ≠ d := fun e => hdx1 (by rw [ht, e])
      rw [hkeep t (by simp only [ROp.slots, List.mem_append, List.mem_filterMap]; exact .inl (.inr ⟨x, by simp [hop, DOp.opds], ht⟩)) (T + 1) (by omega) (by omega), hF, hdst, Fr.put_get _ _ _ _ (by simpa using Ne.symm hne)]
    have hg : wantedG rk.guard (F (T + 1)) = wantedG rk.guard (F k') := by
      cases hgd : rk.guard with
      | none => rfl
      | some g =>
        obtain ⟨t, bb⟩ := g
        have hne : t ≠ d := fun e => hdx2 (by simp [hgd, e])
        have := hkeep t (by simp [ROp.slots, hgd]) (T + 1) (by omega) (by omega)
        rw [hF, hdst, Fr.put_get _ _ _ _ (by simpa using Ne.symm hne)] at this
        simp only [wantedG, this]
    rw [hg, hw] at hent
    simp only [Bool.not_true, Bool.false_or] at hent
    rw [hx] at hent
    split at hent
    · rename_i v1 u1 hv1 hu1
      have hbe := DV.eq_of_beq _ _ hent
      subst hbe
      rw [hv1]
      have h3 := hkeep d hdm (T + 1) (by omega) (by omega)
      rw [List.getD_eq_getElem?_getD, hu1, hF, hdst] at h3
      have hlt : d < (F k').tmps.length := by
        have h4 := (List.getElem?_eq_some_iff.1 hu1).1
        rw [(hP.fconst (T + 1) (by omega)).2.2] at h4
        rw [(hP.fconst k' (by omega)).2.2]
        exact h4
      rw [List.getD_eq_getElem?_getD, Fr.put_same _ _ _ hlt] at h3
      simpa using h3
    · cases hent

/-- What one operation lays is no other's. -/
theorem owed_other (hP : Plan P cfg mf D E ops bef κ rops F H) {listed : Array Bool} {T : Nat} {c c' : Cor} {fv : Fr} {a : Act} {w : World} (hI : Inv CC base D ops bef κ rops F H r c0 w0 listed T c fv a w) {k k' : Nat} {rk : ROp} {hk1 : Heap}
    (q6 : ∀ i, i ≠ (H k).next → c'.φ i = c.φ i ∧ c'.τ i = c.τ i) (hnext : hk1 = H (k + 1)) (h1 : k' < T) (hkT : k < T) (h2 : k' ≠ k) (h3 : rops[k']? = some rk) (h4 : don κ listed k' = false) (h5 : wantedG rk.guard (F k') = true) (hlt : (H k).next < hk1.next) : Owed D c' (H T) rk (F k') (H k') := by
  subst hnext
  have hold := hI.owed k' rk h1 h3 h4 h5
  intro r1 hr1
  have := hold r1 hr1
  -- if it lays something, it lays it elsewhere
  have hne : (∃ b mk, r1 = .newO b mk) ∨ (∃ sz mk, r1 = .newT sz mk) → (H k').next ≠ (H k).next := fun hl => by
    rcases Nat.lt_or_gt_of_ne h2 with hlt' | hgt
    · have hstep : (H k').next < (H (k' + 1)).next := by
        rcases hP.step k' rk h3 with ⟨_, hrun, _⟩ | ⟨hw', _, _⟩
        · unfold runOp at hrun
          rw [hr1] at hrun
          rcases hl with ⟨b, mk, rfl⟩ | ⟨sz, mk, rfl⟩
          · simp only [Option.some.injEq, Prod.mk.injEq] at hrun
            rw [← hrun.2]; exact Nat.lt_succ_self _
          · simp only [Option.some.injEq, Prod.mk.injEq] at hrun
            rw [← hrun.2]; exact Nat.lt_succ_self _
        · rw [h5] at hw'; cases hw'
      have := hI.mono (k' + 1) k (by omega) (by omega)
      omega
    · have := hI.mono (k + 1) k' (by omega) (by omega)
      omega
  cases r1 with
  | val v => exact this
  | newO b mk => exact ⟨by rw [(q6 _ (hne (.inl ⟨b, mk, rfl⟩))).1]; exact this.1, this.2⟩
  | newT sz mk => exact ⟨by rw [(q6 _ (hne (.inr ⟨sz, mk, rfl⟩))).2]; exact this.1, this.2⟩
  | eff _ _ => trivial
  | call _ _ _ => trivial
  | yield _ _ => trivial
  | defr _ _ => trivial

theorem any_sound (hP : Plan P cfg mf D E ops bef κ rops F H) (hCall : CallOk P CC base D (callD D E)) (hCode : CodeOk P CC base D E) (hg : GlobOk D c0) (hS0 : Sim CC base c0 (H 0) w0.heap) {n : Nat} {Q : Exit → Act → World → Prop}
    (hQ : ∀ a' w' c', Out CC base c0 (H 0) w0 c' (H ops.size) w' → FrRel c' r (F ops.size) a' → Q .normal a' w') :
    ∀ (fuel : Nat) (listed : Array Bool) (T : Nat) (c : Cor) (fv : Fr) (a : Act) (w : World), und listed.toList ≤ fuel → Inv CC base D ops bef κ rops F H r c0 w0 listed T c fv a w → (∀ ro, rops[T]? = some ro → ro.op.effect = true) →
      wpAnyIn (FF r) n P .any ops Q fuel listed a w := by
  -- all have come
  have last : ∀ (listed : Array Bool) (T : Nat) (c : Cor) (fv : Fr) (a : Act) (w : World), Inv CC base D ops bef κ rops F H r c0 w0 listed T c fv a w → (∀ ro, rops[T]? = some ro → ro.op.effect = true) → (∀ j, j < ops.size → listed.getD j false = true) → Q .normal a w := by
    intro listed T c fv a w hI hT hall
    have hdon : ∀ k, k < ops.size → don κ listed k = true := fun k hk => by
      have hk' : k < κ.length := by rw [hP.κl]; exact hk
      have := List.getElem?_eq_getElem hk'
      unfold don
      rw [this]
      exact hall _ (hP.κs k _ this)
    have hTm : T = ops.size := by
      by_cases h : T < ops.size
      · have := hI.ahead T (Nat.le_refl _)
        rw [hdon T h] at this; cases this
      · have := hI.Tm; omega
    subst hTm
    have hc := hP.fconst ops.size (Nat.le_refl _)
    have hfv : fv = F ops.size := by
      have ht : fv.tmps = (F ops.size).tmps := by
        refine list_ext_getD (by rw [hI.len, hc.2.2]) fun t => ?_
        obtain ⟨p, p1, p2, p3⟩ := hI.slots t
        rw [p2]
        refine (hP.fkeep p1 (Nat.le_refl _) fun k ro h1 h2 h3 h4 => ?_).symm
        have := (p3 k ro h3 h4).1 (hdon k h2)
        omega
      have h1 : fv.inr = (F ops.size).inr := hI.inr.trans hc.1.symm
      have h2 : fv.defers = (F ops.size).defers := hI.defers.trans hc.2.1.symm
      cases fv with
      | mk t d i =>
        cases hF : F ops.size with
        | mk t' d' i' =>
          rw [hF] at ht h1 h2
          simp only at ht h1 h2
          rw [ht, h1, h2]
    rw [hfv] at hI
    exact hQ a w c hI.out hI.fr
  -- nothing may come: all have
  have over : ∀ (listed : Array Bool), listed.size = ops.size → Region.ready .any ops listed = [] → ∀ j, j < ops.size → listed.getD j false = true := by
    intro listed hsz hnil j
    induction j using Nat.strongRecOn with
    | ind j ih =>
      intro hj
      cases hd : listed.getD j false with
      | true => rfl
      | false =>
        exfalso
        have hjm : j ∈ Region.ready .any ops listed := by
          rw [mem_ready]
          refine ⟨?_, ops[j], Array.getElem?_eq_getElem hj, fun e he hb => ?_⟩
          · have h1 : listed[j]? = some listed[j] := Array.getElem?_eq_getElem (by omega)
            rw [Array.getD_eq_getD_getElem?, h1] at hd ⊢
            simpa using hd
          · have := hP.edge j _ e (Array.getElem?_eq_getElem hj) he hb
            exact ih e.on this (by omega)
        rw [hnil] at hjm; cases hjm
  intro fuel
  induction fuel with
  | zero =>
    intro listed T c fv a w hu hI hT
    have hall : ∀ j, j < ops.size → listed.getD j false = true := fun j hj => by
      have := und_zero listed.toList (by omega) j (by simpa [hI.size] using hj)
      rw [Array.getD_eq_getD_getElem?]
      have h2 : listed[j]? = some true := by simpa using this
      rw [h2]; rfl
    refine ⟨?_, last listed T c fv a w hI hT hall⟩
    cases hr : Region.ready .any ops listed with
    | nil => rfl
    | cons j l =>
      exfalso
      have hj : j ∈ Region.ready .any ops listed := by rw [hr]; simp
      obtain ⟨h1, o, ho, _⟩ := mem_ready.1 hj
      have hjs := (Array.getElem?_eq_some_iff.1 ho).1
      have h2 := hall j hjs
      have hjl : j < listed.size := by rw [hI.size]; exact hjs
      have h3 : listed[j]? = some listed[j] := Array.getElem?_eq_getElem hjl
      rw [Array.getD_eq_getD_getElem?, h3] at h1 h2
      simp only [Option.getD_some] at h1 h2
      rw [h1] at h2; cases h2
  | succ fuel ih =>
    intro listed T c fv a w hu hI hT
    refine ⟨fun hnil => last listed T c fv a w hI hT (over listed hI.size hnil), fun j hj => ?_⟩
    obtain ⟨hun, o, ho, hedges⟩ := mem_ready.1 hj
    have hjs := (Array.getElem?_eq_some_iff.1 ho).1
    obtain ⟨k, hk⟩ := hP.κe j hjs
    obtain ⟨ro, o', hro, ho', hcomp, hdst, hndf, hld, hwant⟩ := hP.op k j hk
    rw [ho] at ho'; cases ho'
    have hlj : listed[j]? = some false := by
      have hjl : j < listed.size := by rw [hI.size]; exact hjs
      have h3 : listed[j]? = some listed[j] := Array.getElem?_eq_getElem hjl
      rw [Array.getD_eq_getD_getElem?, h3] at hun
      simp only [Option.getD_some] at hun
      rw [h3, hun]
    have hnd : don κ listed k = false := by
      unfold don
      rw [hk]
      simp only
      rw [Array.getD_eq_getD_getElem?, hlj]; rfl
    have hundone : und (listed.setIfInBounds j true).toList ≤ fuel := by
      have := und_set listed.toList j (by simpa using hlj)
      rw [Array.toList_setIfInBounds]
      omega
    -- what must come ahead has come
    have hdone : ∀ x, x < ops.size → listed.getD x false = true → ∀ i, κ[i]? = some x → don κ listed i = true := fun x _ hx i hi => by
      unfold don; rw [hi]; exact hx
    have hready : ∀ i x, κ[i]? = some x → ordered bef x j = true → don κ listed i = true := fun i x hi hox => by
      obtain ⟨e, he, hb, hcase⟩ := hP.ready j o x ho hox
      have hon := hP.edge j o e ho he hb
      have hlist := hedges e he hb
      rcases hcase with rfl | hcase
      · exact hdone _ (by omega) hlist i hi
      · obtain ⟨ke, hke⟩ := hP.κe e.on (by omega)
        exact hI.down i ke x e.on hi hke (hdone _ (by omega) hlist ke hke) hcase
    -- it is no later than the next effect
    have hkl : k < ops.size := by have := (List.getElem?_eq_some_iff.1 hk).1; rw [hP.κl] at this; exact this
    have hkT : k ≤ T := by
      by_cases h : k ≤ T
      · exact h
      · exfalso
        have hTl : T < rops.length := by rw [hP.rl, hP.κl]; omega
        have hrT : rops[T]? = some rops[T] := List.getElem?_eq_getElem hTl
        obtain ⟨b, oT, hb, _⟩ := hP.rget hrT
        have := hready T b hb ((hP.ord T k b j _ ro (by omega) hb hk hrT hro).2 (.inl (hT _ hrT)))
        rw [hI.ahead T (Nat.le_refl _)] at this; cases this
    have hal := hP.alike hI hk hro hnd hready
    have hinr : fv.inr = (F k).inr := hI.inr.trans (hP.fconst k (by omega)).1.symm
    have hstep := hP.step k ro hro
    -- behind it
    have go : ∀ {v : DV} {T' : Nat} {c' : Cor} {a' : Act} {w' : World}, F (k + 1) = (F k).put ro.dst v → ((k < T ∧ T' = T ∧ ro.op.effect = false) ∨ (k = T ∧ T' = T + 1)) → Out CC base c0 (H 0) w0 c' (H T') w' → FrRel c' r (fv.put ro.dst v) a' →
        (∀ i j, i ≤ j → j ≤ T' → (H i).next ≤ (H j).next) →
        (∀ (k' : Nat) (rk : ROp), k' < T' → k' ≠ k → rops[k']? = some rk → don κ listed k' = false → wantedG rk.guard (F k') = true → Owed D c' (H T') rk (F k') (H k')) →
        wpAnyIn (FF r) n P .any ops Q fuel (listed.setIfInBounds j true) a' w' := by
      intro v T' c' a' w' h1 h2 h3 h4 h5 h6
      have hI' := inv_step hP hI hk hro hnd hready h1 h2 h3 h4 h5 h6
      obtain ⟨T2, _, hI2, hT2⟩ := advance hP _ T' rfl hI'
      exact ih _ T2 _ _ _ _ hundone hI2 hT2
    have hgc : GlobOk D c := hg.mono hI.out.le
    unfold wpOpIn
    rw [ho]
    simp only
    rw [hwant c fv a hI.fr.tmps, hal.wanted]
    by_cases hkT' : k < T
    · -- ours has passed it: it is no effect
      have heff : ro.op.effect = false := by
        cases he : ro.op.effect with
        | false => rfl
        | true => have := (hI.effT k ro hro he).2 hkT'; rw [hnd] at this; cases this
      rcases hstep with ⟨hw, hrun, _⟩ | ⟨hw, hF, hH⟩
      · rw [if_pos hw]
        have hrun2 := hrun
        unfold runOp at hrun2
        cases hev : evalOp D (F k) (H k) ro.op with
        | none => rw [hev] at hrun2; cases hrun2
        | some r0 =>
          rw [hev] at hrun2
          have hev' : evalOp D fv (H k) ro.op = some r0 := by rw [hal.evalOp hinr]; exact hev
          have howe := hI.owed k ro hkT' hro hnd hw r0 hev
          have hsem : o.semAt (FF r).round a.eval = execOp a.eval o := semAt_of fun cl e => by
            exfalso
            rw [e] at hcomp
            simp only [compOp] at hcomp
            split at hcomp <;> try (cases hcomp; done)
            split at hcomp <;> try (cases hcomp; done)
            have := Option.some.inj hcomp
            rw [← this] at heff
            simp [DOp.effect] at heff
          refine ⟨fun _ _ => trivial, ?_⟩
          rw [hsem]
          rcases pure_cases heff hev with ⟨v, rfl⟩ | ⟨b, mk, rfl⟩ | ⟨sz, mk, rfl⟩
          · simp only [Option.some.injEq, Prod.mk.injEq] at hrun2
            obtain ⟨v', w', q1, q2, q3⟩ := val_sound (h := H k) (G := H T) w hcomp hgc hI.fr.tmps hI.out.sim heff hev' fun sh x e => by
              have := howe sh x e
              rwa [← ev_congr fun t ht => hal t (by simp only [ROp.slots, List.mem_append, List.mem_filterMap]; exact .inl (.inr ⟨x, by rw [e]; simp [DOp.opds], ht⟩))] at this
            rw [q1, Oper.uponIn_value, ← hdst]
            have hq := Out.quiet hI.out.sim q3
            exact go hrun2.1.symm (.inl ⟨hkT', rfl, heff⟩) (hI.out.trans hq) (hI.fr.put _ q2) hI.mono fun k' rk h1 h2 h3 h4 h5 => hI.owed k' rk h1 h3 h4 h5
          · simp only [Option.some.injEq, Prod.mk.injEq] at hrun2
            have h2le : 2 ≤ (H k).next := Nat.le_trans hS0.next (hI.mono 0 k (Nat.zero_le _) hkT)
            obtain ⟨v', w', c', q1, q2, q3, q4, q5, q6⟩ := new_sound (id := (H k).next) (G := H T) (v := mk (H k).next) w hcomp hgc hI.fr.tmps hI.out.sim heff hev' howe.2.2 h2le ⟨rfl, howe.1, howe.2.1⟩
            rw [q1, Oper.uponIn_value, ← hdst]
            have h0k : (H 0).next ≤ (H k).next := hI.mono 0 k (Nat.zero_le _) hkT
            have hout : Out CC base c0 (H 0) w0 c' (H T) w' := ⟨hI.out.le.trans q2, q3, hI.out.keeps.trans q5, hI.out.next,
              fun i hi hn => ⟨by rw [(q6 i (by omega)).1]; exact (hI.out.extφ i hi hn).1, (hI.out.extφ i hi hn).2⟩, fun i hi hn => ⟨by rw [(q6 i (by omega)).2]; exact (hI.out.extτ i hi hn).1, (hI.out.extτ i hi hn).2⟩⟩
            exact go hrun2.1.symm (.inl ⟨hkT', rfl, heff⟩) hout ((hI.fr.mono q2).put _ q4) hI.mono fun k' rk h1 h2 h3 h4 h5 => owed_other hP hI q6 hrun2.2 h1 hkT' h2 h3 h4 h5 (Nat.lt_succ_self _)
          · simp only [Option.some.injEq, Prod.mk.injEq] at hrun2
            have h2le : 2 ≤ (H k).next := Nat.le_trans hS0.next (hI.mono 0 k (Nat.zero_le _) hkT)
            obtain ⟨v', w', c', q1, q2, q3, q4, q5, q6⟩ := new_sound (id := (H k).next) (G := H T) (v := mk (H k).next) w hcomp hgc hI.fr.tmps hI.out.sim heff hev' howe.2.2 h2le ⟨rfl, howe.1, howe.2.1⟩
            rw [q1, Oper.uponIn_value, ← hdst]
            have h0k : (H 0).next ≤ (H k).next := hI.mono 0 k (Nat.zero_le _) hkT
            have hout : Out CC base c0 (H 0) w0 c' (H T) w' := ⟨hI.out.le.trans q2, q3, hI.out.keeps.trans q5, hI.out.next,
              fun i hi hn => ⟨by rw [(q6 i (by omega)).1]; exact (hI.out.extφ i hi hn).1, (hI.out.extφ i hi hn).2⟩, fun i hi hn => ⟨by rw [(q6 i (by omega)).2]; exact (hI.out.extτ i hi hn).1, (hI.out.extτ i hi hn).2⟩⟩
            exact go hrun2.1.symm (.inl ⟨hkT', rfl, heff⟩) hout ((hI.fr.mono q2).put _ q4) hI.mono fun k' rk h1 h2 h3 h4 h5 => owed_other hP hI q6 hrun2.2 h1 hkT' h2 h3 h4 h5 (Nat.lt_succ_self _)
      · rw [if_neg (by rw [hw]; simp), ← hdst]
        exact ⟨fun _ _ => trivial, go hF (.inl ⟨hkT', rfl, heff⟩) hI.out (hI.fr.put _ .undef) hI.mono fun k' rk h1 h2 h3 h4 h5 => hI.owed k' rk h1 h3 h4 h5⟩
    · -- it is the next effect
      have hkT2 : k = T := by omega
      subst hkT2
      have heff := hT ro hro
      rcases hstep with ⟨hw, hrun, hck⟩ | ⟨hw, hF, hH⟩
      · rw [if_pos hw]
        obtain ⟨v, hv1, hv2⟩ := runOp_congr (fr2 := fv) (fun t ht => (hal t ht).symm) hinr.symm hndf hrun
        refine op_sound hCall hCode hcomp hdst hv2 hgc hI.fr hI.out.sim fun a' w' c' o1 f1 => ?_
        refine go hv1 (.inr ⟨rfl, rfl⟩) (hI.out.trans o1) f1 (fun i j' hij hj' => ?_) fun k' rk h1 h2 h3 h4 h5 => ?_
        · by_cases e : j' = k + 1
          · subst e
            by_cases e2 : i = k + 1
            · subst e2; exact Nat.le_refl _
            · exact Nat.le_trans (hI.mono i k (by omega) (Nat.le_refl _)) o1.next
          · exact hI.mono i j' hij (by omega)
        · have hlt : k' < k := by omega
          have hold := hI.owed k' rk hlt h3 h4 h5
          intro r1 hr1
          have := hold r1 hr1
          cases r1 with
          | val v1 => exact fun sh x e => owed_chk hP hI hk hro heff hck hready hlt h3 h4 h5 e hr1
          | newO b mk => 
            have hx := o1.extφ _ this.2.2 this.1
            exact ⟨hx.1, hx.2.trans this.2.1, Nat.lt_of_lt_of_le this.2.2 o1.next⟩
          | newT sz mk =>
            have hx := o1.extτ _ this.2.2 this.1
            exact ⟨hx.1, hx.2.trans this.2.1, Nat.lt_of_lt_of_le this.2.2 o1.next⟩
          | eff _ _ => trivial
          | call _ _ _ => trivial
          | yield _ _ => trivial
          | defr _ _ => trivial
      · rw [if_neg (by rw [hw]; simp), ← hdst]
        refine ⟨fun _ _ => trivial, go hF (.inr ⟨rfl, rfl⟩) (by rw [hH]; exact hI.out) (hI.fr.put _ .undef) (fun i j' hij hj' => ?_) fun k' rk h1 h2 h3 h4 h5 => by rw [hH]; exact hI.owed k' rk (by omega) h3 h4 h5⟩
        by_cases e : j' = k + 1
        · subst e
          rw [hH]
          by_cases e2 : i = k + 1
          · subst e2; rw [hH]; exact Nat.le_refl _
          · exact hI.mono i k (by omega) (Nat.le_refl _)
        · exact hI.mono i j' hij (by omega)

/-- **A region, drawn or not.** -/
theorem region_sound (hm : P.follows .mixedOrders = true) (hCall : CallOk P CC base D (callD D E)) (hCode : CodeOk P CC base D E) {id : Nat} {ops : Array Oper} {draw : Bool} {rops : List ROp} (hc : compRegion P cfg mf ops draw = some rops) {fr fr' : Fr} {h h' : Heap} (he : runOps D E rops fr h = some (fr', h'))
    {k : Nat} {c : Cor} {a : Act} {w : World} (hg : GlobOk D c) (hfr : FrRel c r fr a) (hS : Sim CC base c h w.heap) :
    (Code.region id ops draw).wpIn (FF r) k P (fun e a' w' => e = .normal ∧ ∃ c', Out CC base c h w c' h' w' ∧ FrRel c' r fr' a') a w := by
  cases draw with
  | false =>
    have hrs : compRops P cfg mf ops ops.toList = some rops := by
      unfold compRegion at hc
      split at hc <;> try (cases hc; done)
      rename_i rs hrs
      simp only [if_true] at hc
      cases hc
      exact hrs
    exact wpIn_region_list (seq_sound hCall hCode ops.toList rops c fr h a w hrs he hg hfr hS fun a' w' c' o1 f1 => ⟨rfl, c', o1, f1⟩)
  | true =>
    obtain ⟨κ, F, H, f0, h0, fm, hm', hP⟩ := plan_of hc he
    refine wpIn_region_any hm ?_
    let w1 : World := { w with drawn := w.drawn + 1 }
    have hS1 : Sim CC base c (H 0) w1.heap := by rw [h0]; exact hS
    have hd0 : ∀ k, don κ (Array.replicate ops.size false) k = false := fun k => by
      unfold don
      split
      · rename_i j _
        rw [Array.getD_eq_getD_getElem?]
        cases hx : (Array.replicate ops.size false)[j]? with
        | none => rfl
        | some b => simp [Array.getElem?_replicate] at hx; simp [← hx.2]
      · rfl
    have hI : Inv CC base D ops (Region.before ops) κ rops F H r c w1 (Array.replicate ops.size false) 0 c fr a w1 := by
      have hdown : ∀ (i j a b : Nat), κ[i]? = some a → κ[j]? = some b → don κ (Array.replicate ops.size false) j = true → ordered (Region.before ops) a b = true → don κ (Array.replicate ops.size false) i = true := fun i j a b _ _ hd _ => by
        rw [hd0] at hd; cases hd
      refine { size := by simp, Tm := Nat.zero_le _, effT := fun k ro _ _ => by simp [hd0], ahead := fun k _ => hd0 k, down := hdown, out := ?_, fr := hfr, inr := by rw [f0], defers := by rw [f0], len := by rw [f0], slots := fun t => ⟨0, Nat.zero_le _, by rw [f0], fun k ro _ _ => by simp [hd0]⟩,
               mono := fun i j h1 h2 => ?_, owed := fun k ro h => absurd h (Nat.not_lt_zero _) }
      · exact Out.refl hS1
      have : i = j := by omega
      subst this; exact Nat.le_refl _
    obtain ⟨T, _, hI2, hT⟩ := advance hP _ 0 rfl hI
    have hdraw : Out CC base c h w c h w1 := Out.drew hS _
    refine any_sound hP hCall hCode hg hS1 (fun a' w' c' o1 f1 => ⟨rfl, c', ?_, ?_⟩) ops.size _ T c fr a w1 (by rw [Array.toList_replicate, und_replicate]; exact Nat.le_refl _) hI2 hT
    · rw [h0, hm'] at o1
      exact hdraw.trans o1
    · rw [fm] at f1; exact f1

/-- **Whatever code ours runs, the model runs to the same end.** -/
theorem code_sound (hm : P.follows .mixedOrders = true) (hCC : CC = fun code dc => ∃ mf, compC P cfg mf code = some dc) (hD : ∀ f df, D.fn f = some df → compF P cfg f = some df)
    (hprim : CallOk P CC base D (fun f args h => (D.prim f).bind fun p => p args h)) : ∀ n, CodeOk P CC base D (exec D n) := by
  intro n
  induction n using Nat.strongRecOn with
  | ind n IH =>
    cases n with
    | zero => intro code dc _ fr h x fr' h' he; cases he
    | succ n =>
    have ih := IH n (Nat.lt_succ_self _)
    have hCall := call_sound (cfg := cfg) ih (fun mf code dc h => by rw [hCC]; exact ⟨mf, h⟩) hD hprim
    intro code dc hcc fr h x fr' h' he r k c a w hg hfr hS
    rw [hCC] at hcc
    obtain ⟨mf, hcomp⟩ := hcc
    have mk : ∀ {c1 d1}, compC P cfg mf c1 = some d1 → CC c1 d1 := fun h => by rw [hCC]; exact ⟨mf, h⟩
    have he' : stepD D (exec D n) dc fr h = some (x, fr', h') := he
    cases code <;> simp only [compC] at hcomp <;> try (cases hcomp; done)
    case skip =>
      cases hcomp
      simp only [stepD] at he'; cases he'
      exact wpIn_skip ⟨rfl, c, Out.refl hS, hfr⟩
    case region id ops draw =>
      obtain ⟨rops, hr, rfl⟩ := Option.map_eq_some_iff.1 hcomp
      simp only [stepD] at he'
      obtain ⟨⟨f1, h1⟩, hrun, hx⟩ := Option.map_eq_some_iff.1 he'
      cases hx
      exact region_sound (cfg := cfg) hm hCall ih hr hrun hg hfr hS
    case seq x1 y1 =>
      split at hcomp <;> try (cases hcomp; done)
      rename_i dx dy h1 h2
      cases hcomp
      simp only [stepD] at he'
      split at he'
      · rename_i fr1 hh1 hx1
        refine wpIn_seq (wpIn_mono (ih _ _ (mk h1) _ _ _ _ _ hx1 r k c a w hg hfr hS) ?_)
        rintro e a1 w1 ⟨rfl, c1, o1, f1⟩
        refine wpIn_mono (ih _ _ (mk h2) _ _ _ _ _ he' r k c1 a1 w1 (hg.mono o1.le) f1 o1.sim) ?_
        rintro e a2 w2 ⟨rfl, c2, o2, f2⟩
        exact ⟨rfl, c2, o1.trans o2, f2⟩
      · rename_i hne
        refine wpIn_seq (wpIn_mono (ih _ _ (mk h1) _ _ _ _ _ he' r k c a w hg hfr hS) ?_)
        rintro e a1 w1 ⟨rfl, hrest⟩
        cases x with
        | normal => exact absurd he' (hne _ _)
        | exit id => exact ⟨rfl, hrest⟩
        | ret => exact ⟨rfl, hrest⟩
    case cond cc x1 y1 =>
      split at hcomp <;> try (cases hcomp; done)
      rename_i dc dx dy h0 h1 h2
      cases hcomp
      have hv := opd_rel hg hfr.tmps h0
      simp only [stepD] at he'
      split at he' <;> try (cases he'; done)
      · rename_i hb
        rw [hb] at hv
        exact wpIn_cond_true hv.bool_inv (ih _ _ (mk h1) _ _ _ _ _ he' r k c a w hg hfr hS)
      · rename_i hb
        rw [hb] at hv
        exact wpIn_cond_false hv.bool_inv (ih _ _ (mk h2) _ _ _ _ _ he' r k c a w hg hfr hS)
    case block id b =>
      obtain ⟨db, hb, rfl⟩ := Option.map_eq_some_iff.1 hcomp
      simp only [stepD] at he'
      refine wpIn_block ?_
      split at he'
      · rename_i i fr1 hh1 hx1
        refine wpIn_mono (ih _ _ (mk hb) _ _ _ _ _ hx1 r k c a w hg hfr hS) ?_
        rintro e a1 w1 ⟨rfl, hrest⟩
        split at he' <;> cases he'
        · rename_i hid
          subst hid
          show Exit.inBlock i _ (.exit i) a1 w1
          simp only [Exit.inBlock, if_true]
          exact ⟨rfl, hrest⟩
        · rename_i hid
          show Exit.inBlock id _ (.exit i) a1 w1
          simp only [Exit.inBlock, hid, if_false]
          exact ⟨rfl, hrest⟩
      · rename_i hne
        refine wpIn_mono (ih _ _ (mk hb) _ _ _ _ _ he' r k c a w hg hfr hS) ?_
        rintro e a1 w1 ⟨rfl, hrest⟩
        cases x with
        | normal => exact ⟨rfl, hrest⟩
        | exit i => exact absurd he' (hne _ _ _)
        | ret => exact ⟨rfl, hrest⟩
    case loop b =>
      obtain ⟨db, hb, rfl⟩ := Option.map_eq_some_iff.1 hcomp
      let I : Nat → Act → World → Prop := fun m a1 w1 => m ≤ n + 1 ∧ ∃ c1 fr1 h1, exec D m (.loop db) fr1 h1 = some (x, fr', h') ∧ Out CC base c h w c1 h1 w1 ∧ FrRel c1 r fr1 a1
      refine wpIn_loop_ghost I (n + 1) ⟨Nat.le_refl _, c, fr, h, he, Out.refl hS, hfr⟩ ?_
      rintro m a1 w1 ⟨hmle, c1, fr1, h1, hex, o1, f1⟩
      cases m with
      | zero => cases hex
      | succ m =>
        have hbody := IH m (by omega)
        have hex' : stepD D (exec D m) (.loop db) fr1 h1 = some (x, fr', h') := hex
        simp only [stepD] at hex'
        split at hex'
        · rename_i fr2 hh2 hx1
          refine wpIn_mono (hbody _ _ (mk hb) _ _ _ _ _ hx1 r k c1 a1 w1 (hg.mono o1.le) f1 o1.sim) ?_
          rintro e a2 w2 ⟨rfl, c2, o2, f2⟩
          exact ⟨m, by omega, by omega, c2, fr2, hh2, hex', o1.trans o2, f2⟩
        · rename_i hne
          refine wpIn_mono (hbody _ _ (mk hb) _ _ _ _ _ hex' r k c1 a1 w1 (hg.mono o1.le) f1 o1.sim) ?_
          rintro e a2 w2 ⟨rfl, c2, o2, f2⟩
          cases x with
          | normal => exact absurd hex' (hne _ _)
          | exit id => exact ⟨rfl, c2, o1.trans o2, f2⟩
          | ret => exact ⟨rfl, c2, o1.trans o2, f2⟩
    case rangeFunc f ps asg body =>
      split at hcomp <;> try (cases hcomp; done)
      rename_i df dasg dbody h0 h1 h2
      cases hcomp
      simp only [stepD] at he'
      exact range_sound hCall h0 (mk h1) (mk h2) he' hg hfr hS
    case exit id =>
      cases hcomp
      simp only [stepD] at he'; cases he'
      exact wpIn_exit ⟨rfl, c, Out.refl hS, hfr⟩
    case ret =>
      cases hcomp
      simp only [stepD] at he'; cases he'
      exact wpIn_ret ⟨rfl, c, Out.refl hS, hfr⟩
end
end Go.Dm
