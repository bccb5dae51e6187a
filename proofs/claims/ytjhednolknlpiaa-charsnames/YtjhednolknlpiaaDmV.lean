/- The D-machine (22): functions. -/
import Derived.Test.YtjhednolknlpiaaDmU
namespace Go.Dm
set_option linter.unusedSimpArgs false
set_option linter.unusedVariables false
set_option linter.unnecessarySimpa false

section
variable {P : Program} {cfg : Cfg} {CC : Code → DC → Prop} {base : Nat} {D : DProg} {c : Cor} {h : Heap} {w : World}

/-- The body of a function, entered. -/
theorem body_sound {E : Ex} (hE : CodeOk P CC base D E) (hCC : ∀ mf code dc, compC P cfg mf code = some dc → CC code dc) (hD : ∀ f df, D.fn f = some df → compF P cfg f = some df) {f : Nat} {args : List DV} {d : DFunc} {fr : Fr} {h' : Heap}
    (he : bodyD D E f args h = some (d, fr, h')) {vargs : List Value} (hg : GlobOk D c) (ha : VRels c args vargs) (hS : Sim CC base c h w.heap) (k : Nat) :
    ∃ fn code, P.funcs[f]? = some fn ∧ (fn.name == "runtime.NumGoroutine") = false ∧ fn.body = some code ∧ compRes P fn.results.toList = some d.res ∧
      code.wpIn Fence.wide k P (fun e a' w' => (e = .normal ∨ e = .ret) ∧ ∃ c', Out CC base c h w c' h' w' ∧ FrRel c' none fr a') { tmps := vargs.toArray ++ Array.replicate (fn.ntmps - vargs.toArray.size) undef, defers := [] } w := by
  unfold bodyD at he
  split at he <;> try (cases he; done)
  rename_i d0 hd
  have hcf := hD f d0 hd
  unfold compF at hcf
  split at hcf <;> try (cases hcf; done)
  rename_i fn hfn
  split at hcf <;> try (cases hcf; done)
  rename_i hname
  split at hcf <;> try (cases hcf; done)
  rename_i code hcode
  split at hcf <;> try (cases hcf; done)
  rename_i b rs hb hrs
  cases hcf
  have hname' : (fn.name == "runtime.NumGoroutine") = false := by simpa using hname
  have hfr : FrRel c none { tmps := args ++ List.replicate (fn.ntmps - args.length) .undef, defers := [], inr := none } { tmps := vargs.toArray ++ Array.replicate (fn.ntmps - vargs.toArray.size) undef, defers := [] } := by
    refine ⟨?_, .nil, trivial⟩
    have hl := ha.length_eq
    have := ha.append (VRels.replicate (c := c) (x := .undef) (v := undef) .undef (fn.ntmps - args.length))
    rw [hl] at this
    simpa [hl] using this
  have main : ∀ x fr1 h1, E b { tmps := args ++ List.replicate (fn.ntmps - args.length) .undef, defers := [], inr := none } h = some (x, fr1, h1) → (x = .normal ∨ x = .ret) →
      code.wpIn Fence.wide k P (fun e a' w' => (e = .normal ∨ e = .ret) ∧ ∃ c', Out CC base c h w c' h1 w' ∧ FrRel c' none fr1 a') { tmps := vargs.toArray ++ Array.replicate (fn.ntmps - vargs.toArray.size) undef, defers := [] } w := by
    intro x fr1 h1 hex hx
    refine wpIn_mono (hE _ _ (hCC _ _ _ hb) _ _ _ _ _ hex none k c _ w hg hfr hS) ?_
    rintro e a' w' ⟨rfl, hrest⟩
    exact ⟨by rcases hx with rfl | rfl <;> simp [DX.exitOf], hrest⟩
  simp only at he
  split at he
  · rename_i fr1 h1 hex
    cases he
    exact ⟨fn, code, hfn, hname', hcode, hrs, main _ _ _ hex (.inl rfl)⟩
  · rename_i fr1 h1 hex
    cases he
    exact ⟨fn, code, hfn, hname', hcode, hrs, main _ _ _ hex (.inr rfl)⟩
  · cases he

theorem leaves_sound {E : Ex} (hE : CodeOk P CC base D E) (hCC : ∀ mf code dc, compC P cfg mf code = some dc → CC code dc) (hD : ∀ f df, D.fn f = some df → compF P cfg f = some df) {fn : Func} {tmps : Array Value} {R : Ending → World → Prop} (k : Nat) :
    ∀ (ds : List DDef) (vs : List Deferred) (c : Cor) (h h' : Heap) (w : World), leaveD ds h (callDef D E) = some h' → DefRel c ds vs → GlobOk D c → Sim CC base c h w.heap →
      (∀ c' w', Out CC base c h w c' h' w' → ∃ v, (results fn tmps).run P w' = .ok v w' ∧ R (.returned v) w') → LeavesInM Fence.wide k P fn tmps R vs .returning w := by
  intro ds
  induction ds with
  | nil =>
    intro vs c h h' w he hd hg hS hR
    cases hd
    simp only [leaveD] at he
    cases he
    exact hR c w (Out.refl hS)
  | cons d ds ih =>
    intro vs c h h' w he hd hg hS hR
    cases hd with
    | mark hφ hs =>
      rename_i id b o lim sz vs
      simp only [leaveD] at he
      split at he <;> try (cases he; done)
      rename_i hob
      obtain ⟨hb0, hob'⟩ := hS.objs id _ b o lim sz hob hφ
      have hblk : w.heap[b]? = some (.deferred (some [])) := hob'
      have hA := (hS.drop id).alter (H' := (w.putObj b (.deferred none)).heap) (b := b) (fun i hi => World.putObj_heap_other hi) World.putObj_size (hS.noObj_drop hob hφ) (hS.noTag_obj hob hφ) (fun j v hk => by rw [hS.sep id _ b o lim sz hob hφ] at hk; cases hk)
      have o1 : Out CC base c h w c (h.drop id) (w.putObj b (.deferred none)) := ⟨Cor.le.refl c, hA, ⟨by simp, fun i hi => World.putObj_heap_other (by omega), rfl, rfl, rfl⟩, Nat.le_refl _, fun i _ hn => ⟨hn, by simp only [Heap.drop]; exact Tr.get_set_ne _ _ (fun e => by subst e; rw [hφ] at hn; cases hn)⟩, fun _ _ hn => ⟨hn, rfl⟩⟩
      refine ⟨by simp, .inl ⟨b, _, rfl, run_takeDeferred hblk, ?_⟩⟩
      exact ih _ c _ _ _ he hs hg o1.sim fun c' w' o2 => hR c' w' (o1.trans o2)
    | call ha hs =>
      rename_i f args as cap vs
      simp only [leaveD] at he
      obtain ⟨h1, hdef, hrest⟩ := Option.bind_eq_some_iff.1 he
      unfold callDef at hdef
      split at hdef <;> try (cases hdef; done)
      rename_i d fr h2 hbody
      split at hdef <;> try (cases hdef; done)
      rename_i hdf
      split at hdef <;> try (cases hdef; done)
      rename_i rv hres
      cases hdef
      obtain ⟨gfn, code, g1, g2, g3, g4, hwp⟩ := body_sound (cfg := cfg) hE hCC hD hbody hg ha hS (k - 1)
      have hargs : (as.toList ++ cap.toList).toArray = as ++ cap := by apply Array.ext'; simp
      rw [hargs] at hwp
      refine ⟨by simp, .inr ⟨fun e => (by cases e), .func f, cap, f, as ++ cap, rfl, ?_, fun _ _ => trivial, ?_⟩⟩
      · simp only [invoke]
        exact run_callFunc _ _ g1 g2 (by rw [g3]; rfl)
      · have hcd := callsDIn_of_wp (F := Fence.wide) (n := k - 1) (P := P) (f := f) (fn := gfn) (c := code) (args := as ++ cap) (u := .returning) (w := w) (R := fun e w' => ∃ v c', e = .returned v ∧ Out CC base c h w c' h1 w') g1 g3 trivial (wpIn_mono hwp fun e a' w' hq => by
          obtain ⟨hx, c', o1, f1⟩ := hq
          have hds : a'.defers = [] := by
            have := f1.defers
            rw [hdf] at this
            generalize a'.defers = vs' at this
            cases this; rfl
          obtain ⟨u, hu, hur⟩ := results_sound (P := P) o1.sim f1.tmps g4 hres
          rcases hx with rfl | rfl
          · exact ⟨hds, u, hu, u, c', rfl, o1⟩
          · exact ⟨hds, u, hu, u, c', rfl, o1⟩)
        refine ⟨hcd.1, fun c0 cs hm hroom => ?_⟩
        obtain ⟨e, u', w', fr', ⟨rfl, v, c', rfl, o1⟩, hrest2⟩ := hcd.2 c0 cs hm hroom
        exact ⟨_, _, w', fr', ih _ c' _ _ _ hrest (hs.mono o1.le) (hg.mono o1.le) o1.sim fun c2 w2 o2 => hR c2 w2 (o1.trans o2), hrest2⟩

theorem call_sound {E : Ex} (hE : CodeOk P CC base D E) (hCC : ∀ mf code dc, compC P cfg mf code = some dc → CC code dc) (hD : ∀ f df, D.fn f = some df → compF P cfg f = some df)
    (hprim : CallOk P CC base D (fun f args h => (D.prim f).bind fun p => p args h)) : CallOk P CC base D (callD D E) := by
  intro f args h v h' he k c w vargs hg ha hS
  unfold callD at he
  split at he
  · rename_i p hp
    exact hprim f args h v h' (by simp [hp, he]) k c w vargs hg ha hS
  · split at he <;> try (cases he; done)
    rename_i d fr h1 hbody
    split at he <;> try (cases he; done)
    rename_i h'' hleave
    obtain ⟨vs, hvs, hv⟩ := Option.map_eq_some_iff.1 he
    cases hv
    obtain ⟨fn, code, g1, g2, g3, g4, hwp⟩ := body_sound (cfg := cfg) hE hCC hD hbody hg ha hS k
    refine ⟨fn, g1, g2, by rw [g3]; rfl, callsIn_of_wp_marks (F := Fence.wide) g1 g3 trivial (wpIn_mono hwp fun e a' w' hq => ?_)⟩
    obtain ⟨hx, c', o1, f1⟩ := hq
    have hl : LeavesInM Fence.wide k P fn a'.tmps (RetOk CC base c h w (tupD vs) h') a'.defers .returning w' := by
      refine leaves_sound (cfg := cfg) hE hCC hD k _ _ c' _ _ _ hleave f1.defers (hg.mono o1.le) o1.sim fun c2 w2 o2 => ?_
      obtain ⟨u, hu, hur⟩ := results_sound (P := P) o2.sim (f1.tmps.mono o2.le) g4 hvs
      exact ⟨u, hu, u, c2, rfl, o1.trans o2, hur⟩
    rcases hx with rfl | rfl
    · exact hl
    · exact hl
end
end Go.Dm
