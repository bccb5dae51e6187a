/- The D-machine (29): steps for runs over variables. -/
import Derived.Test.YtjhednolknlpiaaDoorDmWp
namespace Go.Dm
set_option linter.unusedSimpArgs false
set_option linter.unusedVariables false
set_option linter.unnecessarySimpa false

/-- A guarded operation's value. -/
def cnd (c : Bool) (v : DV) : DV := bif c then v else .undef
theorem cnd_true (v : DV) : cnd true v = v := rfl
theorem cnd_false (v : DV) : cnd false v = .undef := rfl
section
variable {D : DProg} {os : List ROp} {fr : Fr} {h h1 : Heap} {K : Fr → Heap → Prop}
theorem WpOps.pure {dst : Option Nat} {op : DOp} {v : DV} (he : evalOp D fr h op = some (.val v)) (hk : WpOps D os (fr.put dst v) h K) : WpOps D (⟨dst, op, none, []⟩ :: os) fr h K := WpOps.op rfl he rfl rfl hk
theorem WpOps.new {dst : Option Nat} {op : DOp} {b : HObj} {mk : Nat → DV} (he : evalOp D fr h op = some (.newO b mk)) (hk : WpOps D os (fr.put dst (mk h.next)) (h.add b) K) : WpOps D (⟨dst, op, none, []⟩ :: os) fr h K := WpOps.op rfl he rfl rfl hk
theorem WpOps.tag {dst : Option Nat} {op : DOp} {sz : Nat} {mk : Nat → DV} (he : evalOp D fr h op = some (.newT sz mk)) (hk : WpOps D os (fr.put dst (mk h.next)) (h.addTag sz) K) : WpOps D (⟨dst, op, none, []⟩ :: os) fr h K := WpOps.op rfl he rfl rfl hk
theorem WpOps.eff {dst : Option Nat} {op : DOp} {v : DV} {k : List (Opd × Shape × Nat × Option (Nat × Bool))} (he : evalOp D fr h op = some (.eff v h1)) (hc : chkOk D (fr.put dst v) h1 k = true) (hk : WpOps D os (fr.put dst v) h1 K) : WpOps D (⟨dst, op, none, k⟩ :: os) fr h K := WpOps.op rfl he rfl hc hk
/-- Under a guard that is not known. -/
theorem WpOps.guard {dst : Option Nat} {op : DOp} {t : Nat} {b c : Bool} {v : DV} (ht : fr.tmps.getD t .undef = .bool c) (he : (c == b) = true → evalOp D fr h op = some (.val v)) (hk : WpOps D os (fr.put dst (cnd (c == b) v)) h K) : WpOps D (⟨dst, op, some (t, b), []⟩ :: os) fr h K := by
  cases hcb : (c == b) with
  | true =>
    rw [hcb] at hk
    exact WpOps.op (by simp only [wantedG, ht, hcb]) (he hcb) rfl rfl hk
  | false =>
    rw [hcb] at hk
    exact WpOps.off (by simp only [wantedG, ht, hcb]) hk
theorem WpOps.pick {dst : Option Nat} {x y z : Opd} {c : Bool} {a b : DV} (hc : ev D fr x = .bool c) (ha : c = true → ev D fr y = a) (hb : c = false → ev D fr z = b) (hk : WpOps D os (fr.put dst (bif c then a else b)) h K) : WpOps D (⟨dst, .pick x y z, none, []⟩ :: os) fr h K := by
  refine WpOps.pure (v := bif c then a else b) ?_ hk
  cases c with
  | true => simp only [evalOp, hc, ha rfl, cond_true]
  | false => simp only [evalOp, hc, hb rfl, cond_false]
theorem WpOps.or {dst : Option Nat} {x z : Opd} {c b : Bool} (hc : ev D fr x = .bool c) (hb : c = false → ev D fr z = .bool b) (hk : WpOps D os (fr.put dst (.bool (c || b))) h K) : WpOps D (⟨dst, .pick x (.c (.bool true)) z, none, []⟩ :: os) fr h K := by
  refine WpOps.pure (v := .bool (c || b)) ?_ hk
  cases c with
  | true => simp only [evalOp, hc]; rfl
  | false => simp only [evalOp, hc, hb rfl, Bool.false_or]
theorem WpOps.and {dst : Option Nat} {x y : Opd} {c a : Bool} (hc : ev D fr x = .bool c) (ha : c = true → ev D fr y = .bool a) (hk : WpOps D os (fr.put dst (.bool (c && a))) h K) : WpOps D (⟨dst, .pick x y (.c (.bool false)), none, []⟩ :: os) fr h K := by
  refine WpOps.pure (v := .bool (c && a)) ?_ hk
  cases c with
  | true => simp only [evalOp, hc, ha rfl, Bool.true_and]
  | false => simp only [evalOp, hc]; rfl
theorem WpOps.orG {dst : Option Nat} {x z : Opd} {c b g : Bool} {t : Nat} {gb : Bool} (ht : fr.tmps.getD t .undef = .bool g) (hc : (g == gb) = true → ev D fr x = .bool c) (hb : (g == gb) = true → c = false → ev D fr z = .bool b) (hk : WpOps D os (fr.put dst (cnd (g == gb) (.bool (c || b)))) h K) :
    WpOps D (⟨dst, .pick x (.c (.bool true)) z, some (t, gb), []⟩ :: os) fr h K := by
  refine WpOps.guard ht (fun hg => ?_) hk
  cases c with
  | true => simp only [evalOp, hc hg]; rfl
  | false => simp only [evalOp, hc hg, hb hg rfl, Bool.false_or]
theorem WpOps.andG {dst : Option Nat} {x y : Opd} {c a g : Bool} {t : Nat} {gb : Bool} (ht : fr.tmps.getD t .undef = .bool g) (hc : (g == gb) = true → ev D fr x = .bool c) (ha : (g == gb) = true → c = true → ev D fr y = .bool a) (hk : WpOps D os (fr.put dst (cnd (g == gb) (.bool (c && a)))) h K) :
    WpOps D (⟨dst, .pick x y (.c (.bool false)), some (t, gb), []⟩ :: os) fr h K := by
  refine WpOps.guard ht (fun hg => ?_) hk
  cases c with
  | true => simp only [evalOp, hc hg, ha hg rfl, Bool.true_and]
  | false => simp only [evalOp, hc hg]; rfl
theorem WpOps.iaddrArr {dst : Option Nat} {sz len : Nat} {x i : Opd} {cs : List DV} {k : IntKind} {n : Int} (hx : ev D fr x = .elt cs) (hi : ev D fr i = .int k n) (hb : 0 ≤ n ∧ n < len) (hk : WpOps D os (fr.put dst (.elt (cs.drop (n.toNat * sz)))) h K) : WpOps D (⟨dst, .iaddrArr sz len x i, none, []⟩ :: os) fr h K := by
  refine WpOps.pure ?_ hk
  simp only [evalOp, hx, hi]
  rw [if_pos hb]
theorem WpOps.iaddr {dst : Option Nat} {t sz : Nat} {x i : Opd} {xs : List DV} {k : IntKind} {n : Int} {v : DV} (hx : ev D fr x = .lst t sz xs) (hi : ev D fr i = .int k n) (hb : 0 ≤ n) (hv : xs[n.toNat]? = some v) (hk : WpOps D os (fr.put dst (.elt v.cells)) h K) : WpOps D (⟨dst, .iaddr sz x i, none, []⟩ :: os) fr h K := by
  refine WpOps.pure ?_ hk
  simp only [evalOp, hx, hi]
  rw [if_pos ⟨hb, trivial⟩, hv]; rfl
theorem WpOps.loadE {dst : Option Nat} {sh : Shape} {x : Opd} {cs : List DV} {v : DV} (hx : ev D fr x = .elt cs) (hv : (cut cs 0 sh.size).bind (mkv sh) = some v) (hk : WpOps D os (fr.put dst v) h K) : WpOps D (⟨dst, .load sh x, none, []⟩ :: os) fr h K := by
  refine WpOps.pure ?_ hk
  simp only [evalOp, hx, loadD, hv]; rfl
/-! frames written out -/
variable {ts ts' : List DV} {ds : List DDef} {ir : Option Nat}
theorem WpOps.pureT {d : Nat} {op : DOp} {v : DV} (he : evalOp D ⟨ts, ds, ir⟩ h op = some (.val v)) (hs : ts.set d v = ts') (hk : WpOps D os ⟨ts', ds, ir⟩ h K) : WpOps D (⟨some d, op, none, []⟩ :: os) ⟨ts, ds, ir⟩ h K := by
  subst hs; exact WpOps.pure he hk
theorem WpOps.guardT {d : Nat} {op : DOp} {t : Nat} {b c : Bool} {v : DV} (ht : ts.getD t .undef = .bool c) (he : (c == b) = true → evalOp D ⟨ts, ds, ir⟩ h op = some (.val v)) (hs : ts.set d (cnd (c == b) v) = ts') (hk : WpOps D os ⟨ts', ds, ir⟩ h K) :
    WpOps D (⟨some d, op, some (t, b), []⟩ :: os) ⟨ts, ds, ir⟩ h K := by
  subst hs; exact WpOps.guard ht he hk
theorem WpOps.orT {d : Nat} {x z : Opd} {c b : Bool} (hc : ev D ⟨ts, ds, ir⟩ x = .bool c) (hb : c = false → ev D ⟨ts, ds, ir⟩ z = .bool b) (hs : ts.set d (.bool (c || b)) = ts') (hk : WpOps D os ⟨ts', ds, ir⟩ h K) : WpOps D (⟨some d, .pick x (.c (.bool true)) z, none, []⟩ :: os) ⟨ts, ds, ir⟩ h K := by
  subst hs; exact WpOps.or hc hb hk
theorem WpOps.andT {d : Nat} {x y : Opd} {c a : Bool} (hc : ev D ⟨ts, ds, ir⟩ x = .bool c) (ha : c = true → ev D ⟨ts, ds, ir⟩ y = .bool a) (hs : ts.set d (.bool (c && a)) = ts') (hk : WpOps D os ⟨ts', ds, ir⟩ h K) : WpOps D (⟨some d, .pick x y (.c (.bool false)), none, []⟩ :: os) ⟨ts, ds, ir⟩ h K := by
  subst hs; exact WpOps.and hc ha hk
theorem WpOps.orGT {d : Nat} {x z : Opd} {c b g : Bool} {t : Nat} {gb : Bool} (ht : ts.getD t .undef = .bool g) (hc : (g == gb) = true → ev D ⟨ts, ds, ir⟩ x = .bool c) (hb : (g == gb) = true → c = false → ev D ⟨ts, ds, ir⟩ z = .bool b) (hs : ts.set d (cnd (g == gb) (.bool (c || b))) = ts') (hk : WpOps D os ⟨ts', ds, ir⟩ h K) :
    WpOps D (⟨some d, .pick x (.c (.bool true)) z, some (t, gb), []⟩ :: os) ⟨ts, ds, ir⟩ h K := by
  subst hs; exact WpOps.orG ht hc hb hk
theorem WpOps.andGT {d : Nat} {x y : Opd} {c a g : Bool} {t : Nat} {gb : Bool} (ht : ts.getD t .undef = .bool g) (hc : (g == gb) = true → ev D ⟨ts, ds, ir⟩ x = .bool c) (ha : (g == gb) = true → c = true → ev D ⟨ts, ds, ir⟩ y = .bool a) (hs : ts.set d (cnd (g == gb) (.bool (c && a))) = ts') (hk : WpOps D os ⟨ts', ds, ir⟩ h K) :
    WpOps D (⟨some d, .pick x y (.c (.bool false)), some (t, gb), []⟩ :: os) ⟨ts, ds, ir⟩ h K := by
  subst hs; exact WpOps.andG ht hc ha hk
theorem WpOps.callT {d f : Nat} {x : Opd} {as : List Opd} {args : List DV} {v : DV} (he : evalOp D ⟨ts, ds, ir⟩ h (.call x as false) = some (.call f args false)) (hr : Runs D f args h v h1) (hs : ts.set d v = ts') (hk : WpOps D os ⟨ts', ds, ir⟩ h1 K) : WpOps D (⟨some d, .call x as false, none, []⟩ :: os) ⟨ts, ds, ir⟩ h K := by
  subst hs; exact WpOps.call rfl he hr rfl hk
/-- Under a guard that itself came under one. -/
theorem WpOps.guardCT {d : Nat} {op : DOp} {t : Nat} {b c1 c2 : Bool} {v : DV} (ht : ts.getD t .undef = cnd c1 (.bool c2)) (he : c1 = true → (c2 == b) = true → evalOp D ⟨ts, ds, ir⟩ h op = some (.val v)) (hs : ts.set d (cnd (c1 && (c2 == b)) v) = ts') (hk : WpOps D os ⟨ts', ds, ir⟩ h K) :
    WpOps D (⟨some d, op, some (t, b), []⟩ :: os) ⟨ts, ds, ir⟩ h K := by
  subst hs
  cases c1 with
  | true =>
    cases hcb : (c2 == b) with
    | true =>
      rw [hcb] at hk
      exact WpOps.op (by simp only [wantedG, ht, cnd_true, hcb]) (he rfl hcb) rfl rfl hk
    | false =>
      rw [hcb] at hk
      exact WpOps.off (by simp only [wantedG, ht, cnd_true, hcb]) hk
  | false => exact WpOps.off (by simp only [wantedG, ht, cnd_false]) hk
theorem WpOps.orGCT {d : Nat} {x z : Opd} {c b c1 c2 : Bool} {t : Nat} {gb : Bool} (ht : ts.getD t .undef = cnd c1 (.bool c2)) (hc : c1 = true → (c2 == gb) = true → ev D ⟨ts, ds, ir⟩ x = .bool c) (hb : c1 = true → (c2 == gb) = true → c = false → ev D ⟨ts, ds, ir⟩ z = .bool b) (hs : ts.set d (cnd (c1 && (c2 == gb)) (.bool (c || b))) = ts') (hk : WpOps D os ⟨ts', ds, ir⟩ h K) :
    WpOps D (⟨some d, .pick x (.c (.bool true)) z, some (t, gb), []⟩ :: os) ⟨ts, ds, ir⟩ h K := by
  refine WpOps.guardCT ht (fun h1 h2 => ?_) hs hk
  cases c with
  | true => simp only [evalOp, hc h1 h2]; rfl
  | false => simp only [evalOp, hc h1 h2, hb h1 h2 rfl, Bool.false_or]
theorem WpOps.andGCT {d : Nat} {x y : Opd} {c a c1 c2 : Bool} {t : Nat} {gb : Bool} (ht : ts.getD t .undef = cnd c1 (.bool c2)) (hc : c1 = true → (c2 == gb) = true → ev D ⟨ts, ds, ir⟩ x = .bool c) (ha : c1 = true → (c2 == gb) = true → c = true → ev D ⟨ts, ds, ir⟩ y = .bool a) (hs : ts.set d (cnd (c1 && (c2 == gb)) (.bool (c && a))) = ts') (hk : WpOps D os ⟨ts', ds, ir⟩ h K) :
    WpOps D (⟨some d, .pick x y (.c (.bool false)), some (t, gb), []⟩ :: os) ⟨ts, ds, ir⟩ h K := by
  refine WpOps.guardCT ht (fun h1 h2 => ?_) hs hk
  cases c with
  | true => simp only [evalOp, hc h1 h2, ha h1 h2 rfl, Bool.true_and]
  | false => simp only [evalOp, hc h1 h2]; rfl
/-! an operation with a condition of its own -/
theorem WpOps.iaddrArrT {d sz len : Nat} {x i : Opd} {cs : List DV} {k : IntKind} {n : Int} (hx : ev D ⟨ts, ds, ir⟩ x = .elt cs) (hi : ev D ⟨ts, ds, ir⟩ i = .int k n) (hb : 0 ≤ n ∧ n < len) (hs : ts.set d (.elt (cs.drop (n.toNat * sz))) = ts') (hk : WpOps D os ⟨ts', ds, ir⟩ h K) :
    WpOps D (⟨some d, .iaddrArr sz len x i, none, []⟩ :: os) ⟨ts, ds, ir⟩ h K := by subst hs; exact WpOps.iaddrArr hx hi hb hk
theorem WpOps.iaddrT {d : Nat} {t sz : Nat} {x i : Opd} {xs : List DV} {k : IntKind} {n : Int} {v : DV} (hx : ev D ⟨ts, ds, ir⟩ x = .lst t sz xs) (hi : ev D ⟨ts, ds, ir⟩ i = .int k n) (hb : 0 ≤ n) (hv : xs[n.toNat]? = some v) (hs : ts.set d (.elt v.cells) = ts') (hk : WpOps D os ⟨ts', ds, ir⟩ h K) :
    WpOps D (⟨some d, .iaddr sz x i, none, []⟩ :: os) ⟨ts, ds, ir⟩ h K := by subst hs; exact WpOps.iaddr hx hi hb hv hk
theorem WpOps.loadT {d : Nat} {sh : Shape} {x : Opd} {cs : List DV} {v : DV} (hx : ev D ⟨ts, ds, ir⟩ x = .elt cs) (hv : (cut cs 0 sh.size).bind (mkv sh) = some v) (hs : ts.set d v = ts') (hk : WpOps D os ⟨ts', ds, ir⟩ h K) : WpOps D (⟨some d, .load sh x, none, []⟩ :: os) ⟨ts, ds, ir⟩ h K := by subst hs; exact WpOps.loadE hx hv hk
theorem WpOps.tagT {d : Nat} {op : DOp} {sz : Nat} {mk : Nat → DV} (he : evalOp D ⟨ts, ds, ir⟩ h op = some (.newT sz mk)) (hs : ts.set d (mk h.next) = ts') (hk : WpOps D os ⟨ts', ds, ir⟩ (h.addTag sz) K) : WpOps D (⟨some d, op, none, []⟩ :: os) ⟨ts, ds, ir⟩ h K := by
  subst hs; exact WpOps.tag he hk
theorem InBlock.exit {id : Nat} {Q : DX → Fr → Heap → Prop} (hq : Q .normal fr h) : InBlock id Q (.exit id) fr h := by simp only [InBlock, if_true]; exact hq
theorem InBlock.other {id i : Nat} {Q : DX → Fr → Heap → Prop} (hi : i ≠ id) (hq : Q (.exit i) fr h) : InBlock id Q (.exit i) fr h := by simp only [InBlock, hi, if_false]; exact hq
theorem Wp.condB {c : Opd} {a b : DC} {Q : DX → Fr → Heap → Prop} {t : Bool} (hc : ev D fr c = .bool t) (h1 : t = true → Wp D a fr h Q) (h2 : t = false → Wp D b fr h Q) : Wp D (.cond c a b) fr h Q := by
  refine Wp.cond hc ?_
  cases t with
  | true => exact h1 rfl
  | false => exact h2 rfl
theorem cut_elem (cs : List DV) (k : Nat) : (cut (cs.drop k) 0 (Shape.size none)).bind (mkv none) = cs[k]? := by
  cases hk : cs[k]? with
  | none =>
    have : cs.length ≤ k := by simpa using hk
    rw [List.drop_eq_nil_of_le this]
    simp [cut, Shape.size]
  | some v =>
    have hlt := (List.getElem?_eq_some_iff.1 hk).1
    rw [List.drop_eq_getElem_cons hlt]
    have : cs[k] = v := (List.getElem?_eq_some_iff.1 hk).2
    simp [cut, Shape.size, mkv, this]
/-! loops: the slots that a round writes, and the others -/
def setAll : List DV → List Nat → List DV → List DV
  | ts, w :: ws, v :: vs => setAll (ts.set w v) ws vs
  | ts, _, _ => ts
theorem Wp.loopW {b : DC} {Q : DX → Fr → Heap → Prop} (W : List Nat) (I : Nat → List DV → Heap → Prop) (n0 : Nat) (vs0 : List DV) (h0 : I n0 vs0 h) (hts : setAll ts W vs0 = ts)
    (round : ∀ n vs h, I n vs h → Wp D b ⟨setAll ts W vs, ds, ir⟩ h (Then (fun fr' h' => ∃ m vs', m < n ∧ I m vs' h' ∧ fr' = ⟨setAll ts W vs', ds, ir⟩) Q)) : Wp D (.loop b) ⟨ts, ds, ir⟩ h Q := by
  refine Wp.loop (fun n fr h => ∃ vs, I n vs h ∧ fr = ⟨setAll ts W vs, ds, ir⟩) ?_ n0 _ _ ⟨vs0, h0, by rw [hts]⟩
  rintro n fr h ⟨vs, hI, rfl⟩
  refine (round n vs h hI).mono fun x fr' h' hq => ?_
  cases x with
  | normal => obtain ⟨m, vs', h1, h2, h3⟩ := hq; exact ⟨m, h1, vs', h2, h3⟩
  | exit i => exact hq
  | ret => exact hq
theorem Then.exit {i : Nat} {K' : Fr → Heap → Prop} {Q : DX → Fr → Heap → Prop} (hq : Q (.exit i) fr h) : Then K' Q (.exit i) fr h := hq
/-- A function from its body, whatever heap it leaves. -/
theorem Runs.of_bodyE {f : Nat} {d : DFunc} {args : List DV} {v : DV} (hp : D.prim f = none) (hd : D.fn f = some d)
    (hw : Wp D d.body { tmps := args ++ List.replicate (d.nt - args.length) .undef, defers := [], inr := none } h fun x fr h2 => (x = .normal ∨ x = .ret) ∧ fr.defers = [] ∧ (resD fr h2 d.res).map tupD = some v) : ∃ h', Runs D f args h v h' := by
  obtain ⟨n, x, fr', h2, h1, hx, hdf, hres⟩ := hw
  exact ⟨h2, Runs.of_body hp hd ⟨n, x, fr', h2, h1, hx, hdf, rfl, hres⟩⟩
end
end Go.Dm
