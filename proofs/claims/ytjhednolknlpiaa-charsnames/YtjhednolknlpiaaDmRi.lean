/- The D-machine (38b): symbolic runs that begin at a heap that is known; closed calls within them. -/
import Derived.Test.YtjhednolknlpiaaDmRh
import Derived.Test.YtjhednolknlpiaaDmTop
import Derived.Test.YtjhednolknlpiaaDmFx
namespace Go.Dm
set_option linter.unusedSimpArgs false
set_option linter.unusedVariables false
set_option linter.unnecessarySimpa false
variable {D : DProg}
/-- A closed call. -/
def ClC (D : DProg) (g : Nat) (args : List DV) (frz : Bool) (h : Heap) (v : DV) (h' : Heap) : Prop :=
  match frz with
  | false => Runs D g args h v h'
  | true => ∃ v1 h1, Runs D g args h v1 h1 ∧ frzV h1 v1 = some (v, h')
noncomputable def closed (D : DProg) (n g : Nat) (args : List DV) (frz : Bool) (h : Heap) : Option (DV × Heap) :=
  match frz with
  | false => frun D n g args h
  | true => (frun D n g args h).bind fun r => frzV r.2 r.1
/-- What a closed call leaves. -/
def heapOf (r : Option (DV × Heap)) : Heap := (r.getD (.undef, ⟨2, .nil, .nil⟩)).2
def valOf (r : Option (DV × Heap)) : DV := (r.getD (.undef, ⟨2, .nil, .nil⟩)).1
def okR (r : Option (DV × Heap)) (v : DV) : Bool := match r with
  | some r => DV.beq r.1 v && Nat.ble 2 r.2.next
  | none => false
theorem closed_ok {n g : Nat} {args : List DV} {frz : Bool} {h : Heap} {v : DV} (hc : okR (closed D n g args frz h) v = true) :
    ClC D g args frz h v (heapOf (closed D n g args frz h)) ∧ Nat.ble 2 (heapOf (closed D n g args frz h)).next = true := by
  cases hr : closed D n g args frz h with
  | none => rw [hr] at hc; cases hc
  | some r =>
    rw [hr] at hc
    obtain ⟨v', h'⟩ := r
    simp only [okR, Bool.and_eq_true] at hc
    obtain ⟨hc, h2⟩ := hc
    obtain rfl := DV.eq_of_beq _ _ hc
    refine ⟨?_, h2⟩
    cases frz with
    | false => exact ⟨n, frun_ok hr⟩
    | true =>
      obtain ⟨⟨v1, h1⟩, e1, e2⟩ := Option.bind_eq_some_iff.1 hr
      exact ⟨v1, h1, ⟨n, frun_ok e1⟩, e2⟩
inductive R0 (D : DProg) : List It → St → Heap → (DX → St → List Ck → Prop) → Prop where
  | seq {a b : DC} {k : List It} {st : St} {h : Heap} {Q : DX → St → List Ck → Prop} : R0 D (.code a :: .code b :: k) st h Q → R0 D (.code (.seq a b) :: k) st h Q
  | region {os : List ROp} {k : List It} {st : St} {h : Heap} {Q : DX → St → List Ck → Prop} : R0 D (.ops os :: k) st h Q → R0 D (.code (.region os) :: k) st h Q
  | opsnil {k : List It} {st : St} {h : Heap} {Q : DX → St → List Ck → Prop} : R0 D k st h Q → R0 D (.ops [] :: k) st h Q
  | cond {c : Opd} {x y : DC} {k : List It} {nt : Nat} {es : List En} {ds : List DDef} {ir : Option Nat} {h : Heap} {Q : DX → St → List Ck → Prop} {b : Bool} : lo D es [] c = some (.bool b) → (b = true → R0 D (.code x :: k) ⟨nt, es, ds, ir⟩ h Q) → (b = false → R0 D (.code y :: k) ⟨nt, es, ds, ir⟩ h Q) → R0 D (.code (.cond c x y) :: k) ⟨nt, es, ds, ir⟩ h Q
  | skip {k : List It} {st : St} {h : Heap} {Q : DX → St → List Ck → Prop} : R0 D k st h Q → R0 D (.code .skip :: k) st h Q
  | block {id : Nat} {b : DC} {k : List It} {st : St} {h : Heap} {Q : DX → St → List Ck → Prop} : R0 D (.code b :: .blk id :: k) st h Q → R0 D (.code (.block id b) :: k) st h Q
  | blk {id : Nat} {k : List It} {st : St} {h : Heap} {Q : DX → St → List Ck → Prop} : R0 D k st h Q → R0 D (.blk id :: k) st h Q
  | chk {l : List (Opd × Shape × Nat × Option (Nat × Bool))} {k : List It} {nt : Nat} {es : List En} {ds : List DDef} {ir : Option Nat} {h : Heap} {Q : DX → St → List Ck → Prop} : CKs D nt es [] l → R0 D k ⟨nt, es, ds, ir⟩ h Q → R0 D (.chk l :: k) ⟨nt, es, ds, ir⟩ h Q
  | call {d : Option Nat} {x : Opd} {as : List Opd} {frz : Bool} {c : List (Opd × Shape × Nat × Option (Nat × Bool))} {os : List ROp} {k : List It} {nt : Nat} {es : List En} {ds : List DDef} {ir : Option Nat} {h h' : Heap} {Q : DX → St → List Ck → Prop} {g : Nat} {vs : List DV} {v : DV} :
      lo D es [] x = some (.fn (.func g) [] []) → LoS D es [] as vs → dstOk nt d = true → ClC D g vs frz h v h' → Nat.ble 2 h'.next = true → R0 D (.chk c :: .ops os :: k) (St.putO ⟨nt, es, ds, ir⟩ d v) h' Q → R0 D (.ops (⟨d, .call x as frz, none, c⟩ :: os) :: k) ⟨nt, es, ds, ir⟩ h Q
  | val {d : Nat} {op : DOp} {g : Option (Nat × Bool)} {os : List ROp} {k : List It} {nt : Nat} {es : List En} {ds : List DDef} {ir : Option Nat} {h : Heap} {Q : DX → St → List Ck → Prop} {A : List (Nat × Bool)} {p : Bool} {v : DV} :
      gate es 12 g = some (A, p) → VO D es [] A p op v → Nat.blt d nt = true → R0 D (.ops os :: k) ⟨nt, ⟨d, g, v⟩ :: es, ds, ir⟩ h Q → R0 D (.ops (⟨some d, op, g, []⟩ :: os) :: k) ⟨nt, es, ds, ir⟩ h Q
  | on {k : List It} {st : St} {h : Heap} {Q : DX → St → List Ck → Prop} : RR D k st [] Q → R0 D k st h Q
theorem R0.sound {k : List It} {st : St} {h : Heap} {Q : DX → St → List Ck → Prop} (hr : R0 D k st h Q) : ∀ fr, AgS fr st → Sat h [] → WpK D k .normal fr h fun x fr' h' => ∃ st' cs', AgS fr' st' ∧ Sat h' cs' ∧ Q x st' cs' := by
  induction hr with
  | seq _ ih =>
    intro fr ha hs
    refine Wp.seq ?_
    refine Wp.mono (ih fr ha hs) fun x fr' h' hq => ?_
    cases x with
    | normal => exact hq
    | exit i => exact hq
    | ret => exact hq
  | region _ ih => intro fr ha hs; exact Wp.region (ih fr ha hs)
  | opsnil _ ih => intro fr ha hs; exact WpOps.nil (ih fr ha hs)
  | @cond c x y k nt es ds ir h Q b h1 _ _ ih1 ih2 =>
    intro fr ha hs
    refine Wp.cond (lo_ok ha.es Tags.nil h1) ?_
    cases b with
    | true => exact ih1 rfl fr ha hs
    | false => exact ih2 rfl fr ha hs
  | skip _ ih => intro fr ha hs; exact Wp.skip (ih fr ha hs)
  | @block id b k st h Q _ ih =>
    intro fr ha hs
    refine Wp.block (Wp.mono (ih fr ha hs) fun x fr' h' hq => ?_)
    cases x with
    | normal => exact hq
    | exit i =>
      simp only [WpK] at hq
      simp only [InBlock]
      split
      · rename_i e; rw [if_pos e] at hq; exact hq
      · rename_i e; rw [if_neg e] at hq; exact hq
    | ret => exact hq
  | blk _ ih => intro fr ha hs; exact ih fr ha hs
  | chk hc _ ih => intro fr ha hs; exact ⟨hc.ok ha.es ha.len hs, ih fr ha hs⟩
  | @call d x as frz c os k nt es ds ir h h' Q g vs v h1 h2 hd hC h3 _ ih =>
    intro fr ha hs
    have e1 := lo_ok (D := D) ha.es Tags.nil h1
    have e2 := h2.ok ha.es Tags.nil
    have hs' : Sat h' [] := ⟨Nat.le_of_ble_eq_true h3, (fun c hc => by cases hc), .nil⟩
    cases frz with
    | false =>
      have he : evalOp D fr h (.call x as false) = callV (.fn (.func g) [] []) vs false := by simp only [evalOp, e1, e2]
      obtain ⟨hc, hk⟩ := ih (fr.put d v) (ha.put hd) hs'
      exact WpOps.call rfl (by rw [he]; simp [callV]) hC hc hk
    | true =>
      have he : evalOp D fr h (.call x as true) = callV (.fn (.func g) [] []) vs true := by simp only [evalOp, e1, e2]
      obtain ⟨v1, h1', hC, hz⟩ := hC
      obtain ⟨hc, hk⟩ := ih (fr.put d v) (ha.put hd) hs'
      exact WpOps.callF rfl (by rw [he]; simp [callV]) hC hz hc hk
  | @val d op g os k nt es ds ir h Q A p v hg hv hd _ ih =>
    intro fr ha hs
    have hgo := gate_ok ha.es hg
    have hdl : d < fr.tmps.length := by rw [ha.len]; exact Nat.le_of_ble_eq_true hd
    cases hw : wantedG g fr with
    | true =>
      obtain ⟨hp, hA⟩ := hgo.1 hw
      have he := hv.ok ha.es hs hA hp
      refine WpOps.op (v := v) (h1 := h) hw he rfl rfl (ih (fr.put (some d) v) ⟨?_, ?_, ha.ds, ha.ir⟩ hs)
      · show (fr.tmps.set d v).length = _; rw [List.length_set]; exact ha.len
      · cases g with
        | none => exact ha.es.put hdl rfl
        | some tb => exact ha.es.putG hdl (fun _ => rfl) (fun hne => absurd (wanted_bool.1 hw) hne)
    | false =>
      refine WpOps.off hw (ih (fr.put (some d) .undef) ⟨?_, ?_, ha.ds, ha.ir⟩ hs)
      · show (fr.tmps.set d .undef).length = _; rw [List.length_set]; exact ha.len
      · cases g with
        | none => cases hw
        | some tb => exact ha.es.putG hdl (fun e => by rw [wanted_bool.2 e] at hw; cases hw) (fun _ => rfl)
  | on h => intro fr ha hs; exact h.sound fr _ ha hs
variable (D) in
/-- What a function does from a heap that is known. -/
def F0 (f : Nat) (args : List DV) (h : Heap) (P : DV → List Ck → Prop) : Prop := ∃ v h' cs', Runs D f args h v h' ∧ Sat h' cs' ∧ P v cs'
theorem F.at0 {f : Nat} {args : List DV} {P : DV → List Ck → Prop} (hf : F D f args [] P) : F0 D f args Heap.start P := hf Heap.start ⟨Nat.le_refl _, (fun c hc => by cases hc), .nil⟩
theorem F0.of {f : Nat} {args : List DV} {P : DV → List Ck → Prop} {nt : Nat} {body : DC} {res : List DRes} (hp : D.prim f = none) (hd : D.fn f = some ⟨nt, body, res⟩) (hl : Nat.ble args.length nt = true) (hr : R0 D [.code body] ⟨nt, pars 0 args, [], none⟩ Heap.start (Fin D P res)) : F0 D f args Heap.start P := by
  have hl' := Nat.le_of_ble_eq_true hl
  have hs : Sat Heap.start [] := ⟨Nat.le_refl _, (fun c hc => by cases hc), .nil⟩
  obtain ⟨n, x, fr', h1, q1, q2⟩ := hr.sound { tmps := args ++ List.replicate (nt - args.length) .undef, defers := [], inr := none }
    ⟨by simp; omega, by have := pars_ag (args := args) (pre := []) (rest := List.replicate (nt - args.length) .undef) (seen := []); simpa using this, rfl, rfl⟩ hs
  obtain ⟨st', cs1, a1, a2, a3⟩ := q2
  obtain ⟨hdn, n2, h2, cs2, vs, r1, r2, r3, r4⟩ := a3.ok a1 a2
  refine ⟨tupD vs, h2, cs2, ⟨max n n2, ?_⟩, r3, r4⟩
  have hb : bodyD D (exec D (max n n2)) f args Heap.start = some (⟨nt, body, res⟩, fr', h1) := by
    unfold bodyD
    rw [hd]
    simp only [exec_le (Nat.le_max_left n n2) _ _ _ _ q1]
    cases hdn <;> rfl
  unfold run callD
  rw [hp]
  have hds : fr'.defers = st'.ds := a1.ds
  simp only [hb, hds, leaveD_le (fun f a h r => callDef_le (exec_le (Nat.le_max_right n n2))) r1, r2, Option.map_some]
end Go.Dm
