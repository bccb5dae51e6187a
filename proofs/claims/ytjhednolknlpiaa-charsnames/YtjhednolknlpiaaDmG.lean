/- The D-machine (7): the other operations that only compute. -/
import Derived.Test.YtjhednolknlpiaaDmF
import Derived.Laws.BytesString
import Derived.Laws.Cover4
namespace Go.Dm
set_option linter.unusedSimpArgs false
set_option linter.unusedVariables false
set_option linter.unnecessarySimpa false

section
variable {P : Program} {c : Cor} (w : World)
theorem un_rel {op : UnOp} {x : DV} {vx : Value} {v : DV} (h : unD op x = some v) (hx : VRel c x vx) : ∃ v', (Op.unary op vx).run P w = .ok v' w ∧ VRel c v v' := by
  cases x <;> simp [unD] at h
  case int k n =>
    cases hx.int_inv
    cases op <;> simp at h
    · subst h; exact ⟨_, by simp [Op.unary, Op.intArith], .int _ _⟩
    · simp [intBin] at h; subst h
      exact ⟨_, by simp [Op.unary, Op.intBits], .int _ _⟩
  case bool b =>
    cases hx.bool_inv
    cases op <;> simp at h
    subst h
    exact ⟨_, by simp [Op.unary], .bool _⟩

theorem byte?_some {x : DV} {b : UInt8} (h : byte? x = some b) : ∃ n : Int, x = .int .u8 n ∧ 0 ≤ n ∧ n < 256 ∧ b = UInt8.ofNat n.toNat := by
  unfold byte? at h
  split at h
  · split at h <;> simp at h
    exact ⟨_, rfl, by omega, by omega, h.symm⟩
  · simp at h
theorem rune?_some {x : DV} {r : Int} (h : rune? x = some r) : x = .int .i32 r := by
  unfold rune? at h
  split at h <;> simp at h
  subst h; rfl
theorem flat_scalar : ∀ (xs : List DV), (∀ x ∈ xs, ∀ cs, x ≠ .agg cs) → flat xs = xs
  | [], _ => rfl
  | x :: xs, h => by
    have h1 : x.cells = [x] := by
      have := h x (by simp)
      cases x <;> simp_all [DV.cells]
    simp only [flat, List.flatMap_cons, h1]
    have := flat_scalar xs fun y hy => h y (by simp [hy])
    simp only [flat] at this
    rw [this]; rfl
def nums (k : IntKind) (ns : List Int) : List DV := ns.map (DV.int k)
theorem nums_rel {k : IntKind} : ∀ {ns : List Int} {vs : List Value}, VRels c (nums k ns) vs → vs = ns.map (Value.int k)
  | [], vs, h => by cases h; rfl
  | n :: ns, vs, h => by
    cases h with
    | cons h hs => cases h.int_inv; rw [nums_rel hs]; rfl
theorem nums_flat (k : IntKind) (ns : List Int) : flat (nums k ns) = nums k ns := flat_scalar _ fun x hx cs e => by
  subst e; simp [nums] at hx
theorem toStr?_some : ∀ {xs : List DV} {s : List UInt8}, toStr? xs = some s → ∃ ns : List Int, xs = nums .u8 ns ∧ s = ns.map fun n => UInt8.ofNat n.toNat
  | [], s, h => by simp [toStr?] at h; subst h; exact ⟨[], rfl, rfl⟩
  | x :: xs, s, h => by
    simp only [toStr?] at h
    split at h <;> simp at h
    rename_i b s' hb hs
    subst h
    obtain ⟨n, rfl, h0, h1, rfl⟩ := byte?_some hb
    obtain ⟨ns, rfl, rfl⟩ := toStr?_some hs
    exact ⟨n :: ns, rfl, rfl⟩
theorem runesStr?_some : ∀ {xs : List DV} {s : List UInt8}, runesStr? xs = some s → ∃ ns : List Int, xs = nums .i32 ns ∧ s = ns.flatMap fun n => (Utf8.encode n).data.toList
  | [], s, h => by simp [runesStr?] at h; subst h; exact ⟨[], rfl, rfl⟩
  | x :: xs, s, h => by
    simp only [runesStr?] at h
    split at h <;> simp at h
    rename_i b s' hb hs
    subst h
    cases rune?_some hb
    obtain ⟨ns, rfl, rfl⟩ := runesStr?_some hs
    exact ⟨b :: ns, rfl, rfl⟩
theorem foldl_push : ∀ (ns : List Int) (acc : ByteArray), ns.foldl (fun (r : ByteArray) n => r.push (UInt8.ofNat n.toNat)) acc = ⟨(acc.data.toList ++ ns.map fun n => UInt8.ofNat n.toNat).toArray⟩
  | [], acc => by simp
  | n :: ns, acc => by
    simp only [List.foldl_cons]
    rw [foldl_push ns]
    simp
theorem foldl_encode : ∀ (ns : List Int) (acc : ByteArray), ns.foldl (fun (r : ByteArray) n => r ++ Utf8.encode n) acc = ⟨(acc.data.toList ++ ns.flatMap fun n => (Utf8.encode n).data.toList).toArray⟩
  | [], acc => by simp
  | n :: ns, acc => by
    simp only [List.foldl_cons]
    rw [foldl_encode ns]
    simp

def Kept (c : Cor) (w : World) : Prop := ∀ b o v, c.kp b o = some v → w.cell? ⟨b, o, none⟩ = some v
theorem add_plain (b o j : Nat) : (⟨b, o, none⟩ : Addr).add j = ⟨b, o + j, none⟩ := by unfold Addr.add; split <;> simp_all
theorem lst_cells (hk : Kept c w) {t sz : Nat} {xs : List DV} {a : Addr} {cap : Nat} (h : VRel c (.lst t sz xs) (.slice (some a) xs.length cap)) :
    ∃ vs, (∀ x ∈ xs, x.cells.length = sz) ∧ (∀ x ∈ flat xs, x.one = true) ∧ VRels c (flat xs) vs ∧ (xs ≠ [] → (loadCells a (xs.length * sz)).run P w = .ok vs.toArray w) ∧ vs.length = xs.length * sz := by
  cases h with
  | lst hsz hs hv ho hc hl h0 h1 ht =>
    rename_i vs
    have hlen : vs.length = xs.length * sz := by
      rw [← hv.length_eq]
      clear hv hc hl ht ho
      induction xs with
      | nil => simp [flat]
      | cons x xs ih =>
        have := ih fun y hy => hs y (by simp [hy])
        simp only [flat, List.flatMap_cons, List.length_append, hs x (by simp), List.length_cons] at this ⊢
        rw [this, Nat.succ_mul]; omega
    refine ⟨vs, hs, ho, hv, fun hne => ?_, hlen⟩
    obtain ⟨b, o, e, hp⟩ := hc hne
    cases e
    rw [← hlen]
    exact run_loadCells_list w ⟨b, o, none⟩ vs fun j x hj => by rw [add_plain]; exact hk _ _ _ (hp j x hj)
theorem str_nil : VRel c (.str []) (.string ByteArray.empty) := .str []
theorem bytesStr_rel (hk : Kept c w) {t sz : Nat} {xs : List DV} {s : List UInt8} {vx : Value} (h : toStr? xs = some s) (hx : VRel c (.lst t sz xs) vx) : ∃ v', (Conv.bytesToString vx).run P w = .ok v' w ∧ VRel c (.str s) v' := by
  obtain ⟨ns, rfl, rfl⟩ := toStr?_some h
  obtain ⟨a, cap, vs, q1, q2, q3, qo, q4, q5, q6, q7, q8, rfl⟩ := hx.lst_inv
  cases a with
  | none =>
    have : ns = [] := by
      cases ns with
      | nil => rfl
      | cons n ns => obtain ⟨b, o, e, _⟩ := q4 (by simp [nums]); cases e
    subst this
    exact ⟨_, rfl, str_nil⟩
  | some a =>
    obtain ⟨vs', r2, r1, r3, r4, r5⟩ := lst_cells (P := P) w hk hx
    cases ns with
    | nil =>
      have := run_bytesToString (P := P) w a 0 cap [] (by simp [loadCells, loadCellsFrom])
      exact ⟨_, this, str_nil⟩
    | cons n ns =>
      have hsz : sz = 1 := by
        have := r2 (.int .u8 n) (by simp [nums])
        simpa [DV.cells] using this.symm
      subst hsz
      rw [nums_flat] at r3
      have hv := nums_rel r3
      have hl := r4 (by simp [nums])
      rw [hv] at hl
      have := run_bytesToString (P := P) w a (nums .u8 (n :: ns)).length cap (n :: ns) (by simpa using hl)
      refine ⟨_, this, ?_⟩
      rw [foldl_push]
      exact .str _
theorem runesStr_rel (hk : Kept c w) {t sz : Nat} {xs : List DV} {s : List UInt8} {vx : Value} (h : runesStr? xs = some s) (hx : VRel c (.lst t sz xs) vx) : ∃ v', (Conv.runesToString vx).run P w = .ok v' w ∧ VRel c (.str s) v' := by
  obtain ⟨ns, rfl, rfl⟩ := runesStr?_some h
  obtain ⟨a, cap, vs, q1, q2, q3, qo, q4, q5, q6, q7, q8, rfl⟩ := hx.lst_inv
  cases a with
  | none =>
    have : ns = [] := by
      cases ns with
      | nil => rfl
      | cons n ns => obtain ⟨b, o, e, _⟩ := q4 (by simp [nums]); cases e
    subst this
    exact ⟨_, rfl, str_nil⟩
  | some a =>
    obtain ⟨vs', r2, r1, r3, r4, r5⟩ := lst_cells (P := P) w hk hx
    cases ns with
    | nil =>
      have := run_runesToString (P := P) w a 0 cap [] (by simp [loadCells, loadCellsFrom])
      exact ⟨_, this, str_nil⟩
    | cons n ns =>
      have hsz : sz = 1 := by
        have := r2 (.int .i32 n) (by simp [nums])
        simpa [DV.cells] using this.symm
      subst hsz
      rw [nums_flat] at r3
      have hv := nums_rel r3
      have hl := r4 (by simp [nums])
      rw [hv] at hl
      have := run_runesToString (P := P) w a (nums .i32 (n :: ns)).length cap (n :: ns) (by simpa using hl)
      refine ⟨_, this, ?_⟩
      rw [runesBytes, foldl_encode]
      exact .str _
/-- Bounds of a cut. -/
theorem bounds_rel {len cap : Nat} {lo hi : Option DV} {vlo vhi : Option Value} {l r : Nat} {sl : Bool} (hcap : len ≤ cap) (h : bounds len lo hi = some (l, r))
    (h1 : (lo = none ∧ vlo = none) ∨ ∃ d v, lo = some d ∧ vlo = some v ∧ VRel c d v) (h2 : (hi = none ∧ vhi = none) ∨ ∃ d v, hi = some d ∧ vhi = some v ∧ VRel c d v) :
    (Instr.sliceBounds sl len cap vlo vhi none).run P w = .ok (l, r, cap) w ∧ l ≤ r ∧ r ≤ len := by
  rcases h1 with ⟨rfl, rfl⟩ | ⟨d1, v1, rfl, rfl, r1⟩ <;> rcases h2 with ⟨rfl, rfl⟩ | ⟨d2, v2, rfl, rfl, r2⟩
  · simp [bounds] at h
    obtain ⟨rfl, rfl⟩ := h
    simp [Instr.sliceBounds]
  · cases d2 <;> simp [bounds] at h
    rename_i k n
    obtain ⟨hb, rfl, rfl⟩ := h
    cases r2.int_inv
    have := run_sliceBound (P := P) (w := w) k n cap (if sl then .sliceAcap else .sliceAlen) hb.1 (by omega)
    simp only [Instr.sliceBounds, Sem.run_bind, Sem.run_pure, Result.andThen_ok]
    rw [this]
    simp; omega
  · cases d1 <;> simp [bounds] at h
    rename_i k n
    obtain ⟨hb, rfl, rfl⟩ := h
    cases r1.int_inv
    have := run_sliceBound (P := P) (w := w) k n len .sliceB hb.1 (by omega)
    simp only [Instr.sliceBounds, Sem.run_bind, Sem.run_pure, Result.andThen_ok, Option.isSome_none, Bool.false_eq_true, if_false]
    rw [this]
    simp; omega
  · cases d1 <;> cases d2 <;> simp [bounds] at h
    rename_i k n k' n'
    obtain ⟨hb, rfl, rfl⟩ := h
    cases r1.int_inv; cases r2.int_inv
    have e1 := run_sliceBound (P := P) (w := w) k' n' cap (if sl then .sliceAcap else .sliceAlen) (by omega) (by omega)
    have e2 := run_sliceBound (P := P) (w := w) k n n'.toNat .sliceB hb.1 (by omega)
    simp only [Instr.sliceBounds, Sem.run_bind, Sem.run_pure, Result.andThen_ok, Option.isSome_none, Bool.false_eq_true, if_false]
    rw [e1]
    simp only [Result.andThen_ok]
    rw [e2]
    simp; omega
end
end Go.Dm
