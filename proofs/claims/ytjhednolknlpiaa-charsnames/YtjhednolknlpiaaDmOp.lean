/- The D-machine (39): data that come in as values of ours, whatever their types of plain kinds; they read behind as before. -/
import Derived.Test.YtjhednolknlpiaaDmTop
import Derived.ChangeSlices
import Derived.ChangeOld
namespace Go.Dm
set_option linter.unusedSimpArgs false
set_option linter.unusedVariables false
set_option linter.unnecessarySimpa false
open Go.ChangeShapes

def offsB (P : Program) : Nat → List Field → Nat → Bool
  | o, [], n => Nat.beq o n
  | o, f :: r, n => Nat.beq f.offset o && offsB P (o + P.cellsOf f.type) r n
/-- Types of plain kinds, all of their parts among them. -/
def tyB (P : Program) (S : List TypeId) : Bool := S.all fun t => match P.underlying t with
  | some .bool => Nat.beq (P.cellsOf t) 1
  | some (.int _) => Nat.beq (P.cellsOf t) 1
  | some .string => Nat.beq (P.cellsOf t) 1
  | some (.slice e) => Nat.beq (P.cellsOf t) 1 && S.contains e && Nat.blt 0 (P.cellsOf e)
  | some (.struct fs) => fs.toList.all (fun f => S.contains f.type) && offsB P 0 fs.toList (P.cellsOf t)
  | _ => false

def toVal (P : Program) (e : TypeId) (cs : List DV) : DV :=
  match P.underlying e with
  | some (.struct _) => .agg cs
  | _ => cs.headD .undef
mutual
/-- Cells of a type. -/
inductive TC (P : Program) : TypeId → List DV → Prop where
  | bool {t : TypeId} {b : Bool} : P.underlying t = some .bool → TC P t [.bool b]
  | int {t : TypeId} {k : IntKind} {n : Int} : P.underlying t = some (.int k) → (Lit.int k n).wf = true → TC P t [.int k n]
  | str {t : TypeId} {s : List UInt8} : P.underlying t = some .string → s.length ≤ maxLen → TC P t [.str s]
  | nil {t e : TypeId} : P.underlying t = some (.slice e) → TC P t [.lst 0 0 []]
  | slice {t e : TypeId} {yss : List (List DV)} : P.underlying t = some (.slice e) → yss.length ≤ maxLen → TVs P e yss → TC P t [.lst 1 (P.cellsOf e) (yss.map (toVal P e))]
  | struct {t : TypeId} {fs : Array Field} {ds : List DV} : P.underlying t = some (.struct fs) → TFs P fs.toList ds → TC P t ds
inductive TVs (P : Program) : TypeId → List (List DV) → Prop where
  | nil {e : TypeId} : TVs P e []
  | cons {e : TypeId} {ys : List DV} {r : List (List DV)} : TC P e ys → TVs P e r → TVs P e (ys :: r)
inductive TFs (P : Program) : List Field → List DV → Prop where
  | nil : TFs P [] []
  | cons {f : Field} {r : List Field} {cs ds : List DV} : TC P f.type cs → TFs P r ds → TFs P (f :: r) (cs ++ ds)
end
section
variable {H : Type} {enc : TypeId × Value → H} {P : Program} {W : World}
theorem list_of {β : Type} {p : Nat → β → Prop} : ∀ (n : Nat), (∀ i, i < n → ∃ y, p i y) → ∃ l : List β, l.length = n ∧ ∀ i y, l[i]? = some y → p i y
  | 0, _ => ⟨[], rfl, fun i y h => by simp at h⟩
  | n + 1, h => by
    obtain ⟨l, h1, h2⟩ := list_of n fun i hi => h i (by omega)
    obtain ⟨y, hy⟩ := h n (by omega)
    refine ⟨l ++ [y], by simp [h1], fun i z hz => ?_⟩
    by_cases hi : i < n
    · rw [List.getElem?_append_left (by omega)] at hz; exact h2 i z hz
    · have hlt := (List.getElem?_eq_some_iff.1 hz).1
      simp only [List.length_append, List.length_cons, List.length_nil] at hlt
      obtain rfl : i = n := by omega
      rw [List.getElem?_append_right (by omega), h1] at hz
      simp at hz; subst hz; exact hy
theorem cells?_get {base : Nat} {a : Addr} : ∀ {n : Nat} {cs : List Value}, W.cells? base a n = some cs → cs.length = n ∧ ∀ i v, cs[i]? = some v → W.cell? (a.add i) = some v := by
  intro n cs h
  unfold World.cells? at h
  split at h <;> try (cases h; done)
  have aux : ∀ (l : List Nat) (cs : List Value), l.mapM (fun i => W.cell? (a.add i)) = some cs → cs.length = l.length ∧ ∀ (i : Nat) v j, cs[i]? = some v → l[i]? = some j → W.cell? (a.add j) = some v := by
    intro l
    induction l with
    | nil => intro cs h; simp at h; subst h; simp
    | cons x l ih =>
      intro cs h
      rw [List.mapM_cons] at h
      simp only [Option.bind_eq_bind, Option.bind_eq_some_iff, Option.pure_def, Option.some.injEq] at h
      obtain ⟨y, h1, ys, h2, rfl⟩ := h
      obtain ⟨q1, q2⟩ := ih ys h2
      refine ⟨by simp [q1], fun i v j hi hj => ?_⟩
      cases i with
      | zero => simp at hi hj; subst hi; subst hj; exact h1
      | succ i => simp at hi hj; exact q2 i v j hi hj
  obtain ⟨q1, q2⟩ := aux _ _ h
  simp at q1
  refine ⟨q1, fun i v hi => ?_⟩
  have hlt := (List.getElem?_eq_some_iff.1 hi).1
  exact q2 i v i hi (List.getElem?_range (by omega))
theorem spot_none {a : Addr} {v : Value} (h : W.cell? a = some v) : a.spot = none := by
  unfold World.cell? at h
  cases hs : a.spot with
  | none => rfl
  | some k =>
    split at h
    · simp [hs] at h
    · cases h
theorem add_none (b o n : Nat) : (⟨b, o, none⟩ : Addr).add n = ⟨b, o + n, none⟩ := by
  unfold Addr.add; split
  · rename_i h; subst h; rfl
  · rfl
theorem flatMap_get {α β : Type} {f : α → List β} {n : Nat} (hn : 0 < n) : ∀ (l : List α), (∀ y ∈ l, (f y).length = n) → ∀ (j : Nat) (v : β), (l.flatMap f)[j]? = some v → ∃ y, l[j / n]? = some y ∧ (f y)[j % n]? = some v
  | [], _, j, v, h => by simp at h
  | y :: l, hl, j, v, h => by
    have hy := hl y (by simp)
    simp only [List.flatMap_cons] at h
    by_cases hj : j < n
    · rw [List.getElem?_append_left (by omega)] at h
      exact ⟨y, by simp [Nat.div_eq_of_lt hj], by rw [Nat.mod_eq_of_lt hj]; exact h⟩
    · rw [List.getElem?_append_right (by omega), hy] at h
      obtain ⟨z, h1, h2⟩ := flatMap_get hn l (fun y h => hl y (by simp [h])) (j - n) v h
      have e1 : j / n = (j - n) / n + 1 := by
        rw [Nat.div_eq_sub_div hn (by omega)]
      have e2 : j % n = (j - n) % n := by rw [Nat.mod_eq_sub_mod (by omega)]
      exact ⟨z, by rw [e1]; simpa using h1, by rw [e2]; exact h2⟩
theorem toVal_cells {e : TypeId} {cs : List DV} (h : TC P e cs) : (toVal P e cs).cells = cs := by
  cases h with
  | bool h1 => simp [toVal, h1, DV.cells]
  | int h1 _ => simp [toVal, h1, DV.cells]
  | str h1 _ => simp [toVal, h1, DV.cells]
  | nil h1 => simp [toVal, h1, DV.cells]
  | slice h1 _ _ => simp [toVal, h1, DV.cells]
  | struct h1 _ => simp [toVal, h1, DV.cells]
theorem TVs.of : ∀ {l : List (List DV)} {e : TypeId}, (∀ y ∈ l, TC P e y) → TVs P e l
  | [], _, _ => .nil
  | y :: l, e, h => .cons (h y (by simp)) (TVs.of fun z hz => h z (by simp [hz]))
/-- What lies under an index of a slice that reads. -/
theorem VRels.flatMap {c : Cor} {α : Type} {f : α → List DV} {g : α → List Value} : ∀ (l : List α), (∀ y ∈ l, VRels c (f y) (g y)) → VRels c (l.flatMap f) (l.flatMap g)
  | [], _ => .nil
  | y :: l, h => by simp only [List.flatMap_cons]; exact (h y (by simp)).append (VRels.flatMap l fun z hz => h z (by simp [hz]))

theorem open_gen {S : List TypeId} (hS : tyB P S = true) {held : Bool} : ∀ (fuel : Nat) (t : TypeId) (cs : List Value) (x : DataW H × List MemPlace), t ∈ S → DataW.trod enc P W 0 (fun _ => true) held fuel t cs = some x →
    ∃ ds, VRels (Cor.start W) ds cs ∧ (∀ d ∈ ds, d.one = true) ∧ TC P t ds ∧ ds.length = P.cellsOf t := by
  intro fuel
  induction fuel with
  | zero => intro t cs x _ h; simp [DataW.trod] at h
  | succ fuel ih =>
    intro t cs x ht h
    have hst := List.all_eq_true.1 hS t ht
    cases hu : P.underlying t with
    | none => rw [hu] at hst; cases hst
    | some u =>
      rw [hu] at hst
      cases u <;> simp only [Bool.false_eq_true] at hst
      case bool =>
        obtain ⟨b, rfl, rfl⟩ := DataW.trod_bool hu h
        exact ⟨[.bool b], .cons (.bool b) .nil, by simp [DV.one], .bool hu, (Nat.eq_of_beq_eq_true hst).symm⟩
      case int k =>
        obtain ⟨n, rfl, rfl, hw⟩ := DataW.trod_int hu h
        exact ⟨[.int k n], .cons (.int k n) .nil, by simp [DV.one], .int hu hw, (Nat.eq_of_beq_eq_true hst).symm⟩
      case string =>
        obtain ⟨s, rfl, rfl, hl⟩ := DataW.trod_string hu h
        have e : (⟨s.data.toList.toArray⟩ : ByteArray) = s := by simp
        exact ⟨[.str s.data.toList], .cons (by have := VRel.str (c := Cor.start W) s.data.toList; rwa [e] at this) .nil, by simp [DV.one], .str hu (by simpa using hl), (Nat.eq_of_beq_eq_true hst).symm⟩
      case slice e =>
        simp only [Bool.and_eq_true] at hst
        obtain ⟨⟨h1, he⟩, hpos⟩ := hst
        have he : e ∈ S := by simpa using he
        have hpos : 0 < P.cellsOf e := Nat.le_of_ble_eq_true hpos
        have h1 := (Nat.eq_of_beq_eq_true h1).symm
        rcases DataW.trod_slice hu h with ⟨rfl, rfl⟩ | ⟨a, len, cap, elems, rest, n, hn, rfl, rfl, _, hlc, hcm, hlen, hel, hsp, _⟩
        · refine ⟨[.lst 0 0 []], .cons ?_ .nil, by simp [DV.one], .nil hu, h1⟩
          have := VRel.lst (c := Cor.start W) (t := 0) (xs := []) (a := none) (cap := 0) (vs := []) (sz := 0) (by simp) (by simp) .nil (by simp [flat]) (by simp) (by simp) (by simp) (by simp) (by simp)
          simpa using this
        · cases hn
          have each : ∀ i, i < len → ∃ y : List Value × List DV, W.cells? 0 (a.add (i * P.cellsOf e)) (P.cellsOf e) = some y.1 ∧ VRels (Cor.start W) y.2 y.1 ∧ (∀ d ∈ y.2, d.one = true) ∧ TC P e y.2 ∧ y.2.length = P.cellsOf e := by
            intro i hi
            have hy := hel i hi
            rw [List.getElem?_eq_getElem (by omega)] at hy
            obtain ⟨cs1, hc1, hc2⟩ := Option.bind_eq_some_iff.1 hy
            obtain ⟨ds1, q1, q2, q3, q4⟩ := ih e cs1 _ he hc2
            exact ⟨(cs1, ds1), hc1, q1, q2, q3, q4⟩
          obtain ⟨l, hl, hp⟩ := list_of len each
          have hmem : ∀ y ∈ l, ∃ i, i < len ∧ l[i]? = some y := fun y hy => by
            obtain ⟨i, hi⟩ := List.getElem?_of_mem hy
            exact ⟨i, by have := (List.getElem?_eq_some_iff.1 hi).1; omega, hi⟩
          have hTC : ∀ y ∈ l, TC P e y.2 := fun y hy => by obtain ⟨i, _, hi⟩ := hmem y hy; exact (hp i y hi).2.2.2.1
          have hflatG : ∀ l : List (List Value × List DV), (∀ y ∈ l, TC P e y.2) → flat (l.map fun y => toVal P e y.2) = l.flatMap (·.2) := by
            intro l
            induction l with
            | nil => intro _; rfl
            | cons y l ih =>
              intro hTC
              have := ih fun z hz => hTC z (by simp [hz])
              simp only [flat, List.map_cons, List.flatMap_cons] at this ⊢
              rw [this, toVal_cells (hTC y (by simp))]
          have hflat := hflatG l hTC
          have hlen1 : ∀ y ∈ l, y.1.length = P.cellsOf e := fun y hy => by obtain ⟨i, _, hi⟩ := hmem y hy; exact (cells?_get (hp i y hi).1).1
          -- where the cells lie
          have hspot : 0 < cap → a.spot = none := by
            intro hc
            by_cases h0 : 0 < len
            · obtain ⟨y, hy⟩ : ∃ y, l[0]? = some y := ⟨_, List.getElem?_eq_getElem (by omega)⟩
              obtain ⟨q1, q2⟩ := cells?_get (hp 0 y hy).1
              obtain ⟨v, hv⟩ : ∃ v, y.1[0]? = some v := ⟨_, List.getElem?_eq_getElem (by omega)⟩
              have := spot_none (q2 0 v hv)
              simpa [Addr.add] using this
            · obtain ⟨hr1, hr2⟩ := hsp rfl
              have hy := hr2 0 (by omega)
              rw [List.getElem?_eq_getElem (by omega)] at hy
              obtain ⟨cs1, hc1, hc2⟩ := Option.bind_eq_some_iff.1 hy
              obtain ⟨q1, q2⟩ := cells?_get hc1
              obtain ⟨v, hv⟩ : ∃ v, cs1[0]? = some v := ⟨_, List.getElem?_eq_getElem (by omega)⟩
              have hlz : len = 0 := by omega
              have := spot_none (q2 0 v hv)
              subst hlz
              simpa [Addr.add] using this
          obtain ⟨b, o, sp⟩ := a
          refine ⟨[.lst 1 (P.cellsOf e) ((l.map (·.2)).map (toVal P e))], .cons ?_ .nil, by simp [DV.one], .slice hu (by simp; omega) (TVs.of fun y hy => ?_), h1⟩
          · rw [List.map_map]
            have := VRel.lst (c := Cor.start W) (t := 1) (xs := l.map fun y => toVal P e y.2) (a := some ⟨b, o, sp⟩) (cap := cap) (vs := l.flatMap (·.1)) (sz := P.cellsOf e) (fun _ => hpos)
              (fun x hx => by
                obtain ⟨y, hy, rfl⟩ := List.mem_map.1 hx
                rw [toVal_cells (hTC y hy)]
                obtain ⟨i, _, hi⟩ := hmem y hy
                exact (hp i y hi).2.2.2.2)
              (by rw [hflat]; exact VRels.flatMap l fun y hy => by obtain ⟨i, _, hi⟩ := hmem y hy; exact (hp i y hi).2.1)
              (by
                rw [hflat]; intro d hd
                obtain ⟨y, hy, hdy⟩ := List.mem_flatMap.1 hd
                obtain ⟨i, _, hi⟩ := hmem y hy
                exact (hp i y hi).2.2.1 d hdy)
              (fun hne => by
                have hl0 : 0 < len := by
                  rcases Nat.eq_zero_or_pos len with h | h
                  · have : l = [] := List.eq_nil_of_length_eq_zero (by omega)
                    subst this; simp at hne
                  · exact h
                have hs0 := hspot (by omega)
                dsimp only at hs0
                subst hs0
                refine ⟨b, o, rfl, fun j x hj => ?_⟩
                obtain ⟨y, hy1, hy2⟩ := flatMap_get hpos l (fun y hy => hlen1 y hy) j x hj
                have := (cells?_get (hp _ y hy1).1).2 _ _ hy2
                rw [add_none, add_none] at this
                have e1 : o + j / P.cellsOf e * P.cellsOf e + j % P.cellsOf e = o + j := by
                  have := Nat.div_add_mod j (P.cellsOf e)
                  rw [Nat.mul_comm] at this
                  omega
                rw [e1] at this
                exact this)
              (by simp; omega) (fun h => by cases h) (fun _ => ⟨b, o, sp, rfl, by
                rcases Nat.eq_zero_or_pos cap with h | h
                · exact .inr h
                · exact .inl (hspot h)⟩) (fun h => by omega)
            rw [List.length_map, hl] at this
            exact this
          · obtain ⟨z, hz, rfl⟩ := List.mem_map.1 hy
            exact hTC z hz
      case struct fs =>
        simp only [Bool.and_eq_true] at hst
        obtain ⟨hfs, hoff⟩ := hst
        obtain ⟨xs, n, hn, rfl, hcl, hxl, hx⟩ := DataW.trod_struct hu h
        cases hn
        have aux : ∀ (fl : List Field) (o : Nat), offsB P o fl (P.cellsOf t) = true → (∀ f ∈ fl, f.type ∈ S) → (∀ f ∈ fl, ∃ y, DataW.trod enc P W 0 (fun _ => true) held fuel f.type ((cs.drop f.offset).take (P.cellsOf f.type)) = some y) → o ≤ P.cellsOf t →
            ∃ ds, VRels (Cor.start W) ds (cs.drop o) ∧ (∀ d ∈ ds, d.one = true) ∧ TFs P fl ds ∧ ds.length = P.cellsOf t - o := by
          intro fl
          induction fl with
          | nil =>
            intro o ho _ _ _
            have := Nat.eq_of_beq_eq_true ho
            subst this
            exact ⟨[], by rw [List.drop_eq_nil_of_le (by omega)]; exact .nil, by simp, .nil, by simp⟩
          | cons f fl ihf =>
            intro o ho hS hx hle
            simp only [offsB, Bool.and_eq_true] at ho
            obtain ⟨ho1, ho2⟩ := ho
            have ho1 := Nat.eq_of_beq_eq_true ho1
            obtain ⟨y, hy⟩ := hx f (by simp)
            rw [ho1] at hy
            obtain ⟨ds1, q1, q2, q3, q4⟩ := ih f.type _ y (hS f (by simp)) hy
            have hl1 := q1.length_eq
            have hle2 : o + P.cellsOf f.type ≤ P.cellsOf t := by
              have : ∀ (fl : List Field) (o : Nat), offsB P o fl (P.cellsOf t) = true → o ≤ P.cellsOf t := by
                intro fl
                induction fl with
                | nil => intro o ho; exact Nat.le_of_eq (Nat.eq_of_beq_eq_true ho)
                | cons f fl ih2 => intro o ho; simp only [offsB, Bool.and_eq_true] at ho; have := ih2 _ ho.2; omega
              exact this fl _ ho2
            obtain ⟨ds2, r1, r2, r3, r4⟩ := ihf _ ho2 (fun g hg => hS g (by simp [hg])) (fun g hg => hx g (by simp [hg])) hle2
            refine ⟨ds1 ++ ds2, ?_, ?_, .cons q3 r3, by simp [q4, r4]; omega⟩
            · have : cs.drop o = (cs.drop o).take (P.cellsOf f.type) ++ cs.drop (o + P.cellsOf f.type) := by
                rw [← List.drop_drop, List.take_append_drop]
              rw [this]
              exact q1.append r1
            · intro d hd
              rcases List.mem_append.1 hd with hd | hd
              · exact q2 d hd
              · exact r2 d hd
        have hfS : ∀ f ∈ fs.toList, f.type ∈ S := fun f hf => by
          have := List.all_eq_true.1 hfs f hf
          simpa using this
        obtain ⟨ds, r1, r2, r3, r4⟩ := aux fs.toList 0 hoff hfS (fun f hf => by
          obtain ⟨i, hi⟩ := List.getElem?_of_mem hf
          have hi' : fs[i]? = some f := by simpa using hi
          have hlt : i < fs.size := (Array.getElem?_eq_some_iff.1 hi').1
          exact ⟨xs[i], by rw [hx i f hi', List.getElem?_eq_getElem (by omega)]⟩) (Nat.zero_le _)
        exact ⟨ds, by simpa using r1, r2, .struct hu r3, by simpa using r4⟩
end
end Go.Dm
