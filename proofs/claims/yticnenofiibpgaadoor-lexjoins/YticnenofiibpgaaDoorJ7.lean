/- LexJoins returns true for every input: part 7 of the proof (several texts joined). -/
import Derived.Test.YticnenofiibpgaaDoorJ6
/- What token.Without does. -/
namespace Go.Proofs.YticnenofiibpgaaDoor.Code
open Go.Dm Go.Dm.C
set_option linter.unusedSimpArgs false
set_option linter.unusedVariables false
set_option linter.unnecessarySimpa false
set_option maxRecDepth 10000
attribute [local irreducible] Go.Dm.F Go.Dm.RS Go.Dm.Y Go.Dm.FD Go.Dm.FZ1 Go.Dm.Hold
variable {R : List Ck}
def aval (o : Option Nat) (al : List SP) : DV := match o with | none => .lst 0 0 [] | some id => .arr id 2 0 al.length
def apc (o : Option Nat) (al : List SP) : List Ck := match o with | none => [] | some id => [aobj id al]
theorem clone_F {t z : Nat} {al : List SP} (hz : z = zOf t 2) (h0 : t = 0 → al = []) (hl : al.length ≤ 1000000000) : F D 58 [.lst t z (al.map encA)] R (fun v cs' => Hold (∃ o, v = aval o al ∧ apc o al ++ R = cs' ∧ (o = none → al = []))) := by
  subst hz
  refine F.of rfl rfl rfl ?_
  repeat' first | (apply RR.mksA; exact rfl; refine fun _ _ => ?_) | (apply RR.appA (al := al); exact rfl; exact rfl; exact rfl; exact kk; exact ⟨by decide, hl⟩; exact rfl; assumption; refine fun _ _ => ?_) | (refine fun (hc : _ = _) => ?_; (try simp only [BB] at hc); (try (first | contradiction | (exfalso; omega)))) | exact arI | refine Pst.mk ⟨?_, rfl⟩ kk | constructor | (refine fun _ _ (hq : Hold _) => ?_; replace hq := hq.out; obtain ⟨_, rfl, rfl⟩ := hq) | (refine fun _ _ (hq : Hold _) => ?_; replace hq := hq.out; obtain ⟨_, _, rfl, rfl⟩ := hq) | rintro _ _ ⟨rfl, rfl⟩ | rintro _ _ ⟨_, rfl, rfl⟩ | rintro _ _ ⟨_, _, rfl, rfl⟩ | (refine fun (hc : _ = _) => ?_; (try simp only [BB] at hc)) | refine fun (_ : Nat) => ?_ | refine fun (_ : _ ≤ _) => ?_ | refine fun (_ : _ < _) => ?_
  · exact Pst.mk (.mk ⟨none, rfl, rfl, fun _ => h0 hc⟩) .refl
  · rename_i x _
    exact Pst.mk (.mk ⟨some x, rfl, rfl, fun h => by cases h⟩) .refl
theorem pred_F {c : Nat} {a : SP} {nm : Md.Str} {cs : List Ck} (hm : Me (.obj c (.cells [.str nm] none)) cs) : F D 59 [encA a, .ptr c 0] cs (fun v cs' => v = .bool (decide (a.1 = nm)) ∧ cs = cs') := by
  refine F.atM hm fun R => F.of rfl rfl rfl ?_
  repeat' first | exact arI | refine Pst.mk ⟨?_, rfl⟩ kk | constructor | (refine fun _ _ (hq : Hold _) => ?_; replace hq := hq.out; obtain ⟨_, rfl, rfl⟩ := hq) | (refine fun _ _ (hq : Hold _) => ?_; replace hq := hq.out; obtain ⟨_, _, rfl, rfl⟩ := hq) | rintro _ _ ⟨rfl, rfl⟩ | rintro _ _ ⟨_, rfl, rfl⟩ | rintro _ _ ⟨_, _, rfl, rfl⟩ | (refine fun (hc : _ = _) => ?_; (try simp only [BB] at hc)) | refine fun (_ : Nat) => ?_ | refine fun (_ : _ ≤ _) => ?_ | refine fun (_ : _ < _) => ?_
def idxP (al : List SP) (nm : Md.Str) (k : Int) : Prop := (k = -1 ∧ ∀ a ∈ al, a.1 ≠ nm) ∨ ∃ i : Nat, k = i ∧ i < al.length ∧ (al.getD i default).1 = nm ∧ ∀ a ∈ al.take i, a.1 ≠ nm
theorem getD_mem {al : List SP} {i : Nat} (h : i < al.length) : al.getD i default ∈ al := by
  rw [List.getD_eq_getElem?_getD, List.getElem?_eq_getElem h]; exact List.getElem_mem _
theorem take_one {al : List SP} {i : Nat} (h : i < al.length) : al.take (i + 1) = al.take i ++ [al.getD i default] := by
  rw [List.take_add_one, List.getElem?_eq_getElem h, List.getD_eq_getElem?_getD, List.getElem?_eq_getElem h]; rfl
theorem index_F {o : Option Nat} {c : Nat} {al : List SP} {nm : Md.Str} (ho : o = none → al = []) (hl : al.length ≤ 1000000000) : F D 76 [aval o al, .fn (.func 59) [] [.ptr c 0]] (apc o al ++ .obj c (.cells [.str nm] none) :: R) (fun v cs' => Hold (∃ k : Int, v = .int .i64 k ∧ apc o al ++ .obj c (.cells [.str nm] none) :: R = cs' ∧ idxP al nm k)) := by
  cases o with
  | none =>
    obtain rfl := ho rfl
    refine F.of rfl rfl rfl ?_
    unfold aval apc
    dsimp only [List.nil_append]
    repeat' first | exact arI | refine Pst.mk ⟨?_, rfl⟩ kk | constructor | (refine fun _ _ (hq : Hold _) => ?_; replace hq := hq.out; obtain ⟨_, rfl, rfl⟩ := hq) | (refine fun _ _ (hq : Hold _) => ?_; replace hq := hq.out; obtain ⟨_, _, rfl, rfl⟩ := hq) | rintro _ _ ⟨rfl, rfl⟩ | rintro _ _ ⟨_, rfl, rfl⟩ | rintro _ _ ⟨_, _, rfl, rfl⟩ | (refine fun (hc : _ = _) => ?_; (try simp only [BB] at hc)) | refine fun (_ : Nat) => ?_ | refine fun (_ : _ ≤ _) => ?_ | refine fun (_ : _ < _) => ?_
    refine RS.loopW (α := Nat) (fun i => [(7, .int .i64 0), (8, .int .i64 0)]) (fun _ => .obj c (.cells [.str nm] none) :: R) (fun i => True) (fun i => i) 0 trivial ⟨rfl, rfl, trivial⟩ .refl ?_
    rintro i _ ih
    dsimp only [ents] at *
    repeat' first | (refine fun (hc : _ = _) => ?_; (try simp only [BB] at hc); (try (first | contradiction | (exfalso; omega)))) | exact arI | refine Pst.mk ⟨?_, rfl⟩ kk | constructor | (refine fun _ _ (hq : Hold _) => ?_; replace hq := hq.out; obtain ⟨_, rfl, rfl⟩ := hq) | (refine fun _ _ (hq : Hold _) => ?_; replace hq := hq.out; obtain ⟨_, _, rfl, rfl⟩ := hq) | rintro _ _ ⟨rfl, rfl⟩ | rintro _ _ ⟨_, rfl, rfl⟩ | rintro _ _ ⟨_, _, rfl, rfl⟩ | (refine fun (hc : _ = _) => ?_; (try simp only [BB] at hc)) | refine fun (_ : Nat) => ?_ | refine fun (_ : _ ≤ _) => ?_ | refine fun (_ : _ < _) => ?_
    exact Pst.mk (Hold.mk ⟨-1, rfl, rfl, .inl ⟨rfl, fun a ha => by cases ha⟩⟩) .refl
  | some id =>
    refine F.of rfl rfl rfl ?_
    unfold aval apc
    dsimp only [List.cons_append, List.nil_append]
    repeat' first | exact arI | refine Pst.mk ⟨?_, rfl⟩ kk | constructor | (refine fun _ _ (hq : Hold _) => ?_; replace hq := hq.out; obtain ⟨_, rfl, rfl⟩ := hq) | (refine fun _ _ (hq : Hold _) => ?_; replace hq := hq.out; obtain ⟨_, _, rfl, rfl⟩ := hq) | rintro _ _ ⟨rfl, rfl⟩ | rintro _ _ ⟨_, rfl, rfl⟩ | rintro _ _ ⟨_, _, rfl, rfl⟩ | (refine fun (hc : _ = _) => ?_; (try simp only [BB] at hc)) | refine fun (_ : Nat) => ?_ | refine fun (_ : _ ≤ _) => ?_ | refine fun (_ : _ < _) => ?_
    refine RS.loopW (α := Nat) (fun i => [(0, .arr id 2 0 al.length), (1, .fn (.func 59) [] [.ptr c 0]), (7, .int .i64 al.length), (8, .int .i64 (i : Nat))]) (fun _ => aobj id al :: .obj c (.cells [.str nm] none) :: R)
      (fun i => i ≤ al.length ∧ ∀ a ∈ al.take i, a.1 ≠ nm) (fun i => al.length - i) 0 ⟨Nat.zero_le _, fun a ha => by cases ha⟩ ⟨rfl, rfl, rfl, rfl, trivial⟩ .refl ?_
    rintro i ⟨h1, h2⟩ ih
    dsimp only [ents] at *
    repeat' first | (show LD _ _ _ _; exact ldA (i := i) kk (by omega) (by omega)) | (show FC _ _ _ _ _; exact pred_F kk) | (refine fun (hc : _ = _) => ?_; (try simp only [BB] at hc); (try (first | contradiction | (exfalso; omega)))) | exact arI | refine Pst.mk ⟨?_, rfl⟩ kk | constructor | (refine fun _ _ (hq : Hold _) => ?_; replace hq := hq.out; obtain ⟨_, rfl, rfl⟩ := hq) | (refine fun _ _ (hq : Hold _) => ?_; replace hq := hq.out; obtain ⟨_, _, rfl, rfl⟩ := hq) | rintro _ _ ⟨rfl, rfl⟩ | rintro _ _ ⟨_, rfl, rfl⟩ | rintro _ _ ⟨_, _, rfl, rfl⟩ | (refine fun (hc : _ = _) => ?_; (try simp only [BB] at hc)) | refine fun (_ : Nat) => ?_ | refine fun (_ : _ ≤ _) => ?_ | refine fun (_ : _ < _) => ?_
    · exact Pst.mk (Hold.mk ⟨_, rfl, rfl, .inr ⟨i, rfl, by omega, hc, h2⟩⟩) .refl
    · refine ih _ _ (i + 1) ⟨by omega, ?_⟩ (by omega) ⟨rfl, rfl, rfl, rfl, trivial⟩ .refl
      rw [take_one (by omega)]
      intro a ha
      rcases List.mem_append.1 ha with ha | ha
      · exact h2 a ha
      · simp only [List.mem_singleton] at ha; subst ha; exact hc
    · rw [List.take_of_length_le (by omega)] at h2
      exact Pst.mk (Hold.mk ⟨_, rfl, rfl, .inl ⟨rfl, h2⟩⟩) .refl
def keepA (nm : Md.Str) (a : SP) : Bool := !decide (a.1 = nm)
theorem keep_all {al : List SP} {nm : Md.Str} (h : ∀ a ∈ al, a.1 ≠ nm) : al.filter (keepA nm) = al := by
  rw [List.filter_eq_self]
  intro a ha
  unfold keepA
  rw [decide_eq_false (h a ha)]; rfl
theorem keep_step {al : List SP} {nm : Md.Str} {j : Nat} (h : j < al.length) : (al.take (j + 1)).filter (keepA nm) = (al.take j).filter (keepA nm) ++ (if (al.getD j default).1 = nm then [] else [al.getD j default]) := by
  rw [take_one h, List.filter_append]
  congr 1
  unfold keepA
  by_cases e : (al.getD j default).1 = nm
  · rw [if_pos e, List.filter_cons, if_neg (by rw [decide_eq_true e]; decide)]; rfl
  · rw [if_neg e, List.filter_cons, if_pos (by rw [decide_eq_false e]; rfl)]; rfl
theorem delete_F {o : Option Nat} {c : Nat} {al : List SP} {nm : Md.Str} (ho : o = none → al = []) (hl : al.length ≤ 1000000000) : F D 57 [aval o al, .fn (.func 59) [] [.ptr c 0]] (apc o al ++ .obj c (.cells [.str nm] none) :: R)
    (fun v cs' => Hold ((v = .lst 0 0 [] ∧ .obj c (.cells [.str nm] none) :: R = cs' ∧ (al.filter (keepA nm)).length = 0) ∨ ∃ (id n : Nat) (bl : List SP), v = .arr id 2 0 n ∧ aobj id bl :: .obj c (.cells [.str nm] none) :: R = cs' ∧ n ≤ bl.length ∧ (al.filter (keepA nm)).length = n)) := by
  refine F.of rfl rfl rfl ?_
  repeat' first | (show FC _ _ _ _ _; exact index_F ho hl) | (refine Arith.mk fun _ => ?_; rcases hk with ⟨h, _⟩ | ⟨i, h, h', _⟩ <;> omega) | (refine fun _ _ (hq : Hold _) => ?_; replace hq := hq.out; obtain ⟨k, rfl, rfl, hk⟩ := hq) | (refine fun (hc : _ = _) => ?_; (try simp only [BB] at hc); (try (first | contradiction | (exfalso; omega)))) | exact arI | refine Pst.mk ⟨?_, rfl⟩ kk | constructor | (refine fun _ _ (hq : Hold _) => ?_; replace hq := hq.out; obtain ⟨_, rfl, rfl⟩ := hq) | (refine fun _ _ (hq : Hold _) => ?_; replace hq := hq.out; obtain ⟨_, _, rfl, rfl⟩ := hq) | rintro _ _ ⟨rfl, rfl⟩ | rintro _ _ ⟨_, rfl, rfl⟩ | rintro _ _ ⟨_, _, rfl, rfl⟩ | (refine fun (hc : _ = _) => ?_; (try simp only [BB] at hc)) | refine fun (_ : Nat) => ?_ | refine fun (_ : _ ≤ _) => ?_ | refine fun (_ : _ < _) => ?_
  · rcases hk with ⟨_, hk⟩ | ⟨i, h1, _⟩
    · have hf := keep_all hk
      cases o with
      | none => obtain rfl := ho rfl; exact Pst.mk (Hold.mk (.inl ⟨rfl, rfl, rfl⟩)) .refl
      | some id => exact Pst.mk (Hold.mk (.inr ⟨id, al.length, al, rfl, rfl, Nat.le_refl _, by rw [hf]⟩)) .refl
    · omega
  all_goals
    obtain ⟨i0, rfl, hi0, he0, hb0⟩ := hk.resolve_left (fun h => hc h.1)
    obtain ⟨id, rfl⟩ : ∃ id, o = some id := by cases o with
      | none => rw [ho rfl] at hi0; exact absurd hi0 (by simp)
      | some id => exact ⟨id, rfl⟩
    unfold aval apc
    dsimp only [List.cons_append, List.nil_append]
  · refine RS.loopW (α := Nat × Nat × List SP) (fun a => [(0, .arr id 2 0 al.length), (1, .fn (.func 59) [] [.ptr c 0]), (5, .int .i64 (a.1 : Nat)), (6, .int .i64 (a.2.1 : Nat))]) (fun a => aobj id a.2.2 :: .obj c (.cells [.str nm] none) :: R)
      (fun a => a.1 < a.2.1 ∧ a.2.1 ≤ al.length ∧ a.2.2.length = al.length ∧ a.2.2.take a.1 = (al.take a.2.1).filter (keepA nm) ∧ a.2.2.drop a.2.1 = al.drop a.2.1) (fun a => al.length - a.2.1) (i0, i0 + 1, al) ⟨Nat.lt_succ_self _, hi0, rfl, by rw [keep_step hi0, if_pos he0, List.append_nil, keep_all hb0], rfl⟩ ⟨rfl, rfl, rfl, rfl, trivial⟩ .refl ?_
    rintro ⟨i, j, bl⟩ ⟨h1, h2, h3, h4, h5⟩ ih
    dsimp only [ents] at *
    have hks := fun h => keep_step (al := al) (nm := nm) (j := j) h
    have hbj : j < al.length → bl.getD j default = al.getD j default := fun h => by
      have e := congrArg (fun l => l.getD 0 default) h5
      simpa [List.getD_eq_getElem?_getD, List.getElem?_drop] using e
    repeat' first
      | (show LD _ _ _ _; exact ldA (i := j) kk (by omega) (by omega)) | (show FC _ _ _ _ _; exact pred_F kk) | (apply RR.storeS; exact rfl; exact rfl; exact stA (i := i) (a := bl.getD j default) kk (by omega) (by omega); exact rfl)
      | (apply RR.clearA (i := i); exact rfl; exact fun _ => kk; omega; omega; exact rfl; refine fun bl2 hb1 hb2 => ?_) | (refine fun (hc : _ = _) => ?_; (try simp only [BB] at hc); (try (first | contradiction | (exfalso; omega)))) | exact arI | refine Pst.mk ⟨?_, rfl⟩ kk | constructor | (refine fun _ _ (hq : Hold _) => ?_; replace hq := hq.out; obtain ⟨_, rfl, rfl⟩ := hq) | (refine fun _ _ (hq : Hold _) => ?_; replace hq := hq.out; obtain ⟨_, _, rfl, rfl⟩ := hq) | rintro _ _ ⟨rfl, rfl⟩ | rintro _ _ ⟨_, rfl, rfl⟩ | rintro _ _ ⟨_, _, rfl, rfl⟩ | (refine fun (hc : _ = _) => ?_; (try simp only [BB] at hc)) | refine fun (_ : Nat) => ?_ | refine fun (_ : _ ≤ _) => ?_ | refine fun (_ : _ < _) => ?_
    · have hb := hbj (by omega)
      rw [hb] at hc ⊢
      have e := hks (by omega)
      rw [if_neg hc] at e
      have hset : bl.set i (al.getD j default) = bl.take i ++ al.getD j default :: bl.drop (i + 1) := by
        rw [List.set_eq_take_append_cons_drop, if_pos (by omega)]
      refine ih _ _ (i + 1, j + 1, bl.set i (al.getD j default)) ⟨by dsimp only; omega, by dsimp only; omega, by dsimp only; rw [List.length_set, h3], ?_, ?_⟩ (by dsimp only; omega) ⟨rfl, rfl, rfl, rfl, trivial⟩ kk
      · dsimp only
        rw [e, ← h4, hset]
        have hl1 : (bl.take i).length = i := by rw [List.length_take]; omega
        rw [List.take_append, hl1, show i + 1 - i = 1 by omega, List.take_of_length_le (by omega)]; rfl
      · dsimp only
        rw [List.drop_set_of_lt (by omega), show j + 1 = j + 1 from rfl, ← List.drop_drop, h5, List.drop_drop]
    · have hb := hbj (by omega)
      rw [hb] at hc
      have e := hks (by omega)
      rw [if_pos hc, List.append_nil] at e
      refine ih _ _ (i, j + 1, bl) ⟨by dsimp only; omega, by dsimp only; omega, h3, ?_, ?_⟩ (by dsimp only; omega) ⟨rfl, rfl, rfl, rfl, trivial⟩ kk
      · dsimp only; rw [e, h4]
      · dsimp only; rw [← List.drop_drop, h5, List.drop_drop]
    · obtain rfl : j = al.length := by omega
      rw [List.take_length] at h4
      have hfl := congrArg List.length h4
      rw [List.length_take] at hfl
      exact Pst.mk (Hold.mk (.inr ⟨id, i, bl2, rfl, rfl, by omega, by omega⟩)) .refl
theorem without_F {t z : Nat} {al : List SP} {nm : Md.Str} (hz : z = zOf t 2) (h0 : t = 0 → al = []) (hl : al.length ≤ 1000000000) : F D 46 [.lst t z (al.map encA), .str nm] R (fun v cs' => Hold ((v = .lst 0 0 [] ∧ R = cs' ∧ (al.filter (keepA nm)).length = 0) ∨ ∃ (id n : Nat) (bl : List SP), v = .arr id 2 0 n ∧ aobj id bl :: R = cs' ∧ n ≤ bl.length ∧ (al.filter (keepA nm)).length = n)) := by
  refine F.of rfl rfl rfl ?_
  repeat' first | (show FC _ _ _ _ _; first | exact clone_F hz h0 hl | exact delete_F (by assumption) hl) | (refine fun _ _ (hq : Hold _) => ?_; replace hq := hq.out; obtain ⟨o, rfl, rfl, ho⟩ := hq) | (refine fun _ _ (hq : Hold _) => ?_; replace hq := hq.out; rcases hq with ⟨rfl, rfl, hf⟩ | ⟨id, n, bl, rfl, rfl, hn, hf⟩) | (refine fun (hc : _ = _) => ?_; (try simp only [BB] at hc); (try (first | contradiction | (exfalso; omega)))) | exact arI | refine Pst.mk ⟨?_, rfl⟩ kk | constructor | (refine fun _ _ (hq : Hold _) => ?_; replace hq := hq.out; obtain ⟨_, rfl, rfl⟩ := hq) | (refine fun _ _ (hq : Hold _) => ?_; replace hq := hq.out; obtain ⟨_, _, rfl, rfl⟩ := hq) | rintro _ _ ⟨rfl, rfl⟩ | rintro _ _ ⟨_, rfl, rfl⟩ | rintro _ _ ⟨_, _, rfl, rfl⟩ | (refine fun (hc : _ = _) => ?_; (try simp only [BB] at hc)) | refine fun (_ : Nat) => ?_ | refine fun (_ : _ ≤ _) => ?_ | refine fun (_ : _ < _) => ?_
  · exact Pst.mk (Hold.mk (.inl ⟨rfl, rfl, hf⟩)) kk
  · exact Pst.mk (Hold.mk (.inr ⟨id, n, bl, rfl, rfl, hn, hf⟩)) kk
theorem withoutZ_F {t z : Nat} {al : List SP} {nm : Md.Str} (hz : z = zOf t 2) (h0 : t = 0 → al = []) (hl : al.length ≤ 1000000000) : FZ D (.fn (.func 46) [] []) [.lst t z (al.map encA), .str nm] R (fun v cs' => Hold (∃ (t z : Nat) (xs : List DV), v = .lst t z xs ∧ (al.filter (keepA nm)).length = xs.length ∧ R = cs')) :=
  FZ1.ofA (P := fun n => (al.filter (keepA nm)).length = n) (without_F hz h0 hl)
theorem withoutO_F {t z : Nat} {al : List SP} {nm : Md.Str} {cs : List Ck} (hm : Me (.own t 2 (al.map encA)) cs) (hz : z = zOf t 2) (hl : al.length ≤ 1000000000) : FZ D (.fn (.func 46) [] []) [.lst t z (al.map encA), .str nm] cs (fun v cs' => Hold (∃ (t z : Nat) (xs : List DV), v = .lst t z xs ∧ (al.filter (keepA nm)).length = xs.length ∧ cs = cs')) :=
  FZ1.at (fun _ hs => Sat.own0 hs hm) (fun h0 => withoutZ_F hz h0 hl)
theorem keep_len {al : List SP} {nm : Md.Str} : ((al.filter (keepA nm)).length = al.length) ↔ Md.hasAttr al nm = false := by
  unfold Md.hasAttr
  rw [List.any_eq_false]
  constructor
  · intro h a ha
    have := List.length_filter_eq_length_iff.1 h a ha
    unfold keepA at this
    simpa using this
  · intro h
    rw [List.length_filter_eq_length_iff]
    intro a ha
    have := h a ha
    unfold keepA
    simpa using this
end Go.Proofs.YticnenofiibpgaaDoor.Code
/- How a text is read on, with texts az one: rules. -/
namespace Go.Md
def tx (d : Str) : Tok := { Tok.zero with kind := 1, data := d }
/-- A text more. -/
def app (l : List Tok) (d : Str) : List Tok := joinStep l (tx d)
theorem app_emp (d : Str) : app [] d = if d = [] then [] else [tx d] := by
  unfold app
  rw [joinStep_nil]
  by_cases h : d = []
  · subst h; rfl
  · rw [if_neg (fun x => h x.2), if_neg h]
theorem app_snoc (l : List Tok) (u : Tok) (d : Str) : app (l ++ [u]) d = if u.kind = 1 then l ++ [{ u with data := u.data ++ d }] else if d = [] then l ++ [u] else l ++ [u] ++ [tx d] := by
  unfold app
  rw [joinStep_snoc]
  simp only [tx, true_and]
theorem app_nil (l : List Tok) : app l [] = l := by
  rcases List.eq_nil_or_concat l with rfl | ⟨l, u, rfl⟩
  · rw [app_emp, if_pos rfl]
  · rw [List.concat_eq_append, app_snoc]; split
    · simp
    · rw [if_pos rfl]
theorem app_app (l : List Tok) (a b : Str) : app (app l a) b = app l (a ++ b) := by
  by_cases ha : a = []
  · subst ha; rw [app_nil, List.nil_append]
  · have h2 : a ++ b ≠ [] := by simp [ha]
    rcases List.eq_nil_or_concat l with rfl | ⟨l, u, rfl⟩
    · rw [app_emp, if_neg ha, app_emp, if_neg h2]
      have := app_snoc [] (tx a) b
      rw [List.nil_append] at this
      rw [this, if_pos (show (tx a).kind = 1 from rfl)]; rfl
    · rw [List.concat_eq_append, app_snoc, app_snoc]; split
      · rename_i hk
        rw [app_snoc, if_pos (by exact hk)]; simp
      · (try rw [if_neg ha]); (try rw [if_neg h2]); rw [app_snoc, if_pos (show (tx a).kind = 1 from rfl)]; simp [tx, Tok.zero]
def vt (acc : List Tok) (x : Lx) : List Tok := app (x.out.foldl joinStep acc) (encode x.text)
/-- Where a lexer is, and what it gave. -/
structure At (acc : List Tok) (x : Lx) (w : Int) (n : Str) (b : Bool) (r : List Int) (A : List Tok) : Prop where
  done : x.done = false
  way : x.way = w
  last : x.last = n
  room : x.room = b
  rest : x.rest = r
  vt : vt acc x = A
end Go.Md
namespace Go.Proofs.YticnenofiibpgaaDoor.Code
open Go.Dm
set_option linter.unusedSimpArgs false
set_option linter.unusedVariables false
variable {acc : List Md.Tok} {x : Md.Lx} {w : Int} {n : Md.Str} {b : Bool} {r : List Int} {A B : List Md.Tok}
theorem enc_app (a b : List Int) : Md.encode (a ++ b) = Md.encode a ++ Md.encode b := by simp [Md.encode]
theorem enc_one (r : Int) : Md.encode [r] = Md.putR r := by simp [Md.encode]
theorem enc_cons (r : Int) (l : List Int) : Md.encode (r :: l) = Md.putR r ++ Md.encode l := by simp [Md.encode]
theorem At.adv (h : Md.At acc x w n b r A) (k : Nat) : Md.At acc (x.adv k) w n b (r.drop k) A := ⟨h.done, h.way, h.last, h.room, by rw [rest_adv, h.rest], h.vt⟩
theorem At.say (h : Md.At acc x w n b r A) (d : List Int) : Md.At acc (x.say d) w n b r (Md.app A (Md.encode (d.filter (· != -1)))) := ⟨h.done, h.way, h.last, h.room, h.rest, by
  rw [← h.vt]; unfold Md.vt
  rw [Md.app_app, ← enc_app]; rfl⟩
theorem At.say' (h : Md.At acc x w n b r A) {d : List Int} (hd : ∀ r ∈ d, 0 ≤ r) : Md.At acc (x.say d) w n b r (Md.app A (Md.encode d)) := by
  have := At.say h d
  rwa [filter_nn hd] at this
theorem At.flush (h : Md.At acc x w n b r A) : Md.At acc x.flush w n b r A := by
  unfold Md.Lx.flush
  split
  · exact h
  · refine ⟨h.done, h.way, h.last, h.room, h.rest, ?_⟩
    rw [← h.vt]; unfold Md.vt
    show Md.app ((x.out ++ [Md.textTok x.text]).foldl Md.joinStep acc) [] = _
    rw [Md.app_nil, List.foldl_append]; rfl
theorem At.emit (h : Md.At acc x w n b r A) (t : Md.Tok) : Md.At acc (x.emit t) w (if t.kind = 2 then t.name else n) b r (Md.joinStep A t) := by
  have h1 := At.flush h
  refine ⟨h1.done, h1.way, ?_, h1.room, h1.rest, ?_⟩
  · show (if t.kind = 2 then t.name else x.flush.last) = _; rw [h1.last]
  · have h2 := h1.vt
    unfold Md.vt at h2 ⊢
    have e : (x.emit t).text = [] := flush_text
    have e0 : x.flush.text = [] := flush_text
    rw [e0] at h2
    rw [e]
    show Md.app ((x.flush.out ++ [t]).foldl Md.joinStep acc) [] = _
    have e2 : Md.encode [] = [] := rfl
    rw [e2, Md.app_nil] at h2
    rw [Md.app_nil, List.foldl_append, h2]; rfl
theorem At.setWay (h : Md.At acc x w n b r A) (w' : Int) : Md.At acc { x with way := w' } w' n b r A := ⟨h.done, rfl, h.last, h.room, h.rest, h.vt⟩
theorem At.pk (h : Md.At acc x w n b r A) (k : Nat) : x.pk k = r.getD k (-1) := by rw [pk_rest, h.rest]
/-- Read from here on, with what is there already: what it all is. -/
def Rd (w : Int) (n : Md.Str) (b : Bool) (r : List Int) (A B : List Md.Tok) : Prop := ∀ acc x, NI x → Md.At acc x w n b r A → x.toks.foldl Md.joinStep acc = B
theorem NI.noOut (h : NI x) : NI { x with out := [] } := ⟨h.len, h.nn, h.pos, h.pos2, h.text, by show (0 : Nat) ≤ 100; omega, h.last⟩
theorem At.noOut (h : Md.At acc x w n b r A) : Md.At (x.out.foldl Md.joinStep acc) { x with out := [] } w n b r A := ⟨h.done, h.way, h.last, h.room, h.rest, h.vt⟩
theorem At.fin (h : Md.At acc x w n b r A) : Md.At acc (stepFin x) w n b r A := by
  unfold stepFin; split
  · exact At.flush h
  · exact h
theorem Rd.step {w' : Int} {n' : Md.Str} {b' : Bool} {r' : List Int} {A' : List Md.Tok} (h : ∀ acc x, NI x → x.out = [] → Md.At acc x w n b r A → Md.At acc (stepMid x) w' n' b' r' A') (hr : Rd w' n' b' r' A' B) : Rd w n b r A B := by
  intro acc x hN hS
  have hN0 := hN.noOut
  have hS0 := At.noOut hS
  rw [toks_out, List.foldl_append]
  have ho : ({ x with out := [] } : Md.Lx).out = [] := rfl
  generalize ({ x with out := [] } : Md.Lx) = y at *
  rw [toks_step hN0 hS0.done ho]
  refine hr _ _ (hN0.step hS0.done ho) ?_
  rw [step_eq]
  exact At.fin (h _ _ hN0 ho hS0)
theorem Rd.nil : Rd w n b [] A A := by
  intro acc x hN hS
  have hN0 := hN.noOut
  have hS0 := At.noOut hS
  rw [toks_out, List.foldl_append]
  have ho : ({ x with out := [] } : Md.Lx).out = [] := rfl
  generalize ({ x with out := [] } : Md.Lx) = y at *
  rw [toks_step hN0 hS0.done ho]
  have hp : y.pk 0 = -1 := by rw [At.pk hS0]; rfl
  have hmid : stepMid y = { (y.adv 1).flush with done := true } := by rw [stepMid, if_pos hp]
  have hst : y.step = { (y.adv 1).flush with done := true } := by
    rw [step_eq, stepFin, hmid, if_neg]
    intro h; apply h.2.1; show (y.adv 1).flush.text = []; exact flush_text
  have hf := (At.flush (At.adv hS0 1)).vt
  rw [toks_out, hst]
  have hd : ({ ({ (y.adv 1).flush with done := true } : Md.Lx) with out := [] } : Md.Lx).toks = [] := toks_done rfl rfl
  rw [hd, List.append_nil]
  unfold Md.vt at hf
  have e : (y.adv 1).flush.text = [] := flush_text
  have e2 : Md.encode [] = [] := rfl
  rw [e, e2, Md.app_nil] at hf
  exact hf
/-- Signs that are a part of the text, in a way. -/
def okSign (w : Int) (c : Int) : Prop := 0 < c ∧ c ≠ 60 ∧ (c = 38 → w ≠ 0 ∧ w ≠ 1)
theorem okSign.of {c : Int} (h : Md.plainSign c = true ∧ 0 ≤ c) : okSign w c := by
  obtain ⟨hc, h0⟩ := h
  simp only [Md.plainSign, Bool.not_eq_true', Bool.or_eq_false_iff, beq_eq_false_iff_ne, ne_eq] at hc
  exact ⟨by omega, hc.1.2, fun h => absurd h hc.1.1⟩
theorem mid_plain {c : Int} {l : List Int} (hc : okSign x.way c) (hr : x.rest = c :: l) : stepMid x = ((x.adv 1).adv (l.takeWhile Md.plainSign).length).say (c :: l.takeWhile Md.plainSign) := by
  have hp : x.pk 0 = c := by rw [pk_rest, hr]; rfl
  have h1 : (x.adv 1).rest = l := by rw [rest_adv, hr]; rfl
  obtain ⟨h0, h60, h38⟩ := hc
  rw [stepMid, hp, h1, if_neg (by omega), if_neg (fun h => by have := h38 h.1; omega), if_neg (fun h => h60 h.1), if_neg (fun h => h60 h.1), if_neg (fun h => h60 h.1), if_neg (by omega), if_neg (by omega)]
theorem Rd.plain1 {c : Int} {l : List Int} (hc : okSign w c) (h : Rd w n b l (Md.app A (Md.putR c)) B) : Rd w n b (c :: l) A B := by
  have h0 : 0 ≤ c := Int.le_of_lt hc.1
  cases l with
  | nil =>
    refine Rd.step (fun acc x hN ho hS => ?_) h
    rw [mid_plain (by rw [hS.way]; exact hc) hS.rest]
    have := At.say' (At.adv (At.adv hS 1) 0) (d := [c]) (by simp [h0])
    rw [enc_one] at this
    exact this
  | cons e l =>
    by_cases he : Md.plainSign e = true
    · intro acc x hN hS
      have hN0 := hN.noOut
      have hS0 := At.noOut hS
      rw [toks_out, List.foldl_append]
      have ho : ({ x with out := [] } : Md.Lx).out = [] := rfl
      generalize ({ x with out := [] } : Md.Lx) = y at *
      have hlt : y.pos < y.inp.length := by
        by_cases hlt : y.pos < y.inp.length
        · exact hlt
        · have := rest_nil (s := y) (by omega); rw [hS0.rest] at this; cases this
      have hNz : NI ((y.adv 1).say [c]) := ⟨hN0.len, hN0.nn, by show y.pos + 1 ≤ _; exact Nat.succ_le_succ (Nat.le_of_lt hlt), fun _ => by show y.pos + 1 ≤ y.inp.length; omega, by
        show (y.text ++ [c].filter (· != -1)).length ≤ 10 * (y.pos + 1)
        have := hN0.text
        rw [filter_nn (by simp [h0]), List.length_append, List.length_singleton]; omega, hN0.out, hN0.last⟩
      have hSz := At.say' (At.adv hS0 1) (d := [c]) (by simp [h0])
      rw [enc_one] at hSz
      have := h _ _ hNz hSz
      rw [← this]
      have he0 : 0 ≤ e := hN0.nn e (by
        have : e ∈ y.rest := by rw [hS0.rest]; simp
        exact List.mem_of_mem_drop this)
      congr 1
      rw [toks_step hN0 hS0.done ho, toks_step hNz hSz.done (by exact ho), step_eq, step_eq]
      congr 2
      rw [mid_plain (by rw [hS0.way]; exact hc) hS0.rest, mid_plain (okSign.of ⟨he, he0⟩) (show ((y.adv 1).say [c]).rest = e :: l by rw [rest_say, rest_adv, hS0.rest]; rfl)]
      rw [List.takeWhile_cons, if_pos he]
      unfold Md.Lx.say Md.Lx.adv
      simp only [List.length_cons, Md.Lx.mk.injEq, true_and, and_true]
      have e1 : (c :: e :: l.takeWhile Md.plainSign).filter (· != -1) = [c].filter (· != -1) ++ (e :: l.takeWhile Md.plainSign).filter (· != -1) := by rw [← List.filter_append]; rfl
      exact ⟨by omega, by rw [e1, List.append_assoc]⟩
    · refine Rd.step (fun acc x hN ho hS => ?_) h
      rw [mid_plain (by rw [hS.way]; exact hc) hS.rest, List.takeWhile_cons, if_neg he]
      have := At.say' (At.adv (At.adv hS 1) 0) (d := [c]) (by simp [h0])
      rw [enc_one] at this
      exact this
theorem Rd.plain {l : List Int} : ∀ (d : List Int) {A : List Md.Tok}, (∀ c ∈ d, okSign w c) → Rd w n b l (Md.app A (Md.encode d)) B → Rd w n b (d ++ l) A B
  | [], A, _, h => by have e : Md.encode [] = [] := rfl; rw [e, Md.app_nil] at h; exact h
  | c :: d, A, hd, h => Rd.plain1 (hd c (by simp)) (Rd.plain d (fun x hx => hd x (by simp [hx])) (by rw [Md.app_app, ← enc_cons]; exact h))
/-- A < where tags may stand. -/
theorem Rd.tag {n' : Md.Str} {w' : Int} {b' : Bool} {l r' : List Int} {A' : List Md.Tok} (h : ∀ acc x, (∀ r ∈ x.inp, 0 ≤ r) → Md.At acc x 0 n b l A → Md.At acc x.open_ w' n' b' r' A') (hr : Rd w' n' b' r' A' B) : Rd 0 n b (60 :: l) A B := by
  refine Rd.step (fun acc x hN ho hS => ?_) hr
  have hp : x.pk 0 = 60 := by rw [At.pk hS]; rfl
  have hw := hS.way
  rw [stepMid, if_neg (by omega), if_neg (by omega), if_pos ⟨hp, hw⟩]
  exact h _ _ (by rw [flush_inp]; exact hN.nn) (At.flush (At.adv hS 1))
/-- A < in the other ways. -/
theorem Rd.shut {n' : Md.Str} {w' : Int} {b' : Bool} {l r' : List Int} {A' : List Md.Tok} (hw : w = 1 ∨ w = 2) (h : ∀ acc x, (∀ r ∈ x.inp, 0 ≤ r) → Md.At acc x w n b l A → Md.At acc x.close w' n' b' r' A') (hr : Rd w' n' b' r' A' B) : Rd w n b (60 :: l) A B := by
  refine Rd.step (fun acc x hN ho hS => ?_) hr
  have hp : x.pk 0 = 60 := by rw [At.pk hS]; rfl
  have hw' := hS.way
  rw [stepMid, if_neg (by omega), if_neg (by omega), if_neg (by omega), if_pos ⟨hp, by omega⟩]
  exact h _ _ (by rw [flush_inp]; exact hN.nn) (At.flush (At.adv hS 1))
theorem Rd.scr {n' : Md.Str} {w' : Int} {b' : Bool} {l r' : List Int} {A' : List Md.Tok} (h : ∀ acc x, (∀ r ∈ x.inp, 0 ≤ r) → Md.At acc x 3 n b l A → Md.At acc x.script w' n' b' r' A') (hr : Rd w' n' b' r' A' B) : Rd 3 n b (60 :: l) A B := by
  refine Rd.step (fun acc x hN ho hS => ?_) hr
  have hp : x.pk 0 = 60 := by rw [At.pk hS]; rfl
  have hw' := hS.way
  rw [stepMid, if_neg (by omega), if_neg (by omega), if_neg (by omega), if_neg (by omega), if_pos ⟨hp, by omega⟩]
  exact h _ _ (by rw [flush_inp]; exact hN.nn) (At.flush (At.adv hS 1))
theorem Rd.ref {l : List Int} (hw : w = 0 ∨ w = 1) (hs : ∀ r ∈ (Md.refer false l).1, 0 ≤ r) (hr : Rd w n b (l.drop (Md.refer false l).2) (Md.app A (Md.encode (Md.refer false l).1)) B) : Rd w n b (38 :: l) A B := by
  refine Rd.step (fun acc x hN ho hS => ?_) hr
  have hp : x.pk 0 = 38 := by rw [At.pk hS]; rfl
  have hw' := hS.way
  rw [stepMid, if_neg (by omega), if_pos ⟨hp, by omega⟩]
  have h1 : (x.adv 1).rest = l := by rw [rest_adv, hS.rest]; rfl
  unfold refA
  rw [h1]
  exact At.say' (At.adv (At.adv hS 1) _) hs
theorem Rd.start {c : Md.Str} {w : Int} {nm : Md.Str} {room : Bool} (hN : NI { Md.Lx.new c with way := w, last := nm, room := room }) (h : Rd w nm room (Md.decode c) [] B) : Md.join ({ Md.Lx.new c with way := w, last := nm, room := room } : Md.Lx).toks = B :=
  h [] _ hN ⟨rfl, rfl, rfl, rfl, rfl, rfl⟩
theorem Rd.conv {r' : List Int} {A' B' : List Md.Tok} (h : Rd w n b r' A' B') (h1 : r = r') (h2 : A = A') (h3 : B' = B) : Rd w n b r A B := by subst h1; subst h2; subst h3; exact h
end Go.Proofs.YticnenofiibpgaaDoor.Code
/- Two lexers at the same text, where tags may stand, give the same. -/
namespace Go.Md
/-- A relation of tokens that more of them keep. -/
structure Cl (K : Nat) (q : List Tok → List Tok → Prop) : Prop where
  app : ∀ A A' d, q A A' → q (app A d) (app A' d)
  tok : ∀ A A' t, t.kind ≠ 1 → t.attrs.length ≤ K → q A A' → q (joinStep A t) (joinStep A' t)
/-- Texts that are nothing else. -/
def Good (A : List Tok) : Prop := ∀ t ∈ A, t.kind = 1 → t = tx t.data
theorem Good.app {A : List Tok} (h : Good A) (d : Str) : Good (app A d) := by
  rcases List.eq_nil_or_concat A with rfl | ⟨l, u, rfl⟩
  · rw [app_emp]; split
    · exact h
    · intro t ht _; simp only [List.mem_singleton] at ht; subst ht; rfl
  · rw [List.concat_eq_append] at *
    rw [app_snoc]; split
    · rename_i hk
      intro t ht h1
      rcases List.mem_append.1 ht with ht | ht
      · exact h t (by simp [ht]) h1
      · simp only [List.mem_singleton] at ht; subst ht
        have := h u (by simp) hk
        rw [this]; rfl
    · split
      · exact h
      · intro t ht h1
        rcases List.mem_append.1 ht with ht | ht
        · exact h t ht h1
        · simp only [List.mem_singleton] at ht; subst ht; rfl
theorem joinStep_tok {A : List Tok} {t : Tok} (ht : t.kind ≠ 1) : joinStep A t = A ++ [t] := by
  rcases List.eq_nil_or_concat A with rfl | ⟨l, u, rfl⟩
  · rw [joinStep_nil, if_neg (fun h => ht h.1)]; rfl
  · rw [List.concat_eq_append, joinStep_snoc, if_neg (fun h => ht h.1), if_neg (fun h => ht h.1)]
theorem Good.tok {A : List Tok} (h : Good A) {t : Tok} (ht : t.kind ≠ 1) : Good (joinStep A t) := by
  rw [joinStep_tok ht]
  intro u hu h1
  rcases List.mem_append.1 hu with hu | hu
  · exact h u hu h1
  · simp only [List.mem_singleton] at hu; subst hu; exact absurd h1 ht
theorem fold_app {A C : List Tok} (h : Good A) (d : Str) : (Md.app A d).foldl joinStep C = Md.app (A.foldl joinStep C) d := by
  rcases List.eq_nil_or_concat A with rfl | ⟨l, u, rfl⟩
  · rw [app_emp]; split
    · rename_i hd; subst hd; rw [app_nil]
    · rfl
  · rw [List.concat_eq_append] at *
    rw [app_snoc]; split
    · rename_i hk
      have hu := h u (by simp) hk
      rw [List.foldl_append, List.foldl_append]
      show joinStep (l.foldl joinStep C) { u with data := u.data ++ d } = Md.app (joinStep (l.foldl joinStep C) u) d
      rw [hu]
      exact (app_app _ _ _).symm
    · split
      · rename_i hd; subst hd; rw [app_nil]
      · rw [List.foldl_append]; rfl
theorem cl_eq (K : Nat) : Cl K (· = ·) := ⟨fun _ _ _ h => by rw [h], fun _ _ _ _ _ h => by rw [h]⟩
theorem small_app {K : Nat} {A : List Tok} (h : ∀ t ∈ A, t.attrs.length ≤ K) (d : Str) : ∀ t ∈ app A d, t.attrs.length ≤ K := by
  rcases List.eq_nil_or_concat A with rfl | ⟨l, u, rfl⟩
  · rw [app_emp]; split
    · exact h
    · intro t ht; simp only [List.mem_singleton] at ht; subst ht; exact Nat.zero_le _
  · rw [List.concat_eq_append] at *
    rw [app_snoc]; split
    · intro t ht
      rcases List.mem_append.1 ht with ht | ht
      · exact h t (by simp [ht])
      · simp only [List.mem_singleton] at ht; subst ht; exact h u (by simp)
    · split
      · exact h
      · intro t ht
        rcases List.mem_append.1 ht with ht | ht
        · exact h t ht
        · simp only [List.mem_singleton] at ht; subst ht; exact Nat.zero_le _
theorem cl_small (K : Nat) : Cl K fun A _ => ∀ t ∈ A, t.attrs.length ≤ K := by
  refine ⟨fun A A' d h => small_app h d, fun A A' t ht hk h => ?_⟩
  rw [joinStep_tok ht]
  intro u hu
  rcases List.mem_append.1 hu with hu | hu
  · exact h u hu
  · simp only [List.mem_singleton] at hu; subst hu; exact hk
theorem putAttr_len (al : List (Str × Str)) (a : Str × Str) : (putAttr al a).length ≤ al.length + 1 := by
  unfold putAttr; split
  · omega
  · simp
/-- Two lexers at the same text. -/
structure Al (K : Nat) (q : List Tok → List Tok → Prop) (acc : List Tok) (x : Lx) (acc' : List Tok) (y : Lx) : Prop where
  dx : x.done = false
  dy : y.done = false
  wx : x.way = 0
  wy : y.way = 0
  room : x.room = y.room
  rest : x.rest = y.rest
  len : y.rest.length ≤ K
  q : q (vt acc x) (vt acc' y)
end Go.Md
namespace Go.Proofs.YticnenofiibpgaaDoor.Code
open Go.Dm
set_option linter.unusedSimpArgs false
set_option linter.unusedVariables false
theorem attrs_len : ∀ (n : Nat) (l : List Int) (acc : List (Md.Str × Md.Str)), l.length ≤ n → (Md.attrsGo l acc).1.length ≤ acc.length + l.length := by
  intro n
  induction n with
  | zero => intro l acc h; have : l = [] := List.eq_nil_of_length_eq_zero (by omega); subst this; rw [attrsGo_nil]; simp
  | succ n ih =>
    intro l acc h
    cases l with
    | nil => rw [attrsGo_nil]; simp
    | cons r l =>
      simp only [List.length_cons] at h ⊢
      cases hb : Md.blank r with
      | true => rw [attrsGo_blank hb]; have := ih l acc (by omega); dsimp only; omega
      | false =>
        by_cases h1 : r = 62
        · subst h1; rw [attrsGo_end]; simp
        · by_cases h2 : r = 47
          · subst h2
            rw [attrsGo_slash]
            split
            · dsimp only; omega
            · have := ih l acc (by omega); dsimp only; omega
          · have hg : 1 ≤ (Md.attr1 (r :: l)).2.2 := attr1_ge (by rw [over_f]; exact ⟨⟨hb, h2⟩, h1⟩)
            have hp := Md.putAttr_len acc (Md.attr1 (r :: l)).1
            rw [attrsGo_attr hb h1 h2]
            split
            · have := ih ((r :: l).drop (Md.attr1 (r :: l)).2.2) (Md.putAttr acc (Md.attr1 (r :: l)).1) (by rw [List.length_drop, List.length_cons]; omega)
              rw [List.length_drop, List.length_cons] at this
              dsimp only; omega
            · dsimp only; omega
variable {K : Nat} {q : List Md.Tok → List Md.Tok → Prop} {acc acc' : List Md.Tok} {x y : Md.Lx}
theorem Al.pk (h : Md.Al K q acc x acc' y) (k : Nat) : x.pk k = y.pk k := by rw [pk_rest, pk_rest, h.rest]
theorem Al.adv (h : Md.Al K q acc x acc' y) (k : Nat) : Md.Al K q acc (x.adv k) acc' (y.adv k) := ⟨h.dx, h.dy, h.wx, h.wy, h.room, by rw [rest_adv, rest_adv, h.rest], by rw [rest_adv, List.length_drop]; have := h.len; omega, h.q⟩
theorem vt_say (d : List Int) : Md.vt acc (x.say d) = Md.app (Md.vt acc x) (Md.encode (d.filter (· != -1))) := by
  unfold Md.vt
  rw [Md.app_app, ← enc_app]; rfl
theorem vt_flush : Md.vt acc x.flush = Md.vt acc x := by
  unfold Md.Lx.flush
  split
  · rfl
  · unfold Md.vt
    show Md.app ((x.out ++ [Md.textTok x.text]).foldl Md.joinStep acc) [] = _
    rw [Md.app_nil, List.foldl_append]; rfl
theorem vt_emit (t : Md.Tok) : Md.vt acc (x.emit t) = Md.joinStep (Md.vt acc x) t := by
  have h2 := vt_flush (acc := acc) (x := x)
  unfold Md.vt at h2 ⊢
  have e : (x.emit t).text = [] := flush_text
  have e0 : x.flush.text = [] := flush_text
  have e2 : Md.encode [] = [] := rfl
  rw [e0, e2, Md.app_nil] at h2
  rw [e]
  show Md.app ((x.flush.out ++ [t]).foldl Md.joinStep acc) [] = _
  rw [Md.app_nil, List.foldl_append, h2]; rfl
theorem Al.say (c : Md.Cl K q) (h : Md.Al K q acc x acc' y) (d : List Int) : Md.Al K q acc (x.say d) acc' (y.say d) := ⟨h.dx, h.dy, h.wx, h.wy, h.room, h.rest, h.len, by rw [vt_say, vt_say]; exact c.app _ _ _ h.q⟩
theorem Al.flush (h : Md.Al K q acc x acc' y) : Md.Al K q acc x.flush acc' y.flush :=
  ⟨by rw [flush_done]; exact h.dx, by rw [flush_done]; exact h.dy, by rw [flush_way]; exact h.wx, by rw [flush_way]; exact h.wy, by rw [flush_room, flush_room]; exact h.room, by unfold Md.Lx.rest; rw [flush_inp, flush_inp, flush_pos, flush_pos]; exact h.rest, by unfold Md.Lx.rest; rw [flush_inp, flush_pos]; exact h.len, by rw [vt_flush, vt_flush]; exact h.q⟩
theorem Al.emit (c : Md.Cl K q) (h : Md.Al K q acc x acc' y) {t : Md.Tok} (ht : t.kind ≠ 1) (ha : t.attrs.length ≤ K) : Md.Al K q acc (x.emit t) acc' (y.emit t) := by
  have h1 := Al.flush h
  exact ⟨h1.dx, h1.dy, h1.wx, h1.wy, h1.room, h1.rest, h1.len, by rw [vt_emit, vt_emit]; exact c.tok _ _ _ ht ha h.q⟩
variable (c : Md.Cl K q) (h : Md.Al K q acc x acc' y)
include c h
theorem Al.tag {k : Int} (hk : k ≠ 1) : Md.Al K q acc (x.tag k) acc' (y.tag k) := by
  unfold Md.Lx.tag
  rw [h.rest]
  dsimp only
  split
  · refine Al.emit c (Al.adv h _) hk ?_
    dsimp only
    split
    · exact Nat.zero_le _
    · refine Nat.le_trans (attrs_len _ _ _ (Nat.le_refl _)) ?_
      rw [List.length_nil, List.length_drop]
      have := h.len; omega
  · exact Al.adv h _
theorem Al.bogus : Md.Al K q acc x.bogus acc' y.bogus := by
  unfold Md.Lx.bogus
  rw [h.rest]
  exact Al.emit c (Al.adv h _) (by show (4 : Int) ≠ 1; decide) (Nat.zero_le _)
theorem Al.ending : Md.Al K q acc x.ending acc' y.ending := by
  unfold Md.Lx.ending
  rw [Al.pk h 0]
  split
  · exact Al.tag c h (by decide)
  · split
    · exact Al.adv h _
    · split
      · exact Al.say c h _
      · exact Al.bogus c h
theorem Al.section_ : Md.Al K q acc x.section_ acc' y.section_ := by
  unfold Md.Lx.section_
  rw [h.rest]
  exact Al.say c (Al.adv h _) _
theorem Al.comment : Md.Al K q acc x.comment acc' y.comment := by
  unfold Md.Lx.comment
  rw [h.rest, Al.pk h 0, Al.pk h 1]
  dsimp only
  have hk : ∀ d, (Md.commentTok d).kind ≠ 1 := fun d => by show (4 : Int) ≠ 1; decide
  split
  · exact Al.emit c (Al.adv h _) (hk _) (Nat.zero_le _)
  · split
    · exact Al.emit c (Al.adv h _) (hk _) (Nat.zero_le _)
    · exact Al.emit c (Al.adv h _) (hk _) (Nat.zero_le _)
omit c in
theorem Al.blanks : Md.Al K q acc x.blanks acc' y.blanks := by
  unfold Md.Lx.blanks; rw [h.rest]; exact Al.adv h _
omit c in
theorem Al.skip : Md.Al K q acc x.skip acc' y.skip := by
  unfold Md.Lx.skip; rw [h.rest]; exact Al.adv h _
theorem Al.sys {t : Md.Tok} (ht : t.kind ≠ 1) (ha : t.attrs.length ≤ K) : Md.Al K q acc (x.doctypeSys t) acc' (y.doctypeSys t) := by
  unfold Md.Lx.doctypeSys
  rw [h.rest]
  dsimp only
  have h1 := Al.adv h (Md.quoted y.rest).2.2.2
  rw [Al.pk (Al.blanks h1) 0]
  split
  · exact Al.emit c h1 ht ha
  · split
    · exact Al.emit c (Al.blanks h1) ht ha
    · exact Al.emit c (Al.skip (Al.blanks h1)) ht ha
theorem Al.pub {t : Md.Tok} (ht : t.kind ≠ 1) (ha : t.attrs.length ≤ K) : Md.Al K q acc (x.doctypePub t) acc' (y.doctypePub t) := by
  unfold Md.Lx.doctypePub
  rw [h.rest]
  dsimp only
  have h1 := Al.adv h (Md.quoted y.rest).2.2.2
  rw [Al.pk (Al.blanks h1) 0]
  split
  · exact Al.emit c h1 ht ha
  · split
    · exact Al.emit c (Al.adv (Al.blanks h1) _) ht ha
    · exact Al.sys c (Al.blanks h1) ht ha
theorem Al.rest' {t : Md.Tok} (ht : t.kind ≠ 1) (ha : t.attrs.length ≤ K) : Md.Al K q acc (x.doctypeRest t) acc' (y.doctypeRest t) := by
  unfold Md.Lx.doctypeRest
  rw [h.rest, Al.pk h 0]
  split
  · exact Al.emit c (Al.adv h _) ht ha
  · split
    · exact Al.emit c h ht ha
    · split
      · exact Al.pub c (Al.blanks (Al.adv h _)) ht ha
      · split
        · exact Al.sys c (Al.blanks (Al.adv h _)) ht ha
        · exact Al.emit c (Al.skip h) ht ha
theorem Al.doctype : Md.Al K q acc x.doctype acc' y.doctype := by
  have hb := Al.blanks h
  unfold Md.Lx.doctype
  dsimp only
  rw [hb.rest, Al.pk hb 0]
  split
  · exact Al.emit c (Al.adv hb _) (by show (5 : Int) ≠ 1; decide) (Nat.zero_le _)
  · split
    · exact Al.emit c hb (by show (5 : Int) ≠ 1; decide) (Nat.zero_le _)
    · exact Al.rest' c (Al.blanks (Al.adv hb _)) (by show (5 : Int) ≠ 1; decide) (Nat.zero_le _)
theorem Al.declare : Md.Al K q acc x.declare acc' y.declare := by
  unfold Md.Lx.declare
  rw [h.rest, Al.pk h 0, h.room]
  split
  · exact Al.comment c (Al.adv h _)
  · split
    · exact Al.doctype c (Al.adv h _)
    · split
      · exact Al.section_ c (Al.adv h _)
      · exact Al.bogus c h
theorem Al.open_ : Md.Al K q acc x.open_ acc' y.open_ := by
  unfold Md.Lx.open_
  rw [Al.pk h 0]
  split
  · exact Al.declare c (Al.adv h _)
  · split
    · exact Al.ending c (Al.adv h _)
    · split
      · exact Al.tag c h (by decide)
      · split
        · exact Al.bogus c h
        · exact Al.say c h _
theorem Al.mid (hr : y.pk 0 ≠ -1) : Md.Al K q acc (stepMid x) acc' (stepMid y) := by
  have h1 := Al.adv h 1
  have e1 := h1.rest
  unfold stepMid
  rw [Al.pk h 0, e1, h.wx, h.wy, if_neg hr, if_neg hr]
  split
  · unfold refA
    rw [e1]
    exact Al.say c (Al.adv h1 _) _
  · split
    · exact Al.open_ c (Al.flush h1)
    · split
      · exact absurd (by assumption : y.pk 0 = 60 ∧ ((0 : Int) = 1 ∨ (0 : Int) = 2)).2 (by decide)
      · split
        · exact absurd (by assumption : y.pk 0 = 60 ∧ (0 : Int) = 3).2 (by decide)
        · split
          · exact Al.say c h1 _
          · split
            · exact Al.say c h1 _
            · exact Al.say c (Al.adv h1 _) _
omit c in
theorem Al.fin : Md.Al K q acc (stepFin x) acc' (stepFin y) := by
  have hx : ∀ z : Md.Lx, stepFin z = z.flush ∨ stepFin z = z := fun z => by unfold stepFin; split; exact .inl rfl; exact .inr rfl
  have hf := Al.flush h
  have e : ∀ z : Md.Lx, (stepFin z).done = z.done ∧ (stepFin z).way = z.way ∧ (stepFin z).room = z.room ∧ (stepFin z).rest = z.rest ∧ ∀ a, Md.vt a (stepFin z) = Md.vt a z := fun z => by
    rcases hx z with e | e
    · rw [e]; exact ⟨flush_done, flush_way, flush_room, by unfold Md.Lx.rest; rw [flush_inp, flush_pos], fun a => vt_flush⟩
    · rw [e]; exact ⟨rfl, rfl, rfl, rfl, fun a => rfl⟩
  obtain ⟨a1, a2, a3, a4, a5⟩ := e x
  obtain ⟨b1, b2, b3, b4, b5⟩ := e y
  exact ⟨by rw [a1]; exact h.dx, by rw [b1]; exact h.dy, by rw [a2]; exact h.wx, by rw [b2]; exact h.wy, by rw [a3, b3]; exact h.room, by rw [a4, b4]; exact h.rest, by rw [b4]; exact h.len, by rw [a5, b5]; exact h.q⟩
omit h in
theorem Al.toks : ∀ (n : Nat) (acc acc' : List Md.Tok) (x y : Md.Lx), x.left ≤ n → NI x → NI y → Md.Al K q acc x acc' y → q (x.toks.foldl Md.joinStep acc) (y.toks.foldl Md.joinStep acc') := by
  intro n
  induction n with
  | zero => intro acc acc' x y hn hx hy h; have := step_left hx.noOut (by exact h.dx); exact absurd this (by show ¬(_ < x.left); omega)
  | succ n ih =>
    intro acc acc' x y hn hx hy h
    cases hr : y.rest with
    | nil =>
      have e1 := Rd.nil acc x hx (w := 0) (n := x.last) (b := x.room) ⟨h.dx, h.wx, rfl, rfl, by rw [h.rest, hr], rfl⟩
      have e2 := Rd.nil acc' y hy (w := 0) (n := y.last) (b := y.room) ⟨h.dy, h.wy, rfl, rfl, hr, rfl⟩
      rw [e1, e2]; exact h.q
    | cons r l =>
      rw [toks_out x, toks_out y, List.foldl_append, List.foldl_append]
      have hx0 := hx.noOut
      have hy0 := hy.noOut
      have h0 : Md.Al K q (x.out.foldl Md.joinStep acc) { x with out := [] } (y.out.foldl Md.joinStep acc') { y with out := [] } := ⟨h.dx, h.dy, h.wx, h.wy, h.room, h.rest, h.len, h.q⟩
      have hr0 : ({ y with out := [] } : Md.Lx).rest = r :: l := hr
      have hl0 : ({ x with out := [] } : Md.Lx).left = x.left := rfl
      have ox : ({ x with out := [] } : Md.Lx).out = [] := rfl
      have oy : ({ y with out := [] } : Md.Lx).out = [] := rfl
      generalize ({ x with out := [] } : Md.Lx) = x' at *
      generalize ({ y with out := [] } : Md.Lx) = y' at *
      have hsl := step_left hx0 h0.dx
      rw [toks_step hx0 h0.dx ox, toks_step hy0 h0.dy oy]
      refine ih _ _ _ _ (by omega) (hx0.step h0.dx ox) (hy0.step h0.dy oy) ?_
      rw [step_eq, step_eq]
      refine Al.fin (Al.mid c h0 ?_)
      rw [pk_rest, hr0]
      have : 0 ≤ r := hy0.nn r (by
        have : r ∈ y'.rest := by rw [hr0]; simp
        exact List.mem_of_mem_drop this)
      show r ≠ -1
      omega
end Go.Proofs.YticnenofiibpgaaDoor.Code
/- A marked section is a text where it may stand, and a comment where it may not. -/
namespace Go.Md
def asc (b : Str) : List Int := b.map fun c => (c.toNat : Int)
end Go.Md
namespace Go.Proofs.YticnenofiibpgaaDoor.Code
open Go.Dm
set_option linter.unusedSimpArgs false
set_option linter.unusedVariables false
theorem putR_asc {c : UInt8} (h : c.toNat < 128) : Md.putR (c.toNat : Int) = [c] := by
  rw [putR_nat (by omega), if_pos (by omega)]
  congr 1
  apply UInt8.toNat.inj
  rw [byteN_nat (by omega)]
theorem enc_asc {b : Md.Str} (h : ∀ c ∈ b, c.toNat < 128) : Md.encode (Md.asc b) = b := by
  induction b with
  | nil => rfl
  | cons c b ih =>
    show Md.encode ((c.toNat : Int) :: Md.asc b) = _
    rw [enc_cons, putR_asc (h c (by simp)), ih (fun x hx => h x (by simp [hx]))]; rfl
theorem one_cut {s : Md.Str} {i : Nat} (h : i < s.length) : List.take (((i : Int) + 1).toNat - (i : Int).toNat) (List.drop (i : Int).toNat s) = [s.getD i 0] := by
  rw [show ((i : Int) + 1).toNat - (i : Int).toNat = 1 by omega, Int.toNat_natCast, drop_get h]; rfl
end Go.Proofs.YticnenofiibpgaaDoor.Code
/- An element's end, where its text is read in the raw way. -/
namespace Go.Proofs.YticnenofiibpgaaDoor.Code
open Go.Dm
set_option linter.unusedSimpArgs false
set_option linter.unusedVariables false
variable {acc : List Md.Tok} {x : Md.Lx} {w : Int} {n : Md.Str} {b : Bool} {r : List Int} {A B : List Md.Tok}
theorem dec1 {s : Md.Str} {i : Nat} (h : i < s.length) (ha : (s.getD i 0).toNat < 128) : Utf8.decode ⟨s.toArray⟩ i = ((s.getD i 0).toNat, 1) := by
  have e : ByteArray.get! ⟨s.toArray⟩ i = s.getD i 0 := by
    show s.toArray[i]! = _
    simp [List.getD_eq_getElem?_getD, h]
  unfold Utf8.decode
  simp only [Nat.add_zero, e]
  rw [if_pos (by omega)]
theorem runesGo_asc {s : Md.Str} (ha : ∀ c ∈ s, c.toNat < 128) : ∀ (f i : Nat), s.length ≤ i + f → Md.runesGo f s i = Md.asc (s.drop i)
  | 0, i, h => by rw [Md.runesGo, List.drop_eq_nil_of_le (by omega)]; rfl
  | f + 1, i, h => by
    rw [Md.runesGo]
    split
    · rename_i hi
      have hm : s.getD i 0 ∈ s := by rw [List.getD_eq_getElem?_getD, List.getElem?_eq_getElem hi]; exact List.getElem_mem _
      rw [dec1 hi (ha _ hm), drop_get hi, runesGo_asc ha f (i + 1) (by omega)]; rfl
    · rw [List.drop_eq_nil_of_le (by omega)]; rfl
theorem runes_asc {s : Md.Str} (ha : ∀ c ∈ s, c.toNat < 128) : Md.runes s = Md.asc s := by
  rw [Md.runes, runesGo_asc ha _ 0 (by omega)]; rfl
def lowName (n : Md.Str) : Prop := n ≠ [] ∧ ∀ c ∈ n, 97 ≤ c.toNat ∧ c.toNat ≤ 122
theorem small_low {c : Int} (h : 97 ≤ c) : Md.small c = c := by
  unfold Md.small; rw [if_neg (by omega)]
theorem goes_asc : ∀ (n : Md.Str) (T : List Int), (∀ c ∈ n, 97 ≤ c.toNat ∧ c.toNat ≤ 122) → Md.goesOn (Md.asc n) (Md.asc n ++ T) = true
  | [], T, _ => rfl
  | c :: n, T, h => by
    have h1 := h c (by simp)
    have := goes_asc n T (fun x hx => h x (by simp [hx]))
    show (Md.small (c.toNat : Int) == (c.toNat : Int) && Md.goesOn (Md.asc n) (Md.asc n ++ T)) = true
    rw [this, small_low (by omega)]; simp
theorem over_low {c : Int} (h : 97 ≤ c) : Md.over c = false := by
  simp [Md.over, Md.blank]; omega
theorem nameOf_asc {n : Md.Str} {T : List Int} (h : ∀ c ∈ n, 97 ≤ c.toNat ∧ c.toNat ≤ 122) (hT : Md.over (T.headD (-1)) = true) : Md.nameOf (Md.asc n ++ T) = Md.asc n := by
  induction n with
  | nil =>
    cases T with
    | nil => rfl
    | cons t T => show List.takeWhile _ (t :: T) = []; rw [List.takeWhile_cons, if_neg]; simpa using hT
  | cons c n ih =>
    have h1 := h c (by simp)
    show List.takeWhile _ ((c.toNat : Int) :: (Md.asc n ++ T)) = _
    rw [List.takeWhile_cons, if_pos (by rw [over_low (by omega)]; rfl)]
    have := ih (fun x hx => h x (by simp [hx]))
    unfold Md.nameOf at this
    rw [this]; rfl
theorem enc_name {n : Md.Str} (h : ∀ c ∈ n, 97 ≤ c.toNat ∧ c.toNat ≤ 122) : Md.encode ((Md.asc n).map fun r => Md.small (Md.fixr r)) = n := by
  have e : (Md.asc n).map (fun r => Md.small (Md.fixr r)) = Md.asc n := by
    rw [List.map_congr_left (g := id), List.map_id]
    intro r hr
    obtain ⟨c, hc, rfl⟩ := List.mem_map.1 hr
    have := h c hc
    rw [Md.fixr, if_neg (by omega), small_low (by omega)]; rfl
  rw [e, enc_asc (fun c hc => by have := h c hc; omega)]
def endTok (n : Md.Str) : Md.Tok := { Md.Tok.zero with kind := 3, name := n }
/-- A tag's rest, for an end. -/
theorem At.tag3 {n' : Md.Str} {T : List Int} (hn : lowName n) (hT : Md.over (T.headD (-1)) = true) (hq : (Md.attrsGo T []).2.2.1 = true) (h : Md.At acc x w n' b (Md.asc n ++ T) A) : Md.At acc (x.tag 3) w n' b (T.drop (Md.attrsGo T []).2.2.2) (Md.joinStep A (endTok n)) := by
  unfold Md.Lx.tag
  dsimp only
  rw [h.rest, nameOf_asc hn.2 hT, List.drop_left, if_pos hq, if_pos rfl, if_pos rfl, enc_name hn.2]
  have h1 := At.emit (At.adv h ((Md.asc n).length + (Md.attrsGo T []).2.2.2)) (endTok n)
  have e3 : ¬(endTok n).kind = 2 := by show ¬(3 : Int) = 2; decide
  rw [if_neg e3, ← List.drop_drop, List.drop_left] at h1
  exact h1
theorem closes_asc {T : List Int} (hn : lowName n) (hT : Md.over (T.headD (-1)) = true) : Md.closes n (47 :: (Md.asc n ++ T)) = 1 + n.length := by
  obtain ⟨h0, h1⟩ := hn
  obtain ⟨c, m, rfl⟩ : ∃ c m, n = c :: m := by cases n with
    | nil => exact absurd rfl h0
    | cons c m => exact ⟨c, m, rfl⟩
  have hl := h1 c (by simp)
  have hr : Md.runes (c :: m) = Md.asc (c :: m) := runes_asc (fun x hx => by have := h1 x hx; omega)
  have hlen : (Md.asc (c :: m)).length = (c :: m).length := List.length_map ..
  unfold Md.closes
  rw [if_neg, hr, if_pos, hlen]
  · refine ⟨goes_asc _ _ h1, ?_⟩
    have e : (47 :: (Md.asc (c :: m) ++ T)).getD (1 + (Md.asc (c :: m)).length) (-1) = T.headD (-1) := by
      rw [Nat.add_comm, List.getD_cons_succ, List.getD_eq_getElem?_getD, List.getElem?_append_right (Nat.le_refl _), Nat.sub_self]
      cases T <;> rfl
    rw [e]; exact hT
  · rintro (h | h | h)
    · exact h rfl
    · have : Md.letter (c.toNat : Int) = false := h
      have h2 : Md.letter (c.toNat : Int) = true := by simp [Md.letter]; omega
      rw [h2] at this; cases this
    · cases h
theorem At.close {T : List Int} (hn : lowName n) (hT : Md.over (T.headD (-1)) = true) (hq : (Md.attrsGo T []).2.2.1 = true) (h : Md.At acc x w n b (47 :: (Md.asc n ++ T)) A) : Md.At acc x.close 0 n b (T.drop (Md.attrsGo T []).2.2.2) (Md.joinStep A (endTok n)) := by
  unfold Md.Lx.close
  rw [h.last, h.rest, if_neg (by rw [closes_asc hn hT]; omega)]
  exact At.tag3 hn hT hq (At.setWay (At.adv h 1) 0)
theorem At.noClose (h : Md.At acc x w n b r A) (hc : Md.closes n r = 0) : Md.At acc x.close w n b r (Md.app A [60]) := by
  unfold Md.Lx.close
  rw [h.last, h.rest, if_pos hc]
  exact At.say' h (by simp)
theorem attrs_gt (l : List Int) (a : List (Md.Str × Md.Str)) : Md.attrsGo (62 :: l) a = (a, false, true, 1) := by
  rw [Md.attrsGo]; simp [Md.blank]
end Go.Proofs.YticnenofiibpgaaDoor.Code
/- An element's text that is read in the raw way goes on to its own end. -/
namespace Go.Proofs.YticnenofiibpgaaDoor.Code
open Go.Dm
set_option linter.unusedSimpArgs false
set_option linter.unusedVariables false
variable {acc : List Md.Tok} {x : Md.Lx} {w : Int} {n : Md.Str} {b : Bool} {r : List Int} {A B : List Md.Tok}
def rawOk : List Int → Prop
  | [] => True
  | r :: l => (r ≠ 38 ∧ 0 < r ∧ (r = 60 → l.headD 60 ≠ 47 ∧ l.headD 60 ≠ 33)) ∧ rawOk l
theorem putR_two {r : Int} (h : sv r) : (r < 128 ∧ Md.putR r = [Md.byteN r.toNat]) ∨ (128 ≤ r ∧ ∀ b ∈ Md.putR r, 128 ≤ b.toNat) := by
  obtain ⟨h0, h1, h2⟩ := h
  obtain ⟨n, rfl⟩ := Int.eq_ofNat_of_zero_le h0
  rw [putR_nat (by omega)]
  split
  · left; exact ⟨by omega, rfl⟩
  · right
    refine ⟨by omega, fun b hb => ?_⟩
    split at hb
    · simp only [List.mem_cons, List.not_mem_nil, or_false] at hb
      rcases hb with rfl | rfl <;> rw [byteN_nat (by omega)] <;> omega
    · split at hb
      · simp only [List.mem_cons, List.not_mem_nil, or_false] at hb
        rcases hb with rfl | rfl | rfl <;> rw [byteN_nat (by omega)] <;> omega
      · simp only [List.mem_cons, List.not_mem_nil, or_false] at hb
        rcases hb with rfl | rfl | rfl | rfl <;> rw [byteN_nat (by omega)] <;> omega
/-- A < that begins no end. -/
theorem Rd.lt (hw : w = 1 ∨ w = 2 ∨ w = 3) (h33 : r.headD (-1) ≠ 33) (hc : Md.closes n r = 0) (h : Rd w n b r (Md.app A [60]) B) : Rd w n b (60 :: r) A B := by
  rcases hw with rfl | rfl | rfl
  · exact Rd.shut (.inl rfl) (fun acc x hx hS => At.noClose hS hc) h
  · exact Rd.shut (.inr rfl) (fun acc x hx hS => At.noClose hS hc) h
  · refine Rd.scr (fun acc x hx hS => ?_) h
    unfold Md.Lx.script
    rw [if_pos]
    · exact At.noClose hS hc
    · rw [hS.rest]
      cases r with
      | nil => rfl
      | cons a r => 
        have : a ≠ 33 := h33
        show (a == 33 && _) = false
        simp [this]
theorem closes_no {l : List Int} (h : l.headD (-1) ≠ 47) : Md.closes n l = 0 := by
  unfold Md.closes
  exact if_pos (.inl (by
    cases l with
    | nil => show (-1 : Int) ≠ 47; decide
    | cons a l => exact h))
theorem Rd.raw {T : List Int} (hw : w = 1 ∨ w = 2 ∨ w = 3) (hT : T.headD (-1) = 60) : ∀ (o : List Int) {A : List Md.Tok}, rawOk o → Rd w n b T (Md.app A (Md.encode o)) B → Rd w n b (o ++ T) A B
  | [], A, _, h => by have e : Md.encode [] = [] := rfl; rw [e, Md.app_nil] at h; exact h
  | r :: o, A, ho, h => by
    have h' : Rd w n b T (Md.app (Md.app A (Md.putR r)) (Md.encode o)) B := by rw [Md.app_app, ← enc_cons]; exact h
    have hrec := Rd.raw hw hT o ho.2 h'
    by_cases h60 : r = 60
    · subst h60
      have h1 := ho.1.2.2 rfl
      have hh : (o ++ T).headD (-1) = o.headD 60 := by
        cases o with
        | nil => exact hT
        | cons a o => rfl
      exact Rd.lt hw (by show (o ++ T).headD (-1) ≠ 33; rw [hh]; exact h1.2) (closes_no (by show (o ++ T).headD (-1) ≠ 47; rw [hh]; exact h1.1)) hrec
    · exact Rd.plain1 ⟨ho.1.2.1, h60, fun e => absurd e ho.1.1⟩ hrec
/-- A tag that begins. -/
def startTok (m : Md.Str) (al : List (Md.Str × Md.Str)) (self : Bool) : Md.Tok := { Md.Tok.zero with kind := 2, name := m, attrs := al, self := self }
theorem At.start {m : Md.Str} {T : List Int} (hm : lowName m) (hT : Md.over (T.headD (-1)) = true) (hq : (Md.attrsGo T []).2.2.1 = true) (h : Md.At acc x 0 n b (Md.asc m ++ T) A) : Md.At acc x.open_ 0 m b (T.drop (Md.attrsGo T []).2.2.2) (Md.joinStep A (startTok m (Md.attrsGo T []).1 (Md.attrsGo T []).2.1)) := by
  obtain ⟨c, m', rfl⟩ : ∃ c m', m = c :: m' := by cases m with
    | nil => exact absurd rfl hm.1
    | cons c m' => exact ⟨c, m', rfl⟩
  have hl := hm.2 c (by simp)
  have hp : x.pk 0 = (c.toNat : Int) := At.pk h 0
  have hlet : Md.letter (c.toNat : Int) = true := by simp [Md.letter]; omega
  have e : x.open_ = x.tag 2 := by
    unfold Md.Lx.open_
    rw [hp, if_neg (by omega), if_neg (by omega), if_pos hlet]
  rw [e]
  unfold Md.Lx.tag
  dsimp only
  rw [h.rest, nameOf_asc hm.2 hT, List.drop_left, if_pos hq, if_neg (by decide), if_neg (by decide), enc_name hm.2]
  have h1 := At.emit (At.adv h ((Md.asc (c :: m')).length + (Md.attrsGo T []).2.2.2)) (startTok (c :: m') (Md.attrsGo T []).1 (Md.attrsGo T []).2.1)
  have e3 : (startTok (c :: m') (Md.attrsGo T []).1 (Md.attrsGo T []).2.1).kind = 2 := rfl
  rw [if_pos e3, ← List.drop_drop, List.drop_left] at h1
  exact h1
theorem word9_low (s : Md.Str) : lowName (Md.word9 s) := by
  refine ⟨by unfold Md.word9; simp, fun c hc => ?_⟩
  unfold Md.word9 at hc
  rcases List.mem_cons.1 hc with rfl | hc
  · decide
  · obtain ⟨a, _, rfl⟩ := List.mem_map.1 hc
    unfold Md.wd
    rw [byteN_nat (by omega)]; omega
end Go.Proofs.YticnenofiibpgaaDoor.Code
/- Whatever stands in a comment comes out, up to its end. -/
namespace Go.Proofs.YticnenofiibpgaaDoor.Code
open Go.Dm
set_option linter.unusedSimpArgs false
set_option linter.unusedVariables false
variable {w : Int} {n : Md.Str} {b : Bool} {r : List Int} {A B : List Md.Tok}
theorem new_NI {c : Md.Str} (hl : c.length ≤ 1000000000) {b : Bool} : NI { Md.Lx.new c with room := b } := by
  have hd := decode_len c
  exact ⟨Nat.le_trans hd hl, fun r hr => (decode_sv c r hr).1.1, Nat.zero_le _, fun _ => Nat.zero_le _, Nat.zero_le _, by show (0 : Nat) ≤ 100; omega, by show (0 : Nat) ≤ _; omega⟩
/-- What stands from here on is read az if it stood alone. -/
theorem Rd.read {c : Md.Str} (hl : c.length ≤ 1000000000) : Rd 0 n b (Md.decode c) A (({ Md.Lx.new c with room := b } : Md.Lx).toks.foldl Md.joinStep A) := by
  intro acc x hN hS
  refine Al.toks (Md.cl_eq _) _ acc A x _ (Nat.le_refl _) hN (new_NI hl) ⟨hS.done, rfl, hS.way, rfl, hS.room, hS.rest, Nat.le_refl _, ?_⟩
  rw [hS.vt]
  exact (Md.app_nil A).symm
theorem all_small {c : Md.Str} (hl : c.length ≤ 1000000000) : ∀ t ∈ Md.all c, t.attrs.length ≤ c.length := by
  have hd := decode_len c
  refine Al.toks (K := c.length) (Md.cl_small c.length) _ [] [] (Md.Lx.new c) (Md.Lx.new c) (Nat.le_refl _) (new_NI (b := false) hl) (new_NI (b := false) hl) ⟨rfl, rfl, rfl, rfl, rfl, rfl, ?_, ?_⟩
  · unfold Md.Lx.rest
    rw [List.length_drop]
    show (Md.decode c).length - _ ≤ _; omega
  · have e : Md.vt [] (Md.Lx.new c) = [] := Md.app_nil []
    intro t ht; rw [e] at ht; cases ht
/-! ### where a comment ends -/
def comTokS (d : Md.Str) : Md.Tok := { Md.Tok.zero with kind := 4, data := d }
end Go.Proofs.YticnenofiibpgaaDoor.Code
/- Attributes read. -/
namespace Go.Proofs.YticnenofiibpgaaDoor.Code
open Go.Dm
set_option linter.unusedSimpArgs false
set_option linter.unusedVariables false
/-- Signs that are a part of a value, just so. -/
theorem value_plain {q : Int} (hq : q ≠ 0) : ∀ (d l acc : List Int), (∀ r ∈ d, r ≠ q ∧ r ≠ 38 ∧ r ≠ 0) → Md.valueGo q (d ++ l) acc = ((Md.valueGo q l (acc ++ d)).1, (Md.valueGo q l (acc ++ d)).2.1, (Md.valueGo q l (acc ++ d)).2.2 + d.length)
  | [], l, acc, _ => by simp
  | r :: d, l, acc, h => by
    have h1 := h r (by simp)
    have ih := value_plain hq d l (acc ++ [r]) (fun x hx => h x (by simp [hx]))
    rw [List.cons_append, valueGo_cons, if_neg (fun e => h1.1 e.2), if_neg (fun e => hq e.1), if_neg h1.2.1, Md.fixr, if_neg h1.2.2, ih]
    simp only [List.append_assoc, List.singleton_append, List.length_cons, Prod.mk.injEq, true_and]; omega
theorem value_end {q : Int} (hq : q ≠ 0) (l acc : List Int) : Md.valueGo q (q :: l) acc = (acc, true, 1) := by
  rw [valueGo_cons, if_pos ⟨hq, rfl⟩]
theorem value_amp {q : Int} (hq : q ≠ 0) (h38 : q ≠ 38) (l acc : List Int) : Md.valueGo q (38 :: l) acc = ((Md.valueGo q (l.drop (Md.refer true l).2) (acc ++ (Md.refer true l).1)).1, (Md.valueGo q (l.drop (Md.refer true l).2) (acc ++ (Md.refer true l).1)).2.1, (Md.valueGo q (l.drop (Md.refer true l).2) (acc ++ (Md.refer true l).1)).2.2 + (Md.refer true l).2 + 1) := by
  rw [valueGo_cons, if_neg (fun e => h38 e.2.symm), if_neg (fun e => hq e.1), if_pos rfl]
def blanksOk (g : List Int) : Prop := ∀ r ∈ g, Md.blank r = true
theorem blanksN_app {g l : List Int} (hg : blanksOk g) (hl : Md.blank (l.headD (-1)) = false) : Md.blanksN (g ++ l) = g.length := by
  induction g with
  | nil =>
    cases l with
    | nil => rfl
    | cons a l =>
      have hl : Md.blank a = false := hl
      show (List.takeWhile Md.blank (a :: l)).length = 0
      rw [List.takeWhile_cons, if_neg (by rw [hl]; decide)]; rfl
  | cons a g ih =>
    have ha := hg a (by simp)
    have := ih (fun x hx => hg x (by simp [hx]))
    unfold Md.blanksN at this ⊢
    rw [List.cons_append, List.takeWhile_cons, if_pos ha, List.length_cons, this]; rfl
theorem attrName_asc {nm : Md.Str} {X : List Int} (hn : lowName nm) (hX : Md.over (X.headD (-1)) = true ∨ X.headD (-1) = 61) : Md.attrName (Md.asc nm ++ X) = Md.asc nm := by
  obtain ⟨c, m, rfl⟩ : ∃ c m, nm = c :: m := by cases nm with
    | nil => exact absurd rfl hn.1
    | cons c m => exact ⟨c, m, rfl⟩
  have hc := hn.2 c (by simp)
  show Md.attrName ((c.toNat : Int) :: (Md.asc m ++ X)) = (c.toNat : Int) :: Md.asc m
  unfold Md.attrName
  dsimp only
  rw [if_neg (by rw [over_low (by omega)]; decide)]
  congr 1
  have hm := fun x hx => hn.2 x (List.mem_cons_of_mem c hx)
  clear hc hn
  induction m with
  | nil =>
    cases X with
    | nil => rfl
    | cons a X =>
      show List.takeWhile _ (a :: X) = []
      rw [List.takeWhile_cons, if_neg]
      rcases hX with hX | hX
      · have hX : Md.over a = true := hX
        simp [hX]
      · have hX : a = 61 := hX
        simp [hX]
  | cons c' m ih =>
    have h1 := hm c' (by simp)
    have := ih (fun x hx => hm x (by simp [hx]))
    show List.takeWhile _ ((c'.toNat : Int) :: (Md.asc m ++ X)) = _
    rw [List.takeWhile_cons, if_pos, this]; rfl
    show (!(Md.over (c'.toNat : Int) || (c'.toNat : Int) == 61)) = true
    rw [over_low (by omega)]; simp; omega
theorem attr_quoted {nm : Md.Str} {g1 g2 body v : List Int} {q : Int} {k : Nat} (hn : lowName nm) (h1 : blanksOk g1) (h2 : blanksOk g2) (hq : q = 34 ∨ q = 39) (hv : Md.valueGo q body [] = (v, true, k)) :
    Md.attr1 (Md.asc nm ++ (g1 ++ 61 :: (g2 ++ q :: body))) = ((nm, Md.encode v), true, nm.length + g1.length + 1 + g2.length + 1 + k) := by
  have hlen : (Md.asc nm).length = nm.length := List.length_map ..
  have hnm : Md.attrName (Md.asc nm ++ (g1 ++ 61 :: (g2 ++ q :: body))) = Md.asc nm := attrName_asc hn (by
    cases g1 with
    | nil => exact .inr rfl
    | cons a g => left; have := h1 a (by simp); show Md.over a = true; simp [Md.over, this])
  have hb1 : Md.blanksN (g1 ++ 61 :: (g2 ++ q :: body)) = g1.length := blanksN_app h1 rfl
  have hqb : Md.blank q = false := by rcases hq with rfl | rfl <;> rfl
  have hb2 : Md.blanksN (g2 ++ q :: body) = g2.length := blanksN_app h2 hqb
  have hval : Md.value (g2 ++ q :: body) = (Md.encode v, true, g2.length + 1 + k) := by
    unfold Md.value
    have eg : (g2 ++ q :: body).getD g2.length (-1) = q := by
      rw [List.getD_eq_getElem?_getD, List.getElem?_append_right (Nat.le_refl _), Nat.sub_self]; rfl
    have ed : (g2 ++ q :: body).drop (g2.length + 1) = body := by rw [← List.drop_drop, List.drop_left]; rfl
    dsimp only
    rw [hb2, eg, if_neg (by rcases hq with rfl | rfl <;> decide), if_pos hq, ed, hv]
  unfold Md.attr1
  dsimp only
  rw [hnm, List.drop_left, hb1]
  have eg : (Md.asc nm ++ (g1 ++ 61 :: (g2 ++ q :: body))).getD ((Md.asc nm).length + g1.length) (-1) = 61 := by
    rw [List.getD_eq_getElem?_getD, List.getElem?_append_right (by omega), Nat.add_sub_cancel_left, List.getElem?_append_right (Nat.le_refl _), Nat.sub_self]; rfl
  have ed : (Md.asc nm ++ (g1 ++ 61 :: (g2 ++ q :: body))).drop ((Md.asc nm).length + g1.length + 1) = g2 ++ q :: body := by
    rw [Nat.add_assoc, ← List.drop_drop, List.drop_left, ← List.drop_drop, List.drop_left]; rfl
  rw [if_pos eg, ed, hval, enc_name hn.2, hlen]
  simp only [Prod.mk.injEq, true_and]; omega
theorem attr_bare {nm : Md.Str} {g1 T : List Int} (hn : lowName nm) (h1 : blanksOk g1) (hT : Md.blank (T.headD (-1)) = false ∧ T.headD (-1) ≠ 61) (hg : g1 ≠ [] ∨ Md.over (T.headD (-1)) = true) :
    Md.attr1 (Md.asc nm ++ (g1 ++ T)) = ((nm, []), true, nm.length + g1.length) := by
  have hlen : (Md.asc nm).length = nm.length := List.length_map ..
  have hnm : Md.attrName (Md.asc nm ++ (g1 ++ T)) = Md.asc nm := attrName_asc hn (by
    cases g1 with
    | nil =>
      rcases hg with hg | hg
      · exact absurd rfl hg
      · exact .inl hg
    | cons a g => left; have := h1 a (by simp); show Md.over a = true; simp [Md.over, this])
  have hb1 : Md.blanksN (g1 ++ T) = g1.length := blanksN_app h1 hT.1
  unfold Md.attr1
  dsimp only
  rw [hnm, List.drop_left, hb1]
  have eg : (Md.asc nm ++ (g1 ++ T)).getD ((Md.asc nm).length + g1.length) (-1) = T.headD (-1) := by
    rw [List.getD_eq_getElem?_getD, List.getElem?_append_right (by omega), Nat.add_sub_cancel_left, List.getElem?_append_right (Nat.le_refl _), Nat.sub_self]
    cases T <;> rfl
  rw [if_neg (by rw [eg]; exact hT.2), enc_name hn.2, hlen]
theorem attrs_blanks : ∀ (g l : List Int) (acc : List (Md.Str × Md.Str)), blanksOk g → Md.attrsGo (g ++ l) acc = ((Md.attrsGo l acc).1, (Md.attrsGo l acc).2.1, (Md.attrsGo l acc).2.2.1, (Md.attrsGo l acc).2.2.2 + g.length)
  | [], l, acc, _ => by simp
  | a :: g, l, acc, h => by
    have ih := attrs_blanks g l acc (fun x hx => h x (by simp [hx]))
    rw [List.cons_append, attrsGo_blank (h a (by simp)), ih]
    simp only [List.length_cons, Prod.mk.injEq, true_and]; omega
/-- An attribute more. -/
theorem attrs_one {nm : Md.Str} {X T : List Int} {v : Md.Str} {k : Nat} {acc : List (Md.Str × Md.Str)} (hn : lowName nm) (ha : Md.attr1 (Md.asc nm ++ X) = ((nm, v), true, k)) (hk : (Md.asc nm ++ X).drop k = T) :
    Md.attrsGo (Md.asc nm ++ X) acc = ((Md.attrsGo T (Md.putAttr acc (nm, v))).1, (Md.attrsGo T (Md.putAttr acc (nm, v))).2.1, (Md.attrsGo T (Md.putAttr acc (nm, v))).2.2.1, (Md.attrsGo T (Md.putAttr acc (nm, v))).2.2.2 + k) := by
  obtain ⟨c, m, rfl⟩ : ∃ c m, nm = c :: m := by cases nm with
    | nil => exact absurd rfl hn.1
    | cons c m => exact ⟨c, m, rfl⟩
  have hc := hn.2 c (by simp)
  have e : Md.asc (c :: m) ++ X = (c.toNat : Int) :: (Md.asc m ++ X) := rfl
  rw [e] at ha hk ⊢
  rw [attrsGo_attr (by simp [Md.blank]; omega) (by omega) (by omega), ha, if_pos rfl]
  dsimp only
  rw [hk]
end Go.Proofs.YticnenofiibpgaaDoor.Code
/- Tokens written az a page: what is escaped is read back. -/
namespace Go.Proofs.YticnenofiibpgaaDoor.Code
open Go.Dm
set_option linter.unusedSimpArgs false
set_option linter.unusedVariables false
variable {acc : List Md.Tok} {x : Md.Lx} {n : Md.Str} {b : Bool} {l : List Int} {A B : List Md.Tok}
/-! ### escaped signs -/
def escI1 (r : Int) : List Int := if r = 38 then [38, 97, 109, 112, 59] else if r = 60 then [38, 108, 116, 59] else if r = 34 then [38, 113, 117, 111, 116, 59] else if r = 39 then [38, 35, 51, 57, 59] else [r]
def escI (o : List Int) : List Int := o.flatMap escI1
def escB1 (c : UInt8) : Md.Str := if c.toNat = 38 then [38, 97, 109, 112, 59] else if c.toNat = 60 then [38, 108, 116, 59] else if c.toNat = 34 then [38, 113, 117, 111, 116, 59] else if c.toNat = 39 then [38, 35, 51, 57, 59] else [c]
def escB (s : Md.Str) : Md.Str := s.flatMap escB1
theorem escB_app (a b : Md.Str) : escB (a ++ b) = escB a ++ escB b := List.flatMap_append ..
theorem escI_cons (r : Int) (o : List Int) : escI (r :: o) = escI1 r ++ escI o := by simp [escI]
theorem escB_high : ∀ (bs : Md.Str), (∀ c ∈ bs, 128 ≤ c.toNat) → escB bs = bs
  | [], _ => rfl
  | c :: bs, h => by
    have h1 := h c (by simp)
    have ih := escB_high bs (fun x hx => h x (by simp [hx]))
    unfold escB at *
    rw [List.flatMap_cons, ih, escB1, if_neg (by omega), if_neg (by omega), if_neg (by omega), if_neg (by omega)]; rfl
theorem enc_esc : ∀ (o : List Int), (∀ r ∈ o, sv r) → Md.encode (escI o) = escB (Md.encode o)
  | [], _ => rfl
  | r :: o, h => by
    have ih := enc_esc o (fun x hx => h x (by simp [hx]))
    have hr := h r (by simp)
    rw [escI_cons, enc_app, ih, enc_cons, escB_app]
    congr 1
    rcases putR_two hr with ⟨h1, h2⟩ | ⟨h1, h2⟩
    · have h0 := hr.1
      have hb := byteN_nat (n := r.toNat) (by omega)
      rw [h2]
      unfold escB escI1
      rw [List.flatMap_singleton, escB1, hb]
      by_cases e1 : r = 38
      · rw [if_pos e1, if_pos (by omega)]; rfl
      rw [if_neg e1, if_neg (by omega : ¬r.toNat = 38)]
      by_cases e2 : r = 60
      · rw [if_pos e2, if_pos (by omega)]; rfl
      rw [if_neg e2, if_neg (by omega : ¬r.toNat = 60)]
      by_cases e3 : r = 34
      · rw [if_pos e3, if_pos (by omega)]; rfl
      rw [if_neg e3, if_neg (by omega : ¬r.toNat = 34)]
      by_cases e4 : r = 39
      · rw [if_pos e4, if_pos (by omega)]; rfl
      rw [if_neg e4, if_neg (by omega : ¬r.toNat = 39), enc_one, h2]
    · rw [escB_high _ h2, escI1, if_neg (by omega), if_neg (by omega), if_neg (by omega), if_neg (by omega), enc_one]
theorem refer_entry {v : Bool} {e : Md.Entry} (he : e ∈ Md.table) (hne : e.name ≠ [110, 118, 108, 116]) (h35 : ¬(e.name.map (fun b => (b.toNat : Int)) ++ 59 :: l).getD 0 (-1) = 35) : Md.refer v (e.name.map (fun b => (b.toNat : Int)) ++ 59 :: l) = ([e.sign], e.name.length + 1) := by
  obtain ⟨r, h1, h2⟩ := Md.names_found he l
  have hr : r = [] := by
    by_cases h : r = []
    · exact h
    · exact absurd (h2 h) hne
  subst hr
  rw [refer_name h35, h1]
  dsimp only
  rw [if_neg (by omega), if_neg (fun h => by cases h.1.2.1)]
theorem refer_amp (v : Bool) (l : List Int) : Md.refer v (97 :: 109 :: 112 :: 59 :: l) = ([38], 4) := refer_entry (e := ⟨[97, 109, 112], 38, true⟩) (.head _) (by decide) (by show ¬(97 : Int) = 35; decide)
theorem refer_lt (v : Bool) (l : List Int) : Md.refer v (108 :: 116 :: 59 :: l) = ([60], 3) := refer_entry (e := ⟨[108, 116], 60, true⟩) (.tail _ (.head _)) (by decide) (by show ¬(108 : Int) = 35; decide)
theorem refer_quot (v : Bool) (l : List Int) : Md.refer v (113 :: 117 :: 111 :: 116 :: 59 :: l) = ([34], 5) := refer_entry (e := ⟨[113, 117, 111, 116], 34, true⟩) (.tail _ (.tail _ (.tail _ (.head _)))) (by decide) (by show ¬(113 : Int) = 35; decide)
theorem refer_39 (v : Bool) (l : List Int) : Md.refer v (35 :: 51 :: 57 :: 59 :: l) = ([39], 4) := by
  have hnum : Md.number 10 ((35 :: 51 :: 57 :: 59 :: l).drop 1) 0 0 = (39, 2) := by
    show Md.number 10 (51 :: 57 :: 59 :: l) 0 0 = _
    rw [Md.number, if_neg (by decide), Md.number, if_neg (by decide), Md.number, if_pos (.inl (by decide))]; rfl
  rw [refer_dec (by rfl) (by show ¬((51 : Int) = 120 ∨ (51 : Int) = 88); decide)]
  simp only [hnum]
  rfl
/-- Signs of a text az they may be escaped. -/
theorem Rd.esc : ∀ (o : List Int) {A : List Md.Tok}, (∀ r ∈ o, 0 < r) → Rd 0 n b l (Md.app A (Md.encode o)) B → Rd 0 n b (escI o ++ l) A B
  | [], A, _, h => by have e : Md.encode [] = [] := rfl; rw [e, Md.app_nil] at h; exact h
  | r :: o, A, ho, h => by
    have hr := ho r (by simp)
    have h' : Rd 0 n b l (Md.app (Md.app A (Md.encode [r])) (Md.encode o)) B := by rw [Md.app_app, enc_one, ← enc_cons]; exact h
    have ih := Rd.esc o (fun x hx => ho x (by simp [hx])) h'
    rw [escI_cons, List.append_assoc, escI1]
    split
    · rename_i e; subst e
      refine Rd.ref (.inl rfl) (fun r hr => ?_) ?_
      · have := (refer_facts false (97 :: 109 :: 112 :: 59 :: (escI o ++ l))).2.2; exact this r hr
      · show Rd 0 n b (List.drop (Md.refer false (97 :: 109 :: 112 :: 59 :: (escI o ++ l))).2 (97 :: 109 :: 112 :: 59 :: (escI o ++ l))) (Md.app A (Md.encode (Md.refer false (97 :: 109 :: 112 :: 59 :: (escI o ++ l))).1)) B
        rw [refer_amp]; exact ih
    split
    · rename_i e; subst e
      refine Rd.ref (.inl rfl) (fun r hr => ?_) ?_
      · have := (refer_facts false (108 :: 116 :: 59 :: (escI o ++ l))).2.2; exact this r hr
      · show Rd 0 n b (List.drop (Md.refer false (108 :: 116 :: 59 :: (escI o ++ l))).2 (108 :: 116 :: 59 :: (escI o ++ l))) (Md.app A (Md.encode (Md.refer false (108 :: 116 :: 59 :: (escI o ++ l))).1)) B
        rw [refer_lt]; exact ih
    split
    · rename_i e; subst e
      refine Rd.ref (.inl rfl) (fun r hr => ?_) ?_
      · have := (refer_facts false (113 :: 117 :: 111 :: 116 :: 59 :: (escI o ++ l))).2.2; exact this r hr
      · show Rd 0 n b (List.drop (Md.refer false (113 :: 117 :: 111 :: 116 :: 59 :: (escI o ++ l))).2 (113 :: 117 :: 111 :: 116 :: 59 :: (escI o ++ l))) (Md.app A (Md.encode (Md.refer false (113 :: 117 :: 111 :: 116 :: 59 :: (escI o ++ l))).1)) B
        rw [refer_quot]; exact ih
    split
    · rename_i e; subst e
      refine Rd.ref (.inl rfl) (fun r hr => ?_) ?_
      · have := (refer_facts false (35 :: 51 :: 57 :: 59 :: (escI o ++ l))).2.2; exact this r hr
      · show Rd 0 n b (List.drop (Md.refer false (35 :: 51 :: 57 :: 59 :: (escI o ++ l))).2 (35 :: 51 :: 57 :: 59 :: (escI o ++ l))) (Md.app A (Md.encode (Md.refer false (35 :: 51 :: 57 :: 59 :: (escI o ++ l))).1)) B
        rw [refer_39]; exact ih
    · rename_i e1 e2 e3 e4
      rw [enc_one] at ih
      exact Rd.plain1 ⟨hr, e2, fun e => absurd e e1⟩ ih
/-- A value's signs, escaped, read back. -/
theorem value_esc {q : Int} {l : List Int} (hq : q = 34 ∨ q = 39) : ∀ (o acc : List Int), (∀ r ∈ o, 0 < r) → Md.valueGo q (escI o ++ q :: l) acc = (acc ++ o, true, (escI o).length + 1)
  | [], acc, _ => by
    show Md.valueGo q (q :: l) acc = _
    rw [value_end (by omega), List.append_nil]; rfl
  | r :: o, acc, ho => by
    have hr := ho r (by simp)
    have ih := @value_esc q l hq o (acc ++ [r]) (fun x hx => ho x (by simp [hx]))
    have hq0 : q ≠ 0 := by omega
    have hq38 : q ≠ 38 := by omega
    rw [escI_cons, List.append_assoc, escI1]
    split
    · rename_i e; subst e
      show Md.valueGo q (38 :: 97 :: 109 :: 112 :: 59 :: (escI o ++ q :: l)) acc = _
      rw [value_amp hq0 hq38, refer_amp]
      show ((Md.valueGo q (escI o ++ q :: l) (acc ++ [38])).1, (Md.valueGo q (escI o ++ q :: l) (acc ++ [38])).2.1, (Md.valueGo q (escI o ++ q :: l) (acc ++ [38])).2.2 + 4 + 1) = _
      rw [ih]; simp
    split
    · rename_i e; subst e
      show Md.valueGo q (38 :: 108 :: 116 :: 59 :: (escI o ++ q :: l)) acc = _
      rw [value_amp hq0 hq38, refer_lt]
      show ((Md.valueGo q (escI o ++ q :: l) (acc ++ [60])).1, (Md.valueGo q (escI o ++ q :: l) (acc ++ [60])).2.1, (Md.valueGo q (escI o ++ q :: l) (acc ++ [60])).2.2 + 3 + 1) = _
      rw [ih]; simp
    split
    · rename_i e; subst e
      show Md.valueGo q (38 :: 113 :: 117 :: 111 :: 116 :: 59 :: (escI o ++ q :: l)) acc = _
      rw [value_amp hq0 hq38, refer_quot]
      show ((Md.valueGo q (escI o ++ q :: l) (acc ++ [34])).1, (Md.valueGo q (escI o ++ q :: l) (acc ++ [34])).2.1, (Md.valueGo q (escI o ++ q :: l) (acc ++ [34])).2.2 + 5 + 1) = _
      rw [ih]; simp
    split
    · rename_i e; subst e
      show Md.valueGo q (38 :: 35 :: 51 :: 57 :: 59 :: (escI o ++ q :: l)) acc = _
      rw [value_amp hq0 hq38, refer_39]
      show ((Md.valueGo q (escI o ++ q :: l) (acc ++ [39])).1, (Md.valueGo q (escI o ++ q :: l) (acc ++ [39])).2.1, (Md.valueGo q (escI o ++ q :: l) (acc ++ [39])).2.2 + 4 + 1) = _
      rw [ih]; simp
    · rename_i e1 e2 e3 e4
      show Md.valueGo q (r :: (escI o ++ q :: l)) acc = _
      have hp := value_plain hq0 [r] (escI o ++ q :: l) acc (fun x hx => by simp only [List.mem_singleton] at hx; subst hx; omega)
      rw [List.singleton_append] at hp
      rw [hp, ih]; simp
end Go.Proofs.YticnenofiibpgaaDoor.Code
/- Tokens written az a page, in any of some ways, are read az they are. -/
namespace Go.Proofs.YticnenofiibpgaaDoor.Code
open Go.Dm
set_option linter.unusedSimpArgs false
set_option linter.unusedVariables false
variable {acc : List Md.Tok} {x : Md.Lx} {n : Md.Str} {b : Bool} {l : List Int} {A B : List Md.Tok}
theorem asc_len' (R : Md.Str) : (Md.asc R).length = R.length := List.length_map ..
/-- A way of writing. -/
structure Sty where
  w : Bool
  bare : Bool
  apos : Bool
  g1 : Md.Str
  g2 : Md.Str
def gapOk (g : Md.Str) : Prop := g ≠ [] ∧ ∀ c ∈ g, c.toNat = 32 ∨ c.toNat = 10 ∨ c.toNat = 9 ∨ c.toNat = 12
structure Sty.Ok (s : Sty) : Prop where
  g1 : gapOk s.g1
  g2 : gapOk s.g2
theorem gap_blanks {g : Md.Str} (h : gapOk g) : blanksOk (Md.asc g) := fun r hr => by
  obtain ⟨c, hc, rfl⟩ := List.mem_map.1 hr
  have := h.2 c hc
  simp [Md.blank]; omega
abbrev Sh (q : List (Md.Str × Md.Str) × Bool × Bool × Nat) (k : Nat) : List (Md.Str × Md.Str) × Bool × Bool × Nat := (q.1, q.2.1, q.2.2.1, q.2.2.2 + k)
theorem Sh_Sh (q : List (Md.Str × Md.Str) × Bool × Bool × Nat) (a c : Nat) : Sh (Sh q a) c = Sh q (a + c) := by simp only [Sh, Nat.add_assoc]
def attrI (s : Sty) (a : Md.Str × List Int) : List Int := Md.asc s.g1 ++ (Md.asc a.1 ++ (if s.bare = true ∧ a.2 = [] then [] else if s.apos then 61 :: 39 :: (escI a.2 ++ [39]) else Md.asc s.g1 ++ 61 :: (Md.asc s.g2 ++ 34 :: (escI a.2 ++ [34]))))
def attrP (a : Md.Str × List Int) : Md.Str × Md.Str := (a.1, Md.encode a.2)
def attrOk (a : Md.Str × List Int) : Prop := lowName a.1 ∧ ∀ r ∈ a.2, 0 < r
theorem attrs_read {s : Sty} (hs : s.Ok) {E : List Int} (hE : E.headD (-1) = 62 ∨ E.headD (-1) = 47) : ∀ (bs : List (Md.Str × List Int)) (al : List (Md.Str × Md.Str)), (∀ a ∈ bs, attrOk a) →
    Md.attrsGo ((bs.map (attrI s)).flatten ++ E) al = Sh (Md.attrsGo E ((bs.map attrP).foldl Md.putAttr al)) ((bs.map (attrI s)).flatten).length
  | [], al, _ => by simp [Sh]
  | a :: bs, al, h => by
    have ha := h a (by simp)
    have ih := attrs_read hs hE bs (Md.putAttr al (attrP a)) (fun x hx => h x (by simp [hx]))
    obtain ⟨nm, o⟩ := a
    obtain ⟨hn, ho⟩ := ha
    dsimp only at hn ho
    have hb1 := gap_blanks hs.g1
    have hb2 := gap_blanks hs.g2
    rw [List.map_cons, List.flatten_cons, List.map_cons, List.foldl_cons, List.append_assoc]
    generalize hX : (bs.map (attrI s)).flatten ++ E = X at *
    have key : Md.attrsGo (Md.asc nm ++ ((if s.bare = true ∧ o = [] then [] else if s.apos then 61 :: 39 :: (escI o ++ [39]) else Md.asc s.g1 ++ 61 :: (Md.asc s.g2 ++ 34 :: (escI o ++ [34]))) ++ X)) al = Sh (Md.attrsGo X (Md.putAttr al (nm, Md.encode o))) (Md.asc nm ++ (if s.bare = true ∧ o = [] then [] else if s.apos then 61 :: 39 :: (escI o ++ [39]) else Md.asc s.g1 ++ 61 :: (Md.asc s.g2 ++ 34 :: (escI o ++ [34])))).length := by
      have hlen := asc_len' nm
      split
      · rename_i hc
        obtain ⟨_, rfl⟩ := hc
        rw [List.nil_append, List.append_nil, hlen]
        cases bs with
        | nil =>
          have hX' : X = E := by rw [← hX]; rfl
          have hhd : Md.blank (X.headD (-1)) = false ∧ X.headD (-1) ≠ 61 := by rw [hX']; rcases hE with e | e <;> rw [e] <;> decide
          have hov : Md.over (X.headD (-1)) = true := by rw [hX']; rcases hE with e | e <;> rw [e] <;> decide
          have h1 := attr_bare (g1 := []) (T := X) hn (fun r hr => by cases hr) hhd (.inr hov)
          exact attrs_one (X := X) (T := X) hn h1 (by show List.drop (nm.length + 0) (Md.asc nm ++ X) = X; rw [Nat.add_zero, ← hlen, List.drop_left])
        | cons a' bs =>
          obtain ⟨nm', o'⟩ := a'
          have hn' := (h (nm', o') (by simp)).1
          dsimp only at hn'
          obtain ⟨c', m', rfl⟩ : ∃ c' m', nm' = c' :: m' := by cases nm' with
            | nil => exact absurd rfl hn'.1
            | cons c m => exact ⟨c, m, rfl⟩
          have hc' := hn'.2 c' (by simp)
          obtain ⟨T, hT⟩ : ∃ T, X = Md.asc s.g1 ++ ((c'.toNat : Int) :: T) := ⟨_, by rw [← hX]; simp only [List.map_cons, List.flatten_cons, attrI, List.append_assoc]; rfl⟩
          have hhd : Md.blank (((c'.toNat : Int) :: T).headD (-1)) = false ∧ ((c'.toNat : Int) :: T).headD (-1) ≠ 61 := by
            show Md.blank (c'.toNat : Int) = false ∧ (c'.toNat : Int) ≠ 61
            refine ⟨?_, by omega⟩
            simp [Md.blank]; omega
          have hne : Md.asc s.g1 ≠ [] := by
            intro e
            have := congrArg List.length e
            rw [asc_len'] at this
            exact hs.g1.1 (List.eq_nil_of_length_eq_zero this)
          have h1 := attr_bare (g1 := Md.asc s.g1) (T := (c'.toNat : Int) :: T) hn hb1 hhd (.inl hne)
          have h2 := attrs_one (X := Md.asc s.g1 ++ ((c'.toNat : Int) :: T)) (T := (c'.toNat : Int) :: T) (acc := al) hn h1 (by rw [← hlen, ← List.drop_drop, List.drop_left, List.drop_left])
          have h3 := attrs_blanks (Md.asc s.g1) ((c'.toNat : Int) :: T) (Md.putAttr al (nm, [])) hb1
          rw [hT, h2]
          show _ = Sh (Md.attrsGo (Md.asc s.g1 ++ ((c'.toNat : Int) :: T)) (Md.putAttr al (nm, []))) nm.length
          rw [h3]
          simp only [Sh, Prod.mk.injEq, true_and]; omega
      · split
        · have hv := value_esc (q := 39) (l := X) (.inr rfl) o [] ho
          rw [List.nil_append] at hv
          have h1 := attr_quoted (g1 := []) (g2 := []) hn (fun r hr => by cases hr) (fun r hr => by cases hr) (.inr rfl) hv
          have e : Md.asc nm ++ (61 :: 39 :: (escI o ++ [39]) ++ X) = Md.asc nm ++ ([] ++ 61 :: ([] ++ 39 :: (escI o ++ 39 :: X))) := by simp
          rw [e]
          rw [attrs_one (T := X) hn h1]
          · simp only [Sh, List.length_append, List.length_cons, List.length_nil, hlen, Prod.mk.injEq, true_and]; omega
          · have e2 : nm.length + ([] : List Int).length + 1 + ([] : List Int).length + 1 + ((escI o).length + 1) = (Md.asc nm ++ 61 :: 39 :: (escI o ++ [39])).length := by
              simp only [List.length_append, List.length_cons, List.length_nil, hlen]; omega
            have e3 : Md.asc nm ++ ([] ++ 61 :: ([] ++ 39 :: (escI o ++ 39 :: X))) = (Md.asc nm ++ 61 :: 39 :: (escI o ++ [39])) ++ X := by simp
            rw [e2, e3, List.drop_left]
        · have hv := value_esc (q := 34) (l := X) (.inl rfl) o [] ho
          rw [List.nil_append] at hv
          have h1 := attr_quoted (g1 := Md.asc s.g1) (g2 := Md.asc s.g2) hn hb1 hb2 (.inl rfl) hv
          have e : Md.asc nm ++ (Md.asc s.g1 ++ 61 :: (Md.asc s.g2 ++ 34 :: (escI o ++ [34])) ++ X) = Md.asc nm ++ (Md.asc s.g1 ++ 61 :: (Md.asc s.g2 ++ 34 :: (escI o ++ 34 :: X))) := by simp
          rw [e]
          rw [attrs_one (T := X) hn h1]
          · simp only [Sh, List.length_append, List.length_cons, List.length_nil, hlen, Prod.mk.injEq, true_and]; omega
          · have e2 : nm.length + (Md.asc s.g1).length + 1 + (Md.asc s.g2).length + 1 + ((escI o).length + 1) = (Md.asc nm ++ (Md.asc s.g1 ++ 61 :: (Md.asc s.g2 ++ 34 :: (escI o ++ [34])))).length := by
              simp only [List.length_append, List.length_cons, List.length_nil, hlen]; omega
            have e3 : Md.asc nm ++ (Md.asc s.g1 ++ 61 :: (Md.asc s.g2 ++ 34 :: (escI o ++ 34 :: X))) = (Md.asc nm ++ (Md.asc s.g1 ++ 61 :: (Md.asc s.g2 ++ 34 :: (escI o ++ [34])))) ++ X := by simp
            rw [e2, e3, List.drop_left]
    have e0 : attrI s (nm, o) ++ X = Md.asc s.g1 ++ (Md.asc nm ++ ((if s.bare = true ∧ o = [] then [] else if s.apos then 61 :: 39 :: (escI o ++ [39]) else Md.asc s.g1 ++ 61 :: (Md.asc s.g2 ++ 34 :: (escI o ++ [34]))) ++ X)) := by
      unfold attrI; simp only [List.append_assoc]
    rw [e0, attrs_blanks _ _ _ hb1, key]
    show Sh (Sh (Md.attrsGo X (Md.putAttr al (attrP (nm, o)))) _) _ = _
    rw [ih, Sh_Sh, Sh_Sh]
    congr 1
    rw [List.length_append]
    unfold attrI
    simp only [List.length_append]; omega
end Go.Proofs.YticnenofiibpgaaDoor.Code
/- Tokens written az a page, in any of some ways, are read az they are (2). -/
namespace Go.Proofs.YticnenofiibpgaaDoor.Code
open Go.Dm
set_option linter.unusedSimpArgs false
set_option linter.unusedVariables false
variable {acc : List Md.Tok} {x : Md.Lx} {n : Md.Str} {b : Bool} {l : List Int} {A B : List Md.Tok} {s : Sty}
/-! ### tags -/
def nameI (s : Sty) (nm : Md.Str) : List Int := if s.w then 87 :: Md.asc (nm.drop 1) else Md.asc nm
theorem nameOf_gen : ∀ (N T : List Int), (∀ r ∈ N, Md.over r = false) → Md.over (T.headD (-1)) = true → Md.nameOf (N ++ T) = N
  | [], T, _, hT => by
    cases T with
    | nil => rfl
    | cons t T => show List.takeWhile _ (t :: T) = []; rw [List.takeWhile_cons, if_neg]; simpa using hT
  | r :: N, T, h, hT => by
    have ih := nameOf_gen N T (fun x hx => h x (by simp [hx])) hT
    have hr := h r (by simp)
    unfold Md.nameOf at ih ⊢
    rw [List.cons_append, List.takeWhile_cons, if_pos (by rw [hr]; rfl), ih]
structure NameOk (s : Sty) (nm : Md.Str) : Prop where
  low : lowName nm
  w : nm.headD 0 = 119
theorem nameI_facts {nm : Md.Str} (h : NameOk s nm) : (∀ r ∈ nameI s nm, Md.over r = false) ∧ Md.encode ((nameI s nm).map fun r => Md.small (Md.fixr r)) = nm ∧ ∃ c N, nameI s nm = c :: N ∧ Md.letter c = true := by
  obtain ⟨c, m, rfl⟩ : ∃ c m, nm = c :: m := by cases nm with
    | nil => exact absurd rfl h.low.1
    | cons c m => exact ⟨c, m, rfl⟩
  have hc : c = 119 := h.w
  subst hc
  have hm : ∀ c ∈ m, 97 ≤ c.toNat ∧ c.toNat ≤ 122 := fun x hx => h.low.2 x (by simp [hx])
  have hen := enc_name h.low.2
  have hov : ∀ r ∈ Md.asc m, Md.over r = false := fun r hr => by
    obtain ⟨c, hc, rfl⟩ := List.mem_map.1 hr
    have := hm c hc
    exact over_low (by omega)
  unfold nameI
  split
  · refine ⟨fun r hr => ?_, ?_, _, _, rfl, by decide⟩
    · rcases List.mem_cons.1 hr with rfl | hr
      · decide
      · exact hov r hr
    · exact hen
  · refine ⟨fun r hr => ?_, hen, _, _, rfl, by decide⟩
    have hr : r ∈ (119 : Int) :: Md.asc m := hr
    rcases List.mem_cons.1 hr with rfl | hr
    · decide
    · exact hov r hr
theorem At.startN {nm : Md.Str} {T : List Int} (hm : NameOk s nm) (hT : Md.over (T.headD (-1)) = true) (hq : (Md.attrsGo T []).2.2.1 = true) (h : Md.At acc x 0 n b (nameI s nm ++ T) A) : Md.At acc x.open_ 0 nm b (T.drop (Md.attrsGo T []).2.2.2) (Md.joinStep A (startTok nm (Md.attrsGo T []).1 (Md.attrsGo T []).2.1)) := by
  obtain ⟨f1, f2, c, N, f3, f4⟩ := nameI_facts hm
  have hno := nameOf_gen (nameI s nm) T f1 hT
  have hp : x.pk 0 = c := by rw [At.pk h 0, f3]; rfl
  have hc := f4
  have e : x.open_ = x.tag 2 := by
    unfold Md.Lx.open_
    rw [hp, if_neg (by intro e; subst e; cases f4), if_neg (by intro e; subst e; cases f4), if_pos hc]
  rw [e]
  unfold Md.Lx.tag
  dsimp only
  rw [h.rest, hno, List.drop_left, if_pos hq, if_neg (by decide), if_neg (by decide), f2]
  have h1 := At.emit (At.adv h ((nameI s nm).length + (Md.attrsGo T []).2.2.2)) (startTok nm (Md.attrsGo T []).1 (Md.attrsGo T []).2.1)
  have e3 : (startTok nm (Md.attrsGo T []).1 (Md.attrsGo T []).2.1).kind = 2 := rfl
  rw [if_pos e3, ← List.drop_drop, List.drop_left] at h1
  exact h1
def startI (s : Sty) (nm : Md.Str) (bs : List (Md.Str × List Int)) (self : Bool) : List Int := 60 :: (nameI s nm ++ ((bs.map (attrI s)).flatten ++ (if self then [47, 62] else [62])))
theorem Rd.rStart {nm : Md.Str} {bs : List (Md.Str × List Int)} {self : Bool} (hs : s.Ok) (hm : NameOk s nm) (hb : ∀ a ∈ bs, attrOk a) (h : Rd 0 nm b l (Md.joinStep A (startTok nm ((bs.map attrP).foldl Md.putAttr []) self)) B) : Rd 0 n b (startI s nm bs self ++ l) A B := by
  have hE : ((if self then [47, 62] else [62]) ++ l : List Int).headD (-1) = 62 ∨ ((if self then [47, 62] else [62]) ++ l : List Int).headD (-1) = 47 := by cases self; exact .inl rfl; exact .inr rfl
  have hr := attrs_read hs (E := (if self then [47, 62] else [62]) ++ l) hE bs [] hb
  have hend : Md.attrsGo ((if self then [47, 62] else [62]) ++ l) ((bs.map attrP).foldl Md.putAttr []) = ((bs.map attrP).foldl Md.putAttr [], self, true, if self then 2 else 1) := by
    cases self with
    | true => show Md.attrsGo (47 :: 62 :: l) _ = _; rw [attrsGo_slash, if_pos (by rfl)]; rfl
    | false => show Md.attrsGo (62 :: l) _ = _; rw [attrs_gt]; rfl
  rw [hend] at hr
  have e : startI s nm bs self ++ l = 60 :: (nameI s nm ++ ((bs.map (attrI s)).flatten ++ ((if self then [47, 62] else [62]) ++ l))) := by
    unfold startI; simp only [List.cons_append, List.append_assoc]
  rw [e]
  generalize hT : (bs.map (attrI s)).flatten ++ ((if self then [47, 62] else [62]) ++ l) = T at *
  have hov : Md.over (T.headD (-1)) = true := by
    rw [← hT]
    cases bs with
    | nil => show Md.over (((if self then [47, 62] else [62]) ++ l : List Int).headD (-1)) = true; rcases hE with e | e <;> rw [e] <;> decide
    | cons a bs =>
      obtain ⟨g, gs, hg⟩ : ∃ g gs, s.g1 = g :: gs := by cases h : s.g1 with
        | nil => exact absurd h hs.g1.1
        | cons g gs => exact ⟨g, gs, rfl⟩
      have hb1 := gap_blanks hs.g1 (g.toNat : Int) (by rw [hg]; exact List.mem_cons_self ..)
      have eh : (((a :: bs).map (attrI s)).flatten ++ ((if self then [47, 62] else [62]) ++ l)).headD (-1) = (g.toNat : Int) := by
        simp only [List.map_cons, List.flatten_cons, attrI, hg]; rfl
      rw [eh]; simp [Md.over, hb1]
  refine Rd.tag (fun acc x hx hS => At.startN hm hov (by rw [hr]) hS) ?_
  rw [hr]
  have ed : T.drop ((Sh ((bs.map attrP).foldl Md.putAttr [], self, true, if self then 2 else 1) ((bs.map (attrI s)).flatten).length).2.2.2) = l := by
    show T.drop ((if self then 2 else 1) + _) = l
    rw [← hT, Nat.add_comm, ← List.drop_drop, List.drop_left]
    cases self <;> rfl
  rw [ed]
  exact h
def endI (s : Sty) (nm : Md.Str) : List Int := 60 :: 47 :: (Md.asc nm ++ (if s.w then Md.asc s.g1 ++ [120, 61, 121, 62] else [62]))
theorem xy_attrs (l : List Int) : (Md.attrsGo (120 :: 61 :: 121 :: 62 :: l) []).2.2 = (true, 4) := by
  have hv : Md.valueGo 0 (121 :: 62 :: l) [] = ([121], true, 1) := by
    rw [valueGo_cons, if_neg (fun e => e.1 rfl), if_neg (fun e => by rcases e.2 with h | h; exact absurd h (by decide); exact absurd h (by decide)), if_neg (by decide), valueGo_cons, if_neg (fun e => e.1 rfl), if_pos ⟨rfl, .inr rfl⟩]; rfl
  have hval : Md.value (121 :: 62 :: l) = ([121], true, 1) := by
    have hb : Md.blanksN (121 :: 62 :: l) = 0 := by unfold Md.blanksN; rw [List.takeWhile_cons, if_neg (by decide)]; rfl
    unfold Md.value
    dsimp only
    rw [hb]
    show (if (121 : Int) = 62 then _ else if (121 : Int) = 34 ∨ (121 : Int) = 39 then _ else (Md.encode (Md.valueGo 0 (121 :: 62 :: l) []).1, (Md.valueGo 0 (121 :: 62 :: l) []).2.1, 0 + (Md.valueGo 0 (121 :: 62 :: l) []).2.2)) = _
    rw [if_neg (by decide), if_neg (by decide), hv]; rfl
  have ha : Md.attr1 (120 :: 61 :: 121 :: 62 :: l) = (([120], [121]), true, 3) := by
    have hnm : Md.attrName (120 :: 61 :: 121 :: 62 :: l) = [120] := by
      unfold Md.attrName
      dsimp only
      rw [if_neg (by decide), List.takeWhile_cons, if_neg (by decide)]
    have hb : Md.blanksN (61 :: 121 :: 62 :: l) = 0 := by unfold Md.blanksN; rw [List.takeWhile_cons, if_neg (by decide)]; rfl
    unfold Md.attr1
    dsimp only
    rw [hnm]
    have hb' : Md.blanksN (List.drop ([120] : List Int).length (120 :: 61 :: 121 :: 62 :: l)) = 0 := hb
    rw [hb']
    have e1 : (120 :: 61 :: 121 :: 62 :: l).getD (([120] : List Int).length + 0) (-1) = 61 := rfl
    have e2 : (120 :: 61 :: 121 :: 62 :: l).drop (([120] : List Int).length + 0 + 1) = 121 :: 62 :: l := rfl
    rw [if_pos e1, e2, hval]; rfl
  rw [attrsGo_attr (by decide) (by decide) (by decide), ha, if_pos rfl]
  show ((Md.attrsGo (62 :: l) _).2.2.1, (Md.attrsGo (62 :: l) _).2.2.2 + 3) = _
  rw [attrs_gt]
theorem Rd.rEnd {nm : Md.Str} (hs : s.Ok) (hm : lowName nm) (h : Rd 0 n b l (Md.joinStep A (endTok nm)) B) : Rd 0 n b (endI s nm ++ l) A B := by
  obtain ⟨T, hT, hov, hq, hd⟩ : ∃ T, endI s nm ++ l = 60 :: 47 :: (Md.asc nm ++ T) ∧ Md.over (T.headD (-1)) = true ∧ (Md.attrsGo T []).2.2.1 = true ∧ T.drop (Md.attrsGo T []).2.2.2 = l := by
    unfold endI
    split
    · refine ⟨Md.asc s.g1 ++ (120 :: 61 :: 121 :: 62 :: l), by simp, ?_, ?_, ?_⟩
      · obtain ⟨g, gs, hg⟩ : ∃ g gs, s.g1 = g :: gs := by cases h : s.g1 with
          | nil => exact absurd h hs.g1.1
          | cons g gs => exact ⟨g, gs, rfl⟩
        have hb1 := gap_blanks hs.g1 (g.toNat : Int) (by rw [hg]; exact List.mem_cons_self ..)
        rw [hg]
        show Md.over (g.toNat : Int) = true
        simp [Md.over, hb1]
      · rw [attrs_blanks _ _ _ (gap_blanks hs.g1)]
        show (Md.attrsGo (120 :: 61 :: 121 :: 62 :: l) []).2.2.1 = true
        rw [xy_attrs]
      · rw [attrs_blanks _ _ _ (gap_blanks hs.g1)]
        show List.drop ((Md.attrsGo (120 :: 61 :: 121 :: 62 :: l) []).2.2.2 + _) _ = l
        rw [xy_attrs, Nat.add_comm, ← List.drop_drop, List.drop_left]; rfl
    · refine ⟨62 :: l, by simp, by show Md.over 62 = true; decide, by rw [attrs_gt], by rw [attrs_gt]; rfl⟩
  rw [hT]
  refine Rd.tag (fun acc x hx hS => ?_) (by rw [← hd] at h; exact h)
  obtain ⟨c, m, rfl⟩ : ∃ c m, nm = c :: m := by cases nm with
    | nil => exact absurd rfl hm.1
    | cons c m => exact ⟨c, m, rfl⟩
  have hc := hm.2 c (by simp)
  have hp0 : x.pk 0 = 47 := At.pk hS 0
  have h1 := At.adv hS 1
  have hp1 : (x.adv 1).pk 0 = (c.toNat : Int) := At.pk h1 0
  have hlet : Md.letter (c.toNat : Int) = true := by simp [Md.letter]; omega
  have e : x.open_ = (x.adv 1).tag 3 := by
    rw [Md.Lx.open_, if_neg (by rw [hp0]; decide), if_pos hp0, Md.Lx.ending, hp1, if_pos hlet]
  rw [e]
  exact At.tag3 hm hov hq h1
/-! ### comments, texts -/
theorem comment_end : ∀ (d : List Int), (∀ r ∈ d, r ≠ 45 ∧ r ≠ 0) → Md.commentGo (d ++ 45 :: 45 :: 62 :: l) = (d, d.length + 3, true)
  | [], _ => by
    rw [List.nil_append, Md.commentGo, if_pos ⟨rfl, by rfl⟩]; rfl
  | r :: d, h => by
    have hr := h r (by simp)
    have ih := comment_end d (fun x hx => h x (by simp [hx]))
    rw [List.cons_append, Md.commentGo, if_neg (fun e => hr.1 e.1), if_neg (fun e => hr.1 e.1), ih, Md.fixr, if_neg hr.2]
    simp only [List.length_cons, Prod.mk.injEq, and_true, true_and]
def comI (d : List Int) : List Int := 60 :: 33 :: 45 :: 45 :: (d ++ [45, 45, 62])
theorem Rd.rCom {d : List Int} (hd : ∀ r ∈ d, r ≠ 45 ∧ r ≠ 0) (hw : d.headD 0 = 119) (h : Rd 0 n b l (Md.joinStep A (comTokS (Md.encode d))) B) : Rd 0 n b (comI d ++ l) A B := by
  have e : comI d ++ l = 60 :: 33 :: 45 :: 45 :: (d ++ 45 :: 45 :: 62 :: l) := by unfold comI; simp
  rw [e]
  refine Rd.tag (w' := 0) (n' := n) (b' := b) (r' := l) (A' := Md.joinStep A (comTokS (Md.encode d))) (fun acc x hx hS => ?_) h
  have hp0 : x.pk 0 = 33 := At.pk hS 0
  have h1 := At.adv hS 1
  have eo : x.open_ = ((x.adv 1).adv 2).comment := by
    rw [Md.Lx.open_, if_pos hp0, Md.Lx.declare, h1.rest, if_pos]
    show (Md.small 45 == Md.small ((45 : UInt8).toNat : Int) && (Md.small 45 == Md.small ((45 : UInt8).toNat : Int) && true)) = true
    decide
  rw [eo]
  obtain ⟨d', rfl⟩ : ∃ d', d = 119 :: d' := by cases d with
    | nil => cases hw
    | cons r d => exact ⟨d, by rw [show r = 119 from hw]⟩
  have h3 := At.adv h1 2
  have hp : ((x.adv 1).adv 2).pk 0 = 119 := At.pk h3 0
  have hr : ((x.adv 1).adv 2).rest = (119 :: d') ++ 45 :: 45 :: 62 :: l := h3.rest
  unfold Md.Lx.comment
  rw [if_neg (by rw [hp]; decide), if_neg (by rw [hp]; intro e; exact absurd e.1 (by decide))]
  dsimp only
  rw [hr, comment_end _ hd]
  dsimp only
  rw [if_pos rfl]
  have h4 := At.emit (At.adv h3 ((119 :: d').length + 3)) (Md.commentTok (119 :: d'))
  have ed : List.drop ((119 :: d').length + 3) (List.drop 2 (List.drop 1 (33 :: 45 :: 45 :: ((119 :: d') ++ 45 :: 45 :: 62 :: l)))) = l := by
    show List.drop ((119 :: d').length + 3) ((119 :: d') ++ 45 :: 45 :: 62 :: l) = l
    rw [← List.drop_drop, List.drop_left]; rfl
  rw [ed] at h4
  exact h4
end Go.Proofs.YticnenofiibpgaaDoor.Code
/- Tokens written az a page, in any of some ways, are read az they are (3); two pages. -/
namespace Go.Proofs.YticnenofiibpgaaDoor.Code
open Go.Dm
set_option linter.unusedSimpArgs false
set_option linter.unusedVariables false
variable {n : Md.Str} {b : Bool} {l : List Int} {A B : List Md.Tok} {s : Sty} {t : Md.Tok}
def okS (r : Int) : Prop := sv r ∧ r ≠ 13 ∧ r ≠ 65279
theorem okS_low {r : Int} (h : 0 ≤ r ∧ r < 128 ∧ r ≠ 13) : okS r := ⟨⟨by omega, by omega, by omega⟩, by omega, by omega⟩
def oC (d : Md.Str) : List Int := Md.cleanR (Md.decode d)
theorem oC_ok (d : Md.Str) : ∀ r ∈ oC d, okS r ∧ 0 < r := fun r hr => by
  have h := clean_ok d r hr
  have h0 := h.1.1.1
  have h1 := h.2
  exact ⟨h.1, by omega⟩
def noDash (d : Md.Str) : Md.Str := d.filter fun c => c.toNat != 45
def wAttr (a : Md.Str × Md.Str) : Md.Str × List Int := (Md.word9 a.1, oC a.2)
def comD (d : Md.Str) : List Int := (Md.asc (Md.word9 d) ++ oC d).filter (· != 45)
def wrI (s : Sty) (t : Md.Tok) : List Int := if t.kind = 2 then startI s (Md.word9 t.name) (t.attrs.map wAttr) t.self else if t.kind = 3 then endI s (Md.word9 t.name) else if t.kind = 4 then comI (comD t.data) else escI (oC t.data)
def wAttrT (a : Md.Str × Md.Str) : Md.Str × Md.Str := (Md.word9 a.1, Md.clean a.2)
def wrT (t : Md.Tok) : Md.Tok := if t.kind = 2 then startTok (Md.word9 t.name) ((t.attrs.map wAttrT).foldl Md.putAttr []) t.self else if t.kind = 3 then endTok (Md.word9 t.name) else if t.kind = 4 then comTokS (noDash (Md.word9 t.data ++ Md.clean t.data)) else Md.tx (Md.clean t.data)
def attrB (s : Sty) (a : Md.Str × Md.Str) : Md.Str := s.g1 ++ a.1 ++ (if s.bare = true ∧ a.2 = [] then [] else if s.apos then [61, 39] ++ escB a.2 ++ [39] else s.g1 ++ [61] ++ s.g2 ++ [34] ++ escB a.2 ++ [34])
def nameB (s : Sty) (nm : Md.Str) : Md.Str := if s.w then [60, 87] ++ nm.drop 1 else [60] ++ nm
def wrB (s : Sty) (t : Md.Tok) : Md.Str := if t.kind = 2 then nameB s (Md.word9 t.name) ++ (t.attrs.map fun a => attrB s (wAttrT a)).flatten ++ (if t.self then [47] else []) ++ [62]
  else if t.kind = 3 then (if s.w then [60, 47] ++ Md.word9 t.name ++ s.g1 ++ [120, 61, 121, 62] else [60, 47] ++ Md.word9 t.name ++ [62])
  else if t.kind = 4 then [60, 33, 45, 45] ++ noDash (Md.word9 t.data ++ Md.clean t.data) ++ [45, 45, 62] else escB (Md.clean t.data)
theorem enc_gap {g : Md.Str} (h : gapOk g) : Md.encode (Md.asc g) = g := enc_asc fun c hc => by have := h.2 c hc; omega
theorem word9_head (d : Md.Str) : (Md.word9 d).headD 0 = 119 := rfl
theorem enc_word (d : Md.Str) : Md.encode (Md.asc (Md.word9 d)) = Md.word9 d := enc_asc fun c hc => by have := (word9_low d).2 c hc; omega
theorem enc_emp {o : List Int} : Md.encode o = [] ↔ o = [] := by
  cases o with
  | nil => exact ⟨fun _ => rfl, fun _ => rfl⟩
  | cons r o =>
    rw [enc_cons]
    constructor
    · intro e; exact absurd (List.append_eq_nil_iff.1 e).1 (putR_ne r)
    · intro e; cases e
theorem enc_attr (hs : s.Ok) (a : Md.Str × Md.Str) : Md.encode (attrI s (wAttr a)) = attrB s (wAttrT a) := by
  have h1 := enc_gap hs.g1
  have h2 := enc_gap hs.g2
  have h3 := enc_word a.1
  have h4 := enc_esc (oC a.2) (fun r hr => (oC_ok a.2 r hr).1.1)
  have h5 : Md.clean a.2 = Md.encode (oC a.2) := rfl
  unfold attrI attrB wAttr wAttrT
  dsimp only
  rw [enc_app, enc_app, h1, h3, List.append_assoc]
  congr 2
  by_cases hc : s.bare = true ∧ oC a.2 = []
  · rw [if_pos hc, if_pos ⟨hc.1, by rw [h5, hc.2]; rfl⟩]; rfl
  · have hn : ¬(s.bare = true ∧ Md.clean a.2 = []) := fun e => hc ⟨e.1, enc_emp.1 (by rw [← h5]; exact e.2)⟩
    rw [if_neg hc, if_neg hn]
    split
    · have e : (61 :: 39 :: (escI (oC a.2) ++ [39]) : List Int) = [61, 39] ++ (escI (oC a.2) ++ [39]) := rfl
      rw [e, enc_app, enc_app, h4, h5, List.append_assoc]; rfl
    · have e : (Md.asc s.g1 ++ 61 :: (Md.asc s.g2 ++ 34 :: (escI (oC a.2) ++ [34])) : List Int) = Md.asc s.g1 ++ ([61] ++ (Md.asc s.g2 ++ ([34] ++ (escI (oC a.2) ++ [34])))) := rfl
      rw [e, enc_app, enc_app, enc_app, enc_app, enc_app, h1, h2, h4, h5]
      simp only [List.append_assoc]; rfl
theorem enc_attrs (hs : s.Ok) : ∀ (al : List (Md.Str × Md.Str)), Md.encode ((al.map wAttr).map (attrI s)).flatten = (al.map fun a => attrB s (wAttrT a)).flatten
  | [] => rfl
  | a :: al => by
    rw [List.map_cons, List.map_cons, List.flatten_cons, enc_app, enc_attr hs, enc_attrs hs al]; rfl
theorem noDash_high : ∀ (bs : Md.Str), (∀ c ∈ bs, 128 ≤ c.toNat) → noDash bs = bs := fun bs h => by
  unfold noDash
  rw [List.filter_eq_self]
  intro c hc
  have := h c hc
  simp; omega
theorem noDash_app (a b : Md.Str) : noDash (a ++ b) = noDash a ++ noDash b := List.filter_append ..
theorem enc_noDash : ∀ (o : List Int), (∀ r ∈ o, sv r) → Md.encode (o.filter (· != 45)) = noDash (Md.encode o)
  | [], _ => rfl
  | r :: o, h => by
    have ih := enc_noDash o (fun x hx => h x (by simp [hx]))
    have hr := h r (by simp)
    rw [enc_cons, noDash_app, ← ih]
    rcases putR_two hr with ⟨h1, h2⟩ | ⟨h1, h2⟩
    · have h0 := hr.1
      have hb := byteN_nat (n := r.toNat) (by omega)
      rw [h2]
      by_cases e : r = 45
      · subst e; rfl
      · have e2 : noDash [Md.byteN r.toNat] = [Md.byteN r.toNat] := by
          unfold noDash; rw [List.filter_cons, if_pos (by rw [hb]; simp; omega)]; rfl
        rw [List.filter_cons, if_pos (by simpa using e), enc_cons, h2, e2]
    · rw [noDash_high _ h2, List.filter_cons, if_pos (by simp; omega), enc_cons]
theorem enc_wr (hs : s.Ok) (t : Md.Tok) : Md.encode (wrI s t) = wrB s t := by
  unfold wrI wrB
  split
  · unfold startI
    have e : (60 :: (nameI s (Md.word9 t.name) ++ ((((t.attrs.map wAttr).map (attrI s)).flatten) ++ (if t.self then [47, 62] else [62]))) : List Int) = ([60] ++ nameI s (Md.word9 t.name)) ++ ((((t.attrs.map wAttr).map (attrI s)).flatten) ++ (if t.self then [47, 62] else [62])) := rfl
    rw [e, enc_app, enc_app (((t.attrs.map wAttr).map (attrI s)).flatten), enc_attrs hs]
    have e1 : Md.encode ([60] ++ nameI s (Md.word9 t.name)) = nameB s (Md.word9 t.name) := by
      rw [enc_app]
      unfold nameI nameB
      split
      · have e2 : Md.encode (87 :: Md.asc ((Md.word9 t.name).drop 1)) = [87] ++ (Md.word9 t.name).drop 1 := by
          rw [enc_cons, enc_asc (fun c hc => by have := (word9_low t.name).2 c (List.mem_of_mem_drop hc); omega)]; rfl
        rw [e2]; rfl
      · rw [enc_word]; rfl
    rw [e1]
    simp only [List.append_assoc]
    congr 2
    cases t.self <;> rfl
  · split
    · unfold endI
      have e : (60 :: 47 :: (Md.asc (Md.word9 t.name) ++ (if s.w then Md.asc s.g1 ++ [120, 61, 121, 62] else [62])) : List Int) = [60, 47] ++ (Md.asc (Md.word9 t.name) ++ (if s.w then Md.asc s.g1 ++ [120, 61, 121, 62] else [62])) := rfl
      rw [e, enc_app, enc_app, enc_word]
      split
      · rw [enc_app, enc_gap hs.g1]; simp only [List.append_assoc]; rfl
      · simp only [List.append_assoc]; rfl
    · split
      · unfold comI
        have e : (60 :: 33 :: 45 :: 45 :: (comD t.data ++ [45, 45, 62]) : List Int) = [60, 33, 45, 45] ++ (comD t.data ++ [45, 45, 62]) := rfl
        have e2 : Md.encode (comD t.data) = noDash (Md.word9 t.data ++ Md.clean t.data) := by
          unfold comD
          rw [enc_noDash, enc_app, enc_word]; rfl
          intro r hr
          rcases List.mem_append.1 hr with hr | hr
          · obtain ⟨c, hc, rfl⟩ := List.mem_map.1 hr
            have := (word9_low t.data).2 c hc
            exact ⟨by omega, by omega, by omega⟩
          · exact (oC_ok t.data r hr).1.1
        rw [e, enc_app, enc_app, e2, List.append_assoc]; rfl
      · exact enc_esc _ (fun r hr => (oC_ok t.data r hr).1.1)
theorem asc_okS {w : Md.Str} (h : ∀ c ∈ w, c.toNat < 128 ∧ c.toNat ≠ 13) : ∀ r ∈ Md.asc w, okS r := fun r hr => by
  obtain ⟨c, hc, rfl⟩ := List.mem_map.1 hr
  have := h c hc
  exact okS_low (by omega)
theorem esc_okS {o : List Int} (h : ∀ r ∈ o, okS r) : ∀ r ∈ escI o, okS r := fun r hr => by
  obtain ⟨x, hx, hr⟩ := List.mem_flatMap.1 hr
  have hx := h x hx
  unfold escI1 at hr
  have hl : ∀ r ∈ ([38, 97, 109, 112, 59] : List Int), okS r := fun r hr => okS_low (by revert hr; revert r; decide)
  have hl2 : ∀ r ∈ ([38, 108, 116, 59] : List Int), okS r := fun r hr => okS_low (by revert hr; revert r; decide)
  have hl3 : ∀ r ∈ ([38, 113, 117, 111, 116, 59] : List Int), okS r := fun r hr => okS_low (by revert hr; revert r; decide)
  have hl4 : ∀ r ∈ ([38, 35, 51, 57, 59] : List Int), okS r := fun r hr => okS_low (by revert hr; revert r; decide)
  split at hr
  · exact hl r hr
  split at hr
  · exact hl2 r hr
  split at hr
  · exact hl3 r hr
  split at hr
  · exact hl4 r hr
  · simp only [List.mem_singleton] at hr; subst hr; exact hx
theorem gap_okS {g : Md.Str} (h : gapOk g) : ∀ r ∈ Md.asc g, okS r := asc_okS fun c hc => by have := h.2 c hc; omega
theorem word_okS (d : Md.Str) : ∀ r ∈ Md.asc (Md.word9 d), okS r := asc_okS fun c hc => by have := (word9_low d).2 c hc; omega
theorem lit_okS {o : List Int} (h : o.all (fun r => decide (0 ≤ r) && decide (r < 128) && decide (r ≠ 13)) = true) : ∀ r ∈ o, okS r := fun r hr => by
  have := List.all_eq_true.1 h r hr
  simp at this
  exact okS_low (by omega)
theorem app_okS {a c : List Int} (h1 : ∀ r ∈ a, okS r) (h2 : ∀ r ∈ c, okS r) : ∀ r ∈ a ++ c, okS r := fun r hr => (List.mem_append.1 hr).elim (h1 r) (h2 r)
theorem wr_okS (hs : s.Ok) (t : Md.Tok) : ∀ r ∈ wrI s t, okS r := by
  unfold wrI
  have hoc : ∀ d, ∀ r ∈ oC d, okS r := fun d r hr => (oC_ok d r hr).1
  split
  · unfold startI
    refine app_okS (a := [60]) (lit_okS (by decide)) (app_okS ?_ (app_okS ?_ ?_))
    · unfold nameI; split
      · exact app_okS (a := [87]) (lit_okS (by decide)) (asc_okS fun c hc => by have := (word9_low t.name).2 c (List.mem_of_mem_drop hc); omega)
      · exact word_okS _
    · intro r hr
      obtain ⟨L, hL, hr⟩ := List.mem_flatten.1 hr
      obtain ⟨a, ha, rfl⟩ := List.mem_map.1 hL
      obtain ⟨a', _, rfl⟩ := List.mem_map.1 ha
      have key : ∀ r ∈ attrI s (wAttr a'), okS r := by
        unfold attrI wAttr
        refine app_okS (gap_okS hs.g1) (app_okS (word_okS _) ?_)
        split
        · intro r hr; cases hr
        · split
          · exact app_okS (a := [61, 39]) (lit_okS (by decide)) (app_okS (esc_okS (hoc _)) (lit_okS (by decide)))
          · exact app_okS (gap_okS hs.g1) (app_okS (a := [61]) (lit_okS (by decide)) (app_okS (gap_okS hs.g2) (app_okS (a := [34]) (lit_okS (by decide)) (app_okS (esc_okS (hoc _)) (lit_okS (by decide))))))
      exact key r hr
    · split <;> exact lit_okS (by decide)
  · split
    · unfold endI
      refine app_okS (a := [60, 47]) (lit_okS (by decide)) (app_okS (word_okS _) ?_)
      split
      · exact app_okS (gap_okS hs.g1) (lit_okS (by decide))
      · exact lit_okS (by decide)
    · split
      · unfold comI
        refine app_okS (a := [60, 33, 45, 45]) (lit_okS (by decide)) (app_okS (a := comD t.data) (c := [45, 45, 62]) ?_ (lit_okS (by decide)))
        intro r hr
        have hr := (List.mem_filter.1 hr).1
        exact app_okS (word_okS _) (hoc _) r hr
      · exact esc_okS (hoc _)
/-- One token more. -/
theorem Rd.wr (hs : s.Ok) (t : Md.Tok) (h : ∀ n, Rd 0 n b l (Md.joinStep A (wrT t)) B) : ∀ n, Rd 0 n b (wrI s t ++ l) A B := by
  intro n
  unfold wrI
  unfold wrT at h
  have hpos : ∀ d, ∀ r ∈ oC d, 0 < r := fun d r hr => (oC_ok d r hr).2
  by_cases h2 : t.kind = 2
  · simp only [if_pos h2] at h ⊢
    have e : (t.attrs.map wAttr).map attrP = t.attrs.map wAttrT := by rw [List.map_map]; rfl
    refine Rd.rStart hs ⟨word9_low _, word9_head _⟩ (fun a ha => ?_) ?_
    · obtain ⟨a', _, rfl⟩ := List.mem_map.1 ha
      exact ⟨word9_low _, hpos _⟩
    · rw [e]; exact h _
  · simp only [if_neg h2] at h ⊢
    by_cases h3 : t.kind = 3
    · simp only [if_pos h3] at h ⊢
      exact Rd.rEnd hs (word9_low _) (h _)
    · simp only [if_neg h3] at h ⊢
      by_cases h4 : t.kind = 4
      · simp only [if_pos h4] at h ⊢
        refine Rd.rCom (fun r hr => ?_) ?_ ?_
        · obtain ⟨hr, hd⟩ := List.mem_filter.1 hr
          refine ⟨by simpa using hd, ?_⟩
          rcases List.mem_append.1 hr with hr | hr
          · obtain ⟨c, hc, rfl⟩ := List.mem_map.1 hr
            have := (word9_low t.data).2 c hc
            omega
          · have := hpos _ r hr; omega
        · rfl
        · have e2 : Md.encode (comD t.data) = noDash (Md.word9 t.data ++ Md.clean t.data) := by
            unfold comD
            rw [enc_noDash, enc_app, enc_word]; rfl
            intro r hr
            rcases List.mem_append.1 hr with hr | hr
            · obtain ⟨c, hc, rfl⟩ := List.mem_map.1 hr
              have := (word9_low t.data).2 c hc
              exact ⟨by omega, by omega, by omega⟩
            · exact (oC_ok t.data r hr).1.1
          rw [e2]; exact h _
      · simp only [if_neg h4] at h ⊢
        exact Rd.esc _ (hpos _) (h n)
theorem Rd.wrs : ∀ (ts : List (Sty × Md.Tok)) (A : List Md.Tok), (∀ p ∈ ts, p.1.Ok) → ∀ n, Rd 0 n b ((ts.map fun p => wrI p.1 p.2).flatten) A ((ts.map fun p => wrT p.2).foldl Md.joinStep A)
  | [], A, _, n => Rd.nil
  | p :: ts, A, h, n => by
    rw [List.map_cons, List.flatten_cons, List.map_cons, List.foldl_cons]
    exact Rd.wr (h p (by simp)) p.2 (fun n => Rd.wrs ts _ (fun x hx => h x (by simp [hx])) n) n
theorem enc_wrs : ∀ (ts : List (Sty × Md.Tok)), (∀ p ∈ ts, p.1.Ok) → Md.encode ((ts.map fun p => wrI p.1 p.2).flatten) = (ts.map fun p => wrB p.1 p.2).flatten
  | [], _ => rfl
  | p :: ts, h => by
    rw [List.map_cons, List.flatten_cons, enc_app, enc_wr (h p (by simp)), enc_wrs ts (fun x hx => h x (by simp [hx]))]; rfl
theorem tags_pure {ts : List (Sty × Md.Tok)} (h : ∀ p ∈ ts, p.1.Ok) (hl : ((ts.map fun p => wrB p.1 p.2).flatten).length ≤ 1000000000) : Md.all ((ts.map fun p => wrB p.1 p.2).flatten) = Md.join (ts.map fun p => wrT p.2) := by
  have hok : ∀ r ∈ (ts.map fun p => wrI p.1 p.2).flatten, okS r := fun r hr => by
    obtain ⟨L, hL, hr⟩ := List.mem_flatten.1 hr
    obtain ⟨p, hp, rfl⟩ := List.mem_map.1 hL
    exact wr_okS (h p hp) p.2 r hr
  have hd : Md.decode ((ts.map fun p => wrB p.1 p.2).flatten) = (ts.map fun p => wrI p.1 p.2).flatten := by
    rw [← enc_wrs ts h]; exact decode_encode hok
  refine Rd.start (w := 0) (nm := []) (room := false) ?_ ?_
  · have hdl := decode_len ((ts.map fun p => wrB p.1 p.2).flatten)
    exact ⟨Nat.le_trans hdl hl, fun r hr => (decode_sv _ r hr).1.1, Nat.zero_le _, fun _ => Nat.zero_le _, Nat.zero_le _, by show (0 : Nat) ≤ 100; omega, by show (0 : Nat) ≤ _; omega⟩
  · rw [hd]; exact Rd.wrs ts [] h []
/-! ### two pages -/
theorem good_fold : ∀ (us A C : List Md.Tok), Md.Good us → Md.Good A → (us.foldl Md.joinStep A).foldl Md.joinStep C = us.foldl Md.joinStep (A.foldl Md.joinStep C)
  | [], A, C, _, _ => rfl
  | t :: us, A, C, hu, hA => by
    have hu' : Md.Good us := fun x hx h1 => hu x (by simp [hx]) h1
    rw [List.foldl_cons, List.foldl_cons]
    by_cases hk : t.kind = 1
    · have ht := hu t (by simp) hk
      have e1 : Md.joinStep A t = Md.app A t.data := by rw [Md.app, ← ht]
      have e2 : Md.joinStep (A.foldl Md.joinStep C) t = Md.app (A.foldl Md.joinStep C) t.data := by rw [Md.app, ← ht]
      rw [e1, e2, good_fold us _ C hu' (hA.app _), Md.fold_app hA]
    · have e1 := Md.joinStep_tok (A := A) hk
      rw [good_fold us _ C hu' (hA.tok hk), e1, List.foldl_append]; rfl
theorem join_join {us vs : List Md.Tok} (hu : Md.Good us) (hv : Md.Good vs) : Md.join (Md.join us ++ Md.join vs) = Md.join (us ++ vs) := by
  unfold Md.join
  rw [List.foldl_append, List.foldl_append, good_fold us [] [] hu (fun t ht => by cases ht), good_fold vs [] _ hv (fun t ht => by cases ht)]; rfl
theorem wrT_good (ts : List (Sty × Md.Tok)) : Md.Good (ts.map fun p => wrT p.2) := by
  intro u hu h1
  obtain ⟨p, _, rfl⟩ := List.mem_map.1 hu
  unfold wrT at h1 ⊢
  split
  · rename_i h; rw [if_pos h] at h1; exact absurd h1 (by show ¬(2 : Int) = 1; decide)
  · rename_i h2
    rw [if_neg h2] at h1
    split
    · rename_i h; rw [if_pos h] at h1; exact absurd h1 (by show ¬(3 : Int) = 1; decide)
    · rename_i h3
      rw [if_neg h3] at h1
      split
      · rename_i h; rw [if_pos h] at h1; exact absurd h1 (by show ¬(4 : Int) = 1; decide)
      · rfl
theorem joins_pure {ts us : List (Sty × Md.Tok)} (h1 : ∀ p ∈ ts, p.1.Ok) (h2 : ∀ p ∈ us, p.1.Ok) (hl : ((ts.map fun p => wrB p.1 p.2).flatten ++ (us.map fun p => wrB p.1 p.2).flatten).length ≤ 1000000000) :
    Md.all ((ts.map fun p => wrB p.1 p.2).flatten ++ (us.map fun p => wrB p.1 p.2).flatten) = Md.join (Md.all ((ts.map fun p => wrB p.1 p.2).flatten) ++ Md.all ((us.map fun p => wrB p.1 p.2).flatten)) := by
  have e : (ts.map fun p => wrB p.1 p.2).flatten ++ (us.map fun p => wrB p.1 p.2).flatten = ((ts ++ us).map fun p => wrB p.1 p.2).flatten := by rw [List.map_append, List.flatten_append]
  have hl' := hl
  rw [List.length_append] at hl'
  rw [tags_pure h1 (by omega), tags_pure h2 (by omega), join_join (wrT_good ts) (wrT_good us), e, tags_pure (fun p hp => (List.mem_append.1 hp).elim (h1 p) (h2 p)) (by rw [← e]; exact hl), List.map_append]
end Go.Proofs.YticnenofiibpgaaDoor.Code
/- Tokens written, in one of some ways. -/
namespace Go.Proofs.YticnenofiibpgaaDoor.Code
open Go.Dm Go.Dm.C
set_option linter.unusedSimpArgs false
set_option linter.unusedVariables false
set_option linter.unnecessarySimpa false
set_option maxRecDepth 10000
attribute [local irreducible] Go.Dm.F Go.Dm.RS Go.Dm.Y Go.Dm.FD Go.Dm.FZ1 Go.Dm.Hold
variable {R : List Ck}
def bitk (n : Int) (m : Nat) : Nat := (BitVec.ofInt 64 n &&& BitVec.ofInt 64 (m : Int)).toNat
theorem bitk_le (n : Int) {m : Nat} (hm : m ≤ 1000000000) : bitk n m ≤ m := by
  unfold bitk
  rw [BitVec.toNat_and]
  refine Nat.le_trans Nat.and_le_right ?_
  rw [BitVec.toNat_ofInt]; omega
theorem bitk_bi {n : Int} {m : Nat} {p : Bool} (hm : m ≤ 1000000000) : BI p .and .any (.int .i64 n) (.int .i64 (m : Int)) (.int .i64 (bitk n m : Nat)) := .gen (by
  have h := bitk_le n hm
  show some (DV.int .i64 (IntKind.i64.wrap (bitk n m : Nat))) = _
  rw [wrap_i64_in (by omega)])
theorem bit1 {p : Bool} {n : Int} : BI p .and .any (.int .i64 n) (.int .i64 1) (.int .i64 (bitk n 1 : Nat)) := bitk_bi (m := 1) (by omega)
theorem bit2 {p : Bool} {n : Int} : BI p .and .any (.int .i64 n) (.int .i64 2) (.int .i64 (bitk n 2 : Nat)) := bitk_bi (m := 2) (by omega)
theorem bit3 {p : Bool} {n : Int} : BI p .and .any (.int .i64 n) (.int .i64 3) (.int .i64 (bitk n 3 : Nat)) := bitk_bi (m := 3) (by omega)
theorem bit4 {p : Bool} {n : Int} : BI p .and .any (.int .i64 n) (.int .i64 4) (.int .i64 (bitk n 4 : Nat)) := bitk_bi (m := 4) (by omega)
theorem bit15 {p : Bool} {n : Int} : BI p .and .any (.int .i64 n) (.int .i64 15) (.int .i64 (bitk n 15 : Nat)) := bitk_bi (m := 15) (by omega)
def shrk (n : Int) (k : Int) : Int := match binD .shr .any (.int .i64 n) (.int .u64 k) with
  | some (.int _ m) => m
  | _ => 0
theorem shr1_bi {p : Bool} {n : Int} : BI p .shr .any (.int .i64 n) (.int .u64 1) (.int .i64 (shrk n 1)) := .gen rfl
def gapL : List Md.Str := [[32], [10], [9, 32], [32, 12]]
def gapS (n : Int) : Md.Str := gapL.getD (bitk n 3) []
theorem gapS_ok (n : Int) : gapOk (gapS n) := by
  have h := bitk_le n (m := 3) (by omega)
  unfold gapS
  generalize bitk n 3 = k at *
  match k, h with
  | 0, _ => exact ⟨by decide, by decide⟩
  | 1, _ => exact ⟨by decide, by decide⟩
  | 2, _ => exact ⟨by decide, by decide⟩
  | 3, _ => exact ⟨by decide, by decide⟩
theorem gapS_len (n : Int) : (gapS n).length ≤ 2 := by
  have h := bitk_le n (m := 3) (by omega)
  unfold gapS
  generalize bitk n 3 = k at *
  match k, h with
  | 0, _ => decide
  | 1, _ => decide
  | 2, _ => decide
  | 3, _ => decide
theorem gapS_get (n : Int) : [DV.str [32], DV.str [10], DV.str [9, 32], DV.str [32, 12]][((bitk n 3 : Nat) : Int).toNat]? = some (.str (gapS n)) := by
  have h := bitk_le n (m := 3) (by omega)
  unfold gapS
  generalize bitk n 3 = k at *
  match k, h with
  | 0, _ => rfl
  | 1, _ => rfl
  | 2, _ => rfl
  | 3, _ => rfl
theorem gap_F {n : Int} : F D 44 [.int .i64 n] R (fun v cs' => v = .str (gapS n) ∧ R = cs') := by
  refine F.of rfl rfl rfl ?_
  repeat' first | (show BI _ _ _ _ _ _; exact bit3) | (show IA _ _ _ _ _ _; exact IA.gen (w := .str (gapS n)) .zof (.mk fun _ => ⟨by omega, gapS_get n⟩)) | (refine fun (hc : _ = _) => ?_; (try simp only [BB] at hc); (try (first | contradiction | (exfalso; omega)))) | exact arI | refine Pst.mk ⟨?_, rfl⟩ kk | constructor | (refine fun _ _ (hq : Hold _) => ?_; replace hq := hq.out; obtain ⟨_, rfl, rfl⟩ := hq) | (refine fun _ _ (hq : Hold _) => ?_; replace hq := hq.out; obtain ⟨_, _, rfl, rfl⟩ := hq) | rintro _ _ ⟨rfl, rfl⟩ | rintro _ _ ⟨_, rfl, rfl⟩ | rintro _ _ ⟨_, _, rfl, rfl⟩ | (refine fun (hc : _ = _) => ?_; (try simp only [BB] at hc)) | refine fun (_ : Nat) => ?_ | refine fun (_ : _ ≤ _) => ?_ | refine fun (_ : _ < _) => ?_
theorem escB_take {s : Md.Str} {i : Nat} (h : i < s.length) : escB (s.take (i + 1)) = escB (s.take i) ++ escB1 (s.getD i 0) := by
  rw [List.take_add_one, List.getElem?_eq_getElem h, escB_app, List.getD_eq_getElem?_getD, List.getElem?_eq_getElem h]
  simp [escB]
theorem escB1_len (c : UInt8) : (escB1 c).length ≤ 6 := by
  unfold escB1; repeat' split
  all_goals first | decide | exact Nat.succ_le_succ (Nat.zero_le _)
theorem escB_len : ∀ s : Md.Str, (escB s).length ≤ 6 * s.length
  | [] => by decide
  | c :: s => by
    have := escB_len s
    have h1 := escB1_len c
    unfold escB at *
    rw [List.flatMap_cons, List.length_append, List.length_cons]; omega
theorem escape_F {s : Md.Str} (hl : s.length ≤ 100000000) : F D 45 [.str s] R (fun v cs' => v = .str (escB s) ∧ R = cs') := by
  refine F.of rfl rfl rfl ?_
  repeat' first | exact arI | refine Pst.mk ⟨?_, rfl⟩ kk | constructor | (refine fun _ _ (hq : Hold _) => ?_; replace hq := hq.out; obtain ⟨_, rfl, rfl⟩ := hq) | (refine fun _ _ (hq : Hold _) => ?_; replace hq := hq.out; obtain ⟨_, _, rfl, rfl⟩ := hq) | rintro _ _ ⟨rfl, rfl⟩ | rintro _ _ ⟨_, rfl, rfl⟩ | rintro _ _ ⟨_, _, rfl, rfl⟩ | (refine fun (hc : _ = _) => ?_; (try simp only [BB] at hc)) | refine fun (_ : Nat) => ?_ | refine fun (_ : _ ≤ _) => ?_ | refine fun (_ : _ < _) => ?_
  refine RS.loopW (α := Nat) (fun i => [(0, .str s), (3, .str (escB (s.take i))), (4, .int .i64 (i : Nat))]) (fun _ => R)
    (fun i => i ≤ s.length) (fun i => s.length - i) 0 (Nat.zero_le _) ⟨rfl, rfl, rfl, trivial⟩ .refl ?_
  rintro i h1 ih
  dsimp only [ents] at *
  have het := fun h => escB_take (s := s) (i := i) h
  have hel := escB_len (s.take i)
  rw [List.length_take] at hel
  repeat' first | (refine Arith.mk ?_; simp only [List.length_cons, List.length_nil]; omega) | (refine fun (hc : _ = _) => ?_; (try simp only [BB] at hc); (try (first | contradiction | (exfalso; omega)))) | exact arI | refine Pst.mk ⟨?_, rfl⟩ kk | constructor | (refine fun _ _ (hq : Hold _) => ?_; replace hq := hq.out; obtain ⟨_, rfl, rfl⟩ := hq) | (refine fun _ _ (hq : Hold _) => ?_; replace hq := hq.out; obtain ⟨_, _, rfl, rfl⟩ := hq) | rintro _ _ ⟨rfl, rfl⟩ | rintro _ _ ⟨_, rfl, rfl⟩ | rintro _ _ ⟨_, _, rfl, rfl⟩ | (refine fun (hc : _ = _) => ?_; (try simp only [BB] at hc)) | refine fun (_ : Nat) => ?_ | refine fun (_ : _ ≤ _) => ?_ | refine fun (_ : _ < _) => ?_
  · have e := het (by omega)
    rw [escB1, if_pos (by omega)] at e
    exact ih _ _ (i + 1) (by omega) (by omega) (by rw [e]; exact ⟨rfl, rfl, rfl, trivial⟩) .refl
  · have e := het (by omega)
    rw [escB1, if_neg (by omega), if_pos (by omega)] at e
    exact ih _ _ (i + 1) (by omega) (by omega) (by rw [e]; exact ⟨rfl, rfl, rfl, trivial⟩) .refl
  · have e := het (by omega)
    rw [escB1, if_neg (by omega), if_neg (by omega), if_pos (by omega)] at e
    exact ih _ _ (i + 1) (by omega) (by omega) (by rw [e]; exact ⟨rfl, rfl, rfl, trivial⟩) .refl
  · have e := het (by omega)
    rw [escB1, if_neg (by omega), if_neg (by omega), if_neg (by omega), if_pos (by omega)] at e
    exact ih _ _ (i + 1) (by omega) (by omega) (by rw [e]; exact ⟨rfl, rfl, rfl, trivial⟩) .refl
  · have e := het (by omega)
    rw [escB1, if_neg (by omega), if_neg (by omega), if_neg (by omega), if_neg (by omega), ← one_cut (by omega)] at e
    exact ih _ _ (i + 1) (by omega) (by omega) (by rw [e]; exact ⟨rfl, rfl, rfl, trivial⟩) .refl
  · rw [List.take_of_length_le (by omega)]
def styW (way : Int) : Sty := ⟨decide (bitk way 1 = 1), decide (bitk way 2 = 2), decide (bitk way 4 = 4), gapS way, gapS (shrk way 1)⟩
theorem styW_ok (way : Int) : (styW way).Ok := ⟨gapS_ok _, gapS_ok _⟩
theorem noDash_take {s : Md.Str} {i : Nat} (h : i < s.length) : noDash (s.take (i + 1)) = noDash (s.take i) ++ (if (s.getD i 0).toNat = 45 then [] else [s.getD i 0]) := by
  rw [List.take_add_one, List.getElem?_eq_getElem h, noDash_app, List.getD_eq_getElem?_getD, List.getElem?_eq_getElem h]
  congr 1
  unfold noDash
  simp only [Option.toList_some, Option.getD_some, List.filter_cons, List.filter_nil]
  by_cases e : s[i].toNat = 45
  · rw [if_pos e, if_neg (by rw [e]; decide)]
  · rw [if_neg e, if_pos (by simpa using e)]
def small9 (t : Md.Tok) : Prop := t.attrs.length ≤ 10 ∧ t.data.length ≤ 100 ∧ ∀ a ∈ t.attrs, a.2.length ≤ 100
theorem word9_len (s : Md.Str) : (Md.word9 s).length ≤ 9 := by unfold Md.word9; simp only [List.length_cons, List.length_map, List.length_take]; omega
theorem word9_pos (s : Md.Str) : 1 ≤ (Md.word9 s).length := by unfold Md.word9; simp
theorem wr3 {t : Md.Tok} (h : t.kind = 3) (s : Sty) : wrB s t = (if s.w then [60, 47] ++ Md.word9 t.name ++ s.g1 ++ [120, 61, 121, 62] else [60, 47] ++ Md.word9 t.name ++ [62]) ∧ wrT t = endTok (Md.word9 t.name) := by
  have n2 : ¬t.kind = 2 := by omega
  unfold wrB wrT
  rw [if_neg n2, if_pos h, if_neg n2, if_pos h]; exact ⟨rfl, rfl⟩
theorem wr4 {t : Md.Tok} (h : t.kind = 4) (s : Sty) : wrB s t = [60, 33, 45, 45] ++ noDash (Md.word9 t.data ++ Md.clean t.data) ++ [45, 45, 62] ∧ wrT t = comTokS (noDash (Md.word9 t.data ++ Md.clean t.data)) := by
  have n2 : ¬t.kind = 2 := by omega
  have n3 : ¬t.kind = 3 := by omega
  unfold wrB wrT
  rw [if_neg n2, if_neg n3, if_pos h, if_neg n2, if_neg n3, if_pos h]; exact ⟨rfl, rfl⟩
theorem wr1 {t : Md.Tok} (h2 : ¬t.kind = 2) (h3 : ¬t.kind = 3) (h4 : ¬t.kind = 4) (s : Sty) : wrB s t = escB (Md.clean t.data) ∧ wrT t = Md.tx (Md.clean t.data) := by
  unfold wrB wrT
  rw [if_neg h2, if_neg h3, if_neg h4, if_neg h2, if_neg h3, if_neg h4]; exact ⟨rfl, rfl⟩
def accA (al : List SP) : List SP := (al.map wAttrT).foldl Md.putAttr []
def attrsS (s : Sty) (al : List SP) : Md.Str := (al.map fun a => attrB s (wAttrT a)).flatten
theorem accA_take {al : List SP} {i : Nat} (h : i < al.length) : accA (al.take (i + 1)) = Md.putAttr (accA (al.take i)) (wAttrT (al.getD i default)) := by
  unfold accA
  rw [take_one h, List.map_append, List.foldl_append]; rfl
theorem attrsS_take {s : Sty} {al : List SP} {i : Nat} (h : i < al.length) : attrsS s (al.take (i + 1)) = attrsS s (al.take i) ++ attrB s (wAttrT (al.getD i default)) := by
  unfold attrsS
  rw [take_one h, List.map_append, List.flatten_append]; simp
theorem attrB_len {way : Int} {a : SP} (h : a.2.length ≤ 100) : (attrB (styW way) (wAttrT a)).length ≤ 2600 := by
  have h1 : (styW way).g1.length ≤ 2 := gapS_len _
  have h2 : (styW way).g2.length ≤ 2 := gapS_len _
  have h3 : (wAttrT a).1.length ≤ 9 := word9_len _
  have h4 : (wAttrT a).2.length ≤ 400 := by have := clean_len a.2; show (Md.clean a.2).length ≤ _; omega
  have h5 := escB_len (wAttrT a).2
  unfold attrB
  repeat' split
  all_goals (simp only [List.length_append, List.length_cons, List.length_nil]; omega)
theorem accA_len (al : List SP) : (accA al).length ≤ al.length := by
  have h : ∀ (l acc : List SP), (l.foldl Md.putAttr acc).length ≤ acc.length + l.length := by
    intro l
    induction l with
    | nil => intro acc; simp
    | cons a l ih =>
      intro acc
      rw [List.foldl_cons]
      refine Nat.le_trans (ih _) ?_
      have : (Md.putAttr acc a).length ≤ acc.length + 1 := by unfold Md.putAttr; split <;> simp
      simp only [List.length_cons]; omega
  have := h (al.map wAttrT) []
  rw [List.length_map, List.length_nil] at this
  unfold accA; omega
theorem attrB_1 {way : Int} {a : SP} (h2 : bitk way 2 = 2) (hv : Md.clean a.2 = []) : attrB (styW way) (wAttrT a) = gapS way ++ Md.word9 a.1 := by
  unfold attrB
  rw [if_pos ⟨decide_eq_true h2, hv⟩, List.append_nil]; rfl
theorem attrB_2 {way : Int} {a : SP} (h2 : bitk way 2 = 2 → ¬Md.clean a.2 = []) (h4 : bitk way 4 = 4) : attrB (styW way) (wAttrT a) = gapS way ++ Md.word9 a.1 ++ ([61, 39] ++ escB (Md.clean a.2) ++ [39]) := by
  unfold attrB
  have hn : ¬((styW way).bare = true ∧ (wAttrT a).2 = []) := fun e => h2 (of_decide_eq_true e.1) e.2
  have hp : (styW way).apos = true := decide_eq_true h4
  rw [if_neg hn, if_pos hp]; rfl
theorem attrB_3 {way : Int} {a : SP} (h2 : bitk way 2 = 2 → ¬Md.clean a.2 = []) (h4 : ¬bitk way 4 = 4) : attrB (styW way) (wAttrT a) = gapS way ++ Md.word9 a.1 ++ (gapS way ++ [61] ++ gapS (shrk way 1) ++ [34] ++ escB (Md.clean a.2) ++ [34]) := by
  unfold attrB
  have hn : ¬((styW way).bare = true ∧ (wAttrT a).2 = []) := fun e => h2 (of_decide_eq_true e.1) e.2
  have hp : ¬(styW way).apos = true := fun e => h4 (of_decide_eq_true e)
  rw [if_neg hn, if_neg hp]; rfl
theorem acc_app {acc : List SP} {b : SP} (h : (acc.filter (keepA b.1)).length = acc.length) : Md.putAttr acc b = acc ++ [b] := by
  unfold Md.putAttr
  rw [if_neg (by rw [keep_len.1 h]; decide)]
theorem acc_no {acc : List SP} {b : SP} (h : ¬(acc.filter (keepA b.1)).length = acc.length) : Md.putAttr acc b = acc := by
  unfold Md.putAttr
  rw [if_pos]
  cases hh : Md.hasAttr acc b.1 with
  | true => rfl
  | false => exact absurd (keep_len.2 hh) h
theorem wr2 {t : Md.Tok} (h : t.kind = 2) (s : Sty) : wrB s t = nameB s (Md.word9 t.name) ++ attrsS s t.attrs ++ (if t.self then [47] else []) ++ [62] ∧ wrT t = startTok (Md.word9 t.name) (accA t.attrs) t.self := by
  unfold wrB wrT
  rw [if_pos h, if_pos h]; exact ⟨rfl, rfl⟩
set_option maxHeartbeats 4000000 in
theorem write_F {p : Md.Tok × Nat} {way : Int} (hs : small9 p.1) : F D 31 [encT p, .int .i64 way] R (fun v cs' => Hold (∃ tg, v = .tup [.str (wrB (styW way) p.1), encT (wrT p.1, tg)] ∧ R = cs')) := by
  refine F.of rfl rfl rfl ?_
  have hcd := clean_len p.1.data
  have hw1 := word9_len p.1.name
  have hw0 := word9_pos p.1.name
  have hw2 := word9_len p.1.data
  have hg1 := gapS_len way
  have hsd := hs.2.1
  repeat' first
    | (show BI _ _ _ _ _ _; first | exact bit1 | exact bit2 | exact bit3 | exact bit4 | exact shr1_bi)
    | (show FC _ _ _ _ _; first | exact word9_F | exact clean_F (by omega) | exact gap_F | exact escape_F (by omega))
    | (refine Arith.mk ?_; simp only [List.length_append, List.length_cons, List.length_nil]; omega) | (refine fun (hc : _ = _) => ?_; (try simp only [BB] at hc); (try (first | contradiction | (exfalso; omega)))) | exact arI | refine Pst.mk ⟨?_, rfl⟩ kk | constructor | (refine fun _ _ (hq : Hold _) => ?_; replace hq := hq.out; obtain ⟨_, rfl, rfl⟩ := hq) | (refine fun _ _ (hq : Hold _) => ?_; replace hq := hq.out; obtain ⟨_, _, rfl, rfl⟩ := hq) | rintro _ _ ⟨rfl, rfl⟩ | rintro _ _ ⟨_, rfl, rfl⟩ | rintro _ _ ⟨_, _, rfl, rfl⟩ | (refine fun (hc : _ = _) => ?_; (try simp only [BB] at hc)) | refine fun (_ : Nat) => ?_ | refine fun (_ : _ ≤ _) => ?_ | refine fun (_ : _ < _) => ?_
  rotate_left 2
  · rename_i h2 h3 _ _
    have hw : (styW way).w = true := decide_eq_true (by omega)
    exact Pst.mk (Hold.mk ⟨0, by rw [(wr3 h3 (styW way)).1, (wr3 h3 (styW way)).2, if_pos hw]; rfl, rfl⟩) kk
  · rename_i h2 h3 _ _
    have hw : ¬(styW way).w = true := by show ¬decide _ = true; rw [decide_eq_true_iff]; omega
    exact Pst.mk (Hold.mk ⟨0, by rw [(wr3 h3 (styW way)).1, (wr3 h3 (styW way)).2, if_neg hw]; rfl, rfl⟩) kk
  · rename_i bx _ u0 _ h2 h3 u _
    have h4 : p.1.kind = 4 := hc
    generalize hD : Md.word9 p.1.data ++ Md.clean p.1.data = Dt at *
    have hDl : Dt.length ≤ 500 := by rw [← hD, List.length_append]; omega
    refine RS.loopW (α := Nat) (fun i => [(5, .ptr u0 0), (12, .ptr u 0), (13, .str (noDash (Dt.take i))), (14, .int .i64 (i : Nat))]) (fun _ => .obj u (.cells [.int .i64 4, .str [], .lst 0 0 [], .bool false, .str Dt, .str [], .str [], .bool false, .bool false, .bool false] none) :: .obj u0 (.cells [.int .i64 0, .str [], .lst 0 0 [], .bool false, .str [], .str [], .str [], .bool false, .bool false, .bool false] none) :: R)
      (fun i => i ≤ Dt.length) (fun i => Dt.length - i) 0 (Nat.zero_le _) ⟨rfl, rfl, rfl, rfl, trivial⟩ kk ?_
    rintro i h1 ih
    dsimp only [ents] at *
    have hnt := fun h => noDash_take (s := Dt) (i := i) h
    have hnl : (noDash (Dt.take i)).length ≤ i := by
      refine Nat.le_trans (List.length_filter_le ..) ?_
      rw [List.length_take]; omega
    repeat' first | (refine Arith.mk ?_; simp only [List.length_append, List.length_cons, List.length_nil]; omega) | (refine fun (hc : _ = _) => ?_; (try simp only [BB] at hc); (try (first | contradiction | (exfalso; omega)))) | exact arI | refine Pst.mk ⟨?_, rfl⟩ kk | constructor | (refine fun _ _ (hq : Hold _) => ?_; replace hq := hq.out; obtain ⟨_, rfl, rfl⟩ := hq) | (refine fun _ _ (hq : Hold _) => ?_; replace hq := hq.out; obtain ⟨_, _, rfl, rfl⟩ := hq) | rintro _ _ ⟨rfl, rfl⟩ | rintro _ _ ⟨_, rfl, rfl⟩ | rintro _ _ ⟨_, _, rfl, rfl⟩ | (refine fun (hc : _ = _) => ?_; (try simp only [BB] at hc)) | refine fun (_ : Nat) => ?_ | refine fun (_ : _ ≤ _) => ?_ | refine fun (_ : _ < _) => ?_
    · have e := hnt (by omega)
      rw [if_neg (by omega), ← one_cut (by omega)] at e
      exact ih _ _ (i + 1) (by omega) (by omega) (by rw [e]; exact ⟨rfl, rfl, rfl, rfl, trivial⟩) kk
    · have e := hnt (by omega)
      rw [if_pos (by omega), List.append_nil] at e
      exact ih _ _ (i + 1) (by omega) (by omega) (by rw [e]; exact ⟨rfl, rfl, rfl, rfl, trivial⟩) kk
    · rw [List.take_of_length_le (by omega)]
      exact Pst.mk (Hold.mk ⟨0, by rw [(wr4 h4 (styW way)).1, (wr4 h4 (styW way)).2, hD]; rfl, rfl⟩) kk
  · rename_i h2 h3 u _
    exact Pst.mk (Hold.mk ⟨0, by rw [(wr1 h2 h3 hc (styW way)).1, (wr1 h2 h3 hc (styW way)).2]; rfl, rfl⟩) kk
  all_goals
    rename_i bx _ u0 _ hk u _
    obtain ⟨hA1, hA2, hA3⟩ := hs
    have hnl : (nameB (styW way) (Md.word9 p.1.name)).length ≤ 12 := by
      unfold nameB; split <;> simp only [List.length_append, List.length_cons, List.length_nil, List.length_drop] <;> omega
    refine RS.nilOwn 2 ?_
    refine RS.loopW (α := Nat × Nat) (fun a => [(1, .int .i64 way), (5, .ptr u0 0), (6, .ptr u 0), (7, .str (nameB (styW way) (Md.word9 p.1.name) ++ attrsS (styW way) (p.1.attrs.take a.1))), (37, .lst p.2 (zOf p.2 2) (p.1.attrs.map encA)), (38, .int .i64 p.1.attrs.length), (39, .int .i64 (a.1 : Nat))])
      (fun a => .own a.2 2 ((accA (p.1.attrs.take a.1)).map encA) :: .obj u (.cells [.int .i64 2, .str (Md.word9 p.1.name), .lst a.2 (zOf a.2 2) ((accA (p.1.attrs.take a.1)).map encA), .bool p.1.self, .str [], .str [], .str [], .bool false, .bool false, .bool false] none) :: .obj u0 (.cells [.int .i64 0, .str [], .lst 0 0 [], .bool false, .str [], .str [], .str [], .bool false, .bool false, .bool false] none) :: R)
      (fun a => a.1 ≤ p.1.attrs.length ∧ (attrsS (styW way) (p.1.attrs.take a.1)).length ≤ 2600 * a.1) (fun a => p.1.attrs.length - a.1) (0, 0) ⟨Nat.zero_le _, Nat.zero_le _⟩ ⟨rfl, rfl, rfl, ?_, rfl, rfl, rfl, trivial⟩ (by show KK _ (Ck.own 0 2 [] :: Ck.obj u _ :: Ck.obj u0 _ :: R); exact kk) ?_
  · have hw : (styW way).w = true := decide_eq_true (by omega)
    show some (DV.str _) = some (DV.str _)
    rw [nameB, if_pos hw]; simp [attrsS]
  rotate_left
  · have hw : ¬(styW way).w = true := by show ¬decide _ = true; rw [decide_eq_true_iff]; omega
    show some (DV.str _) = some (DV.str _)
    rw [nameB, if_neg hw]; simp [attrsS]
  all_goals
    rintro ⟨i, tg⟩ ⟨h1, hS⟩ ih
    dsimp only [ents] at *
    have hat := fun h => accA_take (al := p.1.attrs) (i := i) h
    have hst := fun h => attrsS_take (s := styW way) (al := p.1.attrs) (i := i) h
    have hal := accA_len (p.1.attrs.take i)
    rw [List.length_take] at hal
    have hg2 := gapS_len (shrk way 1)
    have hw9 := word9_len (p.1.attrs.getD i default).1
    have hcl := clean_len (p.1.attrs.getD i default).2
    have hcv : i < p.1.attrs.length → (p.1.attrs.getD i default).2.length ≤ 100 := fun h => hA3 _ (getD_mem h)
    have hel := escB_len (Md.clean (p.1.attrs.getD i default).2)
    repeat' first
      | exact MapL.cons (y := wAttrT (p.1.attrs.getD i default)) .nil
      | (show BI _ _ _ _ _ _; first | exact bit1 | exact bit2 | exact bit3 | exact bit4 | exact shr1_bi)
      | (show FC _ _ _ _ _; first | exact word9_F | exact clean_F (by rw [Int.toNat_natCast]; exact Nat.le_trans (hcv (by omega)) (by decide)) | exact gap_F | exact escape_F (by rw [Int.toNat_natCast]; have := hcv (by omega); omega))
      | (show FZ _ _ _ _ _; exact withoutO_F kk rfl (by omega))
      | (refine fun _ _ (hq : Hold _) => ?_; replace hq := hq.out; obtain ⟨t8, z8, x8, rfl, hf, rfl⟩ := hq)
      | (refine Arith.mk ?_; have hcv2 := hcv (by omega); simp only [Int.toNat_natCast, List.length_append, List.length_cons, List.length_nil]; omega) | (refine fun (hc : _ = _) => ?_; (try simp only [BB] at hc); (try (first | contradiction | (exfalso; omega)))) | exact arI | refine Pst.mk ⟨?_, rfl⟩ kk | constructor | (refine fun _ _ (hq : Hold _) => ?_; replace hq := hq.out; obtain ⟨_, rfl, rfl⟩ := hq) | (refine fun _ _ (hq : Hold _) => ?_; replace hq := hq.out; obtain ⟨_, _, rfl, rfl⟩ := hq) | rintro _ _ ⟨rfl, rfl⟩ | rintro _ _ ⟨_, rfl, rfl⟩ | rintro _ _ ⟨_, _, rfl, rfl⟩ | (refine fun (hc : _ = _) => ?_; (try simp only [BB] at hc)) | refine fun (_ : Nat) => ?_ | refine fun (_ : _ ≤ _) => ?_ | refine fun (_ : _ < _) => ?_
    · obtain ⟨b1, b2⟩ := ‹((bitk way 2 : Nat) : Int) = 2 ∧ Md.clean (p.1.attrs.getD i default).2 = []›
      have e := hst (by omega)
      rw [attrB_1 (by omega) b2] at e
      have ea := hat (by omega)
      rw [acc_app (by rw [show (wAttrT (p.1.attrs.getD i default)).1 = Md.word9 (p.1.attrs.getD (i : Int).toNat default).1 from rfl, hf]; omega)] at ea
      refine ih _ _ (i + 1, _) ⟨by dsimp only; omega, by dsimp only; rw [hst (by omega), List.length_append]; have := attrB_len (way := way) (hcv (by omega)); omega⟩ (by dsimp only; omega) ⟨rfl, rfl, rfl, (by show some (DV.str _) = some (DV.str _); rw [e]; simp only [Int.toNat_natCast, List.append_assoc]), rfl, rfl, rfl, trivial⟩ (by rw [ea]; exact kk)
    · obtain ⟨b1, b2⟩ := ‹((bitk way 2 : Nat) : Int) = 2 ∧ Md.clean (p.1.attrs.getD i default).2 = []›
      have e := hst (by omega)
      rw [attrB_1 (by omega) b2] at e
      have ea := hat (by omega)
      rw [acc_no (by rw [show (wAttrT (p.1.attrs.getD i default)).1 = Md.word9 (p.1.attrs.getD (i : Int).toNat default).1 from rfl, hf]; omega)] at ea
      refine ih _ _ (i + 1, tg) ⟨by dsimp only; omega, by dsimp only; rw [hst (by omega), List.length_append]; have := attrB_len (way := way) (hcv (by omega)); omega⟩ (by dsimp only; omega) ⟨rfl, rfl, rfl, (by show some (DV.str _) = some (DV.str _); rw [e]; simp only [Int.toNat_natCast, List.append_assoc]), rfl, rfl, rfl, trivial⟩ (by rw [ea]; exact kk)
    · have b2 := ‹((bitk way 2 : Nat) : Int) = 2 → ¬Md.clean (p.1.attrs.getD i default).2 = []›
      have e := hst (by omega)
      rw [attrB_2 (fun h => b2 (by omega)) (by omega)] at e
      have ea := hat (by omega)
      rw [acc_app (by rw [show (wAttrT (p.1.attrs.getD i default)).1 = Md.word9 (p.1.attrs.getD (i : Int).toNat default).1 from rfl, hf]; omega)] at ea
      refine ih _ _ (i + 1, _) ⟨by dsimp only; omega, by dsimp only; rw [hst (by omega), List.length_append]; have := attrB_len (way := way) (hcv (by omega)); omega⟩ (by dsimp only; omega) ⟨rfl, rfl, rfl, (by show some (DV.str _) = some (DV.str _); rw [e]; simp only [Int.toNat_natCast, List.append_assoc]), rfl, rfl, rfl, trivial⟩ (by rw [ea]; exact kk)
    · have b2 := ‹((bitk way 2 : Nat) : Int) = 2 → ¬Md.clean (p.1.attrs.getD i default).2 = []›
      have e := hst (by omega)
      rw [attrB_2 (fun h => b2 (by omega)) (by omega)] at e
      have ea := hat (by omega)
      rw [acc_no (by rw [show (wAttrT (p.1.attrs.getD i default)).1 = Md.word9 (p.1.attrs.getD (i : Int).toNat default).1 from rfl, hf]; omega)] at ea
      refine ih _ _ (i + 1, tg) ⟨by dsimp only; omega, by dsimp only; rw [hst (by omega), List.length_append]; have := attrB_len (way := way) (hcv (by omega)); omega⟩ (by dsimp only; omega) ⟨rfl, rfl, rfl, (by show some (DV.str _) = some (DV.str _); rw [e]; simp only [Int.toNat_natCast, List.append_assoc]), rfl, rfl, rfl, trivial⟩ (by rw [ea]; exact kk)
    · have b2 := ‹((bitk way 2 : Nat) : Int) = 2 → ¬Md.clean (p.1.attrs.getD i default).2 = []›
      have e := hst (by omega)
      rw [attrB_3 (fun h => b2 (by omega)) (by omega)] at e
      have ea := hat (by omega)
      rw [acc_app (by rw [show (wAttrT (p.1.attrs.getD i default)).1 = Md.word9 (p.1.attrs.getD (i : Int).toNat default).1 from rfl, hf]; omega)] at ea
      refine ih _ _ (i + 1, _) ⟨by dsimp only; omega, by dsimp only; rw [hst (by omega), List.length_append]; have := attrB_len (way := way) (hcv (by omega)); omega⟩ (by dsimp only; omega) ⟨rfl, rfl, rfl, (by show some (DV.str _) = some (DV.str _); rw [e]; simp only [Int.toNat_natCast, List.append_assoc]), rfl, rfl, rfl, trivial⟩ (by rw [ea]; exact kk)
    · have b2 := ‹((bitk way 2 : Nat) : Int) = 2 → ¬Md.clean (p.1.attrs.getD i default).2 = []›
      have e := hst (by omega)
      rw [attrB_3 (fun h => b2 (by omega)) (by omega)] at e
      have ea := hat (by omega)
      rw [acc_no (by rw [show (wAttrT (p.1.attrs.getD i default)).1 = Md.word9 (p.1.attrs.getD (i : Int).toNat default).1 from rfl, hf]; omega)] at ea
      refine ih _ _ (i + 1, tg) ⟨by dsimp only; omega, by dsimp only; rw [hst (by omega), List.length_append]; have := attrB_len (way := way) (hcv (by omega)); omega⟩ (by dsimp only; omega) ⟨rfl, rfl, rfl, (by show some (DV.str _) = some (DV.str _); rw [e]; simp only [Int.toNat_natCast, List.append_assoc]), rfl, rfl, rfl, trivial⟩ (by rw [ea]; exact kk)
    · rw [List.take_of_length_le (by omega)]
      exact Pst.mk (Hold.mk ⟨tg, by rw [(wr2 hk (styW way)).1, (wr2 hk (styW way)).2, if_pos hc]; rfl, rfl⟩) kk
    · rw [List.take_of_length_le (by omega)]
      exact Pst.mk (Hold.mk ⟨tg, by rw [(wr2 hk (styW way)).1, (wr2 hk (styW way)).2, if_neg (by rw [hc]; decide), List.append_nil]; rfl, rfl⟩) kk
end Go.Proofs.YticnenofiibpgaaDoor.Code
/- Tokens az they come in. -/
namespace Go.Dm
section
variable {P : Program}
theorem TC.structV {t : TypeId} {fs : Array Field} {cs : List DV} (hu : P.underlying t = some (.struct fs)) (h : TC P t cs) : TFs P fs.toList cs ∧ toVal P t cs = .agg cs := by
  refine ⟨?_, by unfold toVal; rw [hu]⟩
  cases h with
  | bool h1 => rw [hu] at h1; cases h1
  | int h1 _ => rw [hu] at h1; cases h1
  | str h1 _ => rw [hu] at h1; cases h1
  | nil h1 => rw [hu] at h1; cases h1
  | slice h1 _ _ => rw [hu] at h1; cases h1
  | struct h1 h2 => rw [hu] at h1; cases h1; exact h2
theorem TFs.inv {f : Field} {r : List Field} {ds : List DV} (h : TFs P (f :: r) ds) : ∃ cs ds', ds = cs ++ ds' ∧ TC P f.type cs ∧ TFs P r ds' := by
  cases h with
  | cons h1 h2 => exact ⟨_, _, rfl, h1, h2⟩
theorem TFs.nilV {ds : List DV} (h : TFs P [] ds) : ds = [] := by cases h; rfl
theorem TC.boolC {t : TypeId} {cs : List DV} (hu : P.underlying t = some .bool) (h : TC P t cs) : ∃ b, cs = [.bool b] := by
  cases h with
  | @bool _ b h1 => exact ⟨b, rfl⟩
  | int h1 _ => rw [hu] at h1; cases h1
  | str h1 _ => rw [hu] at h1; cases h1
  | nil h1 => rw [hu] at h1; cases h1
  | slice h1 _ _ => rw [hu] at h1; cases h1
  | struct h1 _ => rw [hu] at h1; cases h1
theorem TC.attrV {t tS : TypeId} {f1 f2 : Field} {cs : List DV} (hu : P.underlying t = some (.struct #[f1, f2])) (h1 : f1.type = tS) (h2 : f2.type = tS) (hs : P.underlying tS = some .string) (h : TC P t cs) : ∃ a : Md.Str × Md.Str, toVal P t cs = encA a ∧ True := by
  subst h1
  obtain ⟨hf, hv⟩ := TC.structV hu h
  obtain ⟨c1, r1, rfl, a1, hf⟩ := TFs.inv hf
  obtain ⟨c2, r2, rfl, a2, hf⟩ := TFs.inv hf
  obtain rfl := TFs.nilV hf
  rw [h2] at a2
  obtain ⟨s1, _, rfl, _⟩ := TC.strV hs a1
  obtain ⟨s2, _, rfl, _⟩ := TC.strV hs a2
  exact ⟨(s1, s2), hv, trivial⟩
theorem TC.tokV {t tA tL tI tS tB : TypeId} {g1 g2 f1 f2 f3 f4 f5 f6 f7 f8 f9 f10 : Field} {cs : List DV} (hu : P.underlying t = some (.struct #[f1, f2, f3, f4, f5, f6, f7, f8, f9, f10]))
    (hA : P.underlying tA = some (.struct #[g1, g2])) (hg : g1.type = tS ∧ g2.type = tS) (hL : P.underlying tL = some (.slice tA)) (hI : P.underlying tI = some (.int .i64)) (hS : P.underlying tS = some .string) (hB : P.underlying tB = some .bool) (hc : P.cellsOf tA = 2)
    (hf : [f1, f2, f3, f4, f5, f6, f7, f8, f9, f10].map Field.type = [tI, tS, tL, tB, tS, tS, tS, tB, tB, tB]) (h : TC P t cs) : ∃ p : Md.Tok × Nat, toVal P t cs = encT p ∧ True := by
  simp only [List.map_cons, List.map_nil, List.cons.injEq, and_true] at hf
  obtain ⟨e1, e2, e3, e4, e5, e6, e7, e8, e9, e10⟩ := hf
  obtain ⟨hf, hv⟩ := TC.structV hu h
  obtain ⟨c1, r1, rfl, a1, hf⟩ := TFs.inv hf
  obtain ⟨c2, r2, rfl, a2, hf⟩ := TFs.inv hf
  obtain ⟨c3, r3, rfl, a3, hf⟩ := TFs.inv hf
  obtain ⟨c4, r4, rfl, a4, hf⟩ := TFs.inv hf
  obtain ⟨c5, r5, rfl, a5, hf⟩ := TFs.inv hf
  obtain ⟨c6, r6, rfl, a6, hf⟩ := TFs.inv hf
  obtain ⟨c7, r7, rfl, a7, hf⟩ := TFs.inv hf
  obtain ⟨c8, r8, rfl, a8, hf⟩ := TFs.inv hf
  obtain ⟨c9, r9, rfl, a9, hf⟩ := TFs.inv hf
  obtain ⟨c10, r10, rfl, a10, hf⟩ := TFs.inv hf
  obtain rfl := TFs.nilV hf
  rw [e1] at a1; rw [e2] at a2; rw [e3] at a3; rw [e4] at a4; rw [e5] at a5
  rw [e6] at a6; rw [e7] at a7; rw [e8] at a8; rw [e9] at a9; rw [e10] at a10
  obtain ⟨n, _, rfl, _⟩ := TC.intV hI a1
  obtain ⟨s2, _, rfl, _⟩ := TC.strV hS a2
  obtain ⟨tt, al, _, rfl, _, _, _⟩ := TC.sliceV (f := encA) (q := fun _ => True) hL (by omega) (fun ys hy => TC.attrV hA hg.1 hg.2 hS hy) a3
  obtain ⟨b4, rfl⟩ := TC.boolC hB a4
  obtain ⟨s5, _, rfl, _⟩ := TC.strV hS a5
  obtain ⟨s6, _, rfl, _⟩ := TC.strV hS a6
  obtain ⟨s7, _, rfl, _⟩ := TC.strV hS a7
  obtain ⟨b8, rfl⟩ := TC.boolC hB a8
  obtain ⟨b9, rfl⟩ := TC.boolC hB a9
  obtain ⟨b10, rfl⟩ := TC.boolC hB a10
  refine ⟨(⟨n, s2, al, b4, s5, s6, s7, b8, b9, b10⟩, tt), ?_, trivial⟩
  rw [hv, hc]; rfl
end
end Go.Dm
/- What LexTags does on typed values. -/
namespace Go.Proofs.YticnenofiibpgaaDoor.Code
open Go.Dm Go.Dm.C
set_option linter.unusedSimpArgs false
set_option linter.unusedVariables false
set_option linter.unnecessarySimpa false
set_option maxRecDepth 10000
attribute [local irreducible] Go.Dm.F Go.Dm.RS Go.Dm.Y Go.Dm.FD Go.Dm.FZ1 Go.Dm.Hold
theorem shr_bi {p : Bool} {n k : Int} (hk : 0 ≤ k) : BI p .shr .any (.int .i64 n) (.int .u64 k) (.int .i64 (shrk n k)) := .gen (by
  unfold shrk binD
  dsimp only
  rw [if_neg (by omega)])
theorem cvU {p : Bool} {mu : Bool} {k : Nat} (hk : k ≤ 1000) : CV p (.int .u64) mu (.int .i64 (k : Int)) (.int .u64 (k : Int)) := by
  have h : CV p (.int .u64) mu (.int .i64 (k : Int)) (.int .u64 (IntKind.u64.wrap (k : Int))) := .wrap
  have e : IntKind.u64.wrap (k : Int) = k := by
    show (k : Int) % 18446744073709551616 = k
    omega
  rw [e] at h; exact h
theorem attrsS_len {way : Int} : ∀ {al : List SP}, (∀ a ∈ al, a.2.length ≤ 100) → (attrsS (styW way) al).length ≤ 2600 * al.length
  | [], _ => Nat.le_refl _
  | a :: al, h => by
    have ih := attrsS_len (way := way) (al := al) (fun x hx => h x (by simp [hx]))
    have h1 := attrB_len (way := way) (h a (by simp))
    unfold attrsS at *
    rw [List.map_cons, List.flatten_cons, List.length_append, List.length_cons]; omega
theorem wrB_len {way : Int} {t : Md.Tok} (h : small9 t) : (wrB (styW way) t).length ≤ 27000 := by
  obtain ⟨h1, h2, h3⟩ := h
  have hw1 := word9_len t.name
  have hw2 := word9_len t.data
  have hcd := clean_len t.data
  have hg : (styW way).g1.length ≤ 2 := gapS_len _
  by_cases k2 : t.kind = 2
  · rw [(wr2 k2 _).1]
    have ha := attrsS_len (way := way) h3
    have hn : (nameB (styW way) (Md.word9 t.name)).length ≤ 12 := by
      unfold nameB; split <;> simp only [List.length_append, List.length_cons, List.length_nil, List.length_drop] <;> omega
    have hs : (if t.self then ([47] : Md.Str) else []).length ≤ 1 := by cases t.self <;> decide
    simp only [List.length_append, List.length_cons, List.length_nil]; omega
  by_cases k3 : t.kind = 3
  · rw [(wr3 k3 _).1]
    split <;> simp only [List.length_append, List.length_cons, List.length_nil] <;> omega
  by_cases k4 : t.kind = 4
  · rw [(wr4 k4 _).1]
    have hd : (noDash (Md.word9 t.data ++ Md.clean t.data)).length ≤ (Md.word9 t.data ++ Md.clean t.data).length := List.length_filter_le ..
    rw [List.length_append] at hd
    simp only [List.length_append, List.length_cons, List.length_nil]; omega
  · rw [(wr1 k2 k3 k4 _).1]
    have := escB_len (Md.clean t.data); omega
end Go.Proofs.YticnenofiibpgaaDoor.Code
/- What LexJoins does on typed values. -/
namespace Go.Proofs.YticnenofiibpgaaDoor.Code
open Go.Dm Go.Dm.C
set_option linter.unusedSimpArgs false
set_option linter.unusedVariables false
set_option linter.unnecessarySimpa false
set_option maxRecDepth 10000
attribute [local irreducible] Go.Dm.F Go.Dm.RS Go.Dm.Y Go.Dm.FD Go.Dm.FZ1 Go.Dm.Hold
variable {R : List Ck}
/-- A page of some tokens, each in one of some ways. -/
def isPage (s : Md.Str) : Prop := ∃ ts : List (Sty × Md.Tok), (∀ p ∈ ts, p.1.Ok) ∧ s = (ts.map fun p => wrB p.1 p.2).flatten
theorem isPage_nil : isPage [] := ⟨[], ⟨fun p hp => absurd hp List.not_mem_nil, rfl⟩⟩
theorem isPage_snoc {s : Md.Str} (h : isPage s) {st : Sty} (hs : st.Ok) (t : Md.Tok) : isPage (s ++ wrB st t) := by
  obtain ⟨ts, h1, rfl⟩ := h
  refine ⟨ts ++ [(st, t)], fun p hp => ?_, ?_⟩
  · rcases List.mem_append.1 hp with hp | hp
    · exact h1 p hp
    · simp only [List.mem_singleton] at hp; subst hp; exact hs
  · rw [List.map_append, List.flatten_append]; simp
set_option maxHeartbeats 4000000 in
theorem page_F {t z c : Nat} {ls : List (Md.Tok × Nat)} {way : Int} {cs : List Ck} (hm : Me (.obj c (.cells [.int .i64 way] none)) cs) (hz : z = zOf t 10) (hl : ls.length ≤ 10) : F D 32 [.lst t z (ls.map encT), .ptr c 0] cs (fun v cs' => Hold (∃ s, v = .str s ∧ cs = cs' ∧ isPage s ∧ s.length ≤ 300000)) := by
  subst hz
  refine F.conv (F.atM (P := fun v => Hold (∃ s, v = .str s ∧ isPage s ∧ s.length ≤ 300000)) hm fun R => ?_) (fun v cs' hq => ⟨cs', fun _ h => h, by
    obtain ⟨q1, q2⟩ := hq
    obtain ⟨s, e1, e2, e3⟩ := q1.out
    exact Hold.mk ⟨s, e1, q2, e2, e3⟩⟩)
  refine F.of rfl rfl rfl ?_
  repeat' first | exact arI | refine Pst.mk ⟨?_, rfl⟩ kk | constructor | (refine fun _ _ (hq : Hold _) => ?_; replace hq := hq.out; obtain ⟨_, rfl, rfl⟩ := hq) | (refine fun _ _ (hq : Hold _) => ?_; replace hq := hq.out; obtain ⟨_, _, rfl, rfl⟩ := hq) | rintro _ _ ⟨rfl, rfl⟩ | rintro _ _ ⟨_, rfl, rfl⟩ | rintro _ _ ⟨_, _, rfl, rfl⟩ | (refine fun (hc : _ = _) => ?_; (try simp only [BB] at hc)) | refine fun (_ : Nat) => ?_ | refine fun (_ : _ ≤ _) => ?_ | refine fun (_ : _ < _) => ?_
  refine RS.loopW (α := Nat × Md.Str) (fun a => [(1, .ptr c 0), (4, .str a.2), (10, .lst t (zOf t 10) (ls.map encT)), (11, .int .i64 ls.length), (12, .int .i64 (a.1 : Nat))]) (fun a => .obj c (.cells [.int .i64 way] none) :: R)
    (fun a => a.1 ≤ ls.length ∧ isPage a.2 ∧ a.2.length ≤ 27000 * a.1) (fun a => ls.length - a.1) (0, []) ⟨Nat.zero_le _, isPage_nil, Nat.zero_le _⟩ ⟨rfl, rfl, rfl, rfl, rfl, trivial⟩ .refl ?_
  rintro ⟨i, s⟩ ⟨h1, h2, h3⟩ ih
  dsimp only [ents] at *
  repeat' first
    | (refine Arith.mk ?_; omega) | (refine fun (hc : _ = _) => ?_; (try simp only [BB] at hc); (try (first | contradiction | (exfalso; omega)))) | exact arI | refine Pst.mk ⟨?_, rfl⟩ kk | constructor | (refine fun _ _ (hq : Hold _) => ?_; replace hq := hq.out; obtain ⟨_, rfl, rfl⟩ := hq) | (refine fun _ _ (hq : Hold _) => ?_; replace hq := hq.out; obtain ⟨_, _, rfl, rfl⟩ := hq) | rintro _ _ ⟨rfl, rfl⟩ | rintro _ _ ⟨_, rfl, rfl⟩ | rintro _ _ ⟨_, _, rfl, rfl⟩ | (refine fun (hc : _ = _) => ?_; (try simp only [BB] at hc)) | refine fun (_ : Nat) => ?_ | refine fun (_ : _ ≤ _) => ?_ | refine fun (_ : _ < _) => ?_
  · exact ih _ _ (i + 1, s) ⟨by dsimp only; omega, h2, by dsimp only; omega⟩ (by dsimp only; omega) ⟨rfl, rfl, rfl, rfl, rfl, trivial⟩ kk
  · rename_i x _
    obtain ⟨hd1, hd2⟩ := hc
    generalize hu : ls.getD i default = u at *
    refine RS.loopW (α := Nat) (fun j => [(1, .ptr c 0), (4, .str s), (5, .int .i64 (i : Nat)), (6, .ptr x 0), (10, .lst t (zOf t 10) (ls.map encT)), (11, .int .i64 ls.length), (12, .int .i64 (i : Nat)), (29, .int .i64 u.1.attrs.length), (30, .int .i64 (j : Nat))])
      (fun _ => .obj x (.cells (encT u).cells none) :: .obj c (.cells [.int .i64 way] none) :: R)
      (fun j => j ≤ u.1.attrs.length ∧ ∀ a ∈ u.1.attrs.take j, a.2.length ≤ 100) (fun j => u.1.attrs.length - j) 0 ⟨Nat.zero_le _, fun a ha => by cases ha⟩ ⟨rfl, rfl, rfl, rfl, rfl, rfl, rfl, (by rw [← hu]; rfl), rfl, trivial⟩ (by rw [← hu]; exact kk) ?_
    rintro j ⟨g1, g2⟩ ih2
    dsimp only [ents] at *
    have hsm : ¬j < u.1.attrs.length → small9 u.1 := fun h => ⟨by omega, by omega, by rw [List.take_of_length_le (by omega)] at g2; exact g2⟩
    have htk := fun h => take_one (al := u.1.attrs) (i := j) h
    unfold encT
    dsimp only [DV.cells]
    repeat' first
      | (refine Arith.mk fun _ => ?_; have hw := wrB_len (way := shrk way (bitk i 15)) (hsm (by omega)); omega)
      | (show BI _ _ _ _ _ _; first | exact bit15 | exact shr_bi (by omega)) | (show CV _ _ _ _ _; exact cvU (Nat.le_trans (bitk_le _ (by omega)) (by omega)))
      | (show FC _ _ _ _ _; exact write_F (p := u) (hsm (by omega)))
      | (refine fun _ _ (hq : Hold _) => ?_; replace hq := hq.out; obtain ⟨tg2, rfl, rfl⟩ := hq)
      | (refine Arith.mk ?_; omega) | (refine fun (hc : _ = _) => ?_; (try simp only [BB] at hc); (try (first | contradiction | (exfalso; omega)))) | exact arI | refine Pst.mk ⟨?_, rfl⟩ kk | constructor | (refine fun _ _ (hq : Hold _) => ?_; replace hq := hq.out; obtain ⟨_, rfl, rfl⟩ := hq) | (refine fun _ _ (hq : Hold _) => ?_; replace hq := hq.out; obtain ⟨_, _, rfl, rfl⟩ := hq) | rintro _ _ ⟨rfl, rfl⟩ | rintro _ _ ⟨_, rfl, rfl⟩ | rintro _ _ ⟨_, _, rfl, rfl⟩ | (refine fun (hc : _ = _) => ?_; (try simp only [BB] at hc)) | refine fun (_ : Nat) => ?_ | refine fun (_ : _ ≤ _) => ?_ | refine fun (_ : _ < _) => ?_
    · exact Hold.mk ⟨s, rfl, h2, by omega⟩
    · refine ih2 _ _ (j + 1) ⟨by omega, ?_⟩ (by omega) ⟨rfl, rfl, rfl, rfl, rfl, rfl, rfl, rfl, rfl, trivial⟩ kk
      rw [htk (by omega)]
      intro a ha
      rcases List.mem_append.1 ha with ha | ha
      · exact g2 a ha
      · simp only [List.mem_singleton] at ha; subst ha; omega
    · have hw := wrB_len (way := shrk way (bitk i 15)) (hsm (by omega))
      exact ih _ _ (i + 1, s ++ wrB (styW (shrk way (bitk i 15))) u.1) ⟨by dsimp only; omega, isPage_snoc h2 (styW_ok _) u.1, by dsimp only; rw [List.length_append]; omega⟩ (by dsimp only; omega) ⟨rfl, rfl, rfl, rfl, rfl, trivial⟩ kk
  · exact Hold.mk ⟨s, rfl, h2, by omega⟩
end Go.Proofs.YticnenofiibpgaaDoor.Code
/- The head's page, read. -/
namespace Go.Proofs.YticnenofiibpgaaDoor.Code
open Go.Dm
set_option linter.unusedSimpArgs false
set_option linter.unusedVariables false
theorem head_val : Md.valueGo 0 [99, 38, 97, 109, 112, 59, 100, 62] [] = ([99, 38, 100], true, 7) := by
  have h0 : ∀ (r : Int), ¬((0 : Int) ≠ 0 ∧ r = 0) := fun r e => e.1 rfl
  have hb : ∀ (r : Int), Md.blank r = false → r ≠ 62 → ¬((0 : Int) = 0 ∧ (Md.blank r = true ∨ r = 62)) := fun r h1 h2 e => by
    rcases e.2 with h | h
    · rw [h1] at h; cases h
    · exact h2 h
  rw [valueGo_cons, if_neg (h0 _), if_neg (hb _ (by decide) (by decide)), if_neg (by decide), valueGo_cons, if_neg (h0 _), if_neg (hb _ (by decide) (by decide)), if_pos rfl, refer_amp]
  show (_, _, _) = _
  rw [show List.drop ([38], 4).snd [97, 109, 112, 59, 100, 62] = ([100, 62] : List Int) from rfl, valueGo_cons, if_neg (h0 _), if_neg (hb _ (by decide) (by decide)), if_neg (by decide), valueGo_cons, if_neg (h0 _), if_pos ⟨rfl, .inr rfl⟩]
  rfl
theorem head_attrs : Md.attrsGo [32, 98, 61, 99, 38, 97, 109, 112, 59, 100, 62] [] = ([([98], [99, 38, 100])], false, true, 11) := by
  have hval : Md.value [99, 38, 97, 109, 112, 59, 100, 62] = ([99, 38, 100], true, 7) := by
    have hb : Md.blanksN [99, 38, 97, 109, 112, 59, 100, 62] = 0 := by unfold Md.blanksN; rw [List.takeWhile_cons, if_neg (by decide)]; rfl
    unfold Md.value
    dsimp only
    rw [hb]
    show (if (99 : Int) = 62 then _ else if (99 : Int) = 34 ∨ (99 : Int) = 39 then _ else (Md.encode (Md.valueGo 0 [99, 38, 97, 109, 112, 59, 100, 62] []).1, (Md.valueGo 0 [99, 38, 97, 109, 112, 59, 100, 62] []).2.1, 0 + (Md.valueGo 0 [99, 38, 97, 109, 112, 59, 100, 62] []).2.2)) = _
    rw [if_neg (by decide), if_neg (by decide), head_val]; rfl
  have ha : Md.attr1 [98, 61, 99, 38, 97, 109, 112, 59, 100, 62] = (([98], [99, 38, 100]), true, 9) := by
    have hnm : Md.attrName [98, 61, 99, 38, 97, 109, 112, 59, 100, 62] = [98] := by
      unfold Md.attrName
      dsimp only
      rw [if_neg (by decide), List.takeWhile_cons, if_neg (by decide)]
    have hb : Md.blanksN [61, 99, 38, 97, 109, 112, 59, 100, 62] = 0 := by unfold Md.blanksN; rw [List.takeWhile_cons, if_neg (by decide)]; rfl
    unfold Md.attr1
    dsimp only
    rw [hnm]
    have hb' : Md.blanksN (List.drop ([98] : List Int).length [98, 61, 99, 38, 97, 109, 112, 59, 100, 62]) = 0 := hb
    rw [hb']
    have e1 : ([98, 61, 99, 38, 97, 109, 112, 59, 100, 62] : List Int).getD (([98] : List Int).length + 0) (-1) = 61 := rfl
    have e2 : ([98, 61, 99, 38, 97, 109, 112, 59, 100, 62] : List Int).drop (([98] : List Int).length + 0 + 1) = [99, 38, 97, 109, 112, 59, 100, 62] := rfl
    rw [if_pos e1, e2, hval]; rfl
  have hbl := attrs_blanks [32] [98, 61, 99, 38, 97, 109, 112, 59, 100, 62] [] (fun r hr => by simp only [List.mem_singleton] at hr; subst hr; decide)
  rw [show ([32] ++ [98, 61, 99, 38, 97, 109, 112, 59, 100, 62] : List Int) = [32, 98, 61, 99, 38, 97, 109, 112, 59, 100, 62] from rfl] at hbl
  rw [hbl, attrsGo_attr (by decide) (by decide) (by decide), ha, if_pos rfl]
  show ((Md.attrsGo [62] _).1, (Md.attrsGo [62] _).2.1, (Md.attrsGo [62] _).2.2.1, (Md.attrsGo [62] _).2.2.2 + 9 + 1) = _
  rw [attrs_gt]; rfl
def headS : Md.Str := [60, 97, 32, 98, 61, 99, 38, 97, 109, 112, 59, 100, 62]
theorem head_pure : Md.all headS = [startTok [97] [([98], [99, 38, 100])] false] := by
  have hd : Md.decode headS = [60, 97, 32, 98, 61, 99, 38, 97, 109, 112, 59, 100, 62] := decode_encode (l := [60, 97, 32, 98, 61, 99, 38, 97, 109, 112, 59, 100, 62]) (by simp [sv])
  show Md.join _ = _
  refine Rd.start (w := 0) (nm := []) (room := false) (c := headS) ?_ ?_
  · have hdl := decode_len headS
    exact ⟨Nat.le_trans hdl (by decide), fun r hr => (decode_sv _ r hr).1.1, Nat.zero_le _, fun _ => Nat.zero_le _, Nat.zero_le _, by show (0 : Nat) ≤ 100; omega, by show (0 : Nat) ≤ _; omega⟩
  · rw [hd]
    refine Rd.tag (fun acc x hx hS => At.start (m := [97]) (T := [32, 98, 61, 99, 38, 97, 109, 112, 59, 100, 62]) ⟨by simp, fun c hc => by simp only [List.mem_singleton] at hc; subst hc; decide⟩ (by decide) (by rw [head_attrs]) hS) ?_
    rw [head_attrs]
    exact Rd.nil
end Go.Proofs.YticnenofiibpgaaDoor.Code
/- What LexJoins does on typed values (2). -/
namespace Go.Proofs.YticnenofiibpgaaDoor.Code
open Go.Dm Go.Dm.C
theorem RR.sameB {D : DProg} {d : Option Nat} {x : Opd} {t sz : Nat} {xs : List DV} {c : List (Opd × Shape × Nat × Option (Nat × Bool))} {os : List ROp} {k : List It} {nt : Nat} {es : List En} {ds : List DDef} {ir : Option Nat} {cs : List Ck} {Q : DX → St → List Ck → Prop}
    (h1 : lo D es [] x = some (.lst t sz xs)) (ht : 2 ≤ t) (hx : xs ≠ []) (hd : dstOk nt d = true) (hr : RR D (.chk c :: .ops os :: k) (St.putO ⟨nt, es, ds, ir⟩ d (.lst t sz xs)) cs Q) :
    RR D (.ops (⟨d, .conv .sameB false x, none, c⟩ :: os) :: k) ⟨nt, es, ds, ir⟩ cs Q := .sem fun fr h ha hs => by
  have e1 := lo_ok (D := D) ha.es Tags.nil h1
  refine ops_ev ha (r := .val (.lst t sz xs)) (h1 := h) (v := .lst t sz xs) ?_ rfl hd hs hr.sound
  simp only [evalOp, e1, convD]
  rw [if_pos ⟨ht, hx⟩]
set_option linter.unusedSimpArgs false
set_option linter.unusedVariables false
set_option linter.unnecessarySimpa false
set_option maxRecDepth 10000
attribute [local irreducible] Go.Dm.F Go.Dm.RS Go.Dm.Y Go.Dm.FD Go.Dm.FZ1 Go.Dm.Hold
variable {R : List Ck}
set_option maxHeartbeats 2000000 in
theorem head_F : F D 13 [] R (fun v cs' => v = .bool true ∧ R = cs') := by
  refine F.of rfl rfl rfl ?_
  have hg : ∀ osq : List (Md.Tok × Nat), osq.map Prod.fst = Md.all (headS.take 13) → ∃ u, osq = [(startTok [97] [([98], [99, 38, 100])] false, u)] := fun osq h => by
    rw [show headS.take 13 = headS from rfl, head_pure] at h
    cases osq with
    | nil => cases h
    | cons a l =>
      obtain ⟨a1, a2⟩ := a
      cases l with
      | nil => simp only [List.map_cons, List.map_nil, List.cons.injEq, and_true] at h; exact ⟨a2, by rw [← h]⟩
      | cons b l => simp at h
  repeat' first
    | (refine RR.sameB rfl (by assumption) (by simp) rfl ?_)
    | (show FC _ _ _ _ _; exact all_F (b := headS) rfl (by decide))
    | (refine fun _ _ (hq : Hold _) => ?_; replace hq := hq.out; obtain ⟨tq, osq, rfl, hq0, ha, rfl⟩ := hq; obtain ⟨uq, rfl⟩ := hg _ ha; unfold encT startTok encA; dsimp only [List.map_cons, List.map_nil])
    | (refine Arith.mk ?_; omega) | (refine fun (hc : _ = _) => ?_; (try simp only [BB] at hc); (try (first | contradiction | (exfalso; omega)))) | exact arI | refine Pst.mk ⟨?_, rfl⟩ kk | constructor | (refine fun _ _ (hq : Hold _) => ?_; replace hq := hq.out; obtain ⟨_, rfl, rfl⟩ := hq) | (refine fun _ _ (hq : Hold _) => ?_; replace hq := hq.out; obtain ⟨_, _, rfl, rfl⟩ := hq) | rintro _ _ ⟨rfl, rfl⟩ | rintro _ _ ⟨_, rfl, rfl⟩ | rintro _ _ ⟨_, _, rfl, rfl⟩ | (refine fun (hc : _ = _) => ?_; (try simp only [BB] at hc)) | refine fun (_ : Nat) => ?_ | refine fun (_ : _ ≤ _) => ?_ | refine fun (_ : _ < _) => ?_
  all_goals trace_state
set_option maxHeartbeats 4000000 in
theorem joinsLaw {t z t' z' : Nat} {ls ms : List (Md.Tok × Nat)} {way : Int} (hz : z = zOf t 10) (hz' : z' = zOf t' 10) : F D 11 [.lst t z (ls.map encT), .lst t' z' (ms.map encT), .int .i64 way] [] (fun v cs' => v = .bool true) := by
  subst hz hz'
  refine F.of rfl rfl rfl ?_
  repeat' first
    | (show FC _ _ _ _ _; first | exact head_F | exact page_F kk rfl (by omega)) | exact Pst.mk rfl .refl
    | (refine Arith.mk ?_; omega) | (refine fun (hc : _ = _) => ?_; (try simp only [BB] at hc); (try (first | contradiction | (exfalso; omega)))) | exact arI | refine Pst.mk ⟨?_, rfl⟩ kk | constructor | rintro _ _ ⟨rfl, rfl⟩ | refine fun (_ : Nat) => ?_ | refine fun (_ : _ ≤ _) => ?_ | refine fun (_ : _ < _) => ?_
  refine fun _ _ (hq : Hold _) => ?_
  replace hq := hq.out
  obtain ⟨x, rfl, rfl, hpx, hlx⟩ := hq
  repeat' first
    | (show FC _ _ _ _ _; first | exact head_F | exact page_F kk rfl (by omega)) | (refine Arith.mk ?_; omega) | (refine fun (hc : _ = _) => ?_; (try simp only [BB] at hc); (try (first | contradiction | (exfalso; omega))))
    | exact arI | refine Pst.mk ⟨?_, rfl⟩ kk | constructor | rintro _ _ ⟨rfl, rfl⟩ | refine fun (_ : Nat) => ?_ | refine fun (_ : _ ≤ _) => ?_ | refine fun (_ : _ < _) => ?_
  refine fun _ _ (hq : Hold _) => ?_
  replace hq := hq.out
  obtain ⟨y, rfl, rfl, hpy, hly⟩ := hq
  obtain ⟨ts, hts, ex⟩ := hpx
  obtain ⟨us, hus, ey⟩ := hpy
  have hpure := joins_pure hts hus
  rw [← ex, ← ey] at hpure
  replace hpure := hpure (by rw [List.length_append]; omega)
  have hbx := all_bd (c := x) (k := 300000) hlx (by omega)
  have hby := all_bd (c := y) (k := 300000) hly (by omega)
  have hbz := (all_bd (c := x ++ y) (k := 600000) (by rw [List.length_append]; omega) (by omega)).1
  have hsz := all_small (c := x ++ y) (by rw [List.length_append]; omega)
  rw [List.length_append] at hsz
  repeat' first
    | (show FC _ _ _ _ _; exact all_F rfl (by (try simp only [List.length_append]); omega)) | (refine Arith.mk ?_; simp only [List.length_append, List.length_cons, List.length_nil, List.length_map]; omega) | (refine fun (hc : _ = _) => ?_; (try simp only [BB] at hc); (try (first | contradiction | (exfalso; omega))))
    | exact arI | refine Pst.mk ⟨?_, rfl⟩ kk | constructor | rintro _ _ ⟨rfl, rfl⟩ | refine fun (_ : Nat) => ?_ | refine fun (_ : _ ≤ _) => ?_ | refine fun (_ : _ < _) => ?_
  refine fun _ _ (hq : Hold _) => ?_
  replace hq := hq.out
  obtain ⟨t1, o1, rfl, hq1, ha1, rfl⟩ := hq
  have hl1 := congrArg List.length ha1
  rw [List.length_map] at hl1
  repeat' first
    | (show FC _ _ _ _ _; exact all_F rfl (by (try simp only [List.length_append]); omega)) | (refine Arith.mk ?_; simp only [List.length_append, List.length_cons, List.length_nil, List.length_map]; omega) | (refine fun (hc : _ = _) => ?_; (try simp only [BB] at hc); (try (first | contradiction | (exfalso; omega))))
    | exact arI | refine Pst.mk ⟨?_, rfl⟩ kk | constructor | rintro _ _ ⟨rfl, rfl⟩ | refine fun (_ : Nat) => ?_ | refine fun (_ : _ ≤ _) => ?_ | refine fun (_ : _ < _) => ?_
  refine fun _ _ (hq : Hold _) => ?_
  replace hq := hq.out
  obtain ⟨t2, o2, rfl, hq2, ha2, rfl⟩ := hq
  have hl2 := congrArg List.length ha2
  rw [List.length_map] at hl2
  repeat' first
    | (show FC _ _ _ _ _; exact all_F rfl (by (try simp only [List.length_append]); omega)) | (refine Arith.mk ?_; simp only [List.length_append, List.length_cons, List.length_nil, List.length_map]; omega) | (refine fun (hc : _ = _) => ?_; (try simp only [BB] at hc); (try (first | contradiction | (exfalso; omega))))
    | exact arI | refine Pst.mk ⟨?_, rfl⟩ kk | constructor | rintro _ _ ⟨rfl, rfl⟩ | refine fun (_ : Nat) => ?_ | refine fun (_ : _ ≤ _) => ?_ | refine fun (_ : _ < _) => ?_
  refine fun _ _ (hq : Hold _) => ?_
  replace hq := hq.out
  obtain ⟨t3, o3, rfl, hq3, ha3, rfl⟩ := hq
  have hl3 := congrArg List.length ha3
  rw [List.length_map] at hl3
  have hdl : Md.dl (Md.all x ++ Md.all y) ≤ 1000000000 := by
    obtain ⟨_, h1⟩ := hbx
    obtain ⟨_, h2⟩ := hby
    simp only [Md.dl, List.map_append, List.flatten_append, List.length_append] at h1 h2 ⊢; omega
  repeat' first
    | (show FZ _ _ _ _ _; exact joinZ_F2 (ls := o2 ++ o3) (ts := Md.all x ++ Md.all y) rfl (by rw [List.map_append, ha2, ha3]) (by rw [List.length_append]; omega) (by omega))
    | (refine Arith.mk ?_; simp only [List.length_append, List.length_cons, List.length_nil, List.length_map]; omega) | (refine fun (hc : _ = _) => ?_; (try simp only [BB] at hc); (try (first | contradiction | (exfalso; omega))))
    | exact arI | refine Pst.mk ⟨?_, rfl⟩ kk | constructor | rintro _ _ ⟨rfl, rfl⟩ | refine fun (_ : Nat) => ?_ | refine fun (_ : _ ≤ _) => ?_ | refine fun (_ : _ < _) => ?_
  refine fun _ _ (hq : Hold _) => ?_
  replace hq := hq.out
  obtain ⟨t4, o4, rfl, hq4, ha4, rfl⟩ := hq
  repeat' first
    | (show FC _ _ _ _ _; exact same_F2 rfl rfl (by assumption) (by assumption) (by omega) (fun u hu => Nat.le_trans (hsz u hu) (by omega)))
    | (refine Pst.mk (by rw [decide_eq_true]; exact hpure) .refl)
    | (refine Arith.mk ?_; simp only [List.length_append, List.length_cons, List.length_nil, List.length_map]; omega) | (refine fun (hc : _ = _) => ?_; (try simp only [BB] at hc); (try (first | contradiction | (exfalso; omega))))
    | exact arI | refine Pst.mk ⟨?_, rfl⟩ kk | constructor | rintro _ _ ⟨rfl, rfl⟩ | refine fun (_ : Nat) => ?_ | refine fun (_ : _ ≤ _) => ?_ | refine fun (_ : _ < _) => ?_
  all_goals trace_state
end Go.Proofs.YticnenofiibpgaaDoor.Code
