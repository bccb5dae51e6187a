/- What the chars layer's functions do. -/
import Derived.Test.YtjhednolknlpiaaT1
namespace Go.Proofs.Ytjhednolknlpiaa.Code
open Go.Dm Go.Dm.C
set_option linter.unusedSimpArgs false
set_option linter.unusedVariables false
set_option linter.unnecessarySimpa false
set_option maxRecDepth 10000
attribute [local irreducible] Go.Dm.F Go.Dm.RS Go.Dm.Y Go.Dm.FD Go.Dm.FZ1 Go.Dm.Hold
variable {R : List Ck}
theorem win_get {k : Nat} (h : k < 32) : (Md.windows.map (DV.int .i32))[k]? = some (.int .i32 (Md.windows.getD k 0)) := by
  rw [List.getElem?_map]
  have : Md.windows[k]? = some Md.windows[k] := List.getElem?_eq_getElem (by simpa [Md.windows] using h)
  rw [this, List.getD_eq_getElem?_getD, this]; rfl
theorem hex_le (r : Int) : -1 ≤ Md.hex r ∧ Md.hex r ≤ 15 := by unfold Md.hex; repeat' split <;> omega
def encE (e : Md.Entry) : DV := .agg [.str e.name, .int .i32 e.sign, .bool e.bare]
theorem table_F : F D 9 [] R (fun v cs' => Hold (∃ t, v = .lst t (zOf t 3) (Md.table.map encE) ∧ R = cs')) := by
  refine F.of rfl rfl rfl ?_
  repeat' first | (refine Arith.mk ?_; (try (intro hc; (try simp only [Bool.or_eq_true, Bool.and_eq_true, Bool.not_eq_true', Bool.not_eq_false', Bool.or_eq_false_iff, Bool.and_eq_false_imp, decide_eq_true_eq, decide_eq_false_iff_not, beq_iff_eq, beq_eq_false_iff_ne, bne_iff_ne, bne_eq_false_iff_eq, ne_eq, Go.Dm.eqB, Int.toNat_zero, Int.toNat_natCast, List.getD_cons_zero, List.getD_cons_succ, Bool.false_eq_true, and_false, false_and, true_and, and_true, true_implies, implies_true, false_implies, not_true_eq_false, not_false_eq_true] at hc))); first | done | omega | (simp only [List.length_cons, List.length_map, List.length_append, List.length_nil, List.length_take, List.length_drop, Go.Dm.bytesV, Go.Dm.wid, Go.Dm.top, List.getD_cons_zero, Int.toNat_zero, Int.toNat_natCast, Int.reduceToNat, Int.reducePow, Nat.reducePow, Go.Dm.wrap_u8]; omega)) | refine Pst.mk ⟨?_, rfl⟩ (by repeat' constructor) | constructor | (refine fun _ _ (hq : Hold _) => ?_; replace hq := hq.out; obtain ⟨_, rfl, rfl⟩ := hq) | (refine fun _ _ (hq : Hold _) => ?_; replace hq := hq.out; obtain ⟨_, _, rfl, rfl⟩ := hq) | rintro _ _ ⟨rfl, rfl⟩ | rintro _ _ ⟨_, rfl, rfl⟩ | rintro _ _ ⟨_, _, rfl, rfl⟩ | (refine fun (hc : _ = _) => ?_; (try simp only [Bool.or_eq_true, Bool.and_eq_true, Bool.not_eq_true', Bool.not_eq_false', Bool.or_eq_false_iff, Bool.and_eq_false_imp, decide_eq_true_eq, decide_eq_false_iff_not, beq_iff_eq, beq_eq_false_iff_ne, bne_iff_ne, bne_eq_false_iff_eq, ne_eq, Go.Dm.eqB, Int.toNat_zero, Int.toNat_natCast, List.getD_cons_zero, List.getD_cons_succ, Bool.false_eq_true, and_false, false_and, true_and, and_true, true_implies, implies_true, false_implies, not_true_eq_false, not_false_eq_true] at hc)) | refine fun (_ : Nat) => ?_ | refine fun (_ : _ ≤ _) => ?_ | refine fun (_ : _ < _) => ?_
  exact Pst.mk (.mk ⟨_, rfl, rfl⟩) (.drop .refl)
def mAt (rs : List Int) (i : Nat) : Int × Nat × Bool := ((Md.table.zipIdx).take i).foldl (fun a p => Md.matchStep runeBytes rs a p.2 p.1) (-1, 0, false)
theorem mAt_succ {rs : List Int} {i : Nat} (h : i < Md.table.length) : mAt rs (i + 1) = Md.matchStep runeBytes rs (mAt rs i) i (Md.table.getD i default) := by
  unfold mAt
  rw [List.take_add_one, List.getElem?_eq_getElem (by simpa using h), List.foldl_append]
  simp [List.getD_eq_getElem?_getD, List.getElem?_eq_getElem h]
theorem match_F {rs : List Int} {t z : Nat} (hz : z = zOf t 1) (hl : rs.length < 100000000000) : F D 7 [.lst t z (rs.map I32)] R (fun v cs' => Hold (∃ t', v = .tup [.lst t' (zOf t' 1) ((Md.matchT runeBytes rs).1.map I32), .int .i64 ((Md.matchT runeBytes rs).2.1 : Nat), .bool (Md.matchT runeBytes rs).2.2] ∧ R = cs')) := by
  subst hz
  refine F.of rfl rfl rfl ?_
  repeat' first | exact table_F | (refine Arith.mk ?_; (try (intro hc; (try simp only [Bool.or_eq_true, Bool.and_eq_true, Bool.not_eq_true', Bool.not_eq_false', Bool.or_eq_false_iff, Bool.and_eq_false_imp, decide_eq_true_eq, decide_eq_false_iff_not, beq_iff_eq, beq_eq_false_iff_ne, bne_iff_ne, bne_eq_false_iff_eq, ne_eq, Go.Dm.eqB, Int.toNat_zero, Int.toNat_natCast, List.getD_cons_zero, List.getD_cons_succ, Bool.false_eq_true, and_false, false_and, true_and, and_true, true_implies, implies_true, false_implies, not_true_eq_false, not_false_eq_true] at hc))); first | done | omega | (simp only [List.length_cons, List.length_map, List.length_append, List.length_nil, List.length_take, List.length_drop, Go.Dm.bytesV, Go.Dm.wid, Go.Dm.top, List.getD_cons_zero, Int.toNat_zero, Int.toNat_natCast, Int.reduceToNat, Int.reducePow, Nat.reducePow, Go.Dm.wrap_u8]; omega)) | refine Pst.mk ⟨?_, rfl⟩ (by repeat' constructor) | constructor | (refine fun _ _ (hq : Hold _) => ?_; replace hq := hq.out; obtain ⟨_, rfl, rfl⟩ := hq) | (refine fun _ _ (hq : Hold _) => ?_; replace hq := hq.out; obtain ⟨_, _, rfl, rfl⟩ := hq) | rintro _ _ ⟨rfl, rfl⟩ | rintro _ _ ⟨_, rfl, rfl⟩ | rintro _ _ ⟨_, _, rfl, rfl⟩ | (refine fun (hc : _ = _) => ?_; (try simp only [Bool.or_eq_true, Bool.and_eq_true, Bool.not_eq_true', Bool.not_eq_false', Bool.or_eq_false_iff, Bool.and_eq_false_imp, decide_eq_true_eq, decide_eq_false_iff_not, beq_iff_eq, beq_eq_false_iff_ne, bne_iff_ne, bne_eq_false_iff_eq, ne_eq, Go.Dm.eqB, Int.toNat_zero, Int.toNat_natCast, List.getD_cons_zero, List.getD_cons_succ, Bool.false_eq_true, and_false, false_and, true_and, and_true, true_implies, implies_true, false_implies, not_true_eq_false, not_false_eq_true] at hc)) | refine fun (_ : Nat) => ?_ | refine fun (_ : _ ≤ _) => ?_ | refine fun (_ : _ < _) => ?_
  rename_i t1
  refine RS.loopW (α := Nat × Int × Nat × Bool) (fun a => [(0, .lst t (zOf t 1) (rs.map I32)), (5, .int .i64 a.2.1), (6, .int .i64 (a.2.2.1 : Nat)), (7, .bool a.2.2.2), (13, .lst t1 (zOf t1 3) (Md.table.map encE)), (14, .int .i64 Md.table.length), (15, .int .i64 (a.1 : Nat))]) (fun _ => R)
    (fun a => a.1 ≤ Md.table.length ∧ a.2 = mAt rs a.1 ∧ -1 ≤ a.2.1 ∧ a.2.1 < 61) (fun a => Md.table.length - a.1) (0, -1, 0, false) ⟨by simp, rfl, by simp, by simp⟩ ⟨rfl, rfl, rfl, rfl, rfl, rfl, rfl, trivial⟩ .refl ?_
  rintro ⟨i, b, n, f⟩ ⟨h1, h2, h3, h4⟩ ih
  dsimp only [ents] at *
  have h61 : Md.table.length = 61 := rfl
  have hstep := fun h : i < Md.table.length => mAt_succ (rs := rs) h
  rw [← h2] at hstep
  generalize he : Md.table.getD i default = e at hstep
  have hX : (decide ((e.name.length : Int) < (rs.length : Int)) && rs.getD (e.name.length : Int).toNat default == 59) = (decide (e.name.length < rs.length) && rs.getD e.name.length 0 == 59) := by
    simp only [Int.toNat_natCast, Int.ofNat_lt]; rfl
  generalize hfin : (decide (e.name.length < rs.length) && rs.getD e.name.length 0 == 59) = fin at hX
  simp only [Md.matchStep, hfin] at hstep
  repeat' first | exact table_F | (refine Arith.mk ?_; (try (intro hc; (try simp only [Bool.or_eq_true, Bool.and_eq_true, Bool.not_eq_true', Bool.not_eq_false', Bool.or_eq_false_iff, Bool.and_eq_false_imp, decide_eq_true_eq, decide_eq_false_iff_not, beq_iff_eq, beq_eq_false_iff_ne, bne_iff_ne, bne_eq_false_iff_eq, ne_eq, Go.Dm.eqB, Int.toNat_zero, Int.toNat_natCast, List.getD_cons_zero, List.getD_cons_succ, Bool.false_eq_true, and_false, false_and, true_and, and_true, true_implies, implies_true, false_implies, not_true_eq_false, not_false_eq_true] at hc))); first | done | omega | (simp only [List.length_cons, List.length_map, List.length_append, List.length_nil, List.length_take, List.length_drop, Go.Dm.bytesV, Go.Dm.wid, Go.Dm.top, List.getD_cons_zero, Int.toNat_zero, Int.toNat_natCast, Int.reduceToNat, Int.reducePow, Nat.reducePow, Go.Dm.wrap_u8]; omega)) | refine Pst.mk ⟨?_, rfl⟩ (by repeat' constructor) | constructor | (refine fun _ _ (hq : Hold _) => ?_; replace hq := hq.out; obtain ⟨_, rfl, rfl⟩ := hq) | (refine fun _ _ (hq : Hold _) => ?_; replace hq := hq.out; obtain ⟨_, _, rfl, rfl⟩ := hq) | rintro _ _ ⟨rfl, rfl⟩ | rintro _ _ ⟨_, rfl, rfl⟩ | rintro _ _ ⟨_, _, rfl, rfl⟩ | (refine fun (hc : _ = _) => ?_; (try simp only [Bool.or_eq_true, Bool.and_eq_true, Bool.not_eq_true', Bool.not_eq_false', Bool.or_eq_false_iff, Bool.and_eq_false_imp, decide_eq_true_eq, decide_eq_false_iff_not, beq_iff_eq, beq_eq_false_iff_ne, bne_iff_ne, bne_eq_false_iff_eq, ne_eq, Go.Dm.eqB, Int.toNat_zero, Int.toNat_natCast, List.getD_cons_zero, List.getD_cons_succ, Bool.false_eq_true, and_false, false_and, true_and, and_true, true_implies, implies_true, false_implies, not_true_eq_false, not_false_eq_true] at hc)) | refine fun (_ : Nat) => ?_ | refine fun (_ : _ ≤ _) => ?_ | refine fun (_ : _ < _) => ?_
  · rw [he] at hc
    refine ih _ _ (i + 1, b, n, f) ⟨by dsimp only; omega, ?_, h3, h4⟩ (by dsimp only; omega) ⟨rfl, rfl, rfl, rfl, rfl, rfl, rfl, trivial⟩ (by repeat' constructor)
    rw [hstep (by omega), if_pos (hc.imp (fun h => by omega) id)]
  · rename_i hA hB
    rw [he] at hc hA hB
    have hf : fin = true := by rw [← hfin]; simp only [Bool.and_eq_true, decide_eq_true_eq, beq_iff_eq]; exact ⟨by omega, hB.2⟩
    refine ih _ _ (i + 1, i, e.name.length + 1, fin) ⟨by dsimp only; omega, ?_, by dsimp only; omega, by dsimp only; omega⟩ (by dsimp only; omega) ⟨rfl, rfl, ?_, ?_, rfl, rfl, rfl, trivial⟩ (by repeat' constructor)
    · rw [hstep (by omega), if_neg (fun h => h.elim (fun h => by omega) (fun h => h hA.2))]
      simp only [hf, if_true, Bool.true_or, Bool.true_and]
      rw [if_pos (by simp only [decide_eq_true_eq]; omega)]
    · rw [← he]; rfl
    · rw [← hX, ← he]; rfl
  · rename_i hA hB
    rw [he] at hc hA hB
    have hf : fin = true := by rw [← hfin]; simp only [Bool.and_eq_true, decide_eq_true_eq, beq_iff_eq]; exact ⟨by omega, hB.2⟩
    refine ih _ _ (i + 1, b, n, f) ⟨by dsimp only; omega, ?_, h3, h4⟩ (by dsimp only; omega) ⟨rfl, rfl, rfl, rfl, rfl, rfl, rfl, trivial⟩ (by repeat' constructor)
    rw [hstep (by omega), if_neg (fun h => h.elim (fun h => by omega) (fun h => h hA.2))]
    simp only [hf, if_true, Bool.true_or, Bool.true_and]
    rw [if_neg (by have := hc (.inl ⟨by omega, hB.2⟩); simp only [decide_eq_true_eq]; omega)]
  · rename_i hA hB
    rw [he] at hc hA hB
    have hf : fin = false := by
      rw [← hfin]; simp only [Bool.and_eq_false_imp, decide_eq_true_eq, beq_eq_false_iff_ne]
      exact fun h => hB (by omega)
    refine ih _ _ (i + 1, i, e.name.length, fin) ⟨by dsimp only; omega, ?_, by dsimp only; omega, by dsimp only; omega⟩ (by dsimp only; omega) ⟨rfl, rfl, ?_, ?_, rfl, rfl, rfl, trivial⟩ (by repeat' constructor)
    · rw [hstep (by omega), if_neg (fun h => h.elim (fun h => by omega) (fun h => h hA.2))]
      have hbare : e.bare = true := hc.1.resolve_left (fun h => hB h.1 h.2)
      simp only [hf, Bool.false_eq_true, if_false, Bool.false_or, hbare, Bool.true_and]
      rw [if_pos (by simp only [decide_eq_true_eq]; omega)]
    · rw [← he]; rfl
    · rw [← hX, ← he]; rfl
  · rename_i hA hB
    rw [he] at hc hA hB
    have hf : fin = false := by
      rw [← hfin]; simp only [Bool.and_eq_false_imp, decide_eq_true_eq, beq_eq_false_iff_ne]
      exact fun h => hB (by omega)
    refine ih _ _ (i + 1, b, n, f) ⟨by dsimp only; omega, ?_, h3, h4⟩ (by dsimp only; omega) ⟨rfl, rfl, rfl, rfl, rfl, rfl, rfl, trivial⟩ (by repeat' constructor)
    rw [hstep (by omega), if_neg (fun h => h.elim (fun h => by omega) (fun h => h hA.2))]
    simp only [hf, Bool.false_eq_true, if_false, Bool.false_or]
    rw [if_neg (fun h => by
      simp only [Bool.and_eq_true, decide_eq_true_eq] at h
      have := hc (.inr h.1)
      omega)]
  all_goals
    have hall : Md.matchAll runeBytes rs = (b, n, f) := by
      obtain rfl : i = Md.table.length := by omega
      rw [h2]; unfold mAt Md.matchAll
      rw [List.take_of_length_le (by simp)]
  · have e1 : Md.matchT runeBytes rs = ([], 0, false) := by unfold Md.matchT; rw [hall]; dsimp only; rw [if_pos hc]
    rw [e1]
    exact Pst.mk (.mk ⟨0, rfl, rfl⟩) .refl
  · have hb : ¬ b < 0 := by assumption
    have e1 : Md.matchT runeBytes rs = ([(Md.table.getD b.toNat default).sign, 8402], n, f) := by unfold Md.matchT; rw [hall]; dsimp only; rw [if_neg hb, if_pos hc]
    rw [e1]
    exact Pst.mk (.mk ⟨_, rfl, rfl⟩) (.drop (.drop .refl))
  · have hb : ¬ b < 0 := by assumption
    have e1 : Md.matchT runeBytes rs = ([(Md.table.getD b.toNat default).sign], n, f) := by unfold Md.matchT; rw [hall]; dsimp only; rw [if_neg hb, if_neg hc]
    rw [e1]
    exact Pst.mk (.mk ⟨_, rfl, rfl⟩) (.drop .refl)
end Go.Proofs.Ytjhednolknlpiaa.Code
