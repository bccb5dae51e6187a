/- CharsMatches: what it does on typed values. -/
import Derived.Test.YtjhednolknlpiaaN2
import Derived.Test.YtjhednolknlpiaaDmOq
namespace Go.Proofs.Ytjhednolknlpiaa
namespace Code
open Go.Dm Go.Dm.C
set_option linter.unusedSimpArgs false
set_option linter.unusedVariables false
set_option linter.unnecessarySimpa false
set_option maxRecDepth 10000
attribute [local irreducible] Go.Dm.F Go.Dm.RS Go.Dm.Y Go.Dm.FD Go.Dm.FZ1 Go.Dm.Hold
theorem matchesLaw {rs : List Int} {t : Nat} : F0 D 4 [.lst t (zOf t 1) (rs.map I32)] Heap.start (fun v cs' => v = .bool true ∧ [] = cs') := by
  obtain ⟨hp1, hp2, ⟨c1, n1⟩, c2, n2⟩ := heaps
  refine F0.of rfl rfl rfl ?_
  repeat' first | exact c1 | exact n1 | exact c2 | exact n2 | (refine Arith.mk ?_; (try (intro hc; (try simp only [Bool.or_eq_true, Bool.and_eq_true, Bool.not_eq_true', Bool.not_eq_false', Bool.or_eq_false_iff, Bool.and_eq_false_imp, decide_eq_true_eq, decide_eq_false_iff_not, beq_iff_eq, beq_eq_false_iff_ne, bne_iff_ne, bne_eq_false_iff_eq, ne_eq, Go.Dm.eqB, Int.toNat_zero, Int.toNat_natCast, List.getD_cons_zero, List.getD_cons_succ, Bool.false_eq_true, and_false, false_and, true_and, and_true, true_implies, implies_true, false_implies, not_true_eq_false, not_false_eq_true] at hc))); first | done | omega | (simp only [List.length_cons, List.length_map, List.length_append, List.length_nil, List.length_take, List.length_drop, Go.Dm.bytesV, Go.Dm.wid, Go.Dm.top, List.getD_cons_zero, Int.toNat_zero, Int.toNat_natCast, Int.reduceToNat, Int.reducePow, Nat.reducePow, Go.Dm.wrap_u8]; omega)) | refine Pst.mk ⟨?_, rfl⟩ (by repeat' constructor) | constructor | (refine fun _ _ (hq : Hold _) => ?_; replace hq := hq.out; obtain ⟨_, rfl, rfl⟩ := hq) | (refine fun _ _ (hq : Hold _) => ?_; replace hq := hq.out; obtain ⟨_, _, rfl, rfl⟩ := hq) | rintro _ _ ⟨rfl, rfl⟩ | rintro _ _ ⟨_, rfl, rfl⟩ | rintro _ _ ⟨_, _, rfl, rfl⟩ | (refine fun (hc : _ = _) => ?_; (try simp only [Bool.or_eq_true, Bool.and_eq_true, Bool.not_eq_true', Bool.not_eq_false', Bool.or_eq_false_iff, Bool.and_eq_false_imp, decide_eq_true_eq, decide_eq_false_iff_not, beq_iff_eq, beq_eq_false_iff_ne, bne_iff_ne, bne_eq_false_iff_eq, ne_eq, Go.Dm.eqB, Int.toNat_zero, Int.toNat_natCast, List.getD_cons_zero, List.getD_cons_succ, Bool.false_eq_true, and_false, false_and, true_and, and_true, true_implies, implies_true, false_implies, not_true_eq_false, not_false_eq_true] at hc)) | refine fun (_ : Nat) => ?_ | refine fun (_ : _ ≤ _) => ?_ | refine fun (_ : _ < _) => ?_
  · cases hc
  have hlen : Md.names.length = 61 := rfl
  refine RS.loopW (α := Nat × Nat × Int × Bool) (fun a => [(0, .lst t (zOf t 1) (rs.map I32)), (3, .int .i64 (a.2.1 : Nat)), (4, .int .i32 a.2.2.1), (5, .bool a.2.2.2), (17, .lst 1 3 (Md.names.map encE)), (18, .int .i64 61), (19, .int .i64 (a.1 : Nat))]) (fun _ => [])
    (fun a => a.1 ≤ 61 ∧ a.2 = Md.lawAt rs a.1) (fun a => 61 - a.1) (0, 0, 0, false) ⟨by simp, rfl⟩ ⟨rfl, rfl, rfl, rfl, rfl, rfl, rfl, trivial⟩ .refl ?_
  rintro ⟨k, w, s, en⟩ ⟨h1, h2⟩ ih
  dsimp only [ents] at *
  have hstep := fun h : k < 61 => Md.lawAt_succ (rs := rs) (k := k) (by rw [hlen]; exact h)
  rw [← h2] at hstep
  obtain ⟨e, he⟩ : ∃ e, e = Md.names.getD k default := ⟨_, rfl⟩
  rw [← he] at hstep
  have hcl := Md.cpl_le e.name rs
  have hw : w ≤ 41 := by have := Md.lawAt_le rs k; rw [← h2] at this; dsimp only at this; omega
  repeat' first | exact match_F (rs := rs) rfl (by omega) | (refine Arith.mk ?_; (try (intro hc; (try simp only [Bool.or_eq_true, Bool.and_eq_true, Bool.not_eq_true', Bool.not_eq_false', Bool.or_eq_false_iff, Bool.and_eq_false_imp, decide_eq_true_eq, decide_eq_false_iff_not, beq_iff_eq, beq_eq_false_iff_ne, bne_iff_ne, bne_eq_false_iff_eq, ne_eq, Go.Dm.eqB, Int.toNat_zero, Int.toNat_natCast, List.getD_cons_zero, List.getD_cons_succ, Bool.false_eq_true, and_false, false_and, true_and, and_true, true_implies, implies_true, false_implies, not_true_eq_false, not_false_eq_true] at hc))); first | done | omega | (simp only [List.length_cons, List.length_map, List.length_append, List.length_nil, List.length_take, List.length_drop, Go.Dm.bytesV, Go.Dm.wid, Go.Dm.top, List.getD_cons_zero, Int.toNat_zero, Int.toNat_natCast, Int.reduceToNat, Int.reducePow, Nat.reducePow, Go.Dm.wrap_u8]; omega)) | refine Pst.mk ⟨?_, rfl⟩ (by repeat' constructor) | constructor | (refine fun _ _ (hq : Hold _) => ?_; replace hq := hq.out; obtain ⟨_, rfl, rfl⟩ := hq) | (refine fun _ _ (hq : Hold _) => ?_; replace hq := hq.out; obtain ⟨_, _, rfl, rfl⟩ := hq) | rintro _ _ ⟨rfl, rfl⟩ | rintro _ _ ⟨_, rfl, rfl⟩ | rintro _ _ ⟨_, _, rfl, rfl⟩ | (refine fun (hc : _ = _) => ?_; (try simp only [Bool.or_eq_true, Bool.and_eq_true, Bool.not_eq_true', Bool.not_eq_false', Bool.or_eq_false_iff, Bool.and_eq_false_imp, decide_eq_true_eq, decide_eq_false_iff_not, beq_iff_eq, beq_eq_false_iff_ne, bne_iff_ne, bne_eq_false_iff_eq, ne_eq, Go.Dm.eqB, Int.toNat_zero, Int.toNat_natCast, List.getD_cons_zero, List.getD_cons_succ, Bool.false_eq_true, and_false, false_and, true_and, and_true, true_implies, implies_true, false_implies, not_true_eq_false, not_false_eq_true] at hc)) | refine fun (_ : Nat) => ?_ | refine fun (_ : _ ≤ _) => ?_ | refine fun (_ : _ < _) => ?_
  · rename_i id hid
    refine RS.loopW (α := Nat) (fun i => [(0, .lst t (zOf t 1) (rs.map I32)), (3, .int .i64 (w : Nat)), (4, .int .i32 s), (5, .bool en), (7, .ptr id 0), (8, .int .i64 (i : Nat)), (17, .lst 1 3 (Md.names.map encE)), (18, .int .i64 61), (19, .int .i64 (k : Nat))]) (fun _ => [.obj id (.cells [.str e.name, .int .i32 e.sign, .bool e.bare] none)])
      (fun i => i ≤ e.name.length ∧ i ≤ rs.length ∧ Md.cpl (e.name.drop i) (rs.drop i) + i = Md.cpl e.name rs) (fun i => e.name.length - i) 0 ⟨by simp, by simp, by simp⟩ ⟨rfl, rfl, rfl, rfl, rfl, rfl, rfl, rfl, rfl, trivial⟩ (by subst he; exact .refl) ?_
    rintro i ⟨i1, i2, i3⟩ ih2
    dsimp only [ents] at *
    have hd : i < e.name.length → i < rs.length → Md.cpl (e.name.drop i) (rs.drop i) = if rs.getD i default = ((e.name.getD i 0).toNat : Int) then Md.cpl (e.name.drop (i + 1)) (rs.drop (i + 1)) + 1 else 0 := fun a b => by
      rw [List.drop_eq_getElem_cons a, List.drop_eq_getElem_cons b]
      simp only [Md.cpl, List.getD_eq_getElem?_getD, List.getElem?_eq_getElem a, List.getElem?_eq_getElem b, Option.getD_some]
    have hb := (e.name.getD i 0).toNat_lt
    have hz : (e.name.length ≤ i ∨ rs.length ≤ i) → Md.cpl (e.name.drop i) (rs.drop i) = 0 := fun h => by
      rcases h with h | h
      · rw [List.drop_eq_nil_of_le h]; rfl
      · rw [List.drop_eq_nil_of_le h]; cases e.name.drop i <;> rfl
    repeat' first | exact match_F (rs := rs) rfl (by omega) | (refine Arith.mk ?_; (try (intro hc; (try simp only [Bool.or_eq_true, Bool.and_eq_true, Bool.not_eq_true', Bool.not_eq_false', Bool.or_eq_false_iff, Bool.and_eq_false_imp, decide_eq_true_eq, decide_eq_false_iff_not, beq_iff_eq, beq_eq_false_iff_ne, bne_iff_ne, bne_eq_false_iff_eq, ne_eq, Go.Dm.eqB, Int.toNat_zero, Int.toNat_natCast, List.getD_cons_zero, List.getD_cons_succ, Bool.false_eq_true, and_false, false_and, true_and, and_true, true_implies, implies_true, false_implies, not_true_eq_false, not_false_eq_true] at hc))); first | done | omega | (simp only [List.length_cons, List.length_map, List.length_append, List.length_nil, List.length_take, List.length_drop, Go.Dm.bytesV, Go.Dm.wid, Go.Dm.top, List.getD_cons_zero, Int.toNat_zero, Int.toNat_natCast, Int.reduceToNat, Int.reducePow, Nat.reducePow, Go.Dm.wrap_u8]; omega)) | refine Pst.mk ⟨?_, rfl⟩ (by repeat' constructor) | constructor | (refine fun _ _ (hq : Hold _) => ?_; replace hq := hq.out; obtain ⟨_, rfl, rfl⟩ := hq) | (refine fun _ _ (hq : Hold _) => ?_; replace hq := hq.out; obtain ⟨_, _, rfl, rfl⟩ := hq) | rintro _ _ ⟨rfl, rfl⟩ | rintro _ _ ⟨_, rfl, rfl⟩ | rintro _ _ ⟨_, _, rfl, rfl⟩ | (refine fun (hc : _ = _) => ?_; (try simp only [Bool.or_eq_true, Bool.and_eq_true, Bool.not_eq_true', Bool.not_eq_false', Bool.or_eq_false_iff, Bool.and_eq_false_imp, decide_eq_true_eq, decide_eq_false_iff_not, beq_iff_eq, beq_eq_false_iff_ne, bne_iff_ne, bne_eq_false_iff_eq, ne_eq, Go.Dm.eqB, Int.toNat_zero, Int.toNat_natCast, List.getD_cons_zero, List.getD_cons_succ, Bool.false_eq_true, and_false, false_and, true_and, and_true, true_implies, implies_true, false_implies, not_true_eq_false, not_false_eq_true] at hc)) | refine fun (_ : Nat) => ?_ | refine fun (_ : _ ≤ _) => ?_ | refine fun (_ : _ < _) => ?_
    · refine ih2 _ _ (i + 1) ⟨by omega, by omega, ?_⟩ (by omega) ⟨rfl, rfl, rfl, rfl, rfl, rfl, rfl, rfl, rfl, trivial⟩ (by repeat' constructor)
      rw [hd (by omega) (by omega), if_pos hc.2] at i3
      omega
    all_goals
      have hfin : Md.cpl e.name rs = i := by
        by_cases q1 : i < e.name.length
        · by_cases q2 : i < rs.length
          · rw [hd q1 q2, if_neg (by first | (rename_i h _; exact h ⟨by omega, by omega⟩) | omega)] at i3
            omega
          · rw [hz (.inr (by omega))] at i3; omega
        · rw [hz (.inl (by omega))] at i3; omega
      have hst := hstep (by omega)
      simp only [Md.lawStep, hfin] at hst
    · refine ih _ _ (k + 1, w, s, en) ⟨by dsimp only; omega, ?_⟩ (by dsimp only; omega) ⟨rfl, rfl, rfl, rfl, rfl, rfl, rfl, trivial⟩ (by repeat' constructor)
      rw [hst, if_pos (by omega)]
    · rename_i q1 q2
      refine ih _ _ (k + 1, i + 1, e.sign, true) ⟨by dsimp only; omega, ?_⟩ (by dsimp only; omega) ⟨rfl, rfl, rfl, rfl, rfl, rfl, rfl, trivial⟩ (by repeat' constructor)
      rw [hst, if_neg (by omega), if_pos ⟨by omega, q2.2⟩, if_pos (by omega)]
    · rename_i q1 q2
      refine ih _ _ (k + 1, w, s, en) ⟨by dsimp only; omega, ?_⟩ (by dsimp only; omega) ⟨rfl, rfl, rfl, rfl, rfl, rfl, rfl, trivial⟩ (by repeat' constructor)
      rw [hst, if_neg (by omega), if_pos ⟨by omega, q2.2⟩, if_neg (by omega)]
    · rename_i q1 q2
      refine ih _ _ (k + 1, i, e.sign, false) ⟨by dsimp only; omega, ?_⟩ (by dsimp only; omega) ⟨rfl, rfl, rfl, rfl, rfl, rfl, rfl, trivial⟩ (by repeat' constructor)
      rw [hst, if_neg (by omega), if_neg (fun h => q2 (by omega) h.2), if_pos ⟨hc.1, by omega⟩]
    · rename_i q1 q2
      refine ih _ _ (k + 1, w, s, en) ⟨by dsimp only; omega, ?_⟩ (by dsimp only; omega) ⟨rfl, rfl, rfl, rfl, rfl, rfl, rfl, trivial⟩ (by repeat' constructor)
      rw [hst, if_neg (by omega), if_neg (fun h => q2 (by omega) h.2), if_neg (fun h => by have := hc h.1; omega)]
  all_goals
    obtain rfl : k = 61 := by omega
    obtain ⟨f1, f2⟩ := Md.matches_pure rs h2
  · rw [f1 (by omega)]; rfl
  · obtain ⟨r, f3⟩ := f2 (by omega)
    rw [f3]
    simp
    omega
end Code
end Go.Proofs.Ytjhednolknlpiaa
