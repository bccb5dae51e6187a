/- CharsNumbers: what it does on typed values. -/
import Derived.Test.YtjhednolknlpiaaDoorT3
import Derived.Test.YtjhednolknlpiaaDoorDmOq
namespace Go.Proofs.YtjhednolknlpiaaDoor.Code
open Go.Dm Go.Dm.C
set_option linter.unusedSimpArgs false
set_option linter.unusedVariables false
set_option linter.unnecessarySimpa false
set_option maxRecDepth 10000
attribute [local irreducible] Go.Dm.F Go.Dm.RS Go.Dm.Y Go.Dm.FD Go.Dm.FZ1 Go.Dm.Hold
variable {R : List Ck}
theorem head_F : F D 5 [] R (fun v cs' => v = .bool true ∧ R = cs') := by
  have e1 : Md.matchT runeBytes [110, 111, 116, 105, 110, 59] = ([8713], 6, true) := by decide +kernel
  have e2 : Md.matchT runeBytes [110, 111, 116, 105, 116] = ([172], 3, false) := by decide +kernel
  refine F.of rfl rfl rfl ?_
  repeat' first | exact match_F (rs := [110, 111, 116, 105, 110, 59]) rfl (by simp) | exact match_F (rs := [110, 111, 116, 105, 116]) rfl (by simp) | (refine Arith.mk ?_; (try (intro hc; (try simp only [Bool.or_eq_true, Bool.and_eq_true, Bool.not_eq_true', Bool.not_eq_false', Bool.or_eq_false_iff, Bool.and_eq_false_imp, decide_eq_true_eq, decide_eq_false_iff_not, beq_iff_eq, beq_eq_false_iff_ne, bne_iff_ne, bne_eq_false_iff_eq, ne_eq, Go.Dm.eqB, Int.toNat_zero, Int.toNat_natCast, List.getD_cons_zero, List.getD_cons_succ, Bool.false_eq_true, and_false, false_and, true_and, and_true, true_implies, implies_true, false_implies, not_true_eq_false, not_false_eq_true] at hc))); first | done | omega | (simp only [List.length_cons, List.length_map, List.length_append, List.length_nil, List.length_take, List.length_drop, Go.Dm.bytesV, Go.Dm.wid, Go.Dm.top, List.getD_cons_zero, Int.toNat_zero, Int.toNat_natCast, Int.reduceToNat, Int.reducePow, Nat.reducePow, Go.Dm.wrap_u8]; omega)) | refine Pst.mk ⟨?_, rfl⟩ (by repeat' constructor) | constructor | (refine fun _ _ (hq : Hold _) => ?_; replace hq := hq.out; obtain ⟨_, rfl, rfl⟩ := hq) | (refine fun _ _ (hq : Hold _) => ?_; replace hq := hq.out; obtain ⟨_, _, rfl, rfl⟩ := hq) | rintro _ _ ⟨rfl, rfl⟩ | rintro _ _ ⟨_, rfl, rfl⟩ | rintro _ _ ⟨_, _, rfl, rfl⟩ | (refine fun (hc : _ = _) => ?_; (try simp only [Bool.or_eq_true, Bool.and_eq_true, Bool.not_eq_true', Bool.not_eq_false', Bool.or_eq_false_iff, Bool.and_eq_false_imp, decide_eq_true_eq, decide_eq_false_iff_not, beq_iff_eq, beq_eq_false_iff_ne, bne_iff_ne, bne_eq_false_iff_eq, ne_eq, Go.Dm.eqB, Int.toNat_zero, Int.toNat_natCast, List.getD_cons_zero, List.getD_cons_succ, Bool.false_eq_true, and_false, false_and, true_and, and_true, true_implies, implies_true, false_implies, not_true_eq_false, not_false_eq_true] at hc)) | refine fun (_ : Nat) => ?_ | refine fun (_ : _ ≤ _) => ?_ | refine fun (_ : _ < _) => ?_
theorem numeric_ok (n : Int) (h : n ≤ 1114112) : 0 ≤ Md.numeric n ∧ Md.numeric n ≤ 1114111 ∧ ¬(55296 ≤ Md.numeric n ∧ Md.numeric n ≤ 57343) := by
  unfold Md.numeric
  have hw : ∀ k, k < 32 → 0 ≤ Md.windows.getD k 0 ∧ Md.windows.getD k 0 < 10000 := by decide
  split
  · omega
  · split
    · have := hw (n - 128).toNat (by omega); omega
    · omega
theorem number_le {base : Int} (hb : 2 ≤ base ∧ base ≤ 16) : ∀ (rs : List Int) (n : Int) (k : Nat), 0 ≤ n ∧ n ≤ 1114112 → 0 ≤ (Md.number base rs n k).1 ∧ (Md.number base rs n k).1 ≤ 1114112
  | [], n, k, h => h
  | r :: rs, n, k, h => by
    simp only [Md.number]
    split
    · exact h
    · have := Int.mul_nonneg h.1 (show 0 ≤ base by omega)
      exact number_le hb rs _ _ (by omega)
set_option maxHeartbeats 4000000 in
theorem numbersLaw {rs : List Int} {hx : Bool} {t : Nat} : F D 4 [.lst t (zOf t 1) (rs.map I32), .bool hx] R (fun v cs' => v = .bool true ∧ R = cs') := by
  refine F.of rfl rfl rfl ?_
  repeat' first | exact head_F | (refine Arith.mk ?_; (try (intro hc; (try simp only [Bool.or_eq_true, Bool.and_eq_true, Bool.not_eq_true', Bool.not_eq_false', Bool.or_eq_false_iff, Bool.and_eq_false_imp, decide_eq_true_eq, decide_eq_false_iff_not, beq_iff_eq, beq_eq_false_iff_ne, bne_iff_ne, bne_eq_false_iff_eq, ne_eq, Go.Dm.eqB, Int.toNat_zero, Int.toNat_natCast, List.getD_cons_zero, List.getD_cons_succ, Bool.false_eq_true, and_false, false_and, true_and, and_true, true_implies, implies_true, false_implies, not_true_eq_false, not_false_eq_true] at hc))); first | done | omega | (simp only [List.length_cons, List.length_map, List.length_append, List.length_nil, List.length_take, List.length_drop, Go.Dm.bytesV, Go.Dm.wid, Go.Dm.top, List.getD_cons_zero, Int.toNat_zero, Int.toNat_natCast, Int.reduceToNat, Int.reducePow, Nat.reducePow, Go.Dm.wrap_u8]; omega)) | refine Pst.mk ⟨?_, rfl⟩ (by repeat' constructor) | constructor | (refine fun _ _ (hq : Hold _) => ?_; replace hq := hq.out; obtain ⟨_, rfl, rfl⟩ := hq) | (refine fun _ _ (hq : Hold _) => ?_; replace hq := hq.out; obtain ⟨_, _, rfl, rfl⟩ := hq) | rintro _ _ ⟨rfl, rfl⟩ | rintro _ _ ⟨_, rfl, rfl⟩ | rintro _ _ ⟨_, _, rfl, rfl⟩ | (refine fun (hc : _ = _) => ?_; (try simp only [Bool.or_eq_true, Bool.and_eq_true, Bool.not_eq_true', Bool.not_eq_false', Bool.or_eq_false_iff, Bool.and_eq_false_imp, decide_eq_true_eq, decide_eq_false_iff_not, beq_iff_eq, beq_eq_false_iff_ne, bne_iff_ne, bne_eq_false_iff_eq, ne_eq, Go.Dm.eqB, Int.toNat_zero, Int.toNat_natCast, List.getD_cons_zero, List.getD_cons_succ, Bool.false_eq_true, and_false, false_and, true_and, and_true, true_implies, implies_true, false_implies, not_true_eq_false, not_false_eq_true] at hc)) | refine fun (_ : Nat) => ?_ | refine fun (_ : _ ≤ _) => ?_ | refine fun (_ : _ < _) => ?_
  · cases hc
  · obtain ⟨base, hb0⟩ : ∃ b : Int, b = 16 := ⟨_, rfl⟩
    have hb : 2 ≤ base ∧ base ≤ 16 := by omega
    refine RS.loopW (α := Nat × Int) (fun a => [(0, .lst t (zOf t 1) (rs.map I32)), (5, .int .i64 base), (6, .int .i64 a.2), (7, .int .i64 (a.1 : Nat))]) (fun _ => R)
      (fun a => a.1 ≤ rs.length ∧ 0 ≤ a.2 ∧ a.2 ≤ 1114112 ∧ Md.number base (rs.drop a.1) a.2 a.1 = Md.number base rs 0 0) (fun a => rs.length - a.1) (0, 0) ⟨by simp, by simp, by simp, by simp⟩ (by subst hb0; exact ⟨rfl, rfl, rfl, rfl, trivial⟩) .refl ?_
    rintro ⟨i, n⟩ ⟨h1, h2, h3, h4⟩ ih
    dsimp only [ents] at *
    have hh := hex_le (rs.getD i default)
    have hm : 0 ≤ n * base ∧ n * base ≤ 1114112 * 16 := ⟨Int.mul_nonneg h2 (by omega), Int.mul_le_mul h3 hb.2 (by omega) (by omega)⟩
    have hd : i < rs.length → rs.drop i = rs.getD i default :: rs.drop (i + 1) := fun hlt => by
      rw [List.drop_eq_getElem_cons hlt, List.getD_eq_getElem?_getD, List.getElem?_eq_getElem hlt]; rfl
    repeat' first | exact hex_F | exact number_F rfl hb (by omega) | exact numeric_F (by have := number_le hb rs 0 0 (by omega); omega) | (refine Arith.mk ?_; (try (intro hc; (try simp only [Bool.or_eq_true, Bool.and_eq_true, Bool.not_eq_true', Bool.not_eq_false', Bool.or_eq_false_iff, Bool.and_eq_false_imp, decide_eq_true_eq, decide_eq_false_iff_not, beq_iff_eq, beq_eq_false_iff_ne, bne_iff_ne, bne_eq_false_iff_eq, ne_eq, Go.Dm.eqB, Int.toNat_zero, Int.toNat_natCast, List.getD_cons_zero, List.getD_cons_succ, Bool.false_eq_true, and_false, false_and, true_and, and_true, true_implies, implies_true, false_implies, not_true_eq_false, not_false_eq_true] at hc))); first | done | omega | (simp only [List.length_cons, List.length_map, List.length_append, List.length_nil, List.length_take, List.length_drop, Go.Dm.bytesV, Go.Dm.wid, Go.Dm.top, List.getD_cons_zero, Int.toNat_zero, Int.toNat_natCast, Int.reduceToNat, Int.reducePow, Nat.reducePow, Go.Dm.wrap_u8]; omega)) | refine Pst.mk ⟨?_, rfl⟩ (by repeat' constructor) | constructor | (refine fun _ _ (hq : Hold _) => ?_; replace hq := hq.out; obtain ⟨_, rfl, rfl⟩ := hq) | (refine fun _ _ (hq : Hold _) => ?_; replace hq := hq.out; obtain ⟨_, _, rfl, rfl⟩ := hq) | rintro _ _ ⟨rfl, rfl⟩ | rintro _ _ ⟨_, rfl, rfl⟩ | rintro _ _ ⟨_, _, rfl, rfl⟩ | (refine fun (hc : _ = _) => ?_; (try simp only [Bool.or_eq_true, Bool.and_eq_true, Bool.not_eq_true', Bool.not_eq_false', Bool.or_eq_false_iff, Bool.and_eq_false_imp, decide_eq_true_eq, decide_eq_false_iff_not, beq_iff_eq, beq_eq_false_iff_ne, bne_iff_ne, bne_eq_false_iff_eq, ne_eq, Go.Dm.eqB, Int.toNat_zero, Int.toNat_natCast, List.getD_cons_zero, List.getD_cons_succ, Bool.false_eq_true, and_false, false_and, true_and, and_true, true_implies, implies_true, false_implies, not_true_eq_false, not_false_eq_true] at hc)) | refine fun (_ : Nat) => ?_ | refine fun (_ : _ ≤ _) => ?_ | refine fun (_ : _ < _) => ?_
    · rw [hd (by omega)] at h4
      simp only [Md.number] at h4
      rw [if_neg (by omega)] at h4
      refine ih _ _ (i + 1, 1114112) ⟨by dsimp only; omega, by dsimp only; omega, by dsimp only; omega, ?_⟩ (by dsimp only; omega) (by subst hb0; exact ⟨rfl, rfl, rfl, rfl, trivial⟩) (by repeat' constructor)
      rw [← h4]; congr 1; omega
    · rw [hd (by omega)] at h4
      simp only [Md.number] at h4
      rw [if_neg (by omega)] at h4
      refine ih _ _ (i + 1, n * base + Md.hex (rs.getD i default)) ⟨by dsimp only; omega, by dsimp only; omega, by dsimp only; omega, ?_⟩ (by dsimp only; omega) (by subst hb0; exact ⟨rfl, rfl, rfl, rfl, trivial⟩) (by repeat' constructor)
      rw [← h4]; congr 1; omega
    · have e : Md.number base rs 0 0 = (n, i) := by
        rw [← h4, hd (by omega)]
        simp only [Md.number]
        rw [if_pos (by omega)]
      have := number_le hb rs 0 0 (by omega)
      rw [e] at this ⊢
      have := numeric_ok n (by omega)
      simp; omega
    all_goals
      have e : Md.number base rs 0 0 = (n, i) := by
        rw [← h4]
        first
        | rw [List.drop_eq_nil_of_le (by omega)]; rfl
        | (rw [hd (by omega)]
           simp only [Md.number]
           rw [if_pos (by omega)])
      have := number_le hb rs 0 0 (by omega)
      rw [e] at this ⊢
      have := numeric_ok n (by omega)
      simp; omega
  · obtain ⟨base, hb0⟩ : ∃ b : Int, b = 10 := ⟨_, rfl⟩
    have hb : 2 ≤ base ∧ base ≤ 16 := by omega
    refine RS.loopW (α := Nat × Int) (fun a => [(0, .lst t (zOf t 1) (rs.map I32)), (5, .int .i64 base), (6, .int .i64 a.2), (7, .int .i64 (a.1 : Nat))]) (fun _ => R)
      (fun a => a.1 ≤ rs.length ∧ 0 ≤ a.2 ∧ a.2 ≤ 1114112 ∧ Md.number base (rs.drop a.1) a.2 a.1 = Md.number base rs 0 0) (fun a => rs.length - a.1) (0, 0) ⟨by simp, by simp, by simp, by simp⟩ (by subst hb0; exact ⟨rfl, rfl, rfl, rfl, trivial⟩) .refl ?_
    rintro ⟨i, n⟩ ⟨h1, h2, h3, h4⟩ ih
    dsimp only [ents] at *
    have hh := hex_le (rs.getD i default)
    have hm : 0 ≤ n * base ∧ n * base ≤ 1114112 * 16 := ⟨Int.mul_nonneg h2 (by omega), Int.mul_le_mul h3 hb.2 (by omega) (by omega)⟩
    have hd : i < rs.length → rs.drop i = rs.getD i default :: rs.drop (i + 1) := fun hlt => by
      rw [List.drop_eq_getElem_cons hlt, List.getD_eq_getElem?_getD, List.getElem?_eq_getElem hlt]; rfl
    repeat' first | exact hex_F | exact number_F rfl hb (by omega) | exact numeric_F (by have := number_le hb rs 0 0 (by omega); omega) | (refine Arith.mk ?_; (try (intro hc; (try simp only [Bool.or_eq_true, Bool.and_eq_true, Bool.not_eq_true', Bool.not_eq_false', Bool.or_eq_false_iff, Bool.and_eq_false_imp, decide_eq_true_eq, decide_eq_false_iff_not, beq_iff_eq, beq_eq_false_iff_ne, bne_iff_ne, bne_eq_false_iff_eq, ne_eq, Go.Dm.eqB, Int.toNat_zero, Int.toNat_natCast, List.getD_cons_zero, List.getD_cons_succ, Bool.false_eq_true, and_false, false_and, true_and, and_true, true_implies, implies_true, false_implies, not_true_eq_false, not_false_eq_true] at hc))); first | done | omega | (simp only [List.length_cons, List.length_map, List.length_append, List.length_nil, List.length_take, List.length_drop, Go.Dm.bytesV, Go.Dm.wid, Go.Dm.top, List.getD_cons_zero, Int.toNat_zero, Int.toNat_natCast, Int.reduceToNat, Int.reducePow, Nat.reducePow, Go.Dm.wrap_u8]; omega)) | refine Pst.mk ⟨?_, rfl⟩ (by repeat' constructor) | constructor | (refine fun _ _ (hq : Hold _) => ?_; replace hq := hq.out; obtain ⟨_, rfl, rfl⟩ := hq) | (refine fun _ _ (hq : Hold _) => ?_; replace hq := hq.out; obtain ⟨_, _, rfl, rfl⟩ := hq) | rintro _ _ ⟨rfl, rfl⟩ | rintro _ _ ⟨_, rfl, rfl⟩ | rintro _ _ ⟨_, _, rfl, rfl⟩ | (refine fun (hc : _ = _) => ?_; (try simp only [Bool.or_eq_true, Bool.and_eq_true, Bool.not_eq_true', Bool.not_eq_false', Bool.or_eq_false_iff, Bool.and_eq_false_imp, decide_eq_true_eq, decide_eq_false_iff_not, beq_iff_eq, beq_eq_false_iff_ne, bne_iff_ne, bne_eq_false_iff_eq, ne_eq, Go.Dm.eqB, Int.toNat_zero, Int.toNat_natCast, List.getD_cons_zero, List.getD_cons_succ, Bool.false_eq_true, and_false, false_and, true_and, and_true, true_implies, implies_true, false_implies, not_true_eq_false, not_false_eq_true] at hc)) | refine fun (_ : Nat) => ?_ | refine fun (_ : _ ≤ _) => ?_ | refine fun (_ : _ < _) => ?_
    · rw [hd (by omega)] at h4
      simp only [Md.number] at h4
      rw [if_neg (by omega)] at h4
      refine ih _ _ (i + 1, 1114112) ⟨by dsimp only; omega, by dsimp only; omega, by dsimp only; omega, ?_⟩ (by dsimp only; omega) (by subst hb0; exact ⟨rfl, rfl, rfl, rfl, trivial⟩) (by repeat' constructor)
      rw [← h4]; congr 1; omega
    · rw [hd (by omega)] at h4
      simp only [Md.number] at h4
      rw [if_neg (by omega)] at h4
      refine ih _ _ (i + 1, n * base + Md.hex (rs.getD i default)) ⟨by dsimp only; omega, by dsimp only; omega, by dsimp only; omega, ?_⟩ (by dsimp only; omega) (by subst hb0; exact ⟨rfl, rfl, rfl, rfl, trivial⟩) (by repeat' constructor)
      rw [← h4]; congr 1; omega
    · have e : Md.number base rs 0 0 = (n, i) := by
        rw [← h4, hd (by omega)]
        simp only [Md.number]
        rw [if_pos (by omega)]
      have := number_le hb rs 0 0 (by omega)
      rw [e] at this ⊢
      have := numeric_ok n (by omega)
      simp; omega
    all_goals
      have e : Md.number base rs 0 0 = (n, i) := by
        rw [← h4]
        first
        | rw [List.drop_eq_nil_of_le (by omega)]; rfl
        | (rw [hd (by omega)]
           simp only [Md.number]
           rw [if_pos (by omega)])
      have := number_le hb rs 0 0 (by omega)
      rw [e] at this ⊢
      have := numeric_ok n (by omega)
      simp; omega
end Go.Proofs.YtjhednolknlpiaaDoor.Code
