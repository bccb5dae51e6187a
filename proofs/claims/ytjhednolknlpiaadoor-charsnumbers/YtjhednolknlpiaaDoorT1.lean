/- What the text layer's functions do. -/
import Derived.Test.YtjhednolknlpiaaDoorLa
import Derived.Test.YtjhednolknlpiaaDoorDmRh
import Derived.Test.YtjhednolknlpiaaDoorM1
namespace Go.Proofs.YtjhednolknlpiaaDoor.Code
open Go.Dm Go.Dm.C
set_option linter.unusedSimpArgs false
set_option linter.unusedVariables false
set_option linter.unnecessarySimpa false
set_option maxRecDepth 10000
attribute [local irreducible] Go.Dm.F Go.Dm.RS Go.Dm.Y Go.Dm.FD Go.Dm.FZ1 Go.Dm.Hold
variable {R : List Ck}
theorem digit_F {r : Int} : F D 10 [.int .i32 r] R (fun v cs' => v = .bool (Md.digit r) ∧ R = cs') := by
  refine F.of rfl rfl rfl ?_
  repeat' first | (refine Arith.mk ?_; (try (intro hc; (try simp only [Bool.or_eq_true, Bool.and_eq_true, Bool.not_eq_true', Bool.not_eq_false', Bool.or_eq_false_iff, Bool.and_eq_false_imp, decide_eq_true_eq, decide_eq_false_iff_not, beq_iff_eq, beq_eq_false_iff_ne, bne_iff_ne, bne_eq_false_iff_eq, ne_eq, Go.Dm.eqB, Int.toNat_zero, Int.toNat_natCast, List.getD_cons_zero, List.getD_cons_succ, Bool.false_eq_true, and_false, false_and, true_and, and_true, true_implies, implies_true, false_implies, not_true_eq_false, not_false_eq_true] at hc))); first | done | omega | (simp only [List.length_cons, List.length_map, List.length_append, List.length_nil, List.length_take, List.length_drop, Go.Dm.bytesV, Go.Dm.wid, Go.Dm.top, List.getD_cons_zero, Int.toNat_zero, Int.toNat_natCast, Int.reduceToNat, Int.reducePow, Nat.reducePow, Go.Dm.wrap_u8]; omega)) | refine Pst.mk ⟨?_, rfl⟩ (by repeat' constructor) | constructor | (refine fun _ _ (hq : Hold _) => ?_; replace hq := hq.out; obtain ⟨_, rfl, rfl⟩ := hq) | (refine fun _ _ (hq : Hold _) => ?_; replace hq := hq.out; obtain ⟨_, _, rfl, rfl⟩ := hq) | rintro _ _ ⟨rfl, rfl⟩ | rintro _ _ ⟨_, rfl, rfl⟩ | rintro _ _ ⟨_, _, rfl, rfl⟩ | (refine fun (hc : _ = _) => ?_; (try simp only [Bool.or_eq_true, Bool.and_eq_true, Bool.not_eq_true', Bool.not_eq_false', Bool.or_eq_false_iff, Bool.and_eq_false_imp, decide_eq_true_eq, decide_eq_false_iff_not, beq_iff_eq, beq_eq_false_iff_ne, bne_iff_ne, bne_eq_false_iff_eq, ne_eq, Go.Dm.eqB, Int.toNat_zero, Int.toNat_natCast, List.getD_cons_zero, List.getD_cons_succ, Bool.false_eq_true, and_false, false_and, true_and, and_true, true_implies, implies_true, false_implies, not_true_eq_false, not_false_eq_true] at hc)) | refine fun (_ : Nat) => ?_ | refine fun (_ : _ ≤ _) => ?_ | refine fun (_ : _ < _) => ?_
theorem digit_t {r : Int} : (Md.digit r = true) = (48 ≤ r ∧ r ≤ 57) := by simp [Md.digit]
theorem digit_f {r : Int} : (Md.digit r = false) = ¬(48 ≤ r ∧ r ≤ 57) := by simp [Md.digit]
theorem hex_F {r : Int} : F D 7 [.int .i32 r] R (fun v cs' => v = .int .i64 (Md.hex r) ∧ R = cs') := by
  refine F.of rfl rfl rfl ?_
  repeat' first | exact digit_F | (refine Arith.mk ?_; (try (intro hc; (try simp only [Bool.or_eq_true, Bool.and_eq_true, Bool.not_eq_true', Bool.not_eq_false', Bool.or_eq_false_iff, Bool.and_eq_false_imp, decide_eq_true_eq, decide_eq_false_iff_not, beq_iff_eq, beq_eq_false_iff_ne, bne_iff_ne, bne_eq_false_iff_eq, ne_eq, Go.Dm.eqB, Int.toNat_zero, Int.toNat_natCast, List.getD_cons_zero, List.getD_cons_succ, Bool.false_eq_true, and_false, false_and, true_and, and_true, true_implies, implies_true, false_implies, not_true_eq_false, not_false_eq_true] at hc))); first | done | omega | (simp only [List.length_cons, List.length_map, List.length_append, List.length_nil, List.length_take, List.length_drop, Go.Dm.bytesV, Go.Dm.wid, Go.Dm.top, List.getD_cons_zero, Int.toNat_zero, Int.toNat_natCast, Int.reduceToNat, Int.reducePow, Nat.reducePow, Go.Dm.wrap_u8]; omega)) | refine Pst.mk ⟨?_, rfl⟩ (by repeat' constructor) | constructor | (refine fun _ _ (hq : Hold _) => ?_; replace hq := hq.out; obtain ⟨_, rfl, rfl⟩ := hq) | (refine fun _ _ (hq : Hold _) => ?_; replace hq := hq.out; obtain ⟨_, _, rfl, rfl⟩ := hq) | rintro _ _ ⟨rfl, rfl⟩ | rintro _ _ ⟨_, rfl, rfl⟩ | rintro _ _ ⟨_, _, rfl, rfl⟩ | (refine fun (hc : _ = _) => ?_; (try simp only [Bool.or_eq_true, Bool.and_eq_true, Bool.not_eq_true', Bool.not_eq_false', Bool.or_eq_false_iff, Bool.and_eq_false_imp, decide_eq_true_eq, decide_eq_false_iff_not, beq_iff_eq, beq_eq_false_iff_ne, bne_iff_ne, bne_eq_false_iff_eq, ne_eq, Go.Dm.eqB, Int.toNat_zero, Int.toNat_natCast, List.getD_cons_zero, List.getD_cons_succ, Bool.false_eq_true, and_false, false_and, true_and, and_true, true_implies, implies_true, false_implies, not_true_eq_false, not_false_eq_true] at hc)) | refine fun (_ : Nat) => ?_ | refine fun (_ : _ ≤ _) => ?_ | refine fun (_ : _ < _) => ?_
  all_goals (simp only [digit_t, digit_f] at *)
  all_goals first | (refine Arith.mk fun _ => ?_; omega) | (congr 1; unfold Md.hex; split <;> omega)

theorem need_le (n : Nat) : (Md.need n).1 ≤ 3 ∧ (Md.need n).2.1 < 256 ∧ (Md.need n).2.2 < 256 ∧ ((Md.need n).1 ≠ 0 → n ≥ 194 ∧ n ≤ 244) := by
  unfold Md.need; repeat' split
  all_goals simp
  all_goals omega
theorem and_pow (x n : Nat) (h : n ≤ 3) : x &&& ((63 : Int) / 2 ^ n).toNat = x % (64 / 2 ^ n) := by
  rcases (by omega : n = 0 ∨ n = 1 ∨ n = 2 ∨ n = 3) with rfl | rfl | rfl | rfl
  · exact Nat.and_two_pow_sub_one_eq_mod x 6
  · exact Nat.and_two_pow_sub_one_eq_mod x 5
  · exact Nat.and_two_pow_sub_one_eq_mod x 4
  · exact Nat.and_two_pow_sub_one_eq_mod x 3
theorem or_next (r : Int) (c : Nat) (h0 : 0 ≤ r) : (((r * 2 ^ (6 : Int).toNat).toNat ||| (((c : Int).toNat &&& (63 : Int).toNat : Nat) : Int).toNat : Nat) : Int) = r * 64 + (c % 64 : Nat) := by
  obtain ⟨a, rfl⟩ := Int.eq_ofNat_of_zero_le h0
  have e1 : ((a : Int) * 2 ^ (6 : Int).toNat).toNat = a * 2 ^ 6 := by simp; omega
  have e2 : (((c : Int).toNat &&& (63 : Int).toNat : Nat) : Int).toNat = c % 64 := by simp only [Int.toNat_natCast]; exact and_63 c
  rw [e1, e2, or_shl a (c % 64) 6 (Nat.mod_lt _ (by omega))]
  simp
theorem oneGo_stop {k : Nat} {l : List UInt8} {i : Nat} {r : Int} {lo hi : Nat} (hk : 1 ≤ k) (hs : l.length = 0 ∨ (l.getD 0 default).toNat < lo ∨ hi < (l.getD 0 default).toNat) : Md.oneGo k l i r lo hi = (65533, i) := by
  cases k with
  | zero => omega
  | succ k =>
    cases l with
    | nil => rfl
    | cons c l =>
      simp only [List.length_cons, List.getD_cons_zero] at hs
      simp only [Md.oneGo]
      rw [if_pos (by omega)]
theorem oneGo_go {k : Nat} {l : List UInt8} {i : Nat} {r : Int} {lo hi : Nat} (hk : 1 ≤ k) (h0 : l.length ≠ 0) (h1 : lo ≤ (l.getD 0 default).toNat) (h2 : (l.getD 0 default).toNat ≤ hi) :
    Md.oneGo k l i r lo hi = Md.oneGo (k - 1) (l.drop 1) (i + 1) (r * 64 + ((l.getD 0 default).toNat % 64 : Nat)) 128 191 := by
  cases k with
  | zero => omega
  | succ k =>
    cases l with
    | nil => simp at h0
    | cons c l =>
      simp only [List.getD_cons_zero] at h1 h2 ⊢
      simp only [Md.oneGo]
      rw [if_neg (by omega)]
      rfl
theorem getD_drop {α : Type} (l : List α) (j : Nat) (d : α) : (l.drop j).getD 0 d = l.getD j d := by
  simp [List.getD_eq_getElem?_getD]
theorem pow64 : ∀ i, i ≤ 3 → (64 : Int) ^ i ≤ 262144 := by decide
theorem and63_le (x : Nat) : x &&& (63 : Int).toNat ≤ 63 := Nat.and_le_right
end Go.Proofs.YtjhednolknlpiaaDoor.Code
