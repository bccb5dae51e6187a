/- What the text layer's functions do. -/
import Derived.Test.YtjhednolknlpiaaLa
import Derived.Test.YtjhednolknlpiaaDmRh
import Derived.Test.YtjhednolknlpiaaM1
namespace Go.Proofs.Ytjhednolknlpiaa.Code
open Go.Dm Go.Dm.C
set_option linter.unusedSimpArgs false
set_option linter.unusedVariables false
set_option linter.unnecessarySimpa false
set_option maxRecDepth 10000
attribute [local irreducible] Go.Dm.F Go.Dm.RS Go.Dm.Y Go.Dm.FD Go.Dm.FZ1 Go.Dm.Hold
variable {R : List Ck}
theorem digit_t {r : Int} : (Md.digit r = true) = (48 ≤ r ∧ r ≤ 57) := by simp [Md.digit]
theorem digit_f {r : Int} : (Md.digit r = false) = ¬(48 ≤ r ∧ r ≤ 57) := by simp [Md.digit]
theorem need_le (n : Nat) : (Md.need n).1 ≤ 3 ∧ (Md.need n).2.1 < 256 ∧ (Md.need n).2.2 < 256 ∧ ((Md.need n).1 ≠ 0 → n ≥ 194 ∧ n ≤ 244) := by
  unfold Md.need; repeat' split
  all_goals simp
  all_goals omega
theorem and_pow (x n : Nat) (h : n ≤ 3) : x &&& ((63 : Int) / 2 ^ n).toNat = x % (64 / 2 ^ n) := by
  rcases (by omega : n = 0 ∨ n = 1 ∨ n = 2 ∨ n = 3) with rfl | rfl | rfl | rfl
  · exact Nat.and_two_pow_sub_one_eq_mod x 6
  · exact Nat.and_two_pow_sub_one_eq_mod x 5
  · exact Nat.and_two_pow_sub_one_eq_mod x 4
  · exact Nat.and_two_pow_sub_one_eq_mod x 3
theorem or_next (r : Int) (c : Nat) (h0 : 0 ≤ r) : (((r * 2 ^ (6 : Int).toNat).toNat ||| (((c : Int).toNat &&& (63 : Int).toNat : Nat) : Int).toNat : Nat) : Int) = r * 64 + (c % 64 : Nat) := by
  obtain ⟨a, rfl⟩ := Int.eq_ofNat_of_zero_le h0
  have e1 : ((a : Int) * 2 ^ (6 : Int).toNat).toNat = a * 2 ^ 6 := by simp; omega
  have e2 : (((c : Int).toNat &&& (63 : Int).toNat : Nat) : Int).toNat = c % 64 := by simp only [Int.toNat_natCast]; exact and_63 c
  rw [e1, e2, or_shl a (c % 64) 6 (Nat.mod_lt _ (by omega))]
  simp
theorem oneGo_stop {k : Nat} {l : List UInt8} {i : Nat} {r : Int} {lo hi : Nat} (hk : 1 ≤ k) (hs : l.length = 0 ∨ (l.getD 0 default).toNat < lo ∨ hi < (l.getD 0 default).toNat) : Md.oneGo k l i r lo hi = (65533, i) := by
  cases k with
  | zero => omega
  | succ k =>
    cases l with
    | nil => rfl
    | cons c l =>
      simp only [List.length_cons, List.getD_cons_zero] at hs
      simp only [Md.oneGo]
      rw [if_pos (by omega)]
theorem oneGo_go {k : Nat} {l : List UInt8} {i : Nat} {r : Int} {lo hi : Nat} (hk : 1 ≤ k) (h0 : l.length ≠ 0) (h1 : lo ≤ (l.getD 0 default).toNat) (h2 : (l.getD 0 default).toNat ≤ hi) :
    Md.oneGo k l i r lo hi = Md.oneGo (k - 1) (l.drop 1) (i + 1) (r * 64 + ((l.getD 0 default).toNat % 64 : Nat)) 128 191 := by
  cases k with
  | zero => omega
  | succ k =>
    cases l with
    | nil => simp at h0
    | cons c l =>
      simp only [List.getD_cons_zero] at h1 h2 ⊢
      simp only [Md.oneGo]
      rw [if_neg (by omega)]
      rfl
theorem getD_drop {α : Type} (l : List α) (j : Nat) (d : α) : (l.drop j).getD 0 d = l.getD j d := by
  simp [List.getD_eq_getElem?_getD]
theorem pow64 : ∀ i, i ≤ 3 → (64 : Int) ^ i ≤ 262144 := by decide
theorem and63_le (x : Nat) : x &&& (63 : Int).toNat ≤ 63 := Nat.and_le_right
end Go.Proofs.Ytjhednolknlpiaa.Code
