/- The D-machine (36): short names for code; tables of functions. -/
import Derived.Test.YtjhednolknlpiaaDmRe
namespace Go.Dm
namespace C
@[reducible] def v (d : Nat) (op : DOp) : ROp := ⟨some d, op, none, []⟩
@[reducible] def w (d : Nat) (op : DOp) (t : Nat) (b : Bool) : ROp := ⟨some d, op, some (t, b), []⟩
@[reducible] def m (d s : Nat) : ROp := ⟨some d, .mv (.t s), none, []⟩
@[reducible] def u (op : DOp) : ROp := ⟨none, op, none, []⟩
end C
inductive BT where
  | nil
  | node (l : BT) (k : Nat) (d : DFunc) (r : BT)
def BT.get : BT → Nat → Option DFunc
  | .nil, _ => none
  | .node l k d r, n => match Nat.beq n k with
    | true => some d
    | false => match Nat.blt n k with
      | true => l.get n
      | false => r.get n
inductive BT.All (P : Nat → DFunc → Prop) : BT → Prop where
  | nil : BT.All P .nil
  | node {l : BT} {k : Nat} {d : DFunc} {r : BT} : BT.All P l → P k d → BT.All P r → BT.All P (.node l k d r)
theorem BT.All.get {P : Nat → DFunc → Prop} {t : BT} (ha : BT.All P t) {n : Nat} {d : DFunc} (hg : t.get n = some d) : P n d := by
  induction ha with
  | nil => cases hg
  | node _ hk _ ih1 ih2 =>
    simp only [BT.get] at hg
    split at hg
    · rename_i hb
      have := Nat.eq_of_beq_eq_true hb
      simp only [Option.some.injEq] at hg
      subst this; subst hg; exact hk
    · split at hg
      · exact ih1 hg
      · exact ih2 hg
end Go.Dm
