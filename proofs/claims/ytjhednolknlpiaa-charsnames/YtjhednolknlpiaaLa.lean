/- The table of the functions. -/
import Derived.Test.YtjhednolknlpiaaLa1
import Derived.Test.YtjhednolknlpiaaLa2
import Derived.Test.YtjhednolknlpiaaDmTop
import Derived.Test.YtjhednolknlpiaaPc
namespace Go.Proofs.Ytjhednolknlpiaa.Code
set_option linter.unusedSimpArgs false
set_option linter.unusedVariables false
open Go.Dm Go.Dm.C
def cfg : Cfg := ⟨fun t => [].contains t, fun f => [6, 8, 11].contains f⟩
def tab : BT :=
 (.node (.node (.node (.node (.node .nil 3 c_woodcutlaw02_CharsNames .nil) 4 c_woodcutlaw02_CharsMatches (.node .nil 5 c_woodcutlaw02_head .nil)) 6 c_chars_Names (.node (.node .nil 7 c_chars_Match .nil) 8 c_slices_Clone_chars_Entry_chars_Entry (.node .nil 9 c_chars_table .nil))) 10 c_slices_SortFunc_chars_Entry_chars_Entry (.node (.node (.node .nil 11 c_chars_Names_1 .nil) 12 c_strings_Compare (.node .nil 13 c_slices_pdqsortCmpFunc_chars_Entry .nil)) 14 c_math_bits_Len (.node (.node .nil 16 c_slices_insertionSortCmpFunc_chars_Entry .nil) 17 c_slices_heapSortCmpFunc_chars_Entry .nil))) 18 c_slices_breakPatternsCmpFunc_chars_Entry (.node (.node (.node (.node .nil 19 c_slices_choosePivotCmpFunc_chars_Entry .nil) 20 c_slices_reverseRangeCmpFunc_chars_Entry (.node .nil 21 c_slices_partialInsertionSortCmpFunc_chars_Entry .nil)) 22 c_slices_partitionEqualCmpFunc_chars_Entry (.node (.node .nil 23 c_slices_partitionCmpFunc_chars_Entry .nil) 24 c_math_bits_Len32 .nil)) 25 c_math_bits_Len64 (.node (.node (.node .nil 27 c_slices_siftDownCmpFunc_chars_Entry .nil) 28 c_slices_nextPowerOfTwo (.node .nil 29 c_slices_xorshift_Next .nil)) 30 c_slices_medianAdjacentCmpFunc_chars_Entry (.node (.node .nil 31 c_slices_medianCmpFunc_chars_Entry .nil) 32 c_slices_order2CmpFunc_chars_Entry .nil))))
theorem tabOk : BT.All (fun f d => compF Try.prog cfg f = some d) tab :=
 (.node (.node (.node (.node (.node .nil ok_woodcutlaw02_CharsNames .nil) ok_woodcutlaw02_CharsMatches (.node .nil ok_woodcutlaw02_head .nil)) ok_chars_Names (.node (.node .nil ok_chars_Match .nil) ok_slices_Clone_chars_Entry_chars_Entry (.node .nil ok_chars_table .nil))) ok_slices_SortFunc_chars_Entry_chars_Entry (.node (.node (.node .nil ok_chars_Names_1 .nil) ok_strings_Compare (.node .nil ok_slices_pdqsortCmpFunc_chars_Entry .nil)) ok_math_bits_Len (.node (.node .nil ok_slices_insertionSortCmpFunc_chars_Entry .nil) ok_slices_heapSortCmpFunc_chars_Entry .nil))) ok_slices_breakPatternsCmpFunc_chars_Entry (.node (.node (.node (.node .nil ok_slices_choosePivotCmpFunc_chars_Entry .nil) ok_slices_reverseRangeCmpFunc_chars_Entry (.node .nil ok_slices_partialInsertionSortCmpFunc_chars_Entry .nil)) ok_slices_partitionEqualCmpFunc_chars_Entry (.node (.node .nil ok_slices_partitionCmpFunc_chars_Entry .nil) ok_math_bits_Len32 .nil)) ok_math_bits_Len64 (.node (.node (.node .nil ok_slices_siftDownCmpFunc_chars_Entry .nil) ok_slices_nextPowerOfTwo (.node .nil ok_slices_xorshift_Next .nil)) ok_slices_medianAdjacentCmpFunc_chars_Entry (.node (.node .nil ok_slices_medianCmpFunc_chars_Entry .nil) ok_slices_order2CmpFunc_chars_Entry .nil))))
def glob (g : Nat) : Option (List DV) := none
def prim (f : Nat) : Option (List DV → Heap → Option (DV × Heap)) := match Nat.beq f 15 with
  | true => some cmpPrim
  | false => none
def D : DProg := ⟨tab.get, glob, prim⟩
theorem hP : PrimOk Try.prog cfg D := by
  intro base f args h v h' he k c w vargs hg hv hS
  obtain ⟨p, hp, he2⟩ := Option.bind_eq_some_iff.1 (show (D.prim f).bind (fun p => p args h) = some (v, h') from he)
  simp only [D, prim] at hp
  split at hp <;> cases hp
  rename_i hf
  obtain rfl := Nat.eq_of_beq_eq_true hf
  clear he
  unfold cmpPrim at he2
  split at he2 <;> cases he2
  rename_i a b
  cases hv with | cons h1 hv =>
  cases hv with | cons h2 hv =>
  cases hv
  obtain rfl := h1.str_inv
  obtain rfl := h2.str_inv
  refine ⟨_, Try.func15, by kernel_rfl, by kernel_rfl, Go.callsIn_wide.2 ((cmp_calls _ _ w).mono fun e w' ⟨he, hw⟩ => ?_)⟩
  subst hw
  exact ⟨_, c, he, Out.refl hS, by simpa using VRel.int _ _⟩

theorem hD : ∀ f df, D.fn f = some df → compF Try.prog cfg f = some df := fun _ _ h => tabOk.get h
theorem hm : Try.prog.follows .mixedOrders = true := by kernel_rfl
end Go.Proofs.Ytjhednolknlpiaa.Code
