/- The table of the functions. -/
import Derived.Test.YtjhednolknlpiaaDoorLa1
import Derived.Test.YtjhednolknlpiaaDoorDmTop
namespace Go.Proofs.YtjhednolknlpiaaDoor.Code
set_option linter.unusedSimpArgs false
set_option linter.unusedVariables false
open Go.Dm Go.Dm.C
def cfg : Cfg := ⟨fun t => [].contains t, fun f => [].contains f⟩
def tab : BT :=
 (.node (.node (.node (.node .nil 3 c_woodcutlaw02_CharsNumeric .nil) 4 c_woodcutlaw02_CharsNumbers .nil) 5 c_woodcutlaw02_head (.node .nil 6 c_chars_Numeric .nil)) 7 c_text_Hex (.node (.node (.node .nil 8 c_chars_Number .nil) 9 c_chars_Match .nil) 10 c_text_Digit (.node .nil 11 c_chars_table .nil)))
theorem tabOk : BT.All (fun f d => compF Tryd.prog cfg f = some d) tab :=
 (.node (.node (.node (.node .nil ok_woodcutlaw02_CharsNumeric .nil) ok_woodcutlaw02_CharsNumbers .nil) ok_woodcutlaw02_head (.node .nil ok_chars_Numeric .nil)) ok_text_Hex (.node (.node (.node .nil ok_chars_Number .nil) ok_chars_Match .nil) ok_text_Digit (.node .nil ok_chars_table .nil)))
def windows : List Int := [8364, 129, 8218, 402, 8222, 8230, 8224, 8225, 710, 8240, 352, 8249, 338, 141, 381, 143, 144, 8216, 8217, 8220, 8221, 8226, 8211, 8212, 732, 8482, 353, 8250, 339, 157, 382, 376]
def glob (g : Nat) : Option (List DV) := match Nat.beq g 0 with
  | true => some (windows.map (DV.int .i32))
  | false => none
def D : DProg := ⟨tab.get, glob, fun _ => none⟩

theorem hD : ∀ f df, D.fn f = some df → compF Tryd.prog cfg f = some df := fun _ _ h => tabOk.get h
theorem hm : Tryd.prog.follows .mixedOrders = true := by kernel_rfl
end Go.Proofs.YtjhednolknlpiaaDoor.Code
