/- LexTexts returns true for every input: part 5 of the proof (several texts joined). -/
import Derived.Laws.RangeString
import Derived.Test.YticnenofiibpgaaDoorJ4
/- The table of the functions. -/
namespace Go.Proofs.YticnenofiibpgaaDoor.Code
set_option linter.unusedSimpArgs false
set_option linter.unusedVariables false
open Go.Dm Go.Dm.C
def cfg : Cfg := ⟨fun t => [3, 83].contains t, fun f => [26, 46, 57, 58, 59].contains f⟩
def tab : BT :=
 (.node (.node (.node (.node (.node (.node (.node .nil 3 c_woodcutlaw09_LexRefs .nil) 4 c_woodcutlaw09_LexTexts (.node .nil 5 c_woodcutlaw09_LexSections .nil)) 6 c_woodcutlaw09_LexComments (.node (.node .nil 7 c_woodcutlaw09_LexDoctypes .nil) 8 c_woodcutlaw09_LexScripts (.node .nil 9 c_woodcutlaw09_LexRaws .nil))) 10 c_woodcutlaw09_LexTags (.node (.node (.node .nil 11 c_woodcutlaw09_LexJoins .nil) 12 c_woodcutlaw10_SerReads (.node .nil 13 c_woodcutlaw09_head .nil)) 14 c_woodcutlaw09_word (.node (.node .nil 15 c_lex_All .nil) 16 c_chars_Match .nil))) 17 c_text_Encode (.node (.node (.node (.node .nil 18 c_text_Letter .nil) 19 c_text_Digit (.node .nil 20 c_chars_Numeric .nil)) 21 c_woodcutlaw09_clean (.node (.node .nil 22 c_lex_New .nil) 23 c_lex_Lexer_Way (.node .nil 24 c_lex_Lexer_Tokens .nil))) 25 c_lex_Lexer_Sections (.node (.node (.node .nil 26 c_token_Join .nil) 27 c_woodcutlaw09_same (.node .nil 28 c_woodcutlaw09_LexDoctypes_1 .nil)) 29 c_token_Token_Same (.node (.node .nil 30 c_token_Token_Is .nil) 31 c_woodcutlaw09_write .nil)))) 32 c_woodcutlaw09_LexJoins_1 (.node (.node (.node (.node (.node .nil 33 c_woodcutlaw10_head .nil) 34 c_ser_Value (.node .nil 35 c_ser_Text .nil)) 36 c_slices_Collect_token_Token (.node (.node .nil 37 c_chars_table .nil) 38 c_text_Put (.node .nil 39 c_text_Decode .nil))) 40 c_lex_Lexer_Tokens_1 (.node (.node (.node .nil 41 c_lex_Lexer_Next .nil) 42 c_slices_Equal_token_Attr_token_Attr (.node .nil 43 c_slices_Contains_string_string .nil)) 44 c_woodcutlaw09_gap (.node (.node .nil 45 c_woodcutlaw09_escape .nil) 46 c_token_Without .nil))) 47 c_dom_New (.node (.node (.node (.node .nil 48 c_dom_Doc_Add .nil) 49 c_dom_Doc_Put (.node .nil 50 c_dom_Doc_Say .nil)) 51 c_ser_Page (.node (.node .nil 52 c_ser_escape .nil) 53 c_slices_AppendSeq_token_Token_token_Token (.node .nil 54 c_text_Signs .nil))) 55 c_lex_Lexer_step (.node (.node (.node .nil 56 c_slices_Index_string_string .nil) 57 c_slices_DeleteFunc_token_Attr_token_Attr (.node .nil 58 c_slices_Clone_token_Attr_token_Attr .nil)) 59 c_token_Without_1 (.node (.node .nil 60 c_dom_Doc_in .nil) 61 c_dom_Doc_above .nil))))) 62 c_dom_Doc_Out (.node (.node (.node (.node (.node (.node .nil 63 c_slices_Index_int_int .nil) 65 c_ser_Inner (.node .nil 66 c_text_Signs_1 .nil)) 67 c_text_one (.node (.node .nil 68 c_lex_Lexer_next .nil) 69 c_lex_Lexer_flush (.node .nil 70 c_lex_Lexer_reference .nil))) 71 c_lex_Lexer_open (.node (.node (.node .nil 72 c_lex_Lexer_close .nil) 73 c_lex_Lexer_script (.node .nil 74 c_lex_Lexer_say .nil)) 75 c_lex_Lexer_peek (.node (.node .nil 76 c_slices_IndexFunc_token_Attr_token_Attr .nil) 77 c_slices_Delete_int_int .nil))) 79 c_slices_rotateRight_int (.node (.node (.node (.node .nil 80 c_dom_Doc_Kind .nil) 81 c_ser_Inner_1 (.node .nil 82 c_dom_Doc_Kids .nil)) 83 c_slices_Reverse_int_int (.node (.node .nil 84 c_ser_Void .nil) 85 c_ser_begin (.node .nil 86 c_text_need .nil))) 87 c_chars_Number (.node (.node (.node .nil 88 c_lex_Lexer_declare .nil) 89 c_lex_Lexer_ending (.node .nil 90 c_lex_Lexer_back .nil)) 91 c_lex_Lexer_tag (.node (.node .nil 92 c_lex_Lexer_bogus .nil) 93 c_lex_Lexer_closes .nil)))) 94 c_lex_Lexer_exact (.node (.node (.node (.node (.node .nil 95 c_lex_Lexer_word .nil) 96 c_lex_Lexer_take (.node .nil 97 c_slices_rotateLeft_int .nil)) 98 c_slices_Clone_int_int (.node (.node .nil 99 c_ser_Raw .nil) 100 c_text_Hex (.node .nil 101 c_lex_Lexer_stands .nil))) 102 c_lex_Lexer_comment (.node (.node (.node .nil 103 c_lex_Lexer_doctype .nil) 104 c_lex_Lexer_section (.node .nil 105 c_lex_Lexer_name .nil)) 106 c_lex_Lexer_attrs (.node (.node .nil 107 c_lex_Lexer_emit .nil) 108 c_text_Small .nil))) 109 c_text_Blank (.node (.node (.node (.node .nil 110 c_lex_Lexer_comment_1 .nil) 111 c_strings_HasSuffix (.node .nil 112 c_lex_Lexer_doctype_1 .nil)) 113 c_lex_Lexer_blanks (.node (.node .nil 114 c_lex_Lexer_skip .nil) 115 c_lex_Lexer_quoted .nil)) 116 c_lex_Lexer_attr (.node (.node (.node .nil 117 c_internal_stringslite_HasSuffix .nil) 118 c_lex_Lexer_value (.node .nil 119 c_token_Token_Get .nil)) 120 c_lex_Lexer_value_1 (.node (.node .nil 121 c_token_Get .nil) 122 c_token_Get_1 .nil))))))
theorem tabOk : BT.All (fun f d => compF Tryd.prog cfg f = some d) tab :=
 (.node (.node (.node (.node (.node (.node (.node .nil ok_woodcutlaw09_LexRefs .nil) ok_woodcutlaw09_LexTexts (.node .nil ok_woodcutlaw09_LexSections .nil)) ok_woodcutlaw09_LexComments (.node (.node .nil ok_woodcutlaw09_LexDoctypes .nil) ok_woodcutlaw09_LexScripts (.node .nil ok_woodcutlaw09_LexRaws .nil))) ok_woodcutlaw09_LexTags (.node (.node (.node .nil ok_woodcutlaw09_LexJoins .nil) ok_woodcutlaw10_SerReads (.node .nil ok_woodcutlaw09_head .nil)) ok_woodcutlaw09_word (.node (.node .nil ok_lex_All .nil) ok_chars_Match .nil))) ok_text_Encode (.node (.node (.node (.node .nil ok_text_Letter .nil) ok_text_Digit (.node .nil ok_chars_Numeric .nil)) ok_woodcutlaw09_clean (.node (.node .nil ok_lex_New .nil) ok_lex_Lexer_Way (.node .nil ok_lex_Lexer_Tokens .nil))) ok_lex_Lexer_Sections (.node (.node (.node .nil ok_token_Join .nil) ok_woodcutlaw09_same (.node .nil ok_woodcutlaw09_LexDoctypes_1 .nil)) ok_token_Token_Same (.node (.node .nil ok_token_Token_Is .nil) ok_woodcutlaw09_write .nil)))) ok_woodcutlaw09_LexJoins_1 (.node (.node (.node (.node (.node .nil ok_woodcutlaw10_head .nil) ok_ser_Value (.node .nil ok_ser_Text .nil)) ok_slices_Collect_token_Token (.node (.node .nil ok_chars_table .nil) ok_text_Put (.node .nil ok_text_Decode .nil))) ok_lex_Lexer_Tokens_1 (.node (.node (.node .nil ok_lex_Lexer_Next .nil) ok_slices_Equal_token_Attr_token_Attr (.node .nil ok_slices_Contains_string_string .nil)) ok_woodcutlaw09_gap (.node (.node .nil ok_woodcutlaw09_escape .nil) ok_token_Without .nil))) ok_dom_New (.node (.node (.node (.node .nil ok_dom_Doc_Add .nil) ok_dom_Doc_Put (.node .nil ok_dom_Doc_Say .nil)) ok_ser_Page (.node (.node .nil ok_ser_escape .nil) ok_slices_AppendSeq_token_Token_token_Token (.node .nil ok_text_Signs .nil))) ok_lex_Lexer_step (.node (.node (.node .nil ok_slices_Index_string_string .nil) ok_slices_DeleteFunc_token_Attr_token_Attr (.node .nil ok_slices_Clone_token_Attr_token_Attr .nil)) ok_token_Without_1 (.node (.node .nil ok_dom_Doc_in .nil) ok_dom_Doc_above .nil))))) ok_dom_Doc_Out (.node (.node (.node (.node (.node (.node .nil ok_slices_Index_int_int .nil) ok_ser_Inner (.node .nil ok_text_Signs_1 .nil)) ok_text_one (.node (.node .nil ok_lex_Lexer_next .nil) ok_lex_Lexer_flush (.node .nil ok_lex_Lexer_reference .nil))) ok_lex_Lexer_open (.node (.node (.node .nil ok_lex_Lexer_close .nil) ok_lex_Lexer_script (.node .nil ok_lex_Lexer_say .nil)) ok_lex_Lexer_peek (.node (.node .nil ok_slices_IndexFunc_token_Attr_token_Attr .nil) ok_slices_Delete_int_int .nil))) ok_slices_rotateRight_int (.node (.node (.node (.node .nil ok_dom_Doc_Kind .nil) ok_ser_Inner_1 (.node .nil ok_dom_Doc_Kids .nil)) ok_slices_Reverse_int_int (.node (.node .nil ok_ser_Void .nil) ok_ser_begin (.node .nil ok_text_need .nil))) ok_chars_Number (.node (.node (.node .nil ok_lex_Lexer_declare .nil) ok_lex_Lexer_ending (.node .nil ok_lex_Lexer_back .nil)) ok_lex_Lexer_tag (.node (.node .nil ok_lex_Lexer_bogus .nil) ok_lex_Lexer_closes .nil)))) ok_lex_Lexer_exact (.node (.node (.node (.node (.node .nil ok_lex_Lexer_word .nil) ok_lex_Lexer_take (.node .nil ok_slices_rotateLeft_int .nil)) ok_slices_Clone_int_int (.node (.node .nil ok_ser_Raw .nil) ok_text_Hex (.node .nil ok_lex_Lexer_stands .nil))) ok_lex_Lexer_comment (.node (.node (.node .nil ok_lex_Lexer_doctype .nil) ok_lex_Lexer_section (.node .nil ok_lex_Lexer_name .nil)) ok_lex_Lexer_attrs (.node (.node .nil ok_lex_Lexer_emit .nil) ok_text_Small .nil))) ok_text_Blank (.node (.node (.node (.node .nil ok_lex_Lexer_comment_1 .nil) ok_strings_HasSuffix (.node .nil ok_lex_Lexer_doctype_1 .nil)) ok_lex_Lexer_blanks (.node (.node .nil ok_lex_Lexer_skip .nil) ok_lex_Lexer_quoted .nil)) ok_lex_Lexer_attr (.node (.node (.node .nil ok_internal_stringslite_HasSuffix .nil) ok_lex_Lexer_value (.node .nil ok_token_Token_Get .nil)) ok_lex_Lexer_value_1 (.node (.node .nil ok_token_Get .nil) ok_token_Get_1 .nil))))))
def windows : List Int := [8364, 129, 8218, 402, 8222, 8230, 8224, 8225, 710, 8240, 352, 8249, 338, 141, 381, 143, 144, 8216, 8217, 8220, 8221, 8226, 8211, 8212, 732, 8482, 353, 8250, 339, 157, 382, 376]
def glob (g : Nat) : Option (List DV) := match Nat.beq g 0 with
  | true => some (windows.map (DV.int .i32))
  | false => none
def D : DProg := ⟨tab.get, glob, fun _ => none⟩
theorem hP : PrimOk Tryd.prog cfg D := primOk_none fun _ => rfl

theorem hD : ∀ f df, D.fn f = some df → compF Tryd.prog cfg f = some df := fun _ _ h => tabOk.get h
theorem hm : Tryd.prog.follows .mixedOrders = true := by kernel_rfl
end Go.Proofs.YticnenofiibpgaaDoor.Code
/- What the text, chars, token and lex layers compute, as plain functions (no program in sight). -/
namespace Go.Md
set_option linter.unusedVariables false

/-! ### text -/
def blank (r : Int) : Bool := r == 9 || r == 10 || r == 12 || r == 13 || r == 32
def letter (r : Int) : Bool := (decide (r ≥ 97) && decide (r ≤ 122)) || (decide (r ≥ 65) && decide (r ≤ 90))
def digit (r : Int) : Bool := decide (r ≥ 48) && decide (r ≤ 57)
def hex (r : Int) : Int := if 48 ≤ r ∧ r ≤ 57 then r - 48 else if 97 ≤ r ∧ r ≤ 102 then r - 87 else if 65 ≤ r ∧ r ≤ 70 then r - 55 else -1
def small (r : Int) : Int := if 65 ≤ r ∧ r ≤ 90 then r + 32 else r
def need (b : Nat) : Nat × Nat × Nat :=
  if 0xc2 ≤ b ∧ b ≤ 0xdf then (1, 0x80, 0xbf)
  else if b = 0xe0 then (2, 0xa0, 0xbf)
  else if b = 0xed then (2, 0x80, 0x9f)
  else if 0xe1 ≤ b ∧ b ≤ 0xef then (2, 0x80, 0xbf)
  else if b = 0xf0 then (3, 0x90, 0xbf)
  else if 0xf1 ≤ b ∧ b ≤ 0xf3 then (3, 0x80, 0xbf)
  else if b = 0xf4 then (3, 0x80, 0x8f)
  else (0, 0, 0)
/-- The bytes that follow a first one: 'k' are wanted, the first of them from lo to hi. -/
def oneGo : Nat → List UInt8 → Nat → Int → Nat → Nat → Int × Nat
  | 0, _, i, r, _, _ => (r, i)
  | _ + 1, [], i, _, _, _ => (65533, i)
  | k + 1, c :: rest, i, r, lo, hi => if c.toNat < lo ∨ hi < c.toNat then (65533, i) else oneGo k rest (i + 1) (r * 64 + (c.toNat % 64 : Nat)) 0x80 0xbf
def one : List UInt8 → Int × Nat
  | [] => (0, 0)
  | b :: rest => if b.toNat < 0x80 then (b.toNat, 1) else
    let n := (need b.toNat).1
    if n = 0 then (65533, 1) else oneGo n rest 1 (b.toNat % (64 / 2 ^ n) : Nat) (need b.toNat).2.1 (need b.toNat).2.2
/-- The signs that bytes are; 'fuel' bytes at most. -/
def signs : Nat → List UInt8 → List Int
  | 0, _ => []
  | _ + 1, [] => []
  | f + 1, b => (one b).1 :: signs f (b.drop (one b).2)
/-- Ends of lines as one sign. -/
def lines : Int → List Int → List Int
  | _, [] => []
  | last, r :: rs => if r = 13 then 10 :: lines r rs else if r = 10 ∧ last = 13 then lines r rs else r :: lines r rs
def unmark (b : List UInt8) : List UInt8 := match b with
  | 0xef :: 0xbb :: 0xbf :: r => r
  | _ => b
def decode (b : List UInt8) : List Int := lines 0 (signs (unmark b).length (unmark b))
def byteN (n : Nat) : UInt8 := UInt8.ofNat n
/-- A sign as bytes. -/
def putR (r : Int) : List UInt8 :=
  let n := if r < 0 ∨ r > 0x10ffff ∨ (r ≥ 0xd800 ∧ r ≤ 0xdfff) then 0xfffd else r.toNat
  if n < 0x80 then [byteN n]
  else if n < 0x800 then [byteN (0xc0 + n / 64), byteN (0x80 + n % 64)]
  else if n < 0x10000 then [byteN (0xe0 + n / 4096), byteN (0x80 + n / 64 % 64), byteN (0x80 + n % 64)]
  else [byteN (0xf0 + n / 262144), byteN (0x80 + n / 4096 % 64), byteN (0x80 + n / 64 % 64), byteN (0x80 + n % 64)]
def encode (rs : List Int) : List UInt8 := rs.flatMap putR

/-! ### chars -/
structure Entry where
  name : List UInt8
  sign : Int
  bare : Bool
  deriving Inhabited
/-- All names. -/
def table : List Entry := [
  ⟨[97, 109, 112], 38, true⟩,
  ⟨[108, 116], 60, true⟩,
  ⟨[103, 116], 62, true⟩,
  ⟨[113, 117, 111, 116], 34, true⟩,
  ⟨[65, 77, 80], 38, true⟩,
  ⟨[76, 84], 60, true⟩,
  ⟨[71, 84], 62, true⟩,
  ⟨[110, 98, 115, 112], 160, true⟩,
  ⟨[105, 101, 120, 99, 108], 161, true⟩,
  ⟨[99, 101, 110, 116], 162, true⟩,
  ⟨[112, 111, 117, 110, 100], 163, true⟩,
  ⟨[121, 101, 110], 165, true⟩,
  ⟨[115, 101, 99, 116], 167, true⟩,
  ⟨[99, 111, 112, 121], 169, true⟩,
  ⟨[108, 97, 113, 117, 111], 171, true⟩,
  ⟨[110, 111, 116], 172, true⟩,
  ⟨[115, 104, 121], 173, true⟩,
  ⟨[114, 101, 103], 174, true⟩,
  ⟨[100, 101, 103], 176, true⟩,
  ⟨[112, 108, 117, 115, 109, 110], 177, true⟩,
  ⟨[115, 117, 112, 50], 178, true⟩,
  ⟨[109, 105, 99, 114, 111], 181, true⟩,
  ⟨[112, 97, 114, 97], 182, true⟩,
  ⟨[109, 105, 100, 100, 111, 116], 183, true⟩,
  ⟨[114, 97, 113, 117, 111], 187, true⟩,
  ⟨[102, 114, 97, 99, 49, 50], 189, true⟩,
  ⟨[105, 113, 117, 101, 115, 116], 191, true⟩,
  ⟨[65, 117, 109, 108], 196, true⟩,
  ⟨[69, 97, 99, 117, 116, 101], 201, true⟩,
  ⟨[79, 117, 109, 108], 214, true⟩,
  ⟨[116, 105, 109, 101, 115], 215, true⟩,
  ⟨[85, 117, 109, 108], 220, true⟩,
  ⟨[115, 122, 108, 105, 103], 223, true⟩,
  ⟨[97, 103, 114, 97, 118, 101], 224, true⟩,
  ⟨[97, 117, 109, 108], 228, true⟩,
  ⟨[99, 99, 101, 100, 105, 108], 231, true⟩,
  ⟨[101, 97, 99, 117, 116, 101], 233, true⟩,
  ⟨[110, 116, 105, 108, 100, 101], 241, true⟩,
  ⟨[111, 117, 109, 108], 246, true⟩,
  ⟨[100, 105, 118, 105, 100, 101], 247, true⟩,
  ⟨[117, 117, 109, 108], 252, true⟩,
  ⟨[97, 112, 111, 115], 39, false⟩,
  ⟨[104, 101, 108, 108, 105, 112], 8230, false⟩,
  ⟨[109, 100, 97, 115, 104], 8212, false⟩,
  ⟨[110, 100, 97, 115, 104], 8211, false⟩,
  ⟨[101, 117, 114, 111], 8364, false⟩,
  ⟨[116, 114, 97, 100, 101], 8482, false⟩,
  ⟨[108, 97, 114, 114], 8592, false⟩,
  ⟨[114, 97, 114, 114], 8594, false⟩,
  ⟨[110, 111, 116, 105, 110], 8713, false⟩,
  ⟨[97, 108, 112, 104, 97], 945, false⟩,
  ⟨[111, 109, 101, 103, 97], 969, false⟩,
  ⟨[105, 110, 102, 105, 110], 8734, false⟩,
  ⟨[98, 117, 108, 108], 8226, false⟩,
  ⟨[108, 115, 113, 117, 111], 8216, false⟩,
  ⟨[114, 115, 113, 117, 111], 8217, false⟩,
  ⟨[108, 100, 113, 117, 111], 8220, false⟩,
  ⟨[114, 100, 113, 117, 111], 8221, false⟩,
  ⟨[110, 101], 8800, false⟩,
  ⟨[108, 101], 8804, false⟩,
  ⟨[110, 118, 108, 116], 60, false⟩]
def windows : List Int := [8364, 129, 8218, 402, 8222, 8230, 8224, 8225, 710, 8240, 352, 8249, 338, 141, 381, 143, 144, 8216, 8217, 8220, 8221, 8226, 8211, 8212, 732, 8482, 353, 8250, 339, 157, 382, 376]
def numeric (n : Int) : Int := if n ≤ 0 ∨ n > 1114111 ∨ (n ≥ 55296 ∧ n ≤ 57343) then 65533 else if n ≥ 128 ∧ n < 160 then windows.getD (n - 128).toNat 0 else n
/-- Digits in front: the number, at most 0x110000, and how many they are. -/
def number (base : Int) : List Int → Int → Nat → Int × Nat
  | [], n, k => (n, k)
  | r :: rs, n, k => if hex r < 0 ∨ hex r ≥ base then (n, k) else number base rs (min (n * base + hex r) 0x110000) (k + 1)
/-- A round of the look for the longest name. -/
def matchStep (runeBytes : List Int → List UInt8) (rs : List Int) (a : Int × Nat × Bool) (i : Nat) (e : Entry) : Int × Nat × Bool :=
  if e.name.length > rs.length ∨ runeBytes (rs.take e.name.length) ≠ e.name then a else
  let n := e.name.length
  let fin := decide (n < rs.length) && rs.getD n 0 == 59
  let n' := if fin then n + 1 else n
  if (fin || e.bare) && decide (n' > a.2.1) then (i, n', fin) else a
def matchAll (rb : List Int → List UInt8) (rs : List Int) : Int × Nat × Bool := (table.zipIdx).foldl (fun a p => matchStep rb rs a p.2 p.1) (-1, 0, false)
/-- The longest name with which signs begin: what it means, how many it takes, whether its end is there. -/
def matchT (rb : List Int → List UInt8) (rs : List Int) : List Int × Nat × Bool :=
  let a := matchAll rb rs
  if a.1 < 0 then ([], 0, false) else
  let e := table.getD a.1.toNat default
  (if e.name = [110, 118, 108, 116] then [e.sign, 8402] else [e.sign], a.2.1, a.2.2)
end Go.Md
/- The names of chars in order; two looks for the longest name. -/
namespace Go
/-- The names in order, by their places in the table. -/
def Md.ord : List Nat := [4, 27, 28, 6, 5, 29, 31, 33, 50, 0, 41, 34, 53, 35, 9, 13, 18, 39, 36, 45, 25, 2, 42, 8, 52, 26, 14, 47, 56, 59, 54, 1, 43, 21, 23, 7, 44, 58, 15, 49, 37, 60, 51, 38, 22, 19, 10, 3, 24, 48, 57, 17, 55, 12, 16, 20, 32, 30, 46, 40, 11]
def Md.names : List Md.Entry := Md.ord.map (Md.table.getD · default)
/-- How far a name and signs go together. -/
def Md.cpl : List UInt8 → List Int → Nat
  | b :: bs, r :: rs => if r = (b.toNat : Int) then Md.cpl bs rs + 1 else 0
  | _, _ => 0
def Md.lawStep (rs : List Int) (a : Nat × Int × Bool) (e : Md.Entry) : Nat × Int × Bool :=
  let n := Md.cpl e.name rs
  if n < e.name.length then a else
  if n < rs.length ∧ rs.getD n default = 59 then (if n + 1 > a.1 then (n + 1, e.sign, true) else a)
  else if e.bare = true ∧ n > a.1 then (n, e.sign, false) else a
def Md.lawAt (rs : List Int) (k : Nat) : Nat × Int × Bool := (Md.names.take k).foldl (Md.lawStep rs) (0, 0, false)
theorem Md.lawAt_succ {rs : List Int} {k : Nat} (h : k < Md.names.length) : Md.lawAt rs (k + 1) = Md.lawStep rs (Md.lawAt rs k) (Md.names.getD k default) := by
  unfold Md.lawAt
  rw [List.take_add_one, List.getElem?_eq_getElem h, List.foldl_append]
  simp [List.getD_eq_getElem?_getD, List.getElem?_eq_getElem h]
theorem Md.cpl_le : ∀ (bs : List UInt8) (rs : List Int), Md.cpl bs rs ≤ bs.length ∧ Md.cpl bs rs ≤ rs.length
  | [], rs => by simp [Md.cpl]
  | b :: bs, [] => by simp [Md.cpl]
  | b :: bs, r :: rs => by
    have := Md.cpl_le bs rs
    simp only [Md.cpl, List.length_cons]
    split <;> omega

/-! ### plain law -/
open Go.Dm (runeBytes)
theorem Md.enc_low {r : Int} (h : 0 ≤ r ∧ r < 128) : (Utf8.encode r).data.toList = [UInt8.ofNat r.toNat] := by
  have hv : Utf8.valid r = true := by simp [Utf8.valid]; omega
  unfold Utf8.encode
  simp only [hv, if_true]
  rw [if_pos (by omega)]
theorem Md.enc_high {r : Int} (h : ¬(0 ≤ r ∧ r < 128)) : ∃ c t, (Utf8.encode r).data.toList = c :: t ∧ 128 ≤ c.toNat := by
  unfold Utf8.encode
  have hc : 128 ≤ (if Utf8.valid r = true then r.toNat else Utf8.runeError) ∧ (if Utf8.valid r = true then r.toNat else Utf8.runeError) < 2097152 := by
    split
    · rename_i hv
      simp [Utf8.valid] at hv
      omega
    · decide
  dsimp only
  generalize (if Utf8.valid r = true then r.toNat else Utf8.runeError) = c at hc
  rw [if_neg (by omega)]
  split
  · exact ⟨_, _, rfl, by rw [UInt8.toNat_ofNat']; omega⟩
  · split
    · exact ⟨_, _, rfl, by rw [UInt8.toNat_ofNat']; omega⟩
    · exact ⟨_, _, rfl, by rw [UInt8.toNat_ofNat']; omega⟩
theorem Md.cpl_bytes : ∀ (bs : List UInt8) (rs : List Int), bs.all (fun b => decide (b.toNat < 128)) = true → bs.length ≤ rs.length → (runeBytes (rs.take bs.length) = bs ↔ Md.cpl bs rs = bs.length)
  | [], rs, _, _ => by simp [runeBytes, Md.cpl]
  | b :: bs, [], _, h => by simp at h
  | b :: bs, r :: rs, ha, hl => by
    simp only [List.all_cons, Bool.and_eq_true, decide_eq_true_eq] at ha
    have ih := Md.cpl_bytes bs rs ha.2 (by simpa using hl)
    simp only [List.length_cons, List.take_succ_cons, Md.cpl]
    have e : runeBytes (r :: rs.take bs.length) = (Utf8.encode r).data.toList ++ runeBytes (rs.take bs.length) := by simp [runeBytes]
    rw [e]
    by_cases hr : 0 ≤ r ∧ r < 128
    · rw [Md.enc_low hr]
      by_cases hb : r = (b.toNat : Int)
      · rw [if_pos hb]
        have : UInt8.ofNat r.toNat = b := by rw [hb]; simp
        rw [this]
        simp [ih]
      · rw [if_neg hb]
        constructor
        · intro h
          simp only [List.cons_append, List.nil_append, List.cons.injEq] at h
          exfalso; apply hb
          rw [← h.1, UInt8.toNat_ofNat']
          omega
        · intro h; omega
    · obtain ⟨c, t, e1, e2⟩ := Md.enc_high hr
      rw [e1]
      constructor
      · intro h
        simp only [List.cons_append, List.cons.injEq] at h
        rw [h.1] at e2; omega
      · intro h
        split at h
        · rename_i hb; exfalso; apply hr; omega
        · omega
theorem Md.cpl_full : ∀ (bs : List UInt8) (rs : List Int), Md.cpl bs rs = bs.length → bs.length ≤ rs.length ∧ ∀ i, i < bs.length → rs.getD i default = ((bs.getD i 0).toNat : Int)
  | [], rs, _ => by simp
  | b :: bs, [], h => by simp [Md.cpl] at h
  | b :: bs, r :: rs, h => by
    simp only [Md.cpl, List.length_cons] at h
    split at h
    · rename_i hb
      obtain ⟨h1, h2⟩ := Md.cpl_full bs rs (by omega)
      refine ⟨by simpa using h1, fun i hi => ?_⟩
      cases i with
      | zero => simpa using hb
      | succ i => simpa using h2 i (by simpa using hi)
    · omega
/-- How much of the signs a name takes. -/
def Md.hitN (rs : List Int) (e : Md.Entry) : Nat :=
  if Md.cpl e.name rs < e.name.length then 0 else
  if e.name.length < rs.length ∧ rs.getD e.name.length default = 59 then e.name.length + 1 else if e.bare = true then e.name.length else 0
def Md.hitE (rs : List Int) (e : Md.Entry) : Bool := decide (e.name.length < rs.length ∧ rs.getD e.name.length default = 59)
theorem Md.lawStep_hit (rs : List Int) (a : Nat × Int × Bool) (e : Md.Entry) : Md.lawStep rs a e = if Md.hitN rs e > a.1 then (Md.hitN rs e, e.sign, Md.hitE rs e) else a := by
  have hc := (Md.cpl_le e.name rs).1
  simp only [Md.lawStep, Md.hitN, Md.hitE]
  by_cases h1 : Md.cpl e.name rs < e.name.length
  · simp [h1]
  · have h2 : Md.cpl e.name rs = e.name.length := by omega
    simp only [h2, Nat.lt_irrefl, if_false]
    by_cases h3 : e.name.length < rs.length ∧ rs.getD e.name.length default = 59
    · rw [if_pos h3, if_pos h3, decide_eq_true h3]
    · rw [if_neg h3, if_neg h3, decide_eq_false h3]
      by_cases h4 : e.bare = true
      · simp [h4]
      · simp [h4]
theorem Md.matchStep_hit (rs : List Int) (a : Int × Nat × Bool) (i : Nat) (e : Md.Entry) (ha : e.name.all (fun b => decide (b.toNat < 128)) = true) : Md.matchStep runeBytes rs a i e = if Md.hitN rs e > a.2.1 then ((i : Int), Md.hitN rs e, Md.hitE rs e) else a := by
  have hc := Md.cpl_le e.name rs
  have hd : (rs.getD e.name.length 0 == 59) = decide (rs.getD e.name.length default = 59) := rfl
  by_cases h1 : Md.cpl e.name rs < e.name.length
  · have hn : Md.hitN rs e = 0 := by unfold Md.hitN; rw [if_pos h1]
    simp only [hn]
    simp only [Md.matchStep]
    rw [if_pos]
    · simp
    · by_cases hl : e.name.length ≤ rs.length
      · exact .inr fun h => by have := (Md.cpl_bytes e.name rs ha hl).1 h; omega
      · exact .inl (by omega)
  · have h2 : Md.cpl e.name rs = e.name.length := by omega
    have hg : ¬(e.name.length > rs.length ∨ runeBytes (rs.take e.name.length) ≠ e.name) := fun h => h.elim (fun h => by omega) (fun h => h ((Md.cpl_bytes e.name rs ha (by omega)).2 h2))
    by_cases h3 : e.name.length < rs.length ∧ rs.getD e.name.length default = 59
    · have e1 : (decide (e.name.length < rs.length) && decide (rs.getD e.name.length default = 59)) = true := by simp only [Bool.and_eq_true, decide_eq_true_eq]; exact h3
      have hn : Md.hitN rs e = e.name.length + 1 := by unfold Md.hitN; rw [if_neg h1, if_pos h3]
      have he : Md.hitE rs e = true := decide_eq_true h3
      simp only [hn, he]
      simp only [Md.matchStep]
      rw [if_neg hg, hd, e1]
      simp
    · have e1 : (decide (e.name.length < rs.length) && decide (rs.getD e.name.length default = 59)) = false := by
        simp only [Bool.and_eq_false_imp, decide_eq_true_eq, decide_eq_false_iff_not]; exact fun a b => h3 ⟨a, b⟩
      have hn : Md.hitN rs e = if e.bare = true then e.name.length else 0 := by unfold Md.hitN; rw [if_neg h1, if_neg h3]
      have he : Md.hitE rs e = false := decide_eq_false h3
      simp only [hn, he]
      simp only [Md.matchStep]
      rw [if_neg hg, hd, e1]
      by_cases h4 : e.bare = true
      · simp [h4]
      · simp [h4]
theorem Md.hit_unique (rs : List Int) {e e' : Md.Entry} (h : Md.hitN rs e = Md.hitN rs e') (h0 : 0 < Md.hitN rs e) (n1 : e.name.all (· != 59) = true) (n2 : e'.name.all (· != 59) = true) : e.name = e'.name ∧ Md.hitE rs e = Md.hitE rs e' := by
  have key : ∀ e : Md.Entry, 0 < Md.hitN rs e → (∀ i, i < e.name.length → rs.getD i default = ((e.name.getD i 0).toNat : Int)) ∧ Md.hitN rs e = (if Md.hitE rs e = true then e.name.length + 1 else e.name.length) ∧ (Md.hitE rs e = true → rs.getD e.name.length default = 59) := by
    intro e h
    have hc := Md.cpl_le e.name rs
    unfold Md.hitN at h ⊢
    by_cases h1 : Md.cpl e.name rs < e.name.length
    · rw [if_pos h1] at h; omega
    · rw [if_neg h1] at h ⊢
      refine ⟨(Md.cpl_full e.name rs (by omega)).2, ?_, fun h => (of_decide_eq_true h).2⟩
      by_cases h3 : e.name.length < rs.length ∧ rs.getD e.name.length default = 59
      · rw [if_pos h3, Md.hitE, decide_eq_true h3]; rfl
      · rw [if_neg h3] at h ⊢
        rw [Md.hitE, decide_eq_false h3]
        split at h
        · rename_i h4; rw [if_pos h4]; rfl
        · omega
  obtain ⟨a1, a2, a3⟩ := key e h0
  obtain ⟨b1, b2, b3⟩ := key e' (by omega)
  have no59 : ∀ (l : List UInt8), l.all (· != 59) = true → ∀ i, i < l.length → ((l.getD i 0).toNat : Int) ≠ 59 := by
    intro l hl i hi he
    have hm := List.all_eq_true.1 hl (l[i]) (List.getElem_mem hi)
    rw [List.getD_eq_getElem?_getD, List.getElem?_eq_getElem hi] at he
    simp only [Option.getD_some] at he
    have : l[i] = 59 := by apply UInt8.toNat_inj.1; show l[i].toNat = 59; omega
    rw [this] at hm
    exact absurd hm (by decide)
  have hlen : e.name.length = e'.name.length ∧ Md.hitE rs e = Md.hitE rs e' := by
    cases x1 : Md.hitE rs e <;> cases x2 : Md.hitE rs e' <;> rw [x1] at a2 <;> rw [x2] at b2 <;> simp only [Bool.false_eq_true, if_false, if_true] at a2 b2
    · exact ⟨by omega, rfl⟩
    · exfalso
      have q1 := b3 x2
      have q2 := a1 e'.name.length (by omega)
      rw [q1] at q2
      exact no59 e.name n1 e'.name.length (by omega) q2.symm
    · exfalso
      have q1 := a3 x1
      have q2 := b1 e.name.length (by omega)
      rw [q1] at q2
      exact no59 e'.name n2 e.name.length (by omega) q2.symm
    · exact ⟨by omega, rfl⟩
  refine ⟨?_, hlen.2⟩
  apply List.ext_getElem hlen.1
  intro i h1 h2
  have q1 := a1 i h1
  have q2 := b1 i h2
  rw [q1] at q2
  rw [List.getD_eq_getElem?_getD, List.getElem?_eq_getElem h1, List.getD_eq_getElem?_getD, List.getElem?_eq_getElem h2] at q2
  simp only [Option.getD_some] at q2
  apply UInt8.toNat_inj.1
  omega
theorem Md.law_fold (rs : List Int) : ∀ (l : List Md.Entry) (a : Nat × Int × Bool), (∀ e ∈ l, Md.hitN rs e ≤ (l.foldl (Md.lawStep rs) a).1) ∧ a.1 ≤ (l.foldl (Md.lawStep rs) a).1 ∧ (l.foldl (Md.lawStep rs) a = a ∨ ∃ e ∈ l, l.foldl (Md.lawStep rs) a = (Md.hitN rs e, e.sign, Md.hitE rs e))
  | [], a => ⟨fun e h => (by cases h), Nat.le_refl _, .inl rfl⟩
  | e :: l, a => by
    simp only [List.foldl_cons]
    obtain ⟨h1, h2, h3⟩ := Md.law_fold rs l (Md.lawStep rs a e)
    have hs := Md.lawStep_hit rs a e
    have hle : Md.hitN rs e ≤ (Md.lawStep rs a e).1 ∧ a.1 ≤ (Md.lawStep rs a e).1 := by
      rw [hs]; split <;> exact ⟨by omega, by omega⟩
    refine ⟨fun x hx => ?_, by omega, ?_⟩
    · rcases List.mem_cons.1 hx with rfl | hx
      · omega
      · exact h1 x hx
    · rcases h3 with h3 | ⟨x, hx, h3⟩
      · rw [h3, hs]
        split
        · exact .inr ⟨e, by simp, rfl⟩
        · exact .inl rfl
      · exact .inr ⟨x, by simp [hx], h3⟩
theorem Md.match_fold (rs : List Int) : ∀ (l : List (Md.Entry × Nat)) (a : Int × Nat × Bool), (∀ p ∈ l, p.1.name.all (fun b => decide (b.toNat < 128)) = true) →
    (∀ p ∈ l, Md.hitN rs p.1 ≤ (l.foldl (fun a p => Md.matchStep runeBytes rs a p.2 p.1) a).2.1) ∧ a.2.1 ≤ (l.foldl (fun a p => Md.matchStep runeBytes rs a p.2 p.1) a).2.1 ∧
      (l.foldl (fun a p => Md.matchStep runeBytes rs a p.2 p.1) a = a ∨ ∃ p ∈ l, l.foldl (fun a p => Md.matchStep runeBytes rs a p.2 p.1) a = ((p.2 : Int), Md.hitN rs p.1, Md.hitE rs p.1) ∧ a.2.1 < Md.hitN rs p.1)
  | [], a, _ => ⟨fun e h => (by cases h), Nat.le_refl _, .inl rfl⟩
  | p :: l, a, ha => by
    simp only [List.foldl_cons]
    obtain ⟨h1, h2, h3⟩ := Md.match_fold rs l (Md.matchStep runeBytes rs a p.2 p.1) (fun q hq => ha q (by simp [hq]))
    have hs := Md.matchStep_hit rs a p.2 p.1 (ha p (by simp))
    have hle : Md.hitN rs p.1 ≤ (Md.matchStep runeBytes rs a p.2 p.1).2.1 ∧ a.2.1 ≤ (Md.matchStep runeBytes rs a p.2 p.1).2.1 := by
      rw [hs]; split <;> exact ⟨by first | omega | (simp only; omega) | (show _ ≤ Md.hitN rs p.1; omega), by first | omega | (simp only; omega) | (show _ ≤ Md.hitN rs p.1; omega)⟩
    refine ⟨fun x hx => ?_, by omega, ?_⟩
    · rcases List.mem_cons.1 hx with rfl | hx
      · omega
      · exact h1 x hx
    · rcases h3 with h3 | ⟨x, hx, h3, h4⟩
      · rw [h3, hs]
        split
        · rename_i h5; exact .inr ⟨p, by simp, rfl, h5⟩
        · exact .inl rfl
      · exact .inr ⟨x, by simp [hx], h3, by omega⟩
theorem Md.table_facts : (∀ e ∈ Md.table, e.name.all (fun b => decide (b.toNat < 128)) = true ∧ e.name.all (· != 59) = true) ∧ (∀ e ∈ Md.table, ∀ e' ∈ Md.table, e.name = e'.name → e.sign = e'.sign) := by decide +kernel
theorem Md.ord_facts : (∀ i ∈ Md.ord, i < 61) ∧ (∀ i, i < 61 → i ∈ Md.ord) := by decide +kernel
theorem Md.names_mem {e : Md.Entry} : e ∈ Md.names ↔ e ∈ Md.table := by
  have hl : Md.table.length = 61 := rfl
  unfold Md.names
  rw [List.mem_map]
  constructor
  · rintro ⟨i, hi, rfl⟩
    have := Md.ord_facts.1 i hi
    rw [List.getD_eq_getElem?_getD, List.getElem?_eq_getElem (by omega)]
    exact List.getElem_mem _
  · intro h
    obtain ⟨i, hi, rfl⟩ := List.getElem_of_mem h
    refine ⟨i, Md.ord_facts.2 i (by omega), ?_⟩
    rw [List.getD_eq_getElem?_getD, List.getElem?_eq_getElem hi]; rfl
/-- The longest hit is found whatever the order of the names. -/
theorem Md.matches_pure (rs : List Int) {w : Nat} {s : Int} {en : Bool} (h : (w, s, en) = Md.lawAt rs 61) :
    (w = 0 → Md.matchT runeBytes rs = ([], 0, false)) ∧ (w ≠ 0 → ∃ r, Md.matchT runeBytes rs = (s :: r, w, en)) := by
  obtain ⟨a1, _, a3⟩ := Md.law_fold rs (Md.names.take 61) (0, 0, false)
  have hA : (Md.names.take 61).foldl (Md.lawStep rs) (0, 0, false) = (w, s, en) := h.symm
  rw [hA] at a1 a3
  have htk : Md.names.take 61 = Md.names := List.take_of_length_le (by decide)
  rw [htk] at a1 a3
  have hzip : ∀ p ∈ Md.table.zipIdx, Md.table[p.2]? = some p.1 := fun p hp => by
    obtain ⟨e, i⟩ := p
    exact List.mem_zipIdx_iff_getElem?.1 hp
  have hmem : ∀ p ∈ Md.table.zipIdx, p.1 ∈ Md.table := fun p hp => List.mem_of_getElem? (hzip p hp)
  obtain ⟨b1, _, b3⟩ := Md.match_fold rs Md.table.zipIdx (-1, 0, false) (fun p hp => (Md.table_facts.1 p.1 (hmem p hp)).1)
  have hB : Md.table.zipIdx.foldl (fun a p => Md.matchStep runeBytes rs a p.2 p.1) (-1, 0, false) = Md.matchAll runeBytes rs := rfl
  rw [hB] at b1 b3
  have b1' : ∀ e ∈ Md.table, Md.hitN rs e ≤ (Md.matchAll runeBytes rs).2.1 := fun e he => by
    obtain ⟨i, hi, rfl⟩ := List.getElem_of_mem he
    exact b1 (Md.table[i], i) (List.mem_zipIdx_iff_getElem?.2 (List.getElem?_eq_getElem hi))
  constructor
  · intro hw
    subst hw
    rcases b3 with b3 | ⟨p, hp, b3, b4⟩
    · unfold Md.matchT; rw [b3]; rfl
    · have := a1 p.1 (Md.names_mem.2 (hmem p hp)); dsimp only at this b4; omega
  · intro hw
    rcases a3 with a3 | ⟨e, he, a3⟩
    · simp only [Prod.mk.injEq] at a3; omega
    · simp only [Prod.mk.injEq] at a3
      obtain ⟨rfl, rfl, rfl⟩ := a3
      have he' := Md.names_mem.1 he
      have q1 := b1' e he'
      rcases b3 with b3 | ⟨p, hp, b3, b4⟩
      · rw [b3] at q1; dsimp only at q1; omega
      · have hp' := hmem p hp
        have q2 := a1 p.1 (Md.names_mem.2 hp')
        rw [b3] at q1
        dsimp only at q1 q2 b4
        obtain ⟨u1, u2⟩ := Md.hit_unique rs (e := e) (e' := p.1) (by omega) (by omega) (Md.table_facts.1 e he').2 (Md.table_facts.1 p.1 hp').2
        have hs := Md.table_facts.2 e he' p.1 hp' u1
        have hg : Md.table.getD p.2 default = p.1 := by rw [List.getD_eq_getElem?_getD, hzip p hp]; rfl
        unfold Md.matchT
        rw [b3]
        dsimp only
        rw [if_neg (by omega), Int.toNat_natCast, hg, hs, u2, show Md.hitN rs p.1 = Md.hitN rs e by omega]
        split
        · exact ⟨_, rfl⟩
        · exact ⟨_, rfl⟩
theorem Md.lawAt_le (rs : List Int) (k : Nat) : (Md.lawAt rs k).1 ≤ rs.length + 1 := by
  have hN : ∀ e, Md.hitN rs e ≤ rs.length + 1 := fun e => by
    have hc := Md.cpl_le e.name rs
    unfold Md.hitN
    repeat' split
    all_goals omega
  obtain ⟨_, _, h3⟩ := Md.law_fold rs (Md.names.take k) (0, 0, false)
  unfold Md.lawAt
  rcases h3 with h3 | ⟨e, _, h3⟩
  · rw [h3]; exact Nat.zero_le _
  · rw [h3]; exact hN e
theorem Md.names_len : ∀ k, k < 61 → (Md.names.getD k default).name.length ≤ 20 := by decide +kernel
theorem Md.names_sorted : ∀ k, k < 61 → 0 < k → Go.Dm.strLess (Md.names.getD (k - 1) default).name (Md.names.getD k default).name = true := by decide +kernel
/-- What matchT answers, by the hits. -/
theorem Md.matchT_hit (rs : List Int) : (∀ e ∈ Md.table, Md.hitN rs e ≤ (Md.matchT runeBytes rs).2.1) ∧ (Md.matchT runeBytes rs = ([], 0, false) ∨ ∃ e ∈ Md.table, Md.matchT runeBytes rs = (if e.name = [110, 118, 108, 116] then [e.sign, 8402] else [e.sign], Md.hitN rs e, Md.hitE rs e) ∧ 0 < Md.hitN rs e) := by
  have hzip : ∀ p ∈ Md.table.zipIdx, Md.table[p.2]? = some p.1 := fun p hp => by
    obtain ⟨e, i⟩ := p
    exact List.mem_zipIdx_iff_getElem?.1 hp
  have hmem : ∀ p ∈ Md.table.zipIdx, p.1 ∈ Md.table := fun p hp => List.mem_of_getElem? (hzip p hp)
  obtain ⟨b1, _, b3⟩ := Md.match_fold rs Md.table.zipIdx (-1, 0, false) (fun p hp => (Md.table_facts.1 p.1 (hmem p hp)).1)
  have hB : Md.table.zipIdx.foldl (fun a p => Md.matchStep runeBytes rs a p.2 p.1) (-1, 0, false) = Md.matchAll runeBytes rs := rfl
  rw [hB] at b1 b3
  have b1' : ∀ e ∈ Md.table, Md.hitN rs e ≤ (Md.matchAll runeBytes rs).2.1 := fun e he => by
    obtain ⟨i, hi, rfl⟩ := List.getElem_of_mem he
    exact b1 (Md.table[i], i) (List.mem_zipIdx_iff_getElem?.2 (List.getElem?_eq_getElem hi))
  rcases b3 with b3 | ⟨p, hp, b3, b4⟩
  · have e1 : Md.matchT runeBytes rs = ([], 0, false) := by unfold Md.matchT; rw [b3]; rfl
    rw [e1]
    rw [b3] at b1'
    exact ⟨b1', .inl rfl⟩
  · have hg : Md.table.getD p.2 default = p.1 := by rw [List.getD_eq_getElem?_getD, hzip p hp]; rfl
    have e1 : Md.matchT runeBytes rs = (if p.1.name = [110, 118, 108, 116] then [p.1.sign, 8402] else [p.1.sign], Md.hitN rs p.1, Md.hitE rs p.1) := by
      unfold Md.matchT
      rw [b3]
      dsimp only
      rw [if_neg (by omega), Int.toNat_natCast, hg]
    rw [e1]
    rw [b3] at b1'
    exact ⟨b1', .inr ⟨p.1, hmem p hp, rfl, b4⟩⟩
theorem Md.cpl_self : ∀ (bs : List UInt8) (more : List Int), Md.cpl bs (bs.map (fun b => (b.toNat : Int)) ++ more) = bs.length
  | [], more => by simp [Md.cpl]
  | b :: bs, more => by simp [Md.cpl, Md.cpl_self bs more]
/-- A name with its end, whatever follows, is found. -/
theorem Md.names_found {e : Md.Entry} (he : e ∈ Md.table) (more : List Int) : ∃ r, Md.matchT runeBytes (e.name.map (fun b => (b.toNat : Int)) ++ 59 :: more) = (e.sign :: r, e.name.length + 1, true) ∧ (r ≠ [] → e.name = [110, 118, 108, 116]) := by
  obtain ⟨rs, hrs⟩ : ∃ rs, rs = e.name.map (fun b => (b.toNat : Int)) ++ 59 :: more := ⟨_, rfl⟩
  have hl : rs.length = e.name.length + 1 + more.length := by rw [hrs]; simp; omega
  have h59 : rs.getD e.name.length default = 59 := by rw [hrs, List.getD_eq_getElem?_getD, List.getElem?_append_right (by simp)]; simp
  have hN : Md.hitN rs e = e.name.length + 1 := by
    unfold Md.hitN
    rw [hrs, Md.cpl_self, if_neg (by omega), ← hrs, if_pos ⟨by omega, h59⟩]
  have hE : Md.hitE rs e = true := decide_eq_true ⟨by omega, h59⟩
  rw [← hrs]
  obtain ⟨h1, h2⟩ := Md.matchT_hit rs
  have q1 := h1 e he
  rcases h2 with h2 | ⟨p, hp, h2, h3⟩
  · rw [h2] at q1; dsimp only at q1; omega
  · rw [h2] at q1
    dsimp only at q1
    have hle : Md.hitN rs p ≤ e.name.length + 1 := by
      have hc := Md.cpl_le p.name rs
      by_cases hcp : Md.cpl p.name rs < p.name.length
      · unfold Md.hitN; rw [if_pos hcp]; omega
      · have hf := (Md.cpl_full p.name rs (by omega)).2
        have hpl : p.name.length ≤ e.name.length := by
          by_cases hx : e.name.length < p.name.length
          · exfalso
            have := hf e.name.length hx
            rw [h59] at this
            have hm := List.all_eq_true.1 (Md.table_facts.1 p hp).2 (p.name[e.name.length]) (List.getElem_mem hx)
            rw [List.getD_eq_getElem?_getD, List.getElem?_eq_getElem hx] at this
            simp only [Option.getD_some] at this
            have h5 : p.name[e.name.length] = 59 := by apply UInt8.toNat_inj.1; show p.name[e.name.length].toNat = 59; omega
            rw [h5] at hm
            exact absurd hm (by decide)
          · omega
        unfold Md.hitN
        repeat' split
        all_goals omega
    obtain ⟨u1, u2⟩ := Md.hit_unique rs (e := e) (e' := p) (by omega) (by omega) (Md.table_facts.1 e he).2 (Md.table_facts.1 p hp).2
    have hs := Md.table_facts.2 e he p hp u1
    rw [h2, ← u1, ← u2, hE, ← hs, show Md.hitN rs p = e.name.length + 1 by omega]
    split
    · rename_i hn; exact ⟨_, rfl, fun _ => hn⟩
    · exact ⟨_, rfl, fun h => absurd rfl h⟩
theorem Md.alone_facts : ∀ e ∈ Md.table, ∀ p ∈ Md.table, Md.hitE (e.name.map (fun b => (b.toNat : Int))) p = false ∧ Md.hitN (e.name.map (fun b => (b.toNat : Int))) p ≤ e.name.length ∧ (e.bare = false → Md.hitN (e.name.map (fun b => (b.toNat : Int))) p ≠ e.name.length) := by decide +kernel
theorem Md.bare_facts : ∀ e ∈ Md.table, e.bare = true → Md.hitN (e.name.map (fun b => (b.toNat : Int))) e = e.name.length := by decide +kernel
theorem Md.some_facts : ∀ e ∈ Md.table, 0 < e.name.length := by decide +kernel
/-- A name without its end. -/
theorem Md.names_alone {e : Md.Entry} (he : e ∈ Md.table) : (Md.matchT runeBytes (e.name.map (fun b => (b.toNat : Int)))).2.2 = false ∧ (e.bare = true → (Md.matchT runeBytes (e.name.map (fun b => (b.toNat : Int)))).2.1 = e.name.length) ∧ (e.bare = false → (Md.matchT runeBytes (e.name.map (fun b => (b.toNat : Int)))).2.1 ≠ e.name.length) := by
  obtain ⟨h1, h2⟩ := Md.matchT_hit (e.name.map (fun b => (b.toNat : Int)))
  have q1 := h1 e he
  have q0 := Md.some_facts e he
  rcases h2 with h2 | ⟨p, hp, h2, h3⟩
  · rw [h2] at q1 ⊢
    refine ⟨rfl, fun hb => ?_, fun _ => by dsimp only; omega⟩
    have := Md.bare_facts e he hb
    dsimp only at q1; omega
  · obtain ⟨f1, f2, f3⟩ := Md.alone_facts e he p hp
    rw [h2] at q1 ⊢
    refine ⟨f1, fun hb => ?_, fun hb => f3 hb⟩
    have := Md.bare_facts e he hb
    dsimp only at q1 ⊢; omega
theorem Md.names_getD {k : Nat} (h : k < 61) : Md.names.getD k default ∈ Md.table := by
  have hlen : Md.names.length = 61 := rfl
  apply Md.names_mem.1
  rw [List.getD_eq_getElem?_getD, List.getElem?_eq_getElem (by omega)]
  exact List.getElem_mem _
theorem Md.hitN_le (rs : List Int) (e : Md.Entry) : Md.hitN rs e ≤ rs.length := by
  have hc := Md.cpl_le e.name rs
  unfold Md.hitN
  by_cases h : Md.cpl e.name rs < e.name.length
  · rw [if_pos h]; omega
  · rw [if_neg h]
    split
    · omega
    · split <;> omega
theorem Md.matchT_le (rs : List Int) : (Md.matchT runeBytes rs).2.1 ≤ rs.length := by
  rcases (Md.matchT_hit rs).2 with h | ⟨e, _, h, _⟩
  · rw [h]; exact Nat.zero_le _
  · rw [h]; exact Md.hitN_le rs e
theorem Md.matchT_len (rs : List Int) : (Md.matchT runeBytes rs).1.length ≤ 2 := by
  rcases (Md.matchT_hit rs).2 with h | ⟨e, _, h, _⟩
  · rw [h]; simp
  · rw [h]; dsimp only; split <;> simp
theorem Md.sign_facts : ∀ e ∈ Md.table, 0 ≤ e.sign := by decide +kernel
theorem Md.matchT_nn (rs : List Int) : ∀ r ∈ (Md.matchT runeBytes rs).1, 0 ≤ r := by
  rcases (Md.matchT_hit rs).2 with h | ⟨e, he, h, _⟩
  · rw [h]; simp
  · have := Md.sign_facts e he
    rw [h]; dsimp only; split <;> simp <;> omega
end Go
/- The lexer as plain functions: a state, what each function makes of it (no program in sight). -/
namespace Go.Md
set_option linter.unusedVariables false
abbrev Str := List UInt8
structure Tok where
  kind : Int
  name : Str
  attrs : List (Str × Str)
  self : Bool
  data : Str
  pub : Str
  sys : Str
  hasPub : Bool
  hasSys : Bool
  quirks : Bool
  deriving DecidableEq
def Tok.zero : Tok := ⟨0, [], [], false, [], [], [], false, false, false⟩
instance : Inhabited Tok := ⟨Tok.zero⟩
structure Lx where
  inp : List Int
  pos : Nat
  way : Int
  last : Str
  room : Bool
  out : List Tok
  text : List Int
  done : Bool
def Lx.rest (s : Lx) : List Int := s.inp.drop s.pos
def Lx.pk (s : Lx) (n : Nat) : Int := s.inp.getD (s.pos + n) (-1)
def Lx.adv (s : Lx) (n : Nat) : Lx := { s with pos := s.pos + n }
def Lx.say (s : Lx) (rs : List Int) : Lx := { s with text := s.text ++ rs.filter (· != -1) }
/-- Without its text. -/
def Lx.clr (s : Lx) : Lx := { s with text := [] }
def textTok (t : List Int) : Tok := { Tok.zero with kind := 1, data := encode t }
def Lx.flush (s : Lx) : Lx := if s.text = [] then s else { s with out := s.out ++ [textTok s.text], text := [] }
def Lx.emit (s : Lx) (t : Tok) : Lx := { s.flush with last := if t.kind = 2 then t.name else s.flush.last, out := s.flush.out ++ [t] }

/-! ### pieces of what stands next -/
def fixr (r : Int) : Int := if r = 0 then 65533 else r
def blanksN (l : List Int) : Nat := (l.takeWhile blank).length
/-- A text of low signs stands next, in whatever letters. -/
def stands : Str → List Int → Bool
  | [], _ => true
  | c :: w, l => small (l.headD (-1)) == small (c.toNat : Int) && stands w l.tail
def exact : Str → List Int → Bool
  | [], _ => true
  | c :: w, l => l.headD (-1) == (c.toNat : Int) && exact w l.tail
def over (r : Int) : Bool := blank r || r == 47 || r == 62
def bogusGo : List Int → List Int × Nat
  | [] => ([], 0)
  | r :: l => if r = 62 then ([], 1) else (fixr r :: (bogusGo l).1, (bogusGo l).2 + 1)
def nameOf (l : List Int) : List Int := (l.takeWhile fun r => !over r)
def skipN : List Int → Nat
  | [] => 0
  | r :: l => if r = 62 then 1 else skipN l + 1

/-! ### references -/
/-- What stands behind an &: the signs that it means, how many it takes. -/
def refer (value : Bool) (l : List Int) : List Int × Nat :=
  if l.getD 0 (-1) = 35 then
    let n := if l.getD 1 (-1) = 120 ∨ l.getD 1 (-1) = 88 then 2 else 1
    let q := number (if l.getD 1 (-1) = 120 ∨ l.getD 1 (-1) = 88 then 16 else 10) (l.drop n) 0 0
    if q.2 = 0 then ([38], 0) else
    ([numeric q.1], if l.getD (n + q.2) (-1) = 59 then n + q.2 + 1 else n + q.2)
  else
    let m := matchT Go.Dm.runeBytes l
    if m.2.1 = 0 then ([38], 0) else
    if (value = true ∧ m.2.2 = false ∧ m.2.1 < l.length) ∧ (l.getD m.2.1 (-1) = 61 ∨ letter (l.getD m.2.1 (-1)) = true ∨ digit (l.getD m.2.1 (-1)) = true) then ([38], 0) else (m.1, m.2.1)

/-! ### tags -/
/-- A value: its signs, whether it ended, how many signs it takes. -/
def valueGo (quote : Int) (l : List Int) (acc : List Int) : List Int × Bool × Nat :=
  match l with
  | [] => (acc, false, 0)
  | r :: l =>
    if quote ≠ 0 ∧ r = quote then (acc, true, 1)
    else if quote = 0 ∧ (blank r = true ∨ r = 62) then (acc, true, 0)
    else if r = 38 then
      let q := valueGo quote (l.drop (refer true l).2) (acc ++ (refer true l).1)
      (q.1, q.2.1, q.2.2 + (refer true l).2 + 1)
    else
      let q := valueGo quote l (acc ++ [fixr r])
      (q.1, q.2.1, q.2.2 + 1)
  termination_by l.length
  decreasing_by all_goals simp; try omega
def value (l : List Int) : Str × Bool × Nat :=
  let b := blanksN l
  let r := l.getD b (-1)
  if r = 62 then ([], true, b) else
  if r = 34 ∨ r = 39 then
    let q := valueGo r (l.drop (b + 1)) []
    (encode q.1, q.2.1, b + 1 + q.2.2)
  else
    let q := valueGo 0 (l.drop b) []
    (encode q.1, q.2.1, b + q.2.2)
/-- An attribute's name: its first sign whatever it is. -/
def attrName (l : List Int) : List Int :=
  match l with
  | [] => []
  | r :: l => if over r = true then [] else r :: l.takeWhile fun r => !(over r || r == 61)
def hasAttr (al : List (Str × Str)) (n : Str) : Bool := al.any fun a => a.1 == n
def putAttr (al : List (Str × Str)) (a : Str × Str) : List (Str × Str) := if hasAttr al a.1 then al else al ++ [a]
/-- An attribute: it, whether the text goes on, how many signs it takes. -/
def attr1 (l : List Int) : (Str × Str) × Bool × Nat :=
  let nm := attrName l
  let n := nm.length + blanksN (l.drop nm.length)
  let name := encode (nm.map fun r => small (fixr r))
  if l.getD n (-1) = 61 then
    let v := value (l.drop (n + 1))
    ((name, v.1), v.2.1, n + 1 + v.2.2)
  else ((name, []), true, n)
theorem attrName_pos {r : Int} {l : List Int} (h : over r = false) : 0 < (attrName (r :: l)).length := by simp [attrName, h]
/-- Attributes up to a tag's end: they, whether it ends itself, whether there is an end, how many signs. -/
def attrsGo (l : List Int) (acc : List (Str × Str)) : List (Str × Str) × Bool × Bool × Nat :=
  match l with
  | [] => (acc, false, false, 0)
  | r :: l =>
    if hb : blank r = true then
      let q := attrsGo l acc
      (q.1, q.2.1, q.2.2.1, q.2.2.2 + 1)
    else if h1 : r = 62 then (acc, false, true, 1)
    else if h2 : r = 47 then
      if l.headD (-1) = 62 then (acc, true, true, 2) else
      let q := attrsGo l acc
      (q.1, q.2.1, q.2.2.1, q.2.2.2 + 1)
    else
      if (attr1 (r :: l)).2.1 = true then
        let q := attrsGo ((r :: l).drop (attr1 (r :: l)).2.2) (putAttr acc (attr1 (r :: l)).1)
        (q.1, q.2.1, q.2.2.1, q.2.2.2 + (attr1 (r :: l)).2.2)
      else (putAttr acc (attr1 (r :: l)).1, false, false, (attr1 (r :: l)).2.2)
  termination_by l.length
  decreasing_by
    · simp
    · simp
    · have hov : over r = false := by
        simp only [Bool.not_eq_true] at hb
        simp [over, hb, h1, h2]
      have hp : 0 < (attr1 (r :: l)).2.2 := by
        have h3 := attrName_pos (l := l) hov
        unfold attr1
        dsimp only
        split
        · dsimp only; omega
        · dsimp only; omega
      simp only [List.length_drop, List.length_cons]; omega
def Lx.tag (s : Lx) (kind : Int) : Lx :=
  let nm := nameOf s.rest
  let q := attrsGo (s.rest.drop nm.length) []
  let s1 := s.adv (nm.length + q.2.2.2)
  if q.2.2.1 = true then s1.emit { Tok.zero with kind := kind, name := encode (nm.map fun r => small (fixr r)), attrs := if kind = 3 then [] else q.1, self := if kind = 3 then false else q.2.1 } else s1

/-! ### what else there is -/
def Lx.bogus (s : Lx) : Lx := (s.adv (bogusGo s.rest).2).emit { Tok.zero with kind := 4, data := encode (bogusGo s.rest).1 }
def Lx.ending (s : Lx) : Lx :=
  if letter (s.pk 0) = true then s.tag 3
  else if s.pk 0 = 62 then s.adv 1
  else if s.pk 0 = -1 then s.say [60, 47]
  else s.bogus
/-- A marked section: its signs, how many it takes. -/
def sectionGo : List Int → List Int × Nat
  | [] => ([], 0)
  | r :: l => if r = 93 ∧ l.headD (-1) = 93 ∧ l.tail.headD (-1) = 62 then ([], 3) else (r :: (sectionGo l).1, (sectionGo l).2 + 1)
def Lx.section_ (s : Lx) : Lx := (s.adv (sectionGo s.rest).2).say (sectionGo s.rest).1
/-- A comment's signs, how many it takes, whether its end is there. -/
def commentGo : List Int → List Int × Nat × Bool
  | [] => ([], 0, false)
  | r :: l => if r = 45 ∧ exact [45, 62] l = true then ([], 3, true) else if r = 45 ∧ exact [45, 33, 62] l = true then ([], 4, true) else
    (fixr r :: (commentGo l).1, (commentGo l).2.1 + 1, (commentGo l).2.2)
def hasSuffix (s w : Str) : Bool := decide (w.length ≤ s.length) && s.drop (s.length - w.length) == w
def stripTail (d : List Int) : List Int :=
  if hasSuffix (Go.Dm.runeBytes d) [45, 45, 33] then d.take (d.length - 3) else
  if hasSuffix (Go.Dm.runeBytes d) [45, 45] then d.take (d.length - 2) else
  if hasSuffix (Go.Dm.runeBytes d) [45] then d.take (d.length - 1) else d
def commentTok (d : List Int) : Tok := { Tok.zero with kind := 4, data := encode d }
def Lx.comment (s : Lx) : Lx :=
  if s.pk 0 = 62 then (s.adv 1).emit (commentTok [])
  else if s.pk 0 = 45 ∧ s.pk 1 = 62 then (s.adv 2).emit (commentTok [])
  else
    let q := commentGo s.rest
    (s.adv q.2.1).emit (commentTok (if q.2.2 = true then q.1 else stripTail q.1))
/-- A text in quotes: it, whether there is one, whether it ended, how many signs it takes. -/
def quotedGo (quote : Int) : List Int → List Int × Bool × Nat
  | [] => ([], false, 0)
  | r :: l => if r = quote then ([], true, 1) else if r = 62 then ([], false, 1) else (fixr r :: (quotedGo quote l).1, (quotedGo quote l).2.1, (quotedGo quote l).2.2 + 1)
def quoted (l : List Int) : Str × Bool × Bool × Nat :=
  let r := l.headD (-1)
  if r = 34 ∨ r = 39 then (encode (quotedGo r l.tail).1, true, (quotedGo r l.tail).2.1, (quotedGo r l.tail).2.2 + 1) else ([], false, false, skipN l)
def doctypeName (l : List Int) : List Int := l.takeWhile fun r => !(blank r || r == 62)
def Lx.blanks (s : Lx) : Lx := s.adv (blanksN s.rest)
def Lx.skip (s : Lx) : Lx := s.adv (skipN s.rest)
def dtok : Tok := { Tok.zero with kind := 5 }
/-- A doctype's end, from its second text on. -/
def Lx.doctypeSys (s : Lx) (t : Tok) : Lx :=
  let y := quoted s.rest
  let t1 := { t with sys := y.1, hasSys := y.2.1 }
  let s1 := s.adv y.2.2.2
  if y.2.2.1 = false then s1.emit { t1 with quirks := true } else
  if s1.blanks.pk 0 = -1 then s1.blanks.emit { t1 with quirks := true } else
  s1.blanks.skip.emit t1
def Lx.doctypePub (s : Lx) (t : Tok) : Lx :=
  let p := quoted s.rest
  let t1 := { t with pub := p.1, hasPub := p.2.1 }
  let s1 := s.adv p.2.2.2
  if p.2.2.1 = false then s1.emit { t1 with quirks := true } else
  if s1.blanks.pk 0 = 62 then (s1.blanks.adv 1).emit t1 else s1.blanks.doctypeSys t1
def Lx.doctypeRest (s : Lx) (t : Tok) : Lx :=
  if s.pk 0 = 62 then (s.adv 1).emit t
  else if s.pk 0 = -1 then s.emit { t with quirks := true }
  else if stands [112, 117, 98, 108, 105, 99] s.rest = true then (s.adv 6).blanks.doctypePub t
  else if stands [115, 121, 115, 116, 101, 109] s.rest = true then (s.adv 6).blanks.doctypeSys t
  else s.skip.emit { t with quirks := true }
def Lx.doctype (s : Lx) : Lx :=
  let s := s.blanks
  if s.pk 0 = 62 then (s.adv 1).emit { dtok with quirks := true }
  else if s.pk 0 = -1 then s.emit { dtok with quirks := true }
  else
    let nm := doctypeName s.rest
    (s.adv nm.length).blanks.doctypeRest { dtok with name := encode (nm.map fun r => small (fixr r)) }
def Lx.declare (s : Lx) : Lx :=
  if stands [45, 45] s.rest = true then (s.adv 2).comment
  else if stands [100, 111, 99, 116, 121, 112, 101] s.rest = true then (s.adv 7).doctype
  else if s.room = true ∧ s.pk 0 = 91 ∧ exact [91, 67, 68, 65, 84, 65, 91] s.rest = true then (s.adv 7).section_
  else s.bogus
def Lx.open_ (s : Lx) : Lx :=
  if s.pk 0 = 33 then (s.adv 1).declare
  else if s.pk 0 = 47 then (s.adv 1).ending
  else if letter (s.pk 0) = true then s.tag 2
  else if s.pk 0 = 63 then s.bogus
  else s.say [60]
/-- The signs of a text as a program goes through them. -/
def runesGo : Nat → Str → Nat → List Int
  | 0, _, _ => []
  | f + 1, s, i => if i < s.length then (Utf8.decode ⟨s.toArray⟩ i).1 :: runesGo f s (i + (Utf8.decode ⟨s.toArray⟩ i).2) else []
def runes (s : Str) : List Int := runesGo s.length s 0
/-- How many signs the end of an element takes up to its name's end, behind <; 0: it doesn't stand there. -/
def goesOn : List Int → List Int → Bool
  | [], _ => true
  | c :: w, l => small (l.headD (-1)) == c && goesOn w l.tail
def closes (last : Str) (l : List Int) : Nat :=
  if l.getD 0 (-1) ≠ 47 ∨ letter (l.getD 1 (-1)) = false ∨ last = [] then 0 else
  if goesOn (runes last) l.tail = true ∧ over (l.getD (1 + (runes last).length) (-1)) = true then 1 + (runes last).length else 0
def Lx.close (s : Lx) : Lx := if closes s.last s.rest = 0 then s.say [60] else ({ s.adv 1 with way := 0 }).tag 3
def word (l : List Int) : Nat := if stands [115, 99, 114, 105, 112, 116] l = true ∧ over (l.getD 6 (-1)) = true then 7 else 0
/-- A script's signs behind what began a comment; how many they take; whether the element's end stands there. -/
def scriptGo (last : Str) (l : List Int) (dashes : Nat) (hidden : Bool) : List Int × Nat × Bool :=
  match l with
  | [] => ([], 0, false)
  | r :: l =>
    if r = 45 then
      let q := scriptGo last l (dashes + 1) hidden
      (r :: q.1, q.2.1 + 1, q.2.2)
    else if r = 62 ∧ 2 ≤ dashes then ([62], 1, false)
    else if r = 60 ∧ hidden = false then
      if 0 < closes last l then ([], 1, true) else
      let q := scriptGo last (l.drop (word l)) 0 (decide (0 < word l))
      (r :: (l.take (word l) ++ q.1), q.2.1 + word l + 1, q.2.2)
    else if r = 60 then
      if l.headD (-1) = 47 then
        let q := scriptGo last (l.tail.drop (word l.tail)) 0 (decide (word l.tail = 0))
        (r :: 47 :: (l.tail.take (word l.tail) ++ q.1), q.2.1 + word l.tail + 2, q.2.2)
      else
        let q := scriptGo last l 0 hidden
        (r :: q.1, q.2.1 + 1, q.2.2)
    else
      let q := scriptGo last l 0 hidden
      (fixr r :: q.1, q.2.1 + 1, q.2.2)
  termination_by l.length
  decreasing_by all_goals simp; try omega
def Lx.script (s : Lx) : Lx :=
  if exact [33, 45, 45] s.rest = false then s.close else
  let s1 := (s.say [60, 33, 45, 45]).adv 3
  let q := scriptGo s.last s1.rest 2 false
  let s2 := (s1.say q.1).adv q.2.1
  if q.2.2 = true then s2.flush.close else s2
def plainSign (r : Int) : Bool := !(r == 38 || r == 60 || r == 0)
def Lx.step (s : Lx) : Lx :=
  let r := s.pk 0
  let s1 := s.adv 1
  let s2 :=
    if r = -1 then { s1.flush with done := true }
    else if r = 38 ∧ (s.way = 0 ∨ s.way = 1) then (s1.adv (refer false s1.rest).2).say (refer false s1.rest).1
    else if r = 60 ∧ s.way = 0 then s1.flush.open_
    else if r = 60 ∧ (s.way = 1 ∨ s.way = 2) then s1.flush.close
    else if r = 60 ∧ s.way = 3 then s1.flush.script
    else if r = 0 ∧ s.way = 0 then s1.say [0]
    else if r = 0 then s1.say [65533]
    else (s1.adv (s1.rest.takeWhile plainSign).length).say (r :: s1.rest.takeWhile plainSign)
  if s2.out = [] ∧ s2.text ≠ [] ∧ (s2.pk 0 = 60 ∨ s2.pk 0 = -1) then s2.flush else s2
def Lx.new (b : Str) : Lx := ⟨decode b, 0, 0, [], false, [], [], false⟩
/-- How much is left to do. -/
def Lx.left (s : Lx) : Nat := s.inp.length + 1 - s.pos
/-- All tokens that come. -/
def Lx.toks (s : Lx) : List Tok :=
  s.out ++ (if s.done = true then [] else if h : Lx.left (Lx.step { s with out := [] }) < s.left then Lx.toks (Lx.step { s with out := [] }) else [])
  termination_by s.left
  decreasing_by exact h
/-- Texts that follow each other as one. -/
def joinStep (out : List Tok) (t : Tok) : List Tok :=
  match out.getLast? with
  | some u => if t.kind = 1 ∧ u.kind = 1 then out.dropLast ++ [{ u with data := u.data ++ t.data }] else if t.kind = 1 ∧ t.data = [] then out else out ++ [t]
  | none => if t.kind = 1 ∧ t.data = [] then out else out ++ [t]
def join (l : List Tok) : List Tok := l.foldl joinStep []
def all (b : Str) : List Tok := join (Lx.new b).toks
end Go.Md
/- What the text layer's functions do. -/
namespace Go.Proofs.YticnenofiibpgaaDoor.Code
open Go.Dm Go.Dm.C
set_option linter.unusedSimpArgs false
set_option linter.unusedVariables false
set_option linter.unnecessarySimpa false
set_option maxRecDepth 10000
attribute [local irreducible] Go.Dm.F Go.Dm.RS Go.Dm.Y Go.Dm.FD Go.Dm.FZ1 Go.Dm.Hold
variable {R : List Ck}
theorem blank_F {r : Int} : F D 109 [.int .i32 r] R (fun v cs' => v = .bool (Md.blank r) ∧ R = cs') := by
  refine F.of rfl rfl rfl ?_
  repeat' first | exact arI | refine Pst.mk ⟨?_, rfl⟩ (by (repeat' constructor); first | done | fail) | constructor | (refine fun _ _ (hq : Hold _) => ?_; replace hq := hq.out; obtain ⟨_, rfl, rfl⟩ := hq) | (refine fun _ _ (hq : Hold _) => ?_; replace hq := hq.out; obtain ⟨_, _, rfl, rfl⟩ := hq) | rintro _ _ ⟨rfl, rfl⟩ | rintro _ _ ⟨_, rfl, rfl⟩ | rintro _ _ ⟨_, _, rfl, rfl⟩ | (refine fun (hc : _ = _) => ?_; (try simp only [BB] at hc)) | refine fun (_ : Nat) => ?_ | refine fun (_ : _ ≤ _) => ?_ | refine fun (_ : _ < _) => ?_
theorem digit_F {r : Int} : F D 19 [.int .i32 r] R (fun v cs' => v = .bool (Md.digit r) ∧ R = cs') := by
  refine F.of rfl rfl rfl ?_
  repeat' first | exact arI | refine Pst.mk ⟨?_, rfl⟩ (by (repeat' constructor); first | done | fail) | constructor | (refine fun _ _ (hq : Hold _) => ?_; replace hq := hq.out; obtain ⟨_, rfl, rfl⟩ := hq) | (refine fun _ _ (hq : Hold _) => ?_; replace hq := hq.out; obtain ⟨_, _, rfl, rfl⟩ := hq) | rintro _ _ ⟨rfl, rfl⟩ | rintro _ _ ⟨_, rfl, rfl⟩ | rintro _ _ ⟨_, _, rfl, rfl⟩ | (refine fun (hc : _ = _) => ?_; (try simp only [BB] at hc)) | refine fun (_ : Nat) => ?_ | refine fun (_ : _ ≤ _) => ?_ | refine fun (_ : _ < _) => ?_
theorem letter_F {r : Int} : F D 18 [.int .i32 r] R (fun v cs' => v = .bool (Md.letter r) ∧ R = cs') := by
  refine F.of rfl rfl rfl ?_
  repeat' first | exact arI | refine Pst.mk ⟨?_, rfl⟩ (by (repeat' constructor); first | done | fail) | constructor | (refine fun _ _ (hq : Hold _) => ?_; replace hq := hq.out; obtain ⟨_, rfl, rfl⟩ := hq) | (refine fun _ _ (hq : Hold _) => ?_; replace hq := hq.out; obtain ⟨_, _, rfl, rfl⟩ := hq) | rintro _ _ ⟨rfl, rfl⟩ | rintro _ _ ⟨_, rfl, rfl⟩ | rintro _ _ ⟨_, _, rfl, rfl⟩ | (refine fun (hc : _ = _) => ?_; (try simp only [BB] at hc)) | refine fun (_ : Nat) => ?_ | refine fun (_ : _ ≤ _) => ?_ | refine fun (_ : _ < _) => ?_
theorem small_F {r : Int} : F D 108 [.int .i32 r] R (fun v cs' => v = .int .i32 (Md.small r) ∧ R = cs') := by
  refine F.of rfl rfl rfl ?_
  repeat' first | exact arI | refine Pst.mk ⟨?_, rfl⟩ (by (repeat' constructor); first | done | fail) | constructor | (refine fun _ _ (hq : Hold _) => ?_; replace hq := hq.out; obtain ⟨_, rfl, rfl⟩ := hq) | (refine fun _ _ (hq : Hold _) => ?_; replace hq := hq.out; obtain ⟨_, _, rfl, rfl⟩ := hq) | rintro _ _ ⟨rfl, rfl⟩ | rintro _ _ ⟨_, rfl, rfl⟩ | rintro _ _ ⟨_, _, rfl, rfl⟩ | (refine fun (hc : _ = _) => ?_; (try simp only [BB] at hc)) | refine fun (_ : Nat) => ?_ | refine fun (_ : _ ≤ _) => ?_ | refine fun (_ : _ < _) => ?_
  all_goals (congr 1; unfold Md.small; split <;> omega)
theorem digit_t {r : Int} : (Md.digit r = true) = (48 ≤ r ∧ r ≤ 57) := by simp [Md.digit]
theorem digit_f {r : Int} : (Md.digit r = false) = ¬(48 ≤ r ∧ r ≤ 57) := by simp [Md.digit]
theorem hex_F {r : Int} : F D 100 [.int .i32 r] R (fun v cs' => v = .int .i64 (Md.hex r) ∧ R = cs') := by
  refine F.of rfl rfl rfl ?_
  repeat' first | exact digit_F | exact arI | refine Pst.mk ⟨?_, rfl⟩ (by (repeat' constructor); first | done | fail) | constructor | (refine fun _ _ (hq : Hold _) => ?_; replace hq := hq.out; obtain ⟨_, rfl, rfl⟩ := hq) | (refine fun _ _ (hq : Hold _) => ?_; replace hq := hq.out; obtain ⟨_, _, rfl, rfl⟩ := hq) | rintro _ _ ⟨rfl, rfl⟩ | rintro _ _ ⟨_, rfl, rfl⟩ | rintro _ _ ⟨_, _, rfl, rfl⟩ | (refine fun (hc : _ = _) => ?_; (try simp only [BB] at hc)) | refine fun (_ : Nat) => ?_ | refine fun (_ : _ ≤ _) => ?_ | refine fun (_ : _ < _) => ?_
  all_goals (simp only [digit_t, digit_f] at *)
  all_goals first | (refine Arith.mk fun _ => ?_; omega) | (congr 1; unfold Md.hex; split <;> omega)

theorem need_F {c : UInt8} : F D 86 [.int .u8 (c.toNat : Int)] R (fun v cs' => v = .tup [.int .i64 ((Md.need c.toNat).1 : Nat), .int .u8 ((Md.need c.toNat).2.1 : Nat), .int .u8 ((Md.need c.toNat).2.2 : Nat)] ∧ R = cs') := by
  refine F.of rfl rfl rfl ?_
  repeat' first | exact arI | refine Pst.mk ⟨?_, rfl⟩ (by (repeat' constructor); first | done | fail) | constructor | (refine fun _ _ (hq : Hold _) => ?_; replace hq := hq.out; obtain ⟨_, rfl, rfl⟩ := hq) | (refine fun _ _ (hq : Hold _) => ?_; replace hq := hq.out; obtain ⟨_, _, rfl, rfl⟩ := hq) | rintro _ _ ⟨rfl, rfl⟩ | rintro _ _ ⟨_, rfl, rfl⟩ | rintro _ _ ⟨_, _, rfl, rfl⟩ | (refine fun (hc : _ = _) => ?_; (try simp only [BB] at hc)) | refine fun (_ : Nat) => ?_ | refine fun (_ : _ ≤ _) => ?_ | refine fun (_ : _ < _) => ?_
  all_goals ((unfold Md.need; repeat' split) <;> first | omega | rfl)
theorem need_le (n : Nat) : (Md.need n).1 ≤ 3 ∧ (Md.need n).2.1 < 256 ∧ (Md.need n).2.2 < 256 ∧ ((Md.need n).1 ≠ 0 → n ≥ 194 ∧ n ≤ 244) := by
  unfold Md.need; repeat' split
  all_goals simp
  all_goals omega
theorem and_pow (x n : Nat) (h : n ≤ 3) : x &&& ((63 : Int) / 2 ^ n).toNat = x % (64 / 2 ^ n) := by
  rcases (by omega : n = 0 ∨ n = 1 ∨ n = 2 ∨ n = 3) with rfl | rfl | rfl | rfl
  · exact Nat.and_two_pow_sub_one_eq_mod x 6
  · exact Nat.and_two_pow_sub_one_eq_mod x 5
  · exact Nat.and_two_pow_sub_one_eq_mod x 4
  · exact Nat.and_two_pow_sub_one_eq_mod x 3
theorem or_next (r : Int) (c : Nat) (h0 : 0 ≤ r) : (((r * 2 ^ (6 : Int).toNat).toNat ||| (((c : Int).toNat &&& (63 : Int).toNat : Nat) : Int).toNat : Nat) : Int) = r * 64 + (c % 64 : Nat) := by
  obtain ⟨a, rfl⟩ := Int.eq_ofNat_of_zero_le h0
  have e1 : ((a : Int) * 2 ^ (6 : Int).toNat).toNat = a * 2 ^ 6 := by simp; omega
  have e2 : (((c : Int).toNat &&& (63 : Int).toNat : Nat) : Int).toNat = c % 64 := by simp only [Int.toNat_natCast]; exact and_63 c
  rw [e1, e2, or_shl a (c % 64) 6 (Nat.mod_lt _ (by omega))]
  simp
theorem oneGo_stop {k : Nat} {l : List UInt8} {i : Nat} {r : Int} {lo hi : Nat} (hk : 1 ≤ k) (hs : l.length = 0 ∨ (l.getD 0 default).toNat < lo ∨ hi < (l.getD 0 default).toNat) : Md.oneGo k l i r lo hi = (65533, i) := by
  cases k with
  | zero => omega
  | succ k =>
    cases l with
    | nil => rfl
    | cons c l =>
      simp only [List.length_cons, List.getD_cons_zero] at hs
      simp only [Md.oneGo]
      rw [if_pos (by omega)]
theorem oneGo_go {k : Nat} {l : List UInt8} {i : Nat} {r : Int} {lo hi : Nat} (hk : 1 ≤ k) (h0 : l.length ≠ 0) (h1 : lo ≤ (l.getD 0 default).toNat) (h2 : (l.getD 0 default).toNat ≤ hi) :
    Md.oneGo k l i r lo hi = Md.oneGo (k - 1) (l.drop 1) (i + 1) (r * 64 + ((l.getD 0 default).toNat % 64 : Nat)) 128 191 := by
  cases k with
  | zero => omega
  | succ k =>
    cases l with
    | nil => simp at h0
    | cons c l =>
      simp only [List.getD_cons_zero] at h1 h2 ⊢
      simp only [Md.oneGo]
      rw [if_neg (by omega)]
      rfl
theorem getD_drop {α : Type} (l : List α) (j : Nat) (d : α) : (l.drop j).getD 0 d = l.getD j d := by
  simp [List.getD_eq_getElem?_getD]
theorem pow64 : ∀ i, i ≤ 3 → (64 : Int) ^ i ≤ 262144 := by decide
theorem and63_le (x : Nat) : x &&& (63 : Int).toNat ≤ 63 := Nat.and_le_right
theorem one_F {b : UInt8} {rest : List UInt8} {t z : Nat} (hz : z = zOf t 1) (hl : rest.length < 1000000000000) : F D 67 [.lst t z (bytesV (b :: rest))] R (fun v cs' => v = .tup [.int .i32 (Md.one (b :: rest)).1, .int .i64 ((Md.one (b :: rest)).2 : Nat)] ∧ R = cs') := by
  subst hz
  have hb := b.toNat_lt
  have hnl := need_le b.toNat
  have hp3 : ∀ n, n ≤ 3 → (0 : Int) ≤ 63 / 2 ^ n ∧ (63 : Int) / 2 ^ n ≤ 2147483647 := by decide
  have hp := hp3 _ hnl.1
  refine F.of rfl rfl rfl ?_
  repeat' first | exact need_F | exact arI | refine Pst.mk ⟨?_, rfl⟩ (by (repeat' constructor); first | done | fail) | constructor | (refine fun _ _ (hq : Hold _) => ?_; replace hq := hq.out; obtain ⟨_, rfl, rfl⟩ := hq) | (refine fun _ _ (hq : Hold _) => ?_; replace hq := hq.out; obtain ⟨_, _, rfl, rfl⟩ := hq) | rintro _ _ ⟨rfl, rfl⟩ | rintro _ _ ⟨_, rfl, rfl⟩ | rintro _ _ ⟨_, _, rfl, rfl⟩ | (refine fun (hc : _ = _) => ?_; (try simp only [BB] at hc)) | refine fun (_ : Nat) => ?_ | refine fun (_ : _ ≤ _) => ?_ | refine fun (_ : _ < _) => ?_
  · simp [Md.one, show b.toNat < 128 by omega]
  · simp [Md.one, show ¬ b.toNat < 128 by omega, show (Md.need b.toNat).1 = 0 by omega]
  · have hn0 : (Md.need b.toNat).1 ≠ 0 := by omega
    have hone : Md.one (b :: rest) = Md.oneGo (Md.need b.toNat).1 rest 1 (b.toNat % (64 / 2 ^ (Md.need b.toNat).1) : Nat) (Md.need b.toNat).2.1 (Md.need b.toNat).2.2 := by
      simp [Md.one, show ¬ b.toNat < 128 by omega, hn0]
    refine RS.loopW (α := Nat × Int × Nat × Nat) (fun a => [(0, .lst t (zOf t 1) (bytesV (b :: rest))), (4, .int .i64 ((Md.need b.toNat).1 : Nat)), (5, .int .u8 (a.2.2.1 : Nat)), (6, .int .u8 (a.2.2.2 : Nat)), (7, .int .i32 a.2.1), (8, .int .i64 (a.1 : Nat))])
      (fun _ => R) (fun a => 1 ≤ a.1 ∧ a.1 ≤ (Md.need b.toNat).1 + 1 ∧ 0 ≤ a.2.1 ∧ a.2.1 < 64 ^ a.1 ∧ Md.oneGo ((Md.need b.toNat).1 + 1 - a.1) (rest.drop (a.1 - 1)) a.1 a.2.1 a.2.2.1 a.2.2.2 = Md.one (b :: rest)) (fun a => (Md.need b.toNat).1 + 1 - a.1) (1, (b.toNat % (64 / 2 ^ (Md.need b.toNat).1) : Nat), (Md.need b.toNat).2.1, (Md.need b.toNat).2.2) ?_ ?_ .refl ?_
    · rw [hone]
      have h64 : b.toNat % (64 / 2 ^ (Md.need b.toNat).1) < 64 := Nat.lt_of_lt_of_le (Nat.mod_lt _ (Nat.div_pos (Nat.le_trans (Nat.pow_le_pow_right (by omega) hnl.1) (by omega)) (Nat.pow_pos (by omega)))) (Nat.div_le_self _ _)
      refine ⟨?_, ?_, ?_, ?_, ?_⟩ <;> dsimp only
      · omega
      · omega
      · exact Int.natCast_nonneg _
      · exact Int.ofNat_lt.2 h64
      · simp
    · rw [← and_pow _ _ hnl.1]; exact ⟨rfl, rfl, rfl, rfl, rfl, rfl, trivial⟩
    · rintro ⟨i, r, lo, hi⟩ ⟨h1, h2, h3, h4, h5⟩ ih
      dsimp only [ents] at *
      have hx : ((b :: rest).getD i default).toNat < 256 := UInt8.toNat_lt _
      have hand : ((b :: rest).getD i default).toNat &&& 63 ≤ 63 := Nat.and_le_right
      have hr : i ≤ 3 → r < 262144 := fun h => Int.lt_of_lt_of_le h4 (pow64 i h)
      have hg : (b :: rest).getD i default = (rest.drop (i - 1)).getD 0 default := by
        rw [getD_drop]; cases i with
        | zero => omega
        | succ i => simp
      have hld : (rest.drop (i - 1)).length = rest.length - (i - 1) := List.length_drop
      repeat' first | exact arI | refine Pst.mk ⟨?_, rfl⟩ (by (repeat' constructor); first | done | fail) | constructor | (refine fun _ _ (hq : Hold _) => ?_; replace hq := hq.out; obtain ⟨_, rfl, rfl⟩ := hq) | (refine fun _ _ (hq : Hold _) => ?_; replace hq := hq.out; obtain ⟨_, _, rfl, rfl⟩ := hq) | rintro _ _ ⟨rfl, rfl⟩ | rintro _ _ ⟨_, rfl, rfl⟩ | rintro _ _ ⟨_, _, rfl, rfl⟩ | (refine fun (hc : _ = _) => ?_; (try simp only [BB] at hc)) | refine fun (_ : Nat) => ?_ | refine fun (_ : _ ≤ _) => ?_ | refine fun (_ : _ < _) => ?_
      · simp only [Int.toNat_natCast, hg, List.length_cons] at hc
        rw [oneGo_stop (by omega) (by omega)] at h5
        rw [← h5]
      · simp only [Int.toNat_natCast, hg, List.length_cons] at hc
        rw [oneGo_go (by omega) (by omega) (by omega) (by omega)] at h5
        refine ih _ _ (i + 1, r * 64 + (((b :: rest).getD i default).toNat % 64 : Nat), 128, 191) ?_ (by dsimp only; omega) ?_ .refl
        · refine ⟨by dsimp only; omega, by dsimp only; omega, by dsimp only; omega, ?_, ?_⟩
          · dsimp only
            rw [Int.pow_succ]; omega
          · dsimp only
            rw [← h5, hg, List.drop_drop]
            congr 1 <;> congr 1 <;> omega
        · refine ⟨rfl, rfl, rfl, rfl, ?_, rfl, trivial⟩
          dsimp only
          rw [← or_next _ _ h3]
          rfl
      · have : (Md.need b.toNat).1 + 1 - i = 0 := by omega
        rw [this] at h5
        simp only [Md.oneGo] at h5
        rw [← h5, show i = (Md.need b.toNat).1 + 1 by omega]
        simp
end Go.Proofs.YticnenofiibpgaaDoor.Code
/- What the text layer's functions do (2): signs out of bytes, bytes out of signs. -/
namespace Go.Proofs.YticnenofiibpgaaDoor.Code
open Go.Dm Go.Dm.C
set_option linter.unusedSimpArgs false
set_option linter.unusedVariables false
set_option linter.unnecessarySimpa false
set_option maxRecDepth 10000
attribute [local irreducible] Go.Dm.F Go.Dm.RS Go.Dm.Y Go.Dm.FD Go.Dm.FZ1 Go.Dm.Hold
variable {R : List Ck}
theorem oneGo_pos : ∀ (k : Nat) (l : List UInt8) (i : Nat) (r : Int) (lo hi : Nat), i ≤ (Md.oneGo k l i r lo hi).2 ∧ (Md.oneGo k l i r lo hi).2 ≤ i + l.length
  | 0, l, i, r, lo, hi => by simp [Md.oneGo]
  | k + 1, [], i, r, lo, hi => by simp [Md.oneGo]
  | k + 1, c :: l, i, r, lo, hi => by
    simp only [Md.oneGo]
    split
    · simp
    · have := oneGo_pos k l (i + 1) (r * 64 + (c.toNat % 64 : Nat)) 0x80 0xbf
      simp only [List.length_cons]; omega
theorem one_pos {b : List UInt8} (h : b ≠ []) : 1 ≤ (Md.one b).2 ∧ (Md.one b).2 ≤ b.length := by
  cases b with
  | nil => exact absurd rfl h
  | cons c l =>
    simp only [Md.one]
    split
    · simp
    · split
      · simp
      · have := oneGo_pos (Md.need c.toNat).1 l 1 (c.toNat % (64 / 2 ^ (Md.need c.toNat).1) : Nat) (Md.need c.toNat).2.1 (Md.need c.toNat).2.2
        simp only [List.length_cons]; omega
theorem drop_cons {b : List UInt8} {i : Nat} (h : i < b.length) : ∃ c l, b.drop i = c :: l := ⟨_, _, List.drop_eq_getElem_cons h⟩
theorem one_F' {b : List UInt8} {t z : Nat} (hb : b ≠ []) (hz : z = zOf t 1) (hl : b.length < 1000000000000) : F D 67 [.lst t z (bytesV b)] R (fun v cs' => v = .tup [.int .i32 (Md.one b).1, .int .i64 ((Md.one b).2 : Nat)] ∧ R = cs') := by
  cases b with
  | nil => exact absurd rfl hb
  | cons c l => exact one_F hz (by simp at hl; omega)
/-- The signs of bytes, gone through. -/
theorem signs_it {l q t z : Nat} {b : List UInt8} (hz : z = zOf t 1) (hl : b.length < 1000000000000) (I : Nat → List Ck → Prop) (E : List Ck → Prop)
    (hy : ∀ i cs, i < b.length → I i cs → Y D l [.int .i64 i, .int .i32 (Md.one (b.drop i)).1] (.obj q (.cells [.lst t z (bytesV b)] none) :: cs) (fun c cs' => Hold (∃ cs1, .obj q (.cells [.lst t z (bytesV b)] none) :: cs1 = cs' ∧ ((c = true ∧ I (i + (Md.one (b.drop i)).2) cs1) ∨ (c = false ∧ E cs1)))))
    {cs : List Ck} (h0 : I 0 cs) :
    F D 66 [.fn (.yield l) [] [], .ptr q 0] (.obj q (.cells [.lst t z (bytesV b)] none) :: cs) (fun v cs' => Hold (∃ cs1, .obj q (.cells [.lst t z (bytesV b)] none) :: cs1 = cs' ∧ (I b.length cs1 ∨ E cs1))) := by
  subst hz
  refine F.of rfl rfl rfl ?_
  repeat' first | exact arI | refine Pst.mk ⟨?_, rfl⟩ (by (repeat' constructor); first | done | fail) | constructor | (refine fun _ _ (hq : Hold _) => ?_; replace hq := hq.out; obtain ⟨_, rfl, rfl⟩ := hq) | (refine fun _ _ (hq : Hold _) => ?_; replace hq := hq.out; obtain ⟨_, _, rfl, rfl⟩ := hq) | rintro _ _ ⟨rfl, rfl⟩ | rintro _ _ ⟨_, rfl, rfl⟩ | rintro _ _ ⟨_, _, rfl, rfl⟩ | (refine fun (hc : _ = _) => ?_; (try simp only [BB] at hc)) | refine fun (_ : Nat) => ?_ | refine fun (_ : _ ≤ _) => ?_ | refine fun (_ : _ < _) => ?_
  refine RS.loopW (α := Nat × List Ck) (fun a => [(0, .fn (.yield l) [] []), (1, .ptr q 0), (3, .int .i64 (a.1 : Nat))]) (fun a => .obj q (.cells [.lst t (zOf t 1) (bytesV b)] none) :: a.2)
    (fun a => a.1 ≤ b.length ∧ I a.1 a.2) (fun a => b.length - a.1) (0, cs) ⟨Nat.zero_le _, h0⟩ ⟨rfl, rfl, rfl, trivial⟩ .refl ?_
  rintro ⟨i, cs0⟩ ⟨h1, h2⟩ ih
  dsimp only [ents] at *
  have hp : i < b.length → 1 ≤ (Md.one (b.drop i)).2 ∧ (Md.one (b.drop i)).2 ≤ b.length - i := fun h => by
    have := one_pos (b := b.drop i) (by simp; omega)
    rwa [List.length_drop] at this
  repeat' first | exact one_F' (by simp; omega) rfl (by simp; omega) | exact FC.yield (hy i _ (by omega) h2) | (refine fun _ _ (hq : YPost _ _ _) => ?_; obtain ⟨hq⟩ := hq; replace hq := hq.out; obtain ⟨cs1, rfl, hq⟩ := hq) | exact arI | refine Pst.mk ⟨?_, rfl⟩ (by (repeat' constructor); first | done | fail) | constructor | (refine fun _ _ (hq : Hold _) => ?_; replace hq := hq.out; obtain ⟨_, rfl, rfl⟩ := hq) | (refine fun _ _ (hq : Hold _) => ?_; replace hq := hq.out; obtain ⟨_, _, rfl, rfl⟩ := hq) | rintro _ _ ⟨rfl, rfl⟩ | rintro _ _ ⟨_, rfl, rfl⟩ | rintro _ _ ⟨_, _, rfl, rfl⟩ | (refine fun (hc : _ = _) => ?_; (try simp only [BB] at hc)) | refine fun (_ : Nat) => ?_ | refine fun (_ : _ ≤ _) => ?_ | refine fun (_ : _ < _) => ?_
  all_goals first
    | (have hq' := hq.resolve_right (fun h => by rw [h.1] at hc; cases hc)
       exact ih _ _ (i + (Md.one (b.drop i)).2, cs1) ⟨by dsimp only; omega, hq'.2⟩ (by dsimp only; omega) ⟨rfl, rfl, rfl, trivial⟩ .refl)
    | (have hq' := hq.resolve_left (fun h => by rw [h.1] at hc; cases hc)
       exact Pst.mk (.mk ⟨cs1, rfl, .inr hq'.2⟩) .refl)
    | (obtain rfl : i = b.length := by omega
       exact Pst.mk (.mk ⟨cs0, rfl, .inl h2⟩) .refl)
theorem signs_F {t z : Nat} {b : List UInt8} : F D 54 [.lst t z (bytesV b)] R (fun v cs' => Hold (∃ q, v = .fn (.func 66) [] [.ptr q 0] ∧ .obj q (.cells [.lst t z (bytesV b)] none) :: R = cs')) := by
  refine F.of rfl rfl rfl ?_
  repeat' first | exact arI | refine Pst.mk ⟨?_, rfl⟩ (by (repeat' constructor); first | done | fail) | constructor | (refine fun _ _ (hq : Hold _) => ?_; replace hq := hq.out; obtain ⟨_, rfl, rfl⟩ := hq) | (refine fun _ _ (hq : Hold _) => ?_; replace hq := hq.out; obtain ⟨_, _, rfl, rfl⟩ := hq) | rintro _ _ ⟨rfl, rfl⟩ | rintro _ _ ⟨_, rfl, rfl⟩ | rintro _ _ ⟨_, _, rfl, rfl⟩ | (refine fun (hc : _ = _) => ?_; (try simp only [BB] at hc)) | refine fun (_ : Nat) => ?_ | refine fun (_ : _ ≤ _) => ?_ | refine fun (_ : _ < _) => ?_
  exact Pst.mk (.mk ⟨_, rfl, rfl⟩) (by (repeat' constructor); first | done | fail)
theorem signs_fuel : ∀ (n f g : Nat) (b : List UInt8), b.length ≤ n → b.length ≤ f → b.length ≤ g → Md.signs f b = Md.signs g b := by
  intro n
  induction n with
  | zero => intro f g b h _ _; have : b = [] := List.eq_nil_of_length_eq_zero (by omega); subst this; cases f <;> cases g <;> rfl
  | succ n ih =>
    intro f g b h hf hg
    cases b with
    | nil => cases f <;> cases g <;> rfl
    | cons c l =>
      have hp := one_pos (b := c :: l) (by simp)
      simp only [List.length_cons] at h hf hg
      obtain ⟨f, rfl⟩ : ∃ f', f = f' + 1 := ⟨f - 1, by omega⟩
      obtain ⟨g, rfl⟩ : ∃ g', g = g' + 1 := ⟨g - 1, by omega⟩
      simp only [Md.signs]
      congr 1
      have hm : ((c :: l).drop (Md.one (c :: l)).2).length ≤ l.length := by simp; omega
      exact ih f g _ (by omega) (by omega) (by omega)
theorem signs_cons {b : List UInt8} (h : b ≠ []) : Md.signs b.length b = (Md.one b).1 :: Md.signs (b.drop (Md.one b).2).length (b.drop (Md.one b).2) := by
  cases b with
  | nil => exact absurd rfl h
  | cons c l =>
    have hp := one_pos (b := c :: l) (by simp)
    simp only [List.length_cons, Md.signs]
    congr 1
    have hm : ((c :: l).drop (Md.one (c :: l)).2).length ≤ l.length := by simp; omega
    exact signs_fuel l.length _ _ _ hm hm (Nat.le_refl _)
theorem lines_len : ∀ (l : List Int) (last : Int), (Md.lines last l).length ≤ l.length
  | [], _ => by simp [Md.lines]
  | r :: rs, last => by
    have h1 := lines_len rs r
    simp only [Md.lines]
    split
    · simp only [List.length_cons]; omega
    · split
      · simp only [List.length_cons]; omega
      · simp only [List.length_cons]; omega
theorem unmark_drop {b : List UInt8} (h : (3 ≤ b.length ∧ (b.getD 0 default).toNat = 239) ∧ (b.getD 1 default).toNat = 187 ∧ (b.getD 2 default).toNat = 191) : Md.unmark b = b.drop 3 := by
  rcases b with _ | ⟨x, _ | ⟨y, _ | ⟨z, r⟩⟩⟩
  · simp at h
  · simp at h
  · simp at h
  · simp only [List.getD_cons_zero, List.getD_cons_succ] at h
    obtain rfl : x = 0xef := UInt8.toNat_inj.1 h.1.2
    obtain rfl : y = 0xbb := UInt8.toNat_inj.1 h.2.1
    obtain rfl : z = 0xbf := UInt8.toNat_inj.1 h.2.2
    rfl
theorem unmark_same {b : List UInt8} (h : ¬((3 ≤ b.length ∧ (b.getD 0 default).toNat = 239) ∧ (b.getD 1 default).toNat = 187 ∧ (b.getD 2 default).toNat = 191)) : Md.unmark b = b := by
  unfold Md.unmark
  split
  · exact absurd ⟨⟨by simp, rfl⟩, rfl, rfl⟩ h
  · rfl
theorem decode_F {t z : Nat} {b : List UInt8} (hz : z = zOf t 1) (hl : b.length < 1000000000000) : F D 39 [.lst t z (bytesV b)] R (fun v cs' => Hold (∃ t', v = .lst t' (zOf t' 1) ((Md.decode b).map I32) ∧ .own t' 1 ((Md.decode b).map I32) :: R = cs')) := by
  subst hz
  refine F.of rfl rfl rfl ?_
  repeat' first | exact signs_F | exact arI | refine Pst.mk ⟨?_, rfl⟩ (by (repeat' constructor); first | done | fail) | constructor | (refine fun _ _ (hq : Hold _) => ?_; replace hq := hq.out; obtain ⟨_, rfl, rfl⟩ := hq) | (refine fun _ _ (hq : Hold _) => ?_; replace hq := hq.out; obtain ⟨_, _, rfl, rfl⟩ := hq) | rintro _ _ ⟨rfl, rfl⟩ | rintro _ _ ⟨_, rfl, rfl⟩ | rintro _ _ ⟨_, _, rfl, rfl⟩ | (refine fun (hc : _ = _) => ?_; (try simp only [BB] at hc)) | refine fun (_ : Nat) => ?_ | refine fun (_ : _ ≤ _) => ?_ | refine fun (_ : _ < _) => ?_
  · rename_i qo _ ql _ q
    have hd : Md.lines 0 (Md.signs (b.drop (Int.toNat 3)).length (b.drop (Int.toNat 3))) = Md.decode b := by
      unfold Md.decode
      rw [unmark_drop (b := b) (by simp only [Int.reduceToNat] at hc; omega)]
      rfl
    generalize Md.decode b = dec at *
    have hl' : (b.drop (Int.toNat 3)).length < 1000000000000 := by simp; omega
    clear hc
    generalize b.drop (Int.toNat 3) = X at *
    refine RS.nilOwn 1 (RS.rangeO rfl rfl fun m l Lr Lb Ld hL => ?_)
    refine F.perm (List.perm_middle (l₁ := [_, _, _])) (F.mono (signs_it (l := l) rfl hl'
      (fun i cs => ∃ t' last acc, Lr :: .obj m .mark :: .own t' 1 (acc.map I32) :: .obj ql (.cells [.int .i32 last] none) :: .obj qo (.cells [.lst t' (zOf t' 1) (acc.map I32)] none) :: R = cs ∧ acc.length ≤ i ∧ acc ++ Md.lines last (Md.signs (X.drop i).length (X.drop i)) = dec) (fun _ => False) ?_ ⟨0, 0, [], rfl, by simp, by simpa using hd⟩) ?_)
    · rintro i _ hi ⟨t', last, acc, rfl, ha, hdec⟩
      refine hL.y (.tail .head) rfl ?_
      have hne : X.drop i ≠ [] := by simp; omega
      have hp := one_pos hne
      rw [signs_cons hne, List.drop_drop] at hdec
      repeat' first | exact arI | refine Pst.mk ⟨?_, rfl⟩ (by (repeat' constructor); first | done | fail) | constructor | (refine fun _ _ (hq : Hold _) => ?_; replace hq := hq.out; obtain ⟨_, rfl, rfl⟩ := hq) | (refine fun _ _ (hq : Hold _) => ?_; replace hq := hq.out; obtain ⟨_, _, rfl, rfl⟩ := hq) | rintro _ _ ⟨rfl, rfl⟩ | rintro _ _ ⟨_, rfl, rfl⟩ | rintro _ _ ⟨_, _, rfl, rfl⟩ | (refine fun (hc : _ = _) => ?_; (try simp only [BB] at hc)) | refine fun (_ : Nat) => ?_ | refine fun (_ : _ ≤ _) => ?_ | refine fun (_ : _ < _) => ?_
      · refine Pst.mk (.mk ⟨_, rfl, .inl ⟨rfl, _, _, acc ++ [10], rfl, by simp; omega, ?_⟩⟩) (by (repeat' constructor); first | done | fail)
        rw [← hdec]; simp [Md.lines, hc]
      · refine Pst.mk (.mk ⟨_, rfl, .inl ⟨rfl, _, _, acc, rfl, by omega, ?_⟩⟩) (by (repeat' constructor); first | done | fail)
        rw [← hdec]; simp [Md.lines, hc]
      · refine Pst.mk (.mk ⟨_, rfl, .inl ⟨rfl, _, _, acc ++ [_], rfl, by simp; omega, ?_⟩⟩) (by (repeat' constructor); first | done | fail)
        rw [← hdec]; simp only [Md.lines]
        rw [if_neg (by omega), if_neg (by omega)]; simp
    · intro v cs' hv
      obtain ⟨cs1, rfl, ⟨t', last, acc, rfl, ha, hdec⟩ | hf⟩ := hv.out
      · have hd2 : acc = dec := by rw [← hdec, List.drop_eq_nil_of_le (Nat.le_refl _)]; simp [Md.signs, Md.lines]
        subst hd2
        refine .ready (.tail .head) ?_
        repeat' first | exact arI | refine Pst.mk ⟨?_, rfl⟩ (by (repeat' constructor); first | done | fail) | constructor | (refine fun _ _ (hq : Hold _) => ?_; replace hq := hq.out; obtain ⟨_, rfl, rfl⟩ := hq) | (refine fun _ _ (hq : Hold _) => ?_; replace hq := hq.out; obtain ⟨_, _, rfl, rfl⟩ := hq) | rintro _ _ ⟨rfl, rfl⟩ | rintro _ _ ⟨_, rfl, rfl⟩ | rintro _ _ ⟨_, _, rfl, rfl⟩ | (refine fun (hc : _ = _) => ?_; (try simp only [BB] at hc)) | refine fun (_ : Nat) => ?_ | refine fun (_ : _ ≤ _) => ?_ | refine fun (_ : _ < _) => ?_
        exact Pst.mk (.mk ⟨_, rfl, rfl⟩) (by (repeat' constructor); first | done | fail)
      · exact hf.elim
  · rename_i qo _ ql _ q
    have hd : Md.lines 0 (Md.signs b.length b) = Md.decode b := by
      unfold Md.decode
      rw [unmark_same (b := b) (by simp only [Int.reduceToNat] at hc; omega)]
    have hl' := hl
    generalize Md.decode b = dec at *
    obtain ⟨X, hX⟩ : ∃ X, X = b := ⟨b, rfl⟩
    subst hX
    refine RS.nilOwn 1 (RS.rangeO rfl rfl fun m l Lr Lb Ld hL => ?_)
    refine F.perm (List.perm_middle (l₁ := [_, _, _])) (F.mono (signs_it (l := l) rfl hl'
      (fun i cs => ∃ t' last acc, Lr :: .obj m .mark :: .own t' 1 (acc.map I32) :: .obj ql (.cells [.int .i32 last] none) :: .obj qo (.cells [.lst t' (zOf t' 1) (acc.map I32)] none) :: R = cs ∧ acc.length ≤ i ∧ acc ++ Md.lines last (Md.signs (X.drop i).length (X.drop i)) = dec) (fun _ => False) ?_ ⟨0, 0, [], rfl, by simp, by simpa using hd⟩) ?_)
    · rintro i _ hi ⟨t', last, acc, rfl, ha, hdec⟩
      refine hL.y (.tail .head) rfl ?_
      have hne : X.drop i ≠ [] := by simp; omega
      have hp := one_pos hne
      rw [signs_cons hne, List.drop_drop] at hdec
      repeat' first | exact arI | refine Pst.mk ⟨?_, rfl⟩ (by (repeat' constructor); first | done | fail) | constructor | (refine fun _ _ (hq : Hold _) => ?_; replace hq := hq.out; obtain ⟨_, rfl, rfl⟩ := hq) | (refine fun _ _ (hq : Hold _) => ?_; replace hq := hq.out; obtain ⟨_, _, rfl, rfl⟩ := hq) | rintro _ _ ⟨rfl, rfl⟩ | rintro _ _ ⟨_, rfl, rfl⟩ | rintro _ _ ⟨_, _, rfl, rfl⟩ | (refine fun (hc : _ = _) => ?_; (try simp only [BB] at hc)) | refine fun (_ : Nat) => ?_ | refine fun (_ : _ ≤ _) => ?_ | refine fun (_ : _ < _) => ?_
      · refine Pst.mk (.mk ⟨_, rfl, .inl ⟨rfl, _, _, acc ++ [10], rfl, by simp; omega, ?_⟩⟩) (by (repeat' constructor); first | done | fail)
        rw [← hdec]; simp [Md.lines, hc]
      · refine Pst.mk (.mk ⟨_, rfl, .inl ⟨rfl, _, _, acc, rfl, by omega, ?_⟩⟩) (by (repeat' constructor); first | done | fail)
        rw [← hdec]; simp [Md.lines, hc]
      · refine Pst.mk (.mk ⟨_, rfl, .inl ⟨rfl, _, _, acc ++ [_], rfl, by simp; omega, ?_⟩⟩) (by (repeat' constructor); first | done | fail)
        rw [← hdec]; simp only [Md.lines]
        rw [if_neg (by omega), if_neg (by omega)]; simp
    · intro v cs' hv
      obtain ⟨cs1, rfl, ⟨t', last, acc, rfl, ha, hdec⟩ | hf⟩ := hv.out
      · have hd2 : acc = dec := by rw [← hdec, List.drop_eq_nil_of_le (Nat.le_refl _)]; simp [Md.signs, Md.lines]
        subst hd2
        refine .ready (.tail .head) ?_
        repeat' first | exact arI | refine Pst.mk ⟨?_, rfl⟩ (by (repeat' constructor); first | done | fail) | constructor | (refine fun _ _ (hq : Hold _) => ?_; replace hq := hq.out; obtain ⟨_, rfl, rfl⟩ := hq) | (refine fun _ _ (hq : Hold _) => ?_; replace hq := hq.out; obtain ⟨_, _, rfl, rfl⟩ := hq) | rintro _ _ ⟨rfl, rfl⟩ | rintro _ _ ⟨_, rfl, rfl⟩ | rintro _ _ ⟨_, _, rfl, rfl⟩ | (refine fun (hc : _ = _) => ?_; (try simp only [BB] at hc)) | refine fun (_ : Nat) => ?_ | refine fun (_ : _ ≤ _) => ?_ | refine fun (_ : _ < _) => ?_
        exact Pst.mk (.mk ⟨_, rfl, rfl⟩) (by (repeat' constructor); first | done | fail)
      · exact hf.elim
theorem c128 (x : Nat) : Int.toNat 128 ||| (IntKind.u8.wrap ((x &&& Int.toNat 63 : Nat) : Int)).toNat = 128 + x % 64 := by
  have h1 : x &&& Int.toNat 63 = x % 64 := and_63 x
  have h2 := Nat.mod_lt x (show 0 < 64 by omega)
  rw [h1, wrap_u8, show (((x % 64 : Nat) : Int) % 256).toNat = x % 64 by omega]
  exact or_128 _ (by omega)
theorem c192 {x : Int} (h : 0 ≤ x ∧ x < 64) : Int.toNat 192 ||| (IntKind.u8.wrap x).toNat = 192 + x.toNat := by
  rw [wrap_u8, show (x % 256).toNat = x.toNat by omega]
  exact or_192 _ (by omega)
theorem c224 {x : Int} (h : 0 ≤ x ∧ x < 32) : Int.toNat 224 ||| (IntKind.u8.wrap x).toNat = 224 + x.toNat := by
  rw [wrap_u8, show (x % 256).toNat = x.toNat by omega]
  exact or_224 _ (by omega)
theorem c240 {x : Int} (h : 0 ≤ x ∧ x < 16) : Int.toNat 240 ||| (IntKind.u8.wrap x).toNat = 240 + x.toNat := by
  rw [wrap_u8, show (x % 256).toNat = x.toNat by omega]
  exact or_240 _ (by omega)
theorem putR_nat {n : Nat} (h : n ≤ 1114111 ∧ ¬(55296 ≤ n ∧ n ≤ 57343)) : Md.putR (n : Int) =
    if n < 0x80 then [Md.byteN n]
    else if n < 0x800 then [Md.byteN (0xc0 + n / 64), Md.byteN (0x80 + n % 64)]
    else if n < 0x10000 then [Md.byteN (0xe0 + n / 4096), Md.byteN (0x80 + n / 64 % 64), Md.byteN (0x80 + n % 64)]
    else [Md.byteN (0xf0 + n / 262144), Md.byteN (0x80 + n / 4096 % 64), Md.byteN (0x80 + n / 64 % 64), Md.byteN (0x80 + n % 64)] := by
  unfold Md.putR
  have e1 : (if (n : Int) < 0 ∨ (n : Int) > 0x10ffff ∨ ((n : Int) ≥ 0xd800 ∧ (n : Int) ≤ 0xdfff) then 0xfffd else (n : Int).toNat) = n := by rw [if_neg (by omega)]; omega
  rw [e1]
theorem putPst {b l : List UInt8} {r : Int} {x : Nat} {cs : List Ck} (h : Md.putR r = l) (hk : KK cs (.own x 1 (bytesV (b ++ l)) :: R)) : Pst (fun cs' => Hold (∃ t', DV.lst x (zOf x 1) (bytesV (b ++ l)) = .lst t' (zOf t' 1) (bytesV (b ++ Md.putR r)) ∧ .own t' 1 (bytesV (b ++ Md.putR r)) :: R = cs')) cs := by
  subst h; exact Pst.mk (.mk ⟨_, rfl, rfl⟩) hk
theorem put_ok {t z : Nat} {b : List UInt8} {r : Int} (hz : z = zOf t 1) (hl : b.length < 1000000000000) (h0 : 0 ≤ r ∧ r ≤ 1114111 ∧ ¬(55296 ≤ r ∧ r ≤ 57343)) : F D 38 [.lst t z (bytesV b), .int .i32 r] (.own t 1 (bytesV b) :: R) (fun v cs' => Hold (∃ t', v = .lst t' (zOf t' 1) (bytesV (b ++ Md.putR r)) ∧ .own t' 1 (bytesV (b ++ Md.putR r)) :: R = cs')) := by
  subst hz
  obtain ⟨n, rfl⟩ := Int.eq_ofNat_of_zero_le h0.1
  refine F.of rfl rfl rfl ?_
  repeat' first | exact absurd hc (by omega) | (refine Arith.mk ?_; rw [c128]; omega) | (refine Arith.mk ?_; rw [c192 (by simp only [List.length_cons, List.length_map, List.length_append, List.length_nil, List.length_take, List.length_drop, Go.Dm.bytesV, Go.Dm.wid, Go.Dm.top, List.getD_cons_zero, Int.toNat_zero, Int.toNat_natCast, Int.reduceToNat, Int.reducePow, Nat.reducePow, Go.Dm.wrap_u8]; omega)]; simp only [List.length_cons, List.length_map, List.length_append, List.length_nil, List.length_take, List.length_drop, Go.Dm.bytesV, Go.Dm.wid, Go.Dm.top, List.getD_cons_zero, Int.toNat_zero, Int.toNat_natCast, Int.reduceToNat, Int.reducePow, Nat.reducePow, Go.Dm.wrap_u8]; omega) | (refine Arith.mk ?_; rw [c224 (by simp only [List.length_cons, List.length_map, List.length_append, List.length_nil, List.length_take, List.length_drop, Go.Dm.bytesV, Go.Dm.wid, Go.Dm.top, List.getD_cons_zero, Int.toNat_zero, Int.toNat_natCast, Int.reduceToNat, Int.reducePow, Nat.reducePow, Go.Dm.wrap_u8]; omega)]; simp only [List.length_cons, List.length_map, List.length_append, List.length_nil, List.length_take, List.length_drop, Go.Dm.bytesV, Go.Dm.wid, Go.Dm.top, List.getD_cons_zero, Int.toNat_zero, Int.toNat_natCast, Int.reduceToNat, Int.reducePow, Nat.reducePow, Go.Dm.wrap_u8]; omega) | (refine Arith.mk ?_; rw [c240 (by simp only [List.length_cons, List.length_map, List.length_append, List.length_nil, List.length_take, List.length_drop, Go.Dm.bytesV, Go.Dm.wid, Go.Dm.top, List.getD_cons_zero, Int.toNat_zero, Int.toNat_natCast, Int.reduceToNat, Int.reducePow, Nat.reducePow, Go.Dm.wrap_u8]; omega)]; simp only [List.length_cons, List.length_map, List.length_append, List.length_nil, List.length_take, List.length_drop, Go.Dm.bytesV, Go.Dm.wid, Go.Dm.top, List.getD_cons_zero, Int.toNat_zero, Int.toNat_natCast, Int.reduceToNat, Int.reducePow, Nat.reducePow, Go.Dm.wrap_u8]; omega) | exact arI | refine Pst.mk ⟨?_, rfl⟩ (by (repeat' constructor); first | done | fail) | constructor | (refine fun _ _ (hq : Hold _) => ?_; replace hq := hq.out; obtain ⟨_, rfl, rfl⟩ := hq) | (refine fun _ _ (hq : Hold _) => ?_; replace hq := hq.out; obtain ⟨_, _, rfl, rfl⟩ := hq) | rintro _ _ ⟨rfl, rfl⟩ | rintro _ _ ⟨_, rfl, rfl⟩ | rintro _ _ ⟨_, _, rfl, rfl⟩ | (refine fun (hc : _ = _) => ?_; (try simp only [BB] at hc)) | refine fun (_ : Nat) => ?_ | refine fun (_ : _ ≤ _) => ?_ | refine fun (_ : _ < _) => ?_
  all_goals refine putPst ?_ (.drop .refl)
  all_goals rw [putR_nat (by omega)]
  all_goals (try simp only [Int.toNat_natCast])
  · rw [if_pos (by omega), wrap_u8, show ((n : Int) % 256).toNat = n by omega]; rfl
  · rw [if_neg (by omega), if_pos (by omega), c128, c192 (by simp only [List.length_cons, List.length_map, List.length_append, List.length_nil, List.length_take, List.length_drop, Go.Dm.bytesV, Go.Dm.wid, Go.Dm.top, List.getD_cons_zero, Int.toNat_zero, Int.toNat_natCast, Int.reduceToNat, Int.reducePow, Nat.reducePow, Go.Dm.wrap_u8]; omega)]
    simp only [Md.byteN, List.length_cons, List.length_map, List.length_append, List.length_nil, List.length_take, List.length_drop, Go.Dm.bytesV, Go.Dm.wid, Go.Dm.top, List.getD_cons_zero, Int.toNat_zero, Int.toNat_natCast, Int.reduceToNat, Int.reducePow, Nat.reducePow, Go.Dm.wrap_u8]
    rw [show ((n : Int) / 64).toNat = n / 64 by omega]
  · rw [if_neg (by omega), if_neg (by omega), if_pos (by omega), c128, c128, c224 (by simp only [List.length_cons, List.length_map, List.length_append, List.length_nil, List.length_take, List.length_drop, Go.Dm.bytesV, Go.Dm.wid, Go.Dm.top, List.getD_cons_zero, Int.toNat_zero, Int.toNat_natCast, Int.reduceToNat, Int.reducePow, Nat.reducePow, Go.Dm.wrap_u8]; omega)]
    simp only [Md.byteN, List.length_cons, List.length_map, List.length_append, List.length_nil, List.length_take, List.length_drop, Go.Dm.bytesV, Go.Dm.wid, Go.Dm.top, List.getD_cons_zero, Int.toNat_zero, Int.toNat_natCast, Int.reduceToNat, Int.reducePow, Nat.reducePow, Go.Dm.wrap_u8]
    rw [show ((n : Int) / 64).toNat = n / 64 by omega, show ((n : Int) / 4096).toNat = n / 4096 by omega]
  · rw [if_neg (by omega), if_neg (by omega), if_neg (by omega), c128, c128, c128, c240 (by simp only [List.length_cons, List.length_map, List.length_append, List.length_nil, List.length_take, List.length_drop, Go.Dm.bytesV, Go.Dm.wid, Go.Dm.top, List.getD_cons_zero, Int.toNat_zero, Int.toNat_natCast, Int.reduceToNat, Int.reducePow, Nat.reducePow, Go.Dm.wrap_u8]; omega)]
    simp only [Md.byteN, List.length_cons, List.length_map, List.length_append, List.length_nil, List.length_take, List.length_drop, Go.Dm.bytesV, Go.Dm.wid, Go.Dm.top, List.getD_cons_zero, Int.toNat_zero, Int.toNat_natCast, Int.reduceToNat, Int.reducePow, Nat.reducePow, Go.Dm.wrap_u8]
    rw [show ((n : Int) / 64).toNat = n / 64 by omega, show ((n : Int) / 4096).toNat = n / 4096 by omega, show ((n : Int) / 262144).toNat = n / 262144 by omega]
theorem put_F {t z : Nat} {b : List UInt8} {r : Int} (hz : z = zOf t 1) (hl : b.length < 1000000000000) : F D 38 [.lst t z (bytesV b), .int .i32 r] (.own t 1 (bytesV b) :: R) (fun v cs' => Hold (∃ t', v = .lst t' (zOf t' 1) (bytesV (b ++ Md.putR r)) ∧ .own t' 1 (bytesV (b ++ Md.putR r)) :: R = cs')) := by
  by_cases h0 : 0 ≤ r ∧ r ≤ 1114111 ∧ ¬(55296 ≤ r ∧ r ≤ 57343)
  · exact put_ok hz hl h0
  · have e : Md.putR r = Md.putR 65533 := by
      unfold Md.putR
      have e1 : (if r < 0 ∨ r > 0x10ffff ∨ (r ≥ 0xd800 ∧ r ≤ 0xdfff) then 0xfffd else r.toNat) = 0xfffd := if_pos (by omega)
      rw [e1]; rfl
    rw [e]
    subst hz
    refine F.of rfl rfl rfl ?_
    repeat' first | exact put_ok rfl hl (by omega) | exact absurd hc (by omega) | exact arI | refine Pst.mk ⟨?_, rfl⟩ (by (repeat' constructor); first | done | fail) | constructor | (refine fun _ _ (hq : Hold _) => ?_; replace hq := hq.out; obtain ⟨_, rfl, rfl⟩ := hq) | (refine fun _ _ (hq : Hold _) => ?_; replace hq := hq.out; obtain ⟨_, _, rfl, rfl⟩ := hq) | rintro _ _ ⟨rfl, rfl⟩ | rintro _ _ ⟨_, rfl, rfl⟩ | rintro _ _ ⟨_, _, rfl, rfl⟩ | (refine fun (hc : _ = _) => ?_; (try simp only [BB] at hc)) | refine fun (_ : Nat) => ?_ | refine fun (_ : _ ≤ _) => ?_ | refine fun (_ : _ < _) => ?_
    all_goals exact Pst.mk (.mk ⟨_, rfl, rfl⟩) .refl
theorem putR_len (r : Int) : (Md.putR r).length ≤ 4 := by
  unfold Md.putR
  dsimp only
  split <;> (repeat' split) <;> simp
theorem encode_F {t z : Nat} {rs : List Int} (hz : z = zOf t 1) (hl : rs.length < 100000000000) : F D 17 [.lst t z (rs.map I32)] R (fun v cs' => Hold (∃ t', v = .lst t' (zOf t' 1) (bytesV (Md.encode rs)) ∧ .own t' 1 (bytesV (Md.encode rs)) :: R = cs')) := by
  subst hz
  refine F.of rfl rfl rfl ?_
  repeat' first | exact arI | refine Pst.mk ⟨?_, rfl⟩ (by (repeat' constructor); first | done | fail) | constructor | (refine fun _ _ (hq : Hold _) => ?_; replace hq := hq.out; obtain ⟨_, rfl, rfl⟩ := hq) | (refine fun _ _ (hq : Hold _) => ?_; replace hq := hq.out; obtain ⟨_, _, rfl, rfl⟩ := hq) | rintro _ _ ⟨rfl, rfl⟩ | rintro _ _ ⟨_, rfl, rfl⟩ | rintro _ _ ⟨_, _, rfl, rfl⟩ | (refine fun (hc : _ = _) => ?_; (try simp only [BB] at hc)) | refine fun (_ : Nat) => ?_ | refine fun (_ : _ ≤ _) => ?_ | refine fun (_ : _ < _) => ?_
  refine RS.nilOwn 1 (RS.loopW (α := Nat × Nat × List UInt8) (fun a => [(6, .lst t (zOf t 1) (rs.map I32)), (7, .int .i64 rs.length), (8, .int .i64 (a.1 : Nat)), (3, .lst a.2.1 (zOf a.2.1 1) (bytesV a.2.2))]) (fun a => .own a.2.1 1 (bytesV a.2.2) :: R)
    (fun a => a.1 ≤ rs.length ∧ a.2.2.length ≤ 4 * a.1 ∧ a.2.2 ++ Md.encode (rs.drop a.1) = Md.encode rs) (fun a => rs.length - a.1) (0, 0, []) ⟨by simp, by simp, by simp⟩ ⟨rfl, rfl, rfl, rfl, trivial⟩ .refl ?_)
  rintro ⟨i, t', acc⟩ ⟨h1, h2, h3⟩ ih
  dsimp only [ents] at *
  repeat' first | exact put_F rfl (by omega) | exact arI | refine Pst.mk ⟨?_, rfl⟩ (by (repeat' constructor); first | done | fail) | constructor | (refine fun _ _ (hq : Hold _) => ?_; replace hq := hq.out; obtain ⟨_, rfl, rfl⟩ := hq) | (refine fun _ _ (hq : Hold _) => ?_; replace hq := hq.out; obtain ⟨_, _, rfl, rfl⟩ := hq) | rintro _ _ ⟨rfl, rfl⟩ | rintro _ _ ⟨_, rfl, rfl⟩ | rintro _ _ ⟨_, _, rfl, rfl⟩ | (refine fun (hc : _ = _) => ?_; (try simp only [BB] at hc)) | refine fun (_ : Nat) => ?_ | refine fun (_ : _ ≤ _) => ?_ | refine fun (_ : _ < _) => ?_
  · refine ih _ _ (i + 1, _, _) ?_ (by dsimp only; omega) ⟨rfl, rfl, rfl, rfl, trivial⟩ .refl
    have hlt : i < rs.length := by omega
    have := putR_len (rs.getD i default)
    refine ⟨by dsimp only; omega, by simp only [Int.toNat_natCast, List.length_append]; omega, ?_⟩
    rw [← h3]
    dsimp only
    have hd : rs.drop i = rs.getD i default :: rs.drop (i + 1) := by
      rw [List.drop_eq_getElem_cons hlt, List.getD_eq_getElem?_getD, List.getElem?_eq_getElem hlt]; rfl
    rw [hd]
    simp [Md.encode]
  · obtain rfl : i = rs.length := by omega
    have e : acc = Md.encode rs := by rw [← h3]; simp [Md.encode]
    rw [e]
    exact Pst.mk (.mk ⟨_, rfl, rfl⟩) .refl
end Go.Proofs.YticnenofiibpgaaDoor.Code
/- What the chars layer's functions do. -/
namespace Go.Proofs.YticnenofiibpgaaDoor.Code
open Go.Dm Go.Dm.C
set_option linter.unusedSimpArgs false
set_option linter.unusedVariables false
set_option linter.unnecessarySimpa false
set_option maxRecDepth 10000
attribute [local irreducible] Go.Dm.F Go.Dm.RS Go.Dm.Y Go.Dm.FD Go.Dm.FZ1 Go.Dm.Hold
variable {R : List Ck}
theorem winGlob : D.glob 0 = some (Md.windows.map (DV.int .i32)) := rfl
theorem win_get {k : Nat} (h : k < 32) : (Md.windows.map (DV.int .i32))[k]? = some (.int .i32 (Md.windows.getD k 0)) := by
  rw [List.getElem?_map]
  have : Md.windows[k]? = some Md.windows[k] := List.getElem?_eq_getElem (by simpa [Md.windows] using h)
  rw [this, List.getD_eq_getElem?_getD, this]; rfl
theorem numeric_F {n : Int} (hn : n ≤ 9223372036854775807) : F D 20 [.int .i64 n] R (fun v cs' => v = .int .i32 (Md.numeric n) ∧ R = cs') := by
  refine F.of rfl rfl rfl ?_
  repeat' first | exact arI | refine Pst.mk ⟨?_, rfl⟩ (by (repeat' constructor); first | done | fail) | constructor | (refine fun _ _ (hq : Hold _) => ?_; replace hq := hq.out; obtain ⟨_, rfl, rfl⟩ := hq) | (refine fun _ _ (hq : Hold _) => ?_; replace hq := hq.out; obtain ⟨_, _, rfl, rfl⟩ := hq) | rintro _ _ ⟨rfl, rfl⟩ | rintro _ _ ⟨_, rfl, rfl⟩ | rintro _ _ ⟨_, _, rfl, rfl⟩ | (refine fun (hc : _ = _) => ?_; (try simp only [BB] at hc)) | refine fun (_ : Nat) => ?_ | refine fun (_ : _ ≤ _) => ?_ | refine fun (_ : _ < _) => ?_
  · congr 1; unfold Md.numeric; rw [if_pos (by omega)]
  · have := win_get (k := (n - 128).toNat) (by omega)
    rw [List.getElem?_drop, Nat.mul_one, Nat.add_zero]
    refine this.trans ?_
    unfold Md.numeric; rw [if_neg (by omega), if_pos (by omega)]
  · unfold Md.numeric; rw [if_neg (by omega), if_neg (by omega), wrap_i32_in (by omega)]
theorem hex_le (r : Int) : -1 ≤ Md.hex r ∧ Md.hex r ≤ 15 := by unfold Md.hex; repeat' split <;> omega
theorem number_F {rs : List Int} {base : Int} {t z : Nat} (hz : z = zOf t 1) (hb : 2 ≤ base ∧ base ≤ 16) (hl : rs.length < 100000000000) : F D 87 [.lst t z (rs.map I32), .int .i64 base] R (fun v cs' => v = .tup [.int .i64 (Md.number base rs 0 0).1, .int .i64 ((Md.number base rs 0 0).2 : Nat)] ∧ R = cs') := by
  subst hz
  refine F.of rfl rfl rfl ?_
  repeat' first | exact arI | refine Pst.mk ⟨?_, rfl⟩ (by (repeat' constructor); first | done | fail) | constructor | (refine fun _ _ (hq : Hold _) => ?_; replace hq := hq.out; obtain ⟨_, rfl, rfl⟩ := hq) | (refine fun _ _ (hq : Hold _) => ?_; replace hq := hq.out; obtain ⟨_, _, rfl, rfl⟩ := hq) | rintro _ _ ⟨rfl, rfl⟩ | rintro _ _ ⟨_, rfl, rfl⟩ | rintro _ _ ⟨_, _, rfl, rfl⟩ | (refine fun (hc : _ = _) => ?_; (try simp only [BB] at hc)) | refine fun (_ : Nat) => ?_ | refine fun (_ : _ ≤ _) => ?_ | refine fun (_ : _ < _) => ?_
  refine RS.loopW (α := Nat × Int) (fun a => [(0, .lst t (zOf t 1) (rs.map I32)), (1, .int .i64 base), (6, .int .i64 a.2), (7, .int .i64 (a.1 : Nat))]) (fun _ => R)
    (fun a => a.1 ≤ rs.length ∧ 0 ≤ a.2 ∧ a.2 ≤ 1114112 ∧ Md.number base (rs.drop a.1) a.2 a.1 = Md.number base rs 0 0) (fun a => rs.length - a.1) (0, 0) ⟨by simp, by simp, by simp, by simp⟩ ⟨rfl, rfl, rfl, rfl, trivial⟩ .refl ?_
  rintro ⟨i, n⟩ ⟨h1, h2, h3, h4⟩ ih
  dsimp only [ents] at *
  have hh := hex_le (rs.getD i default)
  have hm : 0 ≤ n * base ∧ n * base ≤ 1114112 * 16 := ⟨Int.mul_nonneg h2 (by omega), Int.mul_le_mul h3 hb.2 (by omega) (by omega)⟩
  have hd : i < rs.length → rs.drop i = rs.getD i default :: rs.drop (i + 1) := fun hlt => by
    rw [List.drop_eq_getElem_cons hlt, List.getD_eq_getElem?_getD, List.getElem?_eq_getElem hlt]; rfl
  repeat' first | exact hex_F | exact arI | refine Pst.mk ⟨?_, rfl⟩ (by (repeat' constructor); first | done | fail) | constructor | (refine fun _ _ (hq : Hold _) => ?_; replace hq := hq.out; obtain ⟨_, rfl, rfl⟩ := hq) | (refine fun _ _ (hq : Hold _) => ?_; replace hq := hq.out; obtain ⟨_, _, rfl, rfl⟩ := hq) | rintro _ _ ⟨rfl, rfl⟩ | rintro _ _ ⟨_, rfl, rfl⟩ | rintro _ _ ⟨_, _, rfl, rfl⟩ | (refine fun (hc : _ = _) => ?_; (try simp only [BB] at hc)) | refine fun (_ : Nat) => ?_ | refine fun (_ : _ ≤ _) => ?_ | refine fun (_ : _ < _) => ?_
  · rw [hd (by omega)] at h4
    simp only [Md.number] at h4
    rw [if_pos (by omega)] at h4
    rw [← h4]
  · rw [hd (by omega)] at h4
    simp only [Md.number] at h4
    rw [if_neg (by omega)] at h4
    exact ih _ _ (i + 1, min (n * base + Md.hex (rs.getD i default)) 1114112) ⟨by dsimp only; omega, by dsimp only; omega, by dsimp only; omega, h4⟩ (by dsimp only; omega) ⟨rfl, rfl, rfl, rfl, trivial⟩ .refl
  · rw [List.drop_eq_nil_of_le (by omega)] at h4
    simp only [Md.number] at h4
    rw [← h4]
def encE (e : Md.Entry) : DV := .agg [.str e.name, .int .i32 e.sign, .bool e.bare]
theorem table_F : F D 37 [] R (fun v cs' => Hold (∃ t, v = .lst t (zOf t 3) (Md.table.map encE) ∧ R = cs')) := by
  refine F.of rfl rfl rfl ?_
  repeat' first | exact arI | refine Pst.mk ⟨?_, rfl⟩ (by (repeat' constructor); first | done | fail) | constructor | (refine fun _ _ (hq : Hold _) => ?_; replace hq := hq.out; obtain ⟨_, rfl, rfl⟩ := hq) | (refine fun _ _ (hq : Hold _) => ?_; replace hq := hq.out; obtain ⟨_, _, rfl, rfl⟩ := hq) | rintro _ _ ⟨rfl, rfl⟩ | rintro _ _ ⟨_, rfl, rfl⟩ | rintro _ _ ⟨_, _, rfl, rfl⟩ | (refine fun (hc : _ = _) => ?_; (try simp only [BB] at hc)) | refine fun (_ : Nat) => ?_ | refine fun (_ : _ ≤ _) => ?_ | refine fun (_ : _ < _) => ?_
  exact Pst.mk (.mk ⟨_, rfl, rfl⟩) (.drop .refl)
def mAt (rs : List Int) (i : Nat) : Int × Nat × Bool := ((Md.table.zipIdx).take i).foldl (fun a p => Md.matchStep runeBytes rs a p.2 p.1) (-1, 0, false)
theorem mAt_succ {rs : List Int} {i : Nat} (h : i < Md.table.length) : mAt rs (i + 1) = Md.matchStep runeBytes rs (mAt rs i) i (Md.table.getD i default) := by
  unfold mAt
  rw [List.take_add_one, List.getElem?_eq_getElem (by simpa using h), List.foldl_append]
  simp [List.getD_eq_getElem?_getD, List.getElem?_eq_getElem h]
theorem match_F {rs : List Int} {t z : Nat} (hz : z = zOf t 1) (hl : rs.length < 100000000000) : F D 16 [.lst t z (rs.map I32)] R (fun v cs' => Hold (∃ t', v = .tup [.lst t' (zOf t' 1) ((Md.matchT runeBytes rs).1.map I32), .int .i64 ((Md.matchT runeBytes rs).2.1 : Nat), .bool (Md.matchT runeBytes rs).2.2] ∧ R = cs')) := by
  subst hz
  refine F.of rfl rfl rfl ?_
  repeat' first | exact table_F | exact arI | refine Pst.mk ⟨?_, rfl⟩ (by (repeat' constructor); first | done | fail) | constructor | (refine fun _ _ (hq : Hold _) => ?_; replace hq := hq.out; obtain ⟨_, rfl, rfl⟩ := hq) | (refine fun _ _ (hq : Hold _) => ?_; replace hq := hq.out; obtain ⟨_, _, rfl, rfl⟩ := hq) | rintro _ _ ⟨rfl, rfl⟩ | rintro _ _ ⟨_, rfl, rfl⟩ | rintro _ _ ⟨_, _, rfl, rfl⟩ | (refine fun (hc : _ = _) => ?_; (try simp only [BB] at hc)) | refine fun (_ : Nat) => ?_ | refine fun (_ : _ ≤ _) => ?_ | refine fun (_ : _ < _) => ?_
  rename_i t1
  refine RS.loopW (α := Nat × Int × Nat × Bool) (fun a => [(0, .lst t (zOf t 1) (rs.map I32)), (5, .int .i64 a.2.1), (6, .int .i64 (a.2.2.1 : Nat)), (7, .bool a.2.2.2), (13, .lst t1 (zOf t1 3) (Md.table.map encE)), (14, .int .i64 Md.table.length), (15, .int .i64 (a.1 : Nat))]) (fun _ => R)
    (fun a => a.1 ≤ Md.table.length ∧ a.2 = mAt rs a.1 ∧ -1 ≤ a.2.1 ∧ a.2.1 < 61) (fun a => Md.table.length - a.1) (0, -1, 0, false) ⟨by simp, rfl, by simp, by simp⟩ ⟨rfl, rfl, rfl, rfl, rfl, rfl, rfl, trivial⟩ .refl ?_
  rintro ⟨i, b, n, f⟩ ⟨h1, h2, h3, h4⟩ ih
  dsimp only [ents] at *
  have h61 : Md.table.length = 61 := rfl
  have hstep := fun h : i < Md.table.length => mAt_succ (rs := rs) h
  rw [← h2] at hstep
  generalize he : Md.table.getD i default = e at hstep
  have hX : (decide ((e.name.length : Int) < (rs.length : Int)) && rs.getD (e.name.length : Int).toNat default == 59) = (decide (e.name.length < rs.length) && rs.getD e.name.length 0 == 59) := by
    simp only [Int.toNat_natCast, Int.ofNat_lt]; rfl
  generalize hfin : (decide (e.name.length < rs.length) && rs.getD e.name.length 0 == 59) = fin at hX
  simp only [Md.matchStep, hfin] at hstep
  repeat' first | exact table_F | exact arI | refine Pst.mk ⟨?_, rfl⟩ (by (repeat' constructor); first | done | fail) | constructor | (refine fun _ _ (hq : Hold _) => ?_; replace hq := hq.out; obtain ⟨_, rfl, rfl⟩ := hq) | (refine fun _ _ (hq : Hold _) => ?_; replace hq := hq.out; obtain ⟨_, _, rfl, rfl⟩ := hq) | rintro _ _ ⟨rfl, rfl⟩ | rintro _ _ ⟨_, rfl, rfl⟩ | rintro _ _ ⟨_, _, rfl, rfl⟩ | (refine fun (hc : _ = _) => ?_; (try simp only [BB] at hc)) | refine fun (_ : Nat) => ?_ | refine fun (_ : _ ≤ _) => ?_ | refine fun (_ : _ < _) => ?_
  · rw [he] at hc
    refine ih _ _ (i + 1, b, n, f) ⟨by dsimp only; omega, ?_, h3, h4⟩ (by dsimp only; omega) ⟨rfl, rfl, rfl, rfl, rfl, rfl, rfl, trivial⟩ (by (repeat' constructor); first | done | fail)
    rw [hstep (by omega), if_pos (hc.imp (fun h => by omega) id)]
  · rename_i hA hB
    rw [he] at hc hA hB
    have hf : fin = true := by rw [← hfin]; simp only [Bool.and_eq_true, decide_eq_true_eq, beq_iff_eq]; exact ⟨by omega, hB.2⟩
    refine ih _ _ (i + 1, i, e.name.length + 1, fin) ⟨by dsimp only; omega, ?_, by dsimp only; omega, by dsimp only; omega⟩ (by dsimp only; omega) ⟨rfl, rfl, ?_, ?_, rfl, rfl, rfl, trivial⟩ (by (repeat' constructor); first | done | fail)
    · rw [hstep (by omega), if_neg (fun h => h.elim (fun h => by omega) (fun h => h hA.2))]
      simp only [hf, if_true, Bool.true_or, Bool.true_and]
      rw [if_pos (by simp only [decide_eq_true_eq]; omega)]
    · rw [← he]; rfl
    · rw [← hX, ← he]; rfl
  · rename_i hA hB
    rw [he] at hc hA hB
    have hf : fin = true := by rw [← hfin]; simp only [Bool.and_eq_true, decide_eq_true_eq, beq_iff_eq]; exact ⟨by omega, hB.2⟩
    refine ih _ _ (i + 1, b, n, f) ⟨by dsimp only; omega, ?_, h3, h4⟩ (by dsimp only; omega) ⟨rfl, rfl, rfl, rfl, rfl, rfl, rfl, trivial⟩ (by (repeat' constructor); first | done | fail)
    rw [hstep (by omega), if_neg (fun h => h.elim (fun h => by omega) (fun h => h hA.2))]
    simp only [hf, if_true, Bool.true_or, Bool.true_and]
    rw [if_neg (by have := hc (.inl ⟨by omega, hB.2⟩); simp only [decide_eq_true_eq]; omega)]
  · rename_i hA hB
    rw [he] at hc hA hB
    have hf : fin = false := by
      rw [← hfin]; simp only [Bool.and_eq_false_imp, decide_eq_true_eq, beq_eq_false_iff_ne]
      exact fun h => hB (by omega)
    refine ih _ _ (i + 1, i, e.name.length, fin) ⟨by dsimp only; omega, ?_, by dsimp only; omega, by dsimp only; omega⟩ (by dsimp only; omega) ⟨rfl, rfl, ?_, ?_, rfl, rfl, rfl, trivial⟩ (by (repeat' constructor); first | done | fail)
    · rw [hstep (by omega), if_neg (fun h => h.elim (fun h => by omega) (fun h => h hA.2))]
      have hbare : e.bare = true := hc.1.resolve_left (fun h => hB h.1 h.2)
      simp only [hf, Bool.false_eq_true, if_false, Bool.false_or, hbare, Bool.true_and]
      rw [if_pos (by simp only [decide_eq_true_eq]; omega)]
    · rw [← he]; rfl
    · rw [← hX, ← he]; rfl
  · rename_i hA hB
    rw [he] at hc hA hB
    have hf : fin = false := by
      rw [← hfin]; simp only [Bool.and_eq_false_imp, decide_eq_true_eq, beq_eq_false_iff_ne]
      exact fun h => hB (by omega)
    refine ih _ _ (i + 1, b, n, f) ⟨by dsimp only; omega, ?_, h3, h4⟩ (by dsimp only; omega) ⟨rfl, rfl, rfl, rfl, rfl, rfl, rfl, trivial⟩ (by (repeat' constructor); first | done | fail)
    rw [hstep (by omega), if_neg (fun h => h.elim (fun h => by omega) (fun h => h hA.2))]
    simp only [hf, Bool.false_eq_true, if_false, Bool.false_or]
    rw [if_neg (fun h => by
      simp only [Bool.and_eq_true, decide_eq_true_eq] at h
      have := hc (.inr h.1)
      omega)]
  all_goals
    have hall : Md.matchAll runeBytes rs = (b, n, f) := by
      obtain rfl : i = Md.table.length := by omega
      rw [h2]; unfold mAt Md.matchAll
      rw [List.take_of_length_le (by simp)]
  · have e1 : Md.matchT runeBytes rs = ([], 0, false) := by unfold Md.matchT; rw [hall]; dsimp only; rw [if_pos hc]
    rw [e1]
    exact Pst.mk (.mk ⟨0, rfl, rfl⟩) .refl
  · have hb : ¬ b < 0 := by assumption
    have e1 : Md.matchT runeBytes rs = ([(Md.table.getD b.toNat default).sign, 8402], n, f) := by unfold Md.matchT; rw [hall]; dsimp only; rw [if_neg hb, if_pos hc]
    rw [e1]
    exact Pst.mk (.mk ⟨_, rfl, rfl⟩) (.drop (.drop .refl))
  · have hb : ¬ b < 0 := by assumption
    have e1 : Md.matchT runeBytes rs = ([(Md.table.getD b.toNat default).sign], n, f) := by unfold Md.matchT; rw [hall]; dsimp only; rw [if_neg hb, if_neg hc]
    rw [e1]
    exact Pst.mk (.mk ⟨_, rfl, rfl⟩) (.drop .refl)
end Go.Proofs.YticnenofiibpgaaDoor.Code
/- The lexer's object as a piece of a heap; bundles of pieces. -/
namespace Go.Dm
set_option linter.unusedSimpArgs false
set_option linter.unusedVariables false
set_option linter.unnecessarySimpa false
set_option maxRecDepth 10000
/-! ### pieces that are taken together -/
def Ck.okf (o : Nat → Option HObj) (t : Nat → Option Nat) : Ck → Prop
  | .obj id x => o id = some x
  | .own a sz xs => (a = 0 ∧ xs = []) ∨ (2 ≤ a ∧ t a = some sz)
  | .pr p => p.ok o t
theorem Ck.okf_ok {h : Heap} {c : Ck} : c.okf h.objs.get h.tags.get ↔ c.ok h := by cases c <;> exact Iff.rfl
theorem Ck.okf_loc {o o' : Nat → Option HObj} {t t' : Nat → Option Nat} {c : Ck} (hl : ∀ i, c.foot i → o i = o' i ∧ t i = t' i) (hc : c.okf o t) : c.okf o' t' := by
  cases c with
  | obj id x => show o' id = some x; rw [← (hl id rfl).1]; exact hc
  | own a sz xs =>
    rcases hc with h0 | ⟨h2, ht⟩
    · exact .inl h0
    · exact .inr ⟨h2, by rw [← (hl a ⟨rfl, h2⟩).2]; exact ht⟩
  | pr p => exact p.loc _ _ _ _ hl hc
def bun {α : Type} (F : Nat → Prop) (f : α → List Ck) (P : α → Prop) : HP where
  foot := F
  ok o t := ∃ a, P a ∧ (∀ c ∈ f a, c.okf o t) ∧ (∀ i, F i ↔ ∃ c ∈ f a, c.foot i) ∧ (f a).Pairwise fun (x y : Ck) => ∀ i : Nat, ¬(x.foot i ∧ y.foot i)
  loc := fun o t o' t' h ⟨a, h1, h2, h3, h4⟩ => ⟨a, h1, fun c hc => Ck.okf_loc (fun i hi => h i ((h3 i).2 ⟨c, hc, hi⟩)) (h2 c hc), h3, h4⟩
theorem Sat.opn {α : Type} {F : Nat → Prop} {f : α → List Ck} {P : α → Prop} {R : List Ck} {h : Heap} (hs : Sat h (.pr (bun F f P) :: R)) : ∃ a, P a ∧ Sat h (f a ++ R) := by
  obtain ⟨a, h1, h2, h3, h4⟩ := (hs.ok _ (List.mem_cons_self ..)).1
  have hlt := (hs.ok _ (List.mem_cons_self ..)).2
  obtain ⟨s1, s2⟩ := List.pairwise_cons.1 hs.sep
  refine ⟨a, h1, hs.two, fun c hc => ?_, List.pairwise_append.2 ⟨h4, s2, fun x hx y hy i ⟨hi, hj⟩ => s1 y hy i ⟨(h3 i).2 ⟨x, hx, hi⟩, hj⟩⟩⟩
  rcases List.mem_append.1 hc with hc | hc
  · exact ⟨Ck.okf_ok.1 (h2 c hc), fun i hi => hlt i ((h3 i).2 ⟨c, hc, hi⟩)⟩
  · exact hs.ok c (List.mem_cons_of_mem _ hc)
theorem Sat.cls {α : Type} {F : Nat → Prop} {f : α → List Ck} {P : α → Prop} {R : List Ck} {h : Heap} {a : α} (hs : Sat h (f a ++ R)) (hp : P a) (hF : ∀ i, F i ↔ ∃ c ∈ f a, c.foot i) : Sat h (.pr (bun F f P) :: R) := by
  obtain ⟨s1, s2, s3⟩ := List.pairwise_append.1 hs.sep
  refine ⟨hs.two, fun c hc => ?_, List.pairwise_cons.2 ⟨fun y hy i ⟨hi, hj⟩ => ?_, s2⟩⟩
  · rcases List.mem_cons.1 hc with rfl | hc
    · refine ⟨⟨a, hp, fun c hc => Ck.okf_ok.2 (hs.ok c (List.mem_append_left _ hc)).1, hF, s1⟩, fun i hi => ?_⟩
      obtain ⟨c, hc, hi⟩ := (hF i).1 hi
      exact (hs.ok c (List.mem_append_left _ hc)).2 i hi
    · exact hs.ok c (List.mem_append_right _ hc)
  · obtain ⟨c, hc, hi⟩ := (hF i).1 hi
    exact s3 c hc y hy i ⟨hi, hj⟩
section
variable {D : DProg}
theorem Rem.perm' {c : Ck} {a b : List Ck} (hm : Rem c a b) : a.Perm (c :: b) := by
  induction hm with
  | head => exact .refl _
  | tail _ ih => exact (ih.cons _).trans (.swap ..)
theorem Upd1.rem {c n : Ck} {cs cs2 : List Ck} (hu : Upd1 c n cs cs2) : ∃ R, cs.Perm (c :: R) ∧ cs2.Perm (n :: R) := by
  induction hu with
  | head => exact ⟨_, .refl _, .refl _⟩
  | @tail x r r' _ ih =>
    obtain ⟨R, h1, h2⟩ := ih
    exact ⟨x :: R, (h1.cons x).trans (.swap ..), (h2.cons x).trans (.swap ..)⟩
theorem Upd.rem {α : Type} {c : Ck} {n : α → Ck} {cs : List Ck} {cs2 : α → List Ck} (hu : Upd c n cs cs2) : ∃ R, cs.Perm (c :: R) ∧ ∀ a, (cs2 a).Perm (n a :: R) := by
  induction hu with
  | head => exact ⟨_, .refl _, fun _ => .refl _⟩
  | @tail x r r' _ ih =>
    obtain ⟨R, h1, h2⟩ := ih
    exact ⟨x :: R, (h1.cons x).trans (.swap ..), fun a => ((h2 a).cons x).trans (.swap ..)⟩
theorem Me.upd {c : Ck} {cs : List Ck} (hm : Me c cs) : Upd1 c c cs cs := by
  induction hm with
  | head => exact .head
  | tail _ ih => exact .tail ih
theorem F.at1 {f : Nat} {args : List DV} {c n : Ck} {cs cs2 : List Ck} {P : DV → Prop} (hu : Upd1 c n cs cs2) (hF : ∀ R, F D f args (c :: R) (fun v cs' => P v ∧ n :: R = cs')) : F D f args cs (fun v cs' => P v ∧ cs2 = cs') := by
  obtain ⟨R, h1, h2⟩ := hu.rem
  refine F.perm h1 (F.post (hF R) fun v cs' ⟨hp, he⟩ => ⟨cs2, ?_, hp, rfl⟩)
  subst he; exact h2.symm
theorem F.atM {f : Nat} {args : List DV} {c : Ck} {cs : List Ck} {P : DV → Prop} (hm : Me c cs) (hF : ∀ R, F D f args (c :: R) (fun v cs' => P v ∧ c :: R = cs')) : F D f args cs (fun v cs' => P v ∧ cs = cs') := F.at1 hm.upd hF
theorem F.atG {α : Type} {f : Nat} {args : List DV} {c : Ck} {n : α → Ck} {cs : List Ck} {cs2 : α → List Ck} {P : α → DV → Prop} (hu : Upd c n cs cs2) (hF : ∀ R, F D f args (c :: R) (fun v cs' => Hold (∃ a, P a v ∧ n a :: R = cs'))) : F D f args cs (fun v cs' => Hold (∃ a, P a v ∧ cs2 a = cs')) := by
  obtain ⟨R, h1, h2⟩ := hu.rem
  refine F.perm h1 (F.post (hF R) fun v cs' hq => ?_)
  obtain ⟨a, hp, he⟩ := hq.out
  subst he
  exact ⟨cs2 a, (h2 a).symm, Hold.mk ⟨a, hp, rfl⟩⟩
theorem F.opn {α : Type} {F' : Nat → Prop} {f : α → List Ck} {P : α → Prop} {g : Nat} {args : List DV} {R : List Ck} {Q : DV → List Ck → Prop} (hF : ∀ a, P a → F D g args (f a ++ R) Q) : F D g args (.pr (bun F' f P) :: R) Q := fun h hs =>
  let ⟨a, hp, hs'⟩ := hs.opn; hF a hp h hs'
theorem RS.opn {α : Type} {F' : Nat → Prop} {f : α → List Ck} {P : α → Prop} {k : List It} {st : St} {R : List Ck} {Q : DX → St → List Ck → Prop} (hF : ∀ a, P a → RS D k st (f a ++ R) Q) : RS D k st (.pr (bun F' f P) :: R) Q := fun fr h ha hs =>
  let ⟨a, hp, hs'⟩ := hs.opn; hF a hp fr h ha hs'
theorem F.conv {f : Nat} {args : List DV} {cs : List Ck} {P P' : DV → List Ck → Prop} (hf : F D f args cs P) (hp : ∀ v cs', P v cs' → ∃ cs2, (∀ h, Sat h cs' → Sat h cs2) ∧ P' v cs2) : F D f args cs P' := fun h hs =>
  let ⟨v, h', cs', r1, r2, r3⟩ := hf h hs; let ⟨cs2, q1, q2⟩ := hp _ _ r3; ⟨v, h', cs2, r1, q1 _ r2, q2⟩
theorem F.from {f : Nat} {args : List DV} {cs cs2 : List Ck} {P : DV → List Ck → Prop} (hs : ∀ h, Sat h cs → Sat h cs2) (hf : F D f args cs2 P) : F D f args cs P := fun h hh => hf h (hs h hh)
theorem RS.from {k : List It} {st : St} {cs cs2 : List Ck} {Q : DX → St → List Ck → Prop} (hs : ∀ h, Sat h cs → Sat h cs2) (hr : RS D k st cs2 Q) : RS D k st cs Q := fun fr h ha hh => hr fr h ha (hs h hh)
end
theorem Pst.of {Q : List Ck → Prop} {cs cs' : List Ck} (hs : ∀ h, Sat h cs → Sat h cs') (hq : Q cs') : Pst Q cs := by unfold Pst; exact ⟨cs', hs, hq⟩

theorem Pst.nil {Q : List Ck → Prop} {cs : List Ck} (sz : Nat) (hq : Pst Q (.own 0 sz [] :: cs)) : Pst Q cs := by
  obtain ⟨cs', h1, h2⟩ := hq.out
  exact Pst.of (fun h hs => h1 h (hs.nilOwn sz)) h2

theorem LD.id {cs : List Ck} {sh : Shape} {a v : DV} (h : LD cs sh a v) : LD cs sh a v := h
theorem FC.go0 {D : DProg} {g : Nat} {args : List DV} {cs : List Ck} {P : DV → List Ck → Prop} (h : F D g args cs P) : FC D (.fn (.func g) [] []) args cs P := by
  show F D g ([] ++ args ++ []) cs P
  rw [List.append_nil]; exact h

/-! ### tokens, the lexer's object -/
def encA (a : Md.Str × Md.Str) : DV := .agg [.str a.1, .str a.2]
def encT (p : Md.Tok × Nat) : DV := .agg [.int .i64 p.1.kind, .str p.1.name, .lst p.2 (zOf p.2 2) (p.1.attrs.map encA), .bool p.1.self, .str p.1.data, .str p.1.pub, .str p.1.sys, .bool p.1.hasPub, .bool p.1.hasSys, .bool p.1.quirks]
instance : Inhabited (Md.Tok × Nat) := ⟨(default, 0)⟩
abbrev lcell (s : Md.Lx) (ti to tt : Nat) (os : List (Md.Tok × Nat)) : HObj := .cells [.lst ti (zOf ti 1) (s.inp.map I32), .int .i64 (s.pos : Nat), .int .i64 s.way, .str s.last, .bool s.room, .lst to (zOf to 10) (os.map encT), .lst tt (zOf tt 1) (s.text.map I32), .bool s.done] none
def lfoot (id : Nat) (g : Nat × Nat) (i : Nat) : Prop := i = id ∨ (i = g.1 ∧ 2 ≤ g.1) ∨ (i = g.2 ∧ 2 ≤ g.2)
def lpart (id : Nat) (s : Md.Lx) (g : Nat × Nat) (a : Nat × List (Md.Tok × Nat)) : List Ck := [.obj id (lcell s a.1 g.1 g.2 a.2), .own g.2 1 (s.text.map I32), .own g.1 10 (a.2.map encT)]
/-- The lexer at a place; g: of whom its lists are (tokens, text). -/
@[irreducible] def LX (id : Nat) (s : Md.Lx) (g : Nat × Nat) : Ck := .pr (bun (lfoot id g) (lpart id s g) (fun a => a.2.map Prod.fst = s.out))
theorem lfoot_iff {id : Nat} {s : Md.Lx} {g : Nat × Nat} {a : Nat × List (Md.Tok × Nat)} (i : Nat) : lfoot id g i ↔ ∃ c ∈ lpart id s g a, c.foot i := by
  constructor
  · rintro (rfl | h | h)
    · exact ⟨_, List.mem_cons_self .., rfl⟩
    · exact ⟨_, List.mem_cons_of_mem _ (List.mem_cons_of_mem _ (List.mem_cons_self ..)), h⟩
    · exact ⟨_, List.mem_cons_of_mem _ (List.mem_cons_self ..), h⟩
  · rintro ⟨c, hc, hi⟩
    simp only [lpart, List.mem_cons, List.not_mem_nil, or_false] at hc
    rcases hc with rfl | rfl | rfl
    · exact .inl hi
    · exact .inr (.inr hi)
    · exact .inr (.inl hi)
theorem LX.opn {id : Nat} {s : Md.Lx} {g : Nat × Nat} {R : List Ck} {h : Heap} (hs : Sat h (LX id s g :: R)) : ∃ ti os, os.map Prod.fst = s.out ∧ Sat h (.obj id (lcell s ti g.1 g.2 os) :: .own g.2 1 (s.text.map I32) :: .own g.1 10 (os.map encT) :: R) := by
  unfold LX at hs
  obtain ⟨a, h1, h2⟩ := Sat.opn hs
  exact ⟨a.1, a.2, h1, h2⟩
theorem LX.cls {id to tt ti : Nat} {s : Md.Lx} {os : List (Md.Tok × Nat)} {R : List Ck} {h : Heap} (hs : Sat h (.obj id (lcell s ti to tt os) :: .own tt 1 (s.text.map I32) :: .own to 10 (os.map encT) :: R)) (ho : os.map Prod.fst = s.out) : Sat h (LX id s (to, tt) :: R) := by
  unfold LX
  exact Sat.cls (f := lpart id s (to, tt)) (a := (ti, os)) (R := R) hs ho lfoot_iff
section
variable {D : DProg}
theorem F.lx {id : Nat} {s : Md.Lx} {g : Nat × Nat} {R : List Ck} {f : Nat} {args : List DV} {Q : DV → List Ck → Prop} (hF : ∀ ti os, os.map Prod.fst = s.out → F D f args (.obj id (lcell s ti g.1 g.2 os) :: .own g.2 1 (s.text.map I32) :: .own g.1 10 (os.map encT) :: R) Q) : F D f args (LX id s g :: R) Q := fun h hs =>
  let ⟨ti, os, ho, hs'⟩ := LX.opn hs; hF ti os ho h hs'
theorem LX.cell {id : Nat} {s : Md.Lx} {g : Nat × Nat} {cs : List Ck} (hm : Me (LX id s g) cs) {h : Heap} (hs : Sat h cs) : ∃ ti os, os.map Prod.fst = s.out ∧ h.objs.get id = some (lcell s ti g.1 g.2 os) := by
  obtain ⟨R, h1, _⟩ := hm.upd.rem
  obtain ⟨ti, os, ho, hs'⟩ := LX.opn (hs.perm h1)
  exact ⟨ti, os, ho, hs'.obj .head⟩
theorem cut_one {cs : List DV} {off : Nat} {v : DV} (h : cs[off]? = some v) : (cut cs off 1).bind (mkv none) = some v := (LDv.one h).ok (sh := none)
theorem LX.ldPos {id : Nat} {s : Md.Lx} {g : Nat × Nat} {cs : List Ck} (hm : Me (LX id s g) cs) : LD cs none (.ptr id 1) (.int .i64 (s.pos : Nat)) := .sem fun h hs => by
  obtain ⟨ti, os, _, e⟩ := LX.cell hm hs; simp only [loadD, e]; exact cut_one rfl
theorem LX.ldWay {id : Nat} {s : Md.Lx} {g : Nat × Nat} {cs : List Ck} (hm : Me (LX id s g) cs) : LD cs none (.ptr id 2) (.int .i64 s.way) := .sem fun h hs => by
  obtain ⟨ti, os, _, e⟩ := LX.cell hm hs; simp only [loadD, e]; exact cut_one rfl
theorem LX.ldLast {id : Nat} {s : Md.Lx} {g : Nat × Nat} {cs : List Ck} (hm : Me (LX id s g) cs) : LD cs none (.ptr id 3) (.str s.last) := .sem fun h hs => by
  obtain ⟨ti, os, _, e⟩ := LX.cell hm hs; simp only [loadD, e]; exact cut_one rfl
theorem LX.ldRoom {id : Nat} {s : Md.Lx} {g : Nat × Nat} {cs : List Ck} (hm : Me (LX id s g) cs) : LD cs none (.ptr id 4) (.bool s.room) := .sem fun h hs => by
  obtain ⟨ti, os, _, e⟩ := LX.cell hm hs; simp only [loadD, e]; exact cut_one rfl
theorem LX.ldDone {id : Nat} {s : Md.Lx} {g : Nat × Nat} {cs : List Ck} (hm : Me (LX id s g) cs) : LD cs none (.ptr id 7) (.bool s.done) := .sem fun h hs => by
  obtain ⟨ti, os, _, e⟩ := LX.cell hm hs; simp only [loadD, e]; exact cut_one rfl
theorem LX.st {id off : Nat} {s s' : Md.Lx} {g : Nat × Nat} {cs cs' : List Ck} {v : DV} (hu : Upd1 (LX id s g) (LX id s' g) cs cs') (ht : s'.text = s.text) (ho : s'.out = s.out)
    (hv : v.cells = [v] ∧ v.okv = true) (hlt : off < 8) (hw : ∀ ti os, (lcell s ti g.1 g.2 os, lcell s' ti g.1 g.2 os) = (.cells [.lst ti (zOf ti 1) (s.inp.map I32), .int .i64 (s.pos : Nat), .int .i64 s.way, .str s.last, .bool s.room, .lst g.1 (zOf g.1 10) (os.map encT), .lst g.2 (zOf g.2 1) (s.text.map I32), .bool s.done] none, .cells (overwrite [.lst ti (zOf ti 1) (s.inp.map I32), .int .i64 (s.pos : Nat), .int .i64 s.way, .str s.last, .bool s.room, .lst g.1 (zOf g.1 10) (os.map encT), .lst g.2 (zOf g.2 1) (s.text.map I32), .bool s.done] off [v]) none)) : StS cs 1 id off v cs' := by
  refine ⟨fun h hs => ?_⟩
  obtain ⟨R, h1, h2⟩ := hu.rem
  obtain ⟨ti, os, hos, hs'⟩ := LX.opn (hs.perm h1)
  have e := hs'.obj .head
  obtain ⟨w1, w2⟩ := Prod.mk.inj (hw ti os)
  refine ⟨h.put id (lcell s' ti g.1 g.2 os), ?_, ?_⟩
  · simp only [storeD, e]
    rw [if_pos ⟨by rw [hv.1]; rfl, by simp only [List.length_cons, List.length_nil]; omega, hv.2⟩, hv.1, w2]
  · have hp := hs'.put (o' := lcell s' ti g.1 g.2 os) .head
    rw [← ht] at hp
    exact (LX.cls hp (by rw [ho]; exact hos)).perm h2.symm
theorem LX.stPos {id : Nat} {s : Md.Lx} {g : Nat × Nat} {cs cs' : List Ck} (n : Nat) {x : Int} (hx : x = (s.pos : Int) + (n : Int)) (hu : Upd1 (LX id s g) (LX id (s.adv n) g) cs cs') : StS cs 1 id 1 (.int .i64 x) cs' := by
  subst hx; exact LX.st hu rfl rfl ⟨rfl, rfl⟩ (by omega) (fun _ _ => rfl)
theorem LX.stPos2 {id : Nat} {s : Md.Lx} {g : Nat × Nat} {cs cs' : List Ck} (a b : Nat) (hu : Upd1 (LX id s g) (LX id (s.adv (a + b)) g) cs cs') : StS cs 1 id 1 (.int .i64 ((s.pos : Int) + ((a : Int) + (b : Int)))) cs' := LX.stPos (a + b) (by omega) hu
theorem LX.stWay {id : Nat} {s : Md.Lx} {g : Nat × Nat} {cs cs' : List Ck} {x : Int} (hu : Upd1 (LX id s g) (LX id { s with way := x } g) cs cs') : StS cs 1 id 2 (.int .i64 x) cs' := LX.st hu rfl rfl ⟨rfl, rfl⟩ (by omega) (fun _ _ => rfl)
theorem LX.stLast {id : Nat} {s : Md.Lx} {g : Nat × Nat} {cs cs' : List Ck} {x : Md.Str} (hu : Upd1 (LX id s g) (LX id { s with last := x } g) cs cs') : StS cs 1 id 3 (.str x) cs' := LX.st hu rfl rfl ⟨rfl, rfl⟩ (by omega) (fun _ _ => rfl)
theorem LX.stRoom {id : Nat} {s : Md.Lx} {g : Nat × Nat} {cs cs' : List Ck} {x : Bool} (hu : Upd1 (LX id s g) (LX id { s with room := x } g) cs cs') : StS cs 1 id 4 (.bool x) cs' := LX.st hu rfl rfl ⟨rfl, rfl⟩ (by omega) (fun _ _ => rfl)
theorem LX.stDone {id : Nat} {s : Md.Lx} {g : Nat × Nat} {cs cs' : List Ck} {x : Bool} (hu : Upd1 (LX id s g) (LX id { s with done := x } g) cs cs') : StS cs 1 id 7 (.bool x) cs' := LX.st hu rfl rfl ⟨rfl, rfl⟩ (by omega) (fun _ _ => rfl)
/-- The text is laid aside. -/
theorem LX.stTextNil {id : Nat} {s : Md.Lx} {g : Nat × Nat} {cs cs' : List Ck} (hu : Upd1 (LX id s g) (LX id s.clr (g.1, 0)) cs cs') : StS cs 1 id 6 (.lst 0 0 []) (.own g.2 1 (s.text.map I32) :: cs') := by
  refine ⟨fun h hs => ?_⟩
  obtain ⟨R, h1, h2⟩ := hu.rem
  obtain ⟨ti, os, hos, hs'⟩ := LX.opn (hs.perm h1)
  have e := hs'.obj .head
  refine ⟨h.put id (lcell s.clr ti g.1 0 os), ?_, ?_⟩
  · simp only [storeD, e]
    rw [if_pos ⟨rfl, by simp only [List.length_cons, List.length_nil, DV.cells]; omega, rfl⟩]; rfl
  · have hp := (hs'.put (o' := lcell s.clr ti g.1 0 os) .head).nilOwn 1
    have hp2 := hp.perm (cs' := .obj id (lcell s.clr ti g.1 0 os) :: .own 0 1 [] :: .own g.1 10 (os.map encT) :: .own g.2 1 (s.text.map I32) :: R) ((List.Perm.swap ..).trans ((((List.Perm.swap ..)).cons _).cons _))
    exact (LX.cls (s := s.clr) hp2 hos).perm ((List.Perm.swap ..).trans (h2.symm.cons _))
/-- It is taken up again. -/
theorem LX.stTextBack {id tt : Nat} {s : Md.Lx} {g : Nat × Nat} {text : List Int} {cs c1 cs' : List Ck} (hr : Rem (.own tt 1 (text.map I32)) cs c1) (hu : Upd1 (LX id s g) (LX id { s with text := text } (g.1, tt)) c1 cs') : StS cs 1 id 6 (.lst tt (zOf tt 1) (text.map I32)) cs' := by
  have hrm : ∀ {c : Ck} {a b : List Ck}, Rem c a b → a.Perm (c :: b) := by
    intro c a b hm
    induction hm with
    | head => exact .refl _
    | tail _ ih => exact (ih.cons _).trans (.swap ..)
  refine ⟨fun h hs => ?_⟩
  obtain ⟨R, h1, h2⟩ := hu.rem
  have hs0 := hs.perm ((hrm hr).trans ((h1.cons _).trans (.swap ..)))
  obtain ⟨ti, os, hos, hs'⟩ := LX.opn hs0
  have e := hs'.obj .head
  refine ⟨h.put id (lcell { s with text := text } ti g.1 tt os), ?_, ?_⟩
  · simp only [storeD, e]
    rw [if_pos ⟨rfl, by simp only [List.length_cons, List.length_nil, DV.cells]; omega, rfl⟩]; rfl
  · have hp := (hs'.put (o' := lcell { s with text := text } ti g.1 tt os) .head).sub (cs' := .obj id (lcell { s with text := text } ti g.1 tt os) :: .own g.1 10 (os.map encT) :: .own tt 1 (text.map I32) :: R) ((List.sublist_cons_self ..).cons_cons _)
    exact (LX.cls (s := { s with text := text }) (hp.perm ((List.Perm.swap ..).cons _)) hos).perm h2.symm
/-- A function whose walk sees the lexer's cells. -/
theorem F.lxG {α : Type} {ga : α → Nat × Nat} {id : Nat} {s s' : Md.Lx} {g : Nat × Nat} {f : Nat} {args : List DV} {cs : List Ck} {cs2 : α → List Ck} {P : α → DV → Prop} (hu : Upd (LX id s g) (fun a => LX id s' (ga a)) cs cs2)
    (hF : ∀ R ti os, os.map Prod.fst = s.out → F D f args (.obj id (lcell s ti g.1 g.2 os) :: .own g.2 1 (s.text.map I32) :: .own g.1 10 (os.map encT) :: R) (fun v cs' => Hold (∃ a ti' os', os'.map Prod.fst = s'.out ∧ P a v ∧ (.obj id (lcell s' ti' (ga a).1 (ga a).2 os') :: .own (ga a).2 1 (s'.text.map I32) :: .own (ga a).1 10 (os'.map encT) :: R) = cs'))) :
    F D f args cs (fun v cs' => Hold (∃ a, P a v ∧ cs2 a = cs')) :=
  F.atG hu fun R => F.lx fun ti os ho => F.conv (hF R ti os ho) fun v cs' hq =>
    let ⟨a, ti', os', h1, h2, h3⟩ := hq.out
    ⟨LX id s' (ga a) :: R, fun h hs => LX.cls (s := s') (to := (ga a).1) (tt := (ga a).2) (ti := ti') (by rw [h3]; exact hs) h1, Hold.mk ⟨a, h2, rfl⟩⟩
theorem F.lx1 {id : Nat} {s s' : Md.Lx} {g : Nat × Nat} {f : Nat} {args : List DV} {cs cs2 : List Ck} {P : DV → Prop} (hu : Upd1 (LX id s g) (LX id s' g) cs cs2)
    (hF : ∀ R ti os, os.map Prod.fst = s.out → F D f args (.obj id (lcell s ti g.1 g.2 os) :: .own g.2 1 (s.text.map I32) :: .own g.1 10 (os.map encT) :: R) (fun v cs' => Hold (∃ ti' os', os'.map Prod.fst = s'.out ∧ P v ∧ (.obj id (lcell s' ti' g.1 g.2 os') :: .own g.2 1 (s'.text.map I32) :: .own g.1 10 (os'.map encT) :: R) = cs'))) :
    F D f args cs (fun v cs' => P v ∧ cs2 = cs') :=
  F.at1 hu fun R => F.lx fun ti os ho => F.conv (hF R ti os ho) fun v cs' hq =>
    let ⟨ti', os', h1, h2, h3⟩ := hq.out
    ⟨LX id s' g :: R, fun h hs => LX.cls (s := s') (to := g.1) (tt := g.2) (ti := ti') (by rw [h3]; exact hs) h1, h2, rfl⟩
/-- A call from a walk that sees the cells, of a function that takes the lexer as a whole. -/
theorem F.clG {α : Type} {ga : α → Nat × Nat} {id ti to tt : Nat} {s s' : Md.Lx} {os : List (Md.Tok × Nat)} {f : Nat} {args : List DV} {cs c1 c2 R : List Ck} {P : α → DV → Prop} (ho : os.map Prod.fst = s.out)
    (h1 : Rem (.obj id (lcell s ti to tt os)) cs c1) (h2 : Rem (.own tt 1 (s.text.map I32)) c1 c2) (h3 : Rem (.own to 10 (os.map encT)) c2 R)
    (hF : F D f args (LX id s (to, tt) :: R) (fun v cs' => Hold (∃ a, P a v ∧ LX id s' (ga a) :: R = cs'))) :
    F D f args cs (fun v cs' => Hold (∃ ti a os', os'.map Prod.fst = s'.out ∧ P a v ∧ (.obj id (lcell s' ti (ga a).1 (ga a).2 os') :: .own (ga a).2 1 (s'.text.map I32) :: .own (ga a).1 10 (os'.map encT) :: R) = cs')) := fun h hs => by
  have hr : ∀ {c : Ck} {a b : List Ck}, Rem c a b → a.Perm (c :: b) := by
    intro c a b hm
    induction hm with
    | head => exact .refl _
    | tail _ ih => exact (ih.cons _).trans (.swap ..)
  have hp : cs.Perm (.obj id (lcell s ti to tt os) :: .own tt 1 (s.text.map I32) :: .own to 10 (os.map encT) :: R) :=
    (hr h1).trans (((hr h2).trans ((hr h3).cons _)).cons _)
  obtain ⟨v, h', cs', r1, r2, r3⟩ := hF h (LX.cls (hs.perm hp) ho)
  obtain ⟨a, q1, q2⟩ := r3.out
  subst q2
  obtain ⟨ti', os', o1, o2⟩ := LX.opn r2
  exact ⟨v, h', _, r1, o2, Hold.mk ⟨ti', a, os', o1, q1, rfl⟩⟩
theorem LX.ldText {id : Nat} {s : Md.Lx} {g : Nat × Nat} {cs : List Ck} (hm : Me (LX id s g) cs) : LD cs none (.ptr id 6) (.lst g.2 (zOf g.2 1) (s.text.map I32)) := .sem fun h hs => by
  obtain ⟨ti, os, _, e⟩ := LX.cell hm hs; simp only [loadD, e]; exact cut_one rfl
theorem RR.lxLd {id off : Nat} {d : Nat} {x : Opd} {q : Option (Nat × Bool)} {os : List ROp} {k : List It} {nt : Nat} {es : List En} {ds : List DDef} {ir : Option Nat} {cs : List Ck} {Q : DX → St → List Ck → Prop} {A : List (Nat × Bool)} {p : Bool} {β : Type} (w : β → DV)
    (hg : gate es 12 q = some (A, p)) (hl : lo D es A x = some (.ptr id off)) (hd : Nat.blt d nt = true) (hw : ∀ h, Sat h cs → ∃ b, loadD h none (.ptr id off) = some (w b))
    (hr : ∀ b, RR D (.ops os :: k) ⟨nt, ⟨d, q, w b⟩ :: es, ds, ir⟩ cs Q) : RR D (.ops (⟨some d, .load none x, q, []⟩ :: os) :: k) ⟨nt, es, ds, ir⟩ cs Q := .sem fun fr h ha hs => by
  obtain ⟨b, hb⟩ := hw h hs
  have hgo := gate_ok ha.es hg
  have hdl : d < fr.tmps.length := by rw [ha.len]; exact Nat.le_of_ble_eq_true hd
  cases hwt : wantedG q fr with
  | true =>
    obtain ⟨hp, hA⟩ := hgo.1 hwt
    have e1 := lo_ok (D := D) ha.es hA hl
    have he : evalOp D fr h (.load none x) = some (.val (w b)) := by simp only [evalOp, e1, hb, Option.map_some]
    refine WpOps.op (v := w b) (h1 := h) hwt he rfl rfl ((hr b).sound (fr.put (some d) (w b)) h ⟨?_, ?_, ha.ds, ha.ir⟩ hs)
    · show (fr.tmps.set d (w b)).length = _; rw [List.length_set]; exact ha.len
    · cases q with
      | none => exact ha.es.put hdl rfl
      | some tb => exact ha.es.putG hdl (fun _ => rfl) (fun hne => absurd (wanted_bool.1 hwt) hne)
  | false =>
    refine WpOps.off hwt ((hr b).sound (fr.put (some d) .undef) h ⟨?_, ?_, ha.ds, ha.ir⟩ hs)
    · show (fr.tmps.set d .undef).length = _; rw [List.length_set]; exact ha.len
    · cases q with
      | none => cases hwt
      | some tb => exact ha.es.putG hdl (fun e => by rw [wanted_bool.2 e] at hwt; cases hwt) (fun _ => rfl)
theorem RR.lxIn {id : Nat} {s : Md.Lx} {g : Nat × Nat} {d : Nat} {x : Opd} {q : Option (Nat × Bool)} {os : List ROp} {k : List It} {nt : Nat} {es : List En} {ds : List DDef} {ir : Option Nat} {cs : List Ck} {Q : DX → St → List Ck → Prop} {A : List (Nat × Bool)} {p : Bool}
    (hg : gate es 12 q = some (A, p)) (hl : lo D es A x = some (.ptr id 0)) (hd : Nat.blt d nt = true) (hm : Me (LX id s g) cs)
    (hr : ∀ ti, RR D (.ops os :: k) ⟨nt, ⟨d, q, .lst ti (zOf ti 1) (s.inp.map I32)⟩ :: es, ds, ir⟩ cs Q) : RR D (.ops (⟨some d, .load none x, q, []⟩ :: os) :: k) ⟨nt, es, ds, ir⟩ cs Q :=
  RR.lxLd (fun ti => .lst ti (zOf ti 1) (s.inp.map I32)) hg hl hd (fun h hs => by
    obtain ⟨ti, os, _, e⟩ := LX.cell hm hs
    exact ⟨ti, by simp only [loadD, e]; exact cut_one rfl⟩) hr
theorem RR.lxOut {id : Nat} {s : Md.Lx} {g : Nat × Nat} {d : Nat} {x : Opd} {q : Option (Nat × Bool)} {os : List ROp} {k : List It} {nt : Nat} {es : List En} {ds : List DDef} {ir : Option Nat} {cs : List Ck} {Q : DX → St → List Ck → Prop} {A : List (Nat × Bool)} {p : Bool}
    (hg : gate es 12 q = some (A, p)) (hl : lo D es A x = some (.ptr id 5)) (hd : Nat.blt d nt = true) (hm : Me (LX id s g) cs)
    (hr : ∀ l : { l : List (Md.Tok × Nat) // l.map Prod.fst = s.out }, RR D (.ops os :: k) ⟨nt, ⟨d, q, .lst g.1 (zOf g.1 10) (l.1.map encT)⟩ :: es, ds, ir⟩ cs Q) : RR D (.ops (⟨some d, .load none x, q, []⟩ :: os) :: k) ⟨nt, es, ds, ir⟩ cs Q :=
  RR.lxLd (fun l : { l : List (Md.Tok × Nat) // l.map Prod.fst = s.out } => .lst g.1 (zOf g.1 10) (l.1.map encT)) hg hl hd (fun h hs => by
    obtain ⟨ti, os, ho, e⟩ := LX.cell hm hs
    exact ⟨⟨os, ho⟩, by simp only [loadD, e]; exact cut_one rfl⟩) hr
/-- Tokens are taken off. -/
theorem LX.stOut {id : Nat} {s : Md.Lx} {g : Nat × Nat} {l : List (Md.Tok × Nat)} {cs cs' : List Ck} (hu : Upd1 (LX id s g) (LX id { s with out := l.map Prod.fst } g) cs cs') (hl : l.length ≤ s.out.length) : StS cs 1 id 5 (.lst g.1 (zOf g.1 10) (l.map encT)) cs' := by
  refine ⟨fun h hs => ?_⟩
  obtain ⟨R, h1, h2⟩ := hu.rem
  obtain ⟨ti, os, hos, hs'⟩ := LX.opn (hs.perm h1)
  have e := hs'.obj .head
  refine ⟨h.put id (lcell { s with out := l.map Prod.fst } ti g.1 g.2 l), ?_, ?_⟩
  · simp only [storeD, e]
    rw [if_pos ⟨rfl, by simp only [List.length_cons, List.length_nil, DV.cells]; omega, rfl⟩]; rfl
  · have hp := hs'.put (o' := lcell { s with out := l.map Prod.fst } ti g.1 g.2 l) .head
    have hp2 := hp.upd (h' := h.put id (lcell { s with out := l.map Prod.fst } ti g.1 g.2 l)) (c := .own g.1 10 (os.map encT)) (n := .own g.1 10 (l.map encT)) (.tail (.tail .head)) (Nat.le_refl _) (by
        rcases hp.get (.tail (.tail .head)) with ⟨h0, hx⟩ | hx
        · left
          refine ⟨h0, ?_⟩
          have h3 : os = [] := List.map_eq_nil_iff.1 hx
          have h4 : s.out.length = 0 := by rw [← hos, h3]; rfl
          have h5 : l = [] := List.eq_nil_of_length_eq_zero (by omega)
          rw [h5]; rfl
        · exact .inr hx) (fun i hi => (hp.ok _ (List.mem_cons_of_mem _ (List.mem_cons_of_mem _ (List.mem_cons_self ..)))).2 i hi) (fun i hi => .inl hi) (fun i _ _ => ⟨rfl, rfl⟩)
    exact (LX.cls (s := { s with out := l.map Prod.fst }) hp2 rfl).perm h2.symm
end
end Go.Dm
/- What the lexer's small functions do. -/
namespace Go.Proofs.YticnenofiibpgaaDoor.Code
open Go.Dm Go.Dm.C
set_option linter.unusedSimpArgs false
set_option linter.unusedVariables false
set_option linter.unnecessarySimpa false
set_option maxRecDepth 10000
attribute [local irreducible] Go.Dm.F Go.Dm.RS Go.Dm.Y Go.Dm.FD Go.Dm.FZ1 Go.Dm.Hold
variable {id : Nat} {s : Md.Lx} {g : Nat × Nat} {cs : List Ck}
theorem getD_eof {l : List Int} {n : Nat} (h : n < l.length) : l.getD n default = l.getD n (-1) := by
  simp [List.getD_eq_getElem?_getD, List.getElem?_eq_getElem h]
theorem peek_F {n : Nat} (hm : Me (LX id s g) cs) (hb : s.inp.length ≤ 1000000000 ∧ s.pos ≤ 100000000000) (hn : n ≤ 100000000000) : F D 75 [.ptr id 0, .int .i64 (n : Nat)] cs (fun v cs' => v = .int .i32 (s.pk n) ∧ cs = cs') := by
  refine F.atM hm fun R => F.lx fun ti os ho => F.conv (P := fun v cs' => v = .int .i32 (s.pk n) ∧ (.obj id (lcell s ti g.1 g.2 os) :: .own g.2 1 (s.text.map I32) :: .own g.1 10 (os.map encT) :: R) = cs') ?_ (fun v cs' ⟨h1, h2⟩ => ⟨_, fun h hs => LX.cls (h2 ▸ hs) ho, h1, rfl⟩)
  refine F.of rfl rfl rfl ?_
  repeat' first | exact arI | refine Pst.mk ⟨?_, rfl⟩ (by (repeat' constructor); first | done | fail) | constructor | (refine fun _ _ (hq : Hold _) => ?_; replace hq := hq.out; obtain ⟨_, rfl, rfl⟩ := hq) | (refine fun _ _ (hq : Hold _) => ?_; replace hq := hq.out; obtain ⟨_, _, rfl, rfl⟩ := hq) | rintro _ _ ⟨rfl, rfl⟩ | rintro _ _ ⟨_, rfl, rfl⟩ | rintro _ _ ⟨_, _, rfl, rfl⟩ | (refine fun (hc : _ = _) => ?_; (try simp only [BB] at hc)) | refine fun (_ : Nat) => ?_ | refine fun (_ : _ ≤ _) => ?_ | refine fun (_ : _ < _) => ?_
  · rw [Md.Lx.pk, List.getD_eq_getElem?_getD, List.getElem?_eq_none (by omega)]; rfl
  · rw [Md.Lx.pk, ← getD_eof (by omega)]
    rw [show ((s.pos : Int) + (n : Int)).toNat = s.pos + n by omega]
theorem peek0_F (hm : Me (LX id s g) cs) (hb : s.inp.length ≤ 1000000000 ∧ s.pos ≤ 100000000000) : F D 75 [.ptr id 0, .int .i64 0] cs (fun v cs' => v = .int .i32 (s.pk 0) ∧ cs = cs') := peek_F (n := 0) hm hb (by omega)
theorem peek1_F (hm : Me (LX id s g) cs) (hb : s.inp.length ≤ 1000000000 ∧ s.pos ≤ 100000000000) : F D 75 [.ptr id 0, .int .i64 1] cs (fun v cs' => v = .int .i32 (s.pk 1) ∧ cs = cs') := peek_F (n := 1) hm hb (by omega)
theorem peek6_F (hm : Me (LX id s g) cs) (hb : s.inp.length ≤ 1000000000 ∧ s.pos ≤ 100000000000) : F D 75 [.ptr id 0, .int .i64 6] cs (fun v cs' => v = .int .i32 (s.pk 6) ∧ cs = cs') := peek_F (n := 6) hm hb (by omega)
theorem next_F {cs2 : List Ck} (hu : Upd1 (LX id s g) (LX id (s.adv 1) g) cs cs2) (hb : s.inp.length ≤ 1000000000 ∧ s.pos ≤ 100000000000) : F D 68 [.ptr id 0] cs (fun v cs' => v = .int .i32 (s.pk 0) ∧ cs2 = cs') := by
  refine F.at1 hu fun R => F.of rfl rfl rfl ?_
  repeat' first | (show LD _ _ _ _; first | exact LX.ldPos (by (repeat' constructor); first | done | fail) | exact LX.ldWay (by (repeat' constructor); first | done | fail) | exact LX.ldLast (by (repeat' constructor); first | done | fail) | exact LX.ldRoom (by (repeat' constructor); first | done | fail) | exact LX.ldDone (by (repeat' constructor); first | done | fail) | exact LX.ldText (by (repeat' constructor); first | done | fail)) | (apply RR.lxIn; exact rfl; exact rfl; exact rfl; exact (by (repeat' constructor); first | done | fail); refine fun _ => ?_) | (apply RR.lxOut; exact rfl; exact rfl; exact rfl; exact (by (repeat' constructor); first | done | fail); refine fun _ => ?_) | (apply RR.storeS; exact rfl; exact rfl; first | exact LX.stPos 1 rfl (by (repeat' constructor); first | done | fail) | exact LX.stPos 2 rfl (by (repeat' constructor); first | done | fail) | exact LX.stPos 3 rfl (by (repeat' constructor); first | done | fail) | exact LX.stPos 6 rfl (by (repeat' constructor); first | done | fail) | exact LX.stPos 7 rfl (by (repeat' constructor); first | done | fail) | exact LX.stPos _ rfl (by (repeat' constructor); first | done | fail) | exact LX.stPos2 1 _ (by (repeat' constructor); first | done | fail) | exact LX.stPos2 2 _ (by (repeat' constructor); first | done | fail) | exact LX.stWay (by (repeat' constructor); first | done | fail) | exact LX.stLast (by (repeat' constructor); first | done | fail) | exact LX.stRoom (by (repeat' constructor); first | done | fail) | exact LX.stDone (by (repeat' constructor); first | done | fail); exact rfl) | exact peek0_F (by (repeat' constructor); first | done | fail) hb | exact arI | refine Pst.mk ⟨?_, rfl⟩ (by (repeat' constructor); first | done | fail) | constructor | (refine fun _ _ (hq : Hold _) => ?_; replace hq := hq.out; obtain ⟨_, rfl, rfl⟩ := hq) | (refine fun _ _ (hq : Hold _) => ?_; replace hq := hq.out; obtain ⟨_, _, rfl, rfl⟩ := hq) | rintro _ _ ⟨rfl, rfl⟩ | rintro _ _ ⟨_, rfl, rfl⟩ | rintro _ _ ⟨_, _, rfl, rfl⟩ | (refine fun (hc : _ = _) => ?_; (try simp only [BB] at hc)) | refine fun (_ : Nat) => ?_ | refine fun (_ : _ ≤ _) => ?_ | refine fun (_ : _ < _) => ?_
theorem back_F {cs2 : List Ck} (hu : Upd1 (LX id (s.adv 1) g) (LX id s g) cs cs2) (hb : s.pos ≤ 100000000000) : F D 90 [.ptr id 0] cs (fun v cs' => v = .tup [] ∧ cs2 = cs') := by
  refine F.at1 hu fun R => F.of rfl rfl rfl ?_
  repeat' first | (show LD _ _ _ _; first | exact LX.ldPos (by (repeat' constructor); first | done | fail) | exact LX.ldWay (by (repeat' constructor); first | done | fail) | exact LX.ldLast (by (repeat' constructor); first | done | fail) | exact LX.ldRoom (by (repeat' constructor); first | done | fail) | exact LX.ldDone (by (repeat' constructor); first | done | fail) | exact LX.ldText (by (repeat' constructor); first | done | fail)) | (apply RR.lxIn; exact rfl; exact rfl; exact rfl; exact (by (repeat' constructor); first | done | fail); refine fun _ => ?_) | (apply RR.lxOut; exact rfl; exact rfl; exact rfl; exact (by (repeat' constructor); first | done | fail); refine fun _ => ?_) | (refine RR.storeS rfl rfl (LX.st (s' := s) (.head) rfl rfl ⟨rfl, rfl⟩ (by omega) (fun _ _ => ?_)) rfl ?_) | exact arI | refine Pst.mk ⟨?_, rfl⟩ (by (repeat' constructor); first | done | fail) | constructor | (refine fun _ _ (hq : Hold _) => ?_; replace hq := hq.out; obtain ⟨_, rfl, rfl⟩ := hq) | (refine fun _ _ (hq : Hold _) => ?_; replace hq := hq.out; obtain ⟨_, _, rfl, rfl⟩ := hq) | rintro _ _ ⟨rfl, rfl⟩ | rintro _ _ ⟨_, rfl, rfl⟩ | rintro _ _ ⟨_, _, rfl, rfl⟩ | (refine fun (hc : _ = _) => ?_; (try simp only [BB] at hc)) | refine fun (_ : Nat) => ?_ | refine fun (_ : _ ≤ _) => ?_ | refine fun (_ : _ < _) => ?_
  · exact Arith.mk fun _ => by simp only [Md.Lx.adv]; omega
  · simp [overwrite, Md.Lx.adv]
theorem say_take {rs : List Int} {i : Nat} (h : i < rs.length) : (s.say (rs.take (i + 1))).text = if rs.getD i default = -1 then (s.say (rs.take i)).text else (s.say (rs.take i)).text ++ [rs.getD i default] := by
  have e : rs.getD i default = rs[i] := by simp [List.getD_eq_getElem?_getD, List.getElem?_eq_getElem h]
  simp only [Md.Lx.say, List.take_add_one, List.getElem?_eq_getElem h, Option.toList_some, List.filter_append, e]
  split
  · rename_i h1; simp [h1]
  · rename_i h1
    have : ([rs[i]].filter fun x => x != -1) = [rs[i]] := by simp [h1]
    rw [this, List.append_assoc]
theorem say_F {rs : List Int} {xs : List DV} {t z : Nat} {cs2 : Nat → List Ck} (hz : z = zOf t 1) (hx : MapL I32 xs rs) (hu : Upd (LX id s g) (fun a => LX id (s.say rs) (g.1, a)) cs cs2) (hb : s.text.length ≤ 100000000000 ∧ rs.length ≤ 10000000000) :
    F D 74 [.ptr id 0, .lst t z xs] cs (fun v cs' => Hold (∃ a, v = .tup [] ∧ cs2 a = cs')) := by
  subst hz
  obtain rfl := hx.ok
  refine F.lxG (P := fun _ v => v = .tup []) hu fun R ti os ho => ?_
  refine F.of rfl rfl rfl ?_
  repeat' first | exact arI | refine Pst.mk ⟨?_, rfl⟩ (by (repeat' constructor); first | done | fail) | constructor | (refine fun _ _ (hq : Hold _) => ?_; replace hq := hq.out; obtain ⟨_, rfl, rfl⟩ := hq) | (refine fun _ _ (hq : Hold _) => ?_; replace hq := hq.out; obtain ⟨_, _, rfl, rfl⟩ := hq) | rintro _ _ ⟨rfl, rfl⟩ | rintro _ _ ⟨_, rfl, rfl⟩ | rintro _ _ ⟨_, _, rfl, rfl⟩ | (refine fun (hc : _ = _) => ?_; (try simp only [BB] at hc)) | refine fun (_ : Nat) => ?_ | refine fun (_ : _ ≤ _) => ?_ | refine fun (_ : _ < _) => ?_
  refine RS.loopW (α := Nat × Nat) (fun a => [(0, .ptr id 0), (6, .lst t (zOf t 1) (rs.map I32)), (7, .int .i64 rs.length), (8, .int .i64 (a.1 : Nat))]) (fun a => .obj id (lcell (s.say (rs.take a.1)) ti g.1 a.2 os) :: .own a.2 1 ((s.say (rs.take a.1)).text.map I32) :: .own g.1 10 (os.map encT) :: R)
    (fun a => a.1 ≤ rs.length) (fun a => rs.length - a.1) (0, g.2) (Nat.zero_le _) ⟨rfl, rfl, rfl, rfl, trivial⟩ (by simpa [Md.Lx.say] using KK.refl) ?_
  rintro ⟨i, tt⟩ h1 ih
  dsimp only [ents] at *
  have hst := fun h => say_take (s := s) (rs := rs) (i := i) h
  have hlen : (s.say (rs.take i)).text.length ≤ 110000000000 := by
    have h2 : ((rs.take i).filter (· != -1)).length ≤ (rs.take i).length := List.length_filter_le ..
    simp only [Md.Lx.say, List.length_append]
    rw [List.length_take] at h2
    omega
  repeat' first | exact arI | refine Pst.mk ⟨?_, rfl⟩ (by (repeat' constructor); first | done | fail) | constructor | (refine fun _ _ (hq : Hold _) => ?_; replace hq := hq.out; obtain ⟨_, rfl, rfl⟩ := hq) | (refine fun _ _ (hq : Hold _) => ?_; replace hq := hq.out; obtain ⟨_, _, rfl, rfl⟩ := hq) | rintro _ _ ⟨rfl, rfl⟩ | rintro _ _ ⟨_, rfl, rfl⟩ | rintro _ _ ⟨_, _, rfl, rfl⟩ | (refine fun (hc : _ = _) => ?_; (try simp only [BB] at hc)) | refine fun (_ : Nat) => ?_ | refine fun (_ : _ ≤ _) => ?_ | refine fun (_ : _ < _) => ?_
  · rename_i t9
    have e := hst (by omega)
    rw [if_neg hc] at e
    exact ih _ _ (i + 1, t9) (by dsimp only; omega) (by dsimp only; omega) ⟨rfl, rfl, rfl, rfl, trivial⟩ (by dsimp only [lcell]; rw [e]; exact (by (repeat' constructor); first | done | fail))
  · have e := hst (by omega)
    rw [if_pos hc] at e
    exact ih _ _ (i + 1, tt) (by dsimp only; omega) (by dsimp only; omega) ⟨rfl, rfl, rfl, rfl, trivial⟩ (by dsimp only [lcell]; rw [e]; exact (by (repeat' constructor); first | done | fail))
  · obtain rfl : i = rs.length := by omega
    rw [List.take_length]
    exact Pst.mk (.mk ⟨tt, ti, os, ho, rfl, rfl⟩) .refl
theorem flush_F {cs2 : Nat × Nat → List Ck} (hu : Upd (LX id s g) (fun a => LX id s.flush a) cs cs2) (hb : s.text.length ≤ 90000000000 ∧ s.out.length ≤ 1000000000) :
    F D 69 [.ptr id 0] cs (fun v cs' => Hold (∃ a, v = .tup [] ∧ cs2 a = cs')) := by
  refine F.lxG (P := fun _ v => v = .tup []) hu fun R ti os ho => ?_
  have hol : os.length ≤ 1000000000 := by rw [← List.length_map (f := Prod.fst), ho]; exact hb.2
  refine F.of rfl rfl rfl ?_
  repeat' first | exact encode_F rfl (by omega) | exact MapL.cons (y := (Md.textTok s.text, 0)) .nil | exact arI | refine Pst.mk ⟨?_, rfl⟩ (by (repeat' constructor); first | done | fail) | constructor | (refine fun _ _ (hq : Hold _) => ?_; replace hq := hq.out; obtain ⟨_, rfl, rfl⟩ := hq) | (refine fun _ _ (hq : Hold _) => ?_; replace hq := hq.out; obtain ⟨_, _, rfl, rfl⟩ := hq) | rintro _ _ ⟨rfl, rfl⟩ | rintro _ _ ⟨_, rfl, rfl⟩ | rintro _ _ ⟨_, _, rfl, rfl⟩ | (refine fun (hc : _ = _) => ?_; (try simp only [BB] at hc)) | refine fun (_ : Nat) => ?_ | refine fun (_ : _ ≤ _) => ?_ | refine fun (_ : _ < _) => ?_
  · rename_i t9
    have e : s.flush = { s with out := s.out ++ [Md.textTok s.text], text := [] } := by
      unfold Md.Lx.flush; rw [if_neg]; intro h; rw [h] at hc; simp at hc
    rw [e]
    exact Pst.nil 1 (Pst.mkP (.mk ⟨(t9, 0), ti, os ++ [(Md.textTok s.text, 0)], by simp [ho], rfl, rfl⟩) (.keep (.drop (.drop (.keep (.drop .refl))))) (.swap ..))
  · have e : s.flush = s := by
      unfold Md.Lx.flush; rw [if_pos]; exact List.eq_nil_of_length_eq_zero (by omega)
    rw [e]
    exact Pst.mk (.mk ⟨g, ti, os, ho, rfl, rfl⟩) .refl
theorem flush_inp : s.flush.inp = s.inp := by unfold Md.Lx.flush; split <;> rfl
theorem flush_pos : s.flush.pos = s.pos := by unfold Md.Lx.flush; split <;> rfl
theorem flush_way : s.flush.way = s.way := by unfold Md.Lx.flush; split <;> rfl
theorem flush_room : s.flush.room = s.room := by unfold Md.Lx.flush; split <;> rfl
theorem flush_last : s.flush.last = s.last := by unfold Md.Lx.flush; split <;> rfl
theorem flush_done : s.flush.done = s.done := by unfold Md.Lx.flush; split <;> rfl
theorem flush_text : s.flush.text = [] := by unfold Md.Lx.flush; split <;> simp_all
theorem flush_out : s.flush.out.length ≤ s.out.length + 1 := by unfold Md.Lx.flush; split <;> simp
theorem emit_F {t : Md.Tok} {ta : Nat} {xs : List DV} {cs2 : Nat × Nat → List Ck} (hx : xs = [.int .i64 t.kind, .str t.name, .lst ta (zOf ta 2) (t.attrs.map encA), .bool t.self, .str t.data, .str t.pub, .str t.sys, .bool t.hasPub, .bool t.hasSys, .bool t.quirks])
    (hu : Upd (LX id s g) (fun a => LX id (s.emit t) a) cs cs2) (hb : s.text.length ≤ 90000000000 ∧ s.out.length ≤ 100000000) :
    F D 107 [.ptr id 0, .agg xs] cs (fun v cs' => Hold (∃ a, v = .tup [] ∧ cs2 a = cs')) := by
  subst hx
  refine F.lxG (P := fun _ v => v = .tup []) hu fun R ti os ho => F.of rfl rfl rfl ?_
  have hlast : (s.emit t).last = if t.kind = 2 then t.name else s.last := by simp only [Md.Lx.emit, flush_last]
  have hol : ∀ l : List (Md.Tok × Nat), l.map Prod.fst = s.flush.out → l.length ≤ 200000000 := fun l h => by
    rw [← List.length_map (f := Prod.fst), h]; have := flush_out (s := s); omega
  repeat' first | exact F.clG ho (by (repeat' constructor); first | done | fail) (by (repeat' constructor); first | done | fail) (by (repeat' constructor); first | done | fail) (flush_F .head (by omega)) | (refine fun _ _ (hq : Hold _) => ?_; replace hq := hq.out; obtain ⟨ti2, g2, os2, ho2, rfl, rfl⟩ := hq; have hl2 := hol _ ho2) | exact MapL.cons (y := (t, ta)) .nil | exact arI | refine Pst.mk ⟨?_, rfl⟩ (by (repeat' constructor); first | done | fail) | constructor | (refine fun _ _ (hq : Hold _) => ?_; replace hq := hq.out; obtain ⟨_, rfl, rfl⟩ := hq) | (refine fun _ _ (hq : Hold _) => ?_; replace hq := hq.out; obtain ⟨_, _, rfl, rfl⟩ := hq) | rintro _ _ ⟨rfl, rfl⟩ | rintro _ _ ⟨_, rfl, rfl⟩ | rintro _ _ ⟨_, _, rfl, rfl⟩ | (refine fun (hc : _ = _) => ?_; (try simp only [BB] at hc)) | refine fun (_ : Nat) => ?_ | refine fun (_ : _ ≤ _) => ?_ | refine fun (_ : _ < _) => ?_
  · rename_i t9
    have e : s.emit t = { s.flush with last := t.name, out := s.flush.out ++ [t] } := by unfold Md.Lx.emit; rw [if_pos hc]
    rw [e]
    exact Pst.mk (.mk ⟨(t9, g2.2), ti2, os2 ++ [(t, ta)], by simp [ho2], rfl, rfl⟩) (by (repeat' constructor); first | done | fail)
  · rename_i t9
    have e : s.emit t = { s.flush with out := s.flush.out ++ [t] } := by unfold Md.Lx.emit; rw [if_neg hc]
    rw [e]
    exact Pst.mk (.mk ⟨(t9, g2.2), ti2, os2 ++ [(t, ta)], by simp [ho2], rfl, rfl⟩) (by (repeat' constructor); first | done | fail)
end Go.Proofs.YticnenofiibpgaaDoor.Code
/- What the lexer's looks ahead and small steps do. -/
namespace Go.Proofs.YticnenofiibpgaaDoor.Code
open Go.Dm Go.Dm.C
set_option linter.unusedSimpArgs false
set_option linter.unusedVariables false
set_option linter.unnecessarySimpa false
set_option maxRecDepth 10000
attribute [local irreducible] Go.Dm.F Go.Dm.RS Go.Dm.Y Go.Dm.FD Go.Dm.FZ1 Go.Dm.Hold
variable {id : Nat} {s : Md.Lx} {g : Nat × Nat} {cs : List Ck}
theorem dec_low {w : List UInt8} {i : Nat} (hw : w.all (fun b => decide (b.toNat < 128)) = true) (h : i < w.length) : Utf8.decode ⟨w.toArray⟩ i = ((w.getD i 0).toNat, 1) := by
  have hs : i < (⟨w.toArray⟩ : ByteArray).size := by simpa [ByteArray.size] using h
  have e : (⟨w.toArray⟩ : ByteArray)[i]'hs = w.getD i 0 := by
    show w.toArray[i]'_ = _
    simp [List.getD_eq_getElem?_getD, List.getElem?_eq_getElem h]
  have ha := List.all_eq_true.1 hw (w[i]) (List.getElem_mem h)
  rw [decode_ascii _ _ hs (by rw [e, List.getD_eq_getElem?_getD, List.getElem?_eq_getElem h]; simpa using ha), e]
theorem dec_pos (b : ByteArray) (i : Nat) : 1 ≤ (Utf8.decode b i).2 := by
  unfold Utf8.decode
  dsimp only
  repeat' split
  all_goals simp
theorem pk_rest (n : Nat) : s.pk n = s.rest.getD n (-1) := by
  simp [Md.Lx.pk, Md.Lx.rest, List.getD_eq_getElem?_getD, List.getElem?_drop]
theorem rest_adv (n : Nat) : (s.adv n).rest = s.rest.drop n := by simp [Md.Lx.rest, Md.Lx.adv, List.drop_drop]
theorem adv_adv (i j : Nat) : (s.adv i).adv j = s.adv (i + j) := by simp [Md.Lx.adv, Nat.add_assoc]
theorem adv_zero : s.adv 0 = s := rfl
theorem pk_adv (i n : Nat) : (s.adv i).pk n = s.pk (i + n) := by simp [Md.Lx.pk, Md.Lx.adv, Nat.add_assoc]
theorem rest_len : s.rest.length = s.inp.length - s.pos := by simp [Md.Lx.rest]
theorem rest_cons (h : s.pos < s.inp.length) : s.rest = s.pk 0 :: s.rest.drop 1 := by
  rw [pk_rest]
  unfold Md.Lx.rest
  rw [List.drop_drop, List.drop_eq_getElem_cons h]
  simp [List.getElem?_eq_getElem h]
theorem rest_nil (h : s.inp.length ≤ s.pos) : s.rest = [] := List.drop_eq_nil_of_le h
theorem pk_nil (h : s.inp.length ≤ s.pos) : s.pk 0 = -1 := by rw [pk_rest, rest_nil h]; rfl
theorem pk_nonneg (hn : ∀ r ∈ s.inp, 0 ≤ r) (h : s.pos < s.inp.length) : 0 ≤ s.pk 0 := by
  apply hn
  rw [Md.Lx.pk, Nat.add_zero, List.getD_eq_getElem?_getD, List.getElem?_eq_getElem h]
  exact List.getElem_mem _
theorem pk_eof (hn : ∀ r ∈ s.inp, 0 ≤ r) : s.pk 0 = -1 ↔ s.inp.length ≤ s.pos := by
  constructor
  · intro h
    by_cases hl : s.inp.length ≤ s.pos
    · exact hl
    · have := pk_nonneg hn (by omega); omega
  · exact pk_nil
theorem getD_head {l : List Int} : l.headD (-1) = l.getD 0 (-1) := by cases l <;> rfl
theorem head_drop (i : Nat) : (s.rest.drop i).headD (-1) = s.pk i := by rw [getD_head, pk_rest, getD_drop]
theorem drop_get {w : List UInt8} {i : Nat} (h : i < w.length) : w.drop i = w.getD i 0 :: w.drop (i + 1) := by
  rw [List.drop_eq_getElem_cons h, List.getD_eq_getElem?_getD, List.getElem?_eq_getElem h]; rfl
theorem stands_F {w : List UInt8} (hm : Me (LX id s g) cs) (hb : s.inp.length ≤ 1000000000 ∧ s.pos ≤ 100000000000) (hw : w.all (fun b => decide (b.toNat < 128)) = true) (hl : w.length ≤ 1000000000) : F D 101 [.ptr id 0, .str w] cs (fun v cs' => v = .bool (Md.stands w s.rest) ∧ cs = cs') := by
  refine F.atM hm fun R => F.of rfl rfl rfl ?_
  repeat' first | exact arI | refine Pst.mk ⟨?_, rfl⟩ (by (repeat' constructor); first | done | fail) | constructor | (refine fun _ _ (hq : Hold _) => ?_; replace hq := hq.out; obtain ⟨_, rfl, rfl⟩ := hq) | (refine fun _ _ (hq : Hold _) => ?_; replace hq := hq.out; obtain ⟨_, _, rfl, rfl⟩ := hq) | rintro _ _ ⟨rfl, rfl⟩ | rintro _ _ ⟨_, rfl, rfl⟩ | rintro _ _ ⟨_, _, rfl, rfl⟩ | (refine fun (hc : _ = _) => ?_; (try simp only [BB] at hc)) | refine fun (_ : Nat) => ?_ | refine fun (_ : _ ≤ _) => ?_ | refine fun (_ : _ < _) => ?_
  rename_i q hq
  refine RS.loopW (α := Nat) (fun i => [(0, .ptr id 0), (8, .ptr q 0)]) (fun i => .obj q (.siter w i) :: LX id s g :: R)
    (fun i => i ≤ w.length ∧ Md.stands (w.drop i) (s.rest.drop i) = Md.stands w s.rest) (fun i => w.length - i) 0 ⟨by simp, by simp⟩ ⟨rfl, rfl, trivial⟩ .refl ?_
  rintro i ⟨h1, h2⟩ ih
  dsimp only [ents] at *
  have hdec := fun h => dec_low (i := i) hw h
  have hst : i < w.length → Md.stands (w.drop i) (s.rest.drop i) = (Md.small (s.pk i) == Md.small ((w.getD i 0).toNat : Int) && Md.stands (w.drop (i + 1)) (s.rest.drop (i + 1))) := fun h => by
    rw [drop_get h]; simp only [Md.stands, head_drop, List.tail_drop]
  repeat' first | exact peek_F (by (repeat' constructor); first | done | fail) (by omega) (by omega) | exact small_F | exact arI | refine Pst.mk ⟨?_, rfl⟩ (by (repeat' constructor); first | done | fail) | constructor | (refine fun _ _ (hq : Hold _) => ?_; replace hq := hq.out; obtain ⟨_, rfl, rfl⟩ := hq) | (refine fun _ _ (hq : Hold _) => ?_; replace hq := hq.out; obtain ⟨_, _, rfl, rfl⟩ := hq) | rintro _ _ ⟨rfl, rfl⟩ | rintro _ _ ⟨_, rfl, rfl⟩ | rintro _ _ ⟨_, _, rfl, rfl⟩ | (refine fun (hc : _ = _) => ?_; (try simp only [BB] at hc)) | refine fun (_ : Nat) => ?_ | refine fun (_ : _ ≤ _) => ?_ | refine fun (_ : _ < _) => ?_
  · rw [hdec (by omega)] at hc
    rw [← h2, hst (by omega), beq_false_of_ne hc]; rfl
  · rw [hdec (by omega)] at hc ⊢
    refine ih _ _ (i + 1) ⟨by omega, ?_⟩ (by omega) ⟨rfl, rfl, trivial⟩ (by (repeat' constructor); first | done | fail)
    rw [← h2, hst (by omega)]; simp [hc]
  · cases hc
  · rw [← h2, List.drop_eq_nil_of_le (by omega)]; rfl
theorem exact_F {w : List UInt8} (hm : Me (LX id s g) cs) (hb : s.inp.length ≤ 1000000000 ∧ s.pos ≤ 100000000000) (hw : w.all (fun b => decide (b.toNat < 128)) = true) (hl : w.length ≤ 1000000000) : F D 94 [.ptr id 0, .str w] cs (fun v cs' => v = .bool (Md.exact w s.rest) ∧ cs = cs') := by
  refine F.atM hm fun R => F.of rfl rfl rfl ?_
  repeat' first | exact arI | refine Pst.mk ⟨?_, rfl⟩ (by (repeat' constructor); first | done | fail) | constructor | (refine fun _ _ (hq : Hold _) => ?_; replace hq := hq.out; obtain ⟨_, rfl, rfl⟩ := hq) | (refine fun _ _ (hq : Hold _) => ?_; replace hq := hq.out; obtain ⟨_, _, rfl, rfl⟩ := hq) | rintro _ _ ⟨rfl, rfl⟩ | rintro _ _ ⟨_, rfl, rfl⟩ | rintro _ _ ⟨_, _, rfl, rfl⟩ | (refine fun (hc : _ = _) => ?_; (try simp only [BB] at hc)) | refine fun (_ : Nat) => ?_ | refine fun (_ : _ ≤ _) => ?_ | refine fun (_ : _ < _) => ?_
  rename_i q hq
  refine RS.loopW (α := Nat) (fun i => [(0, .ptr id 0), (8, .ptr q 0)]) (fun i => .obj q (.siter w i) :: LX id s g :: R)
    (fun i => i ≤ w.length ∧ Md.exact (w.drop i) (s.rest.drop i) = Md.exact w s.rest) (fun i => w.length - i) 0 ⟨by simp, by simp⟩ ⟨rfl, rfl, trivial⟩ .refl ?_
  rintro i ⟨h1, h2⟩ ih
  dsimp only [ents] at *
  have hdec := fun h => dec_low (i := i) hw h
  have hst : i < w.length → Md.exact (w.drop i) (s.rest.drop i) = (s.pk i == ((w.getD i 0).toNat : Int) && Md.exact (w.drop (i + 1)) (s.rest.drop (i + 1))) := fun h => by
    rw [drop_get h]; simp only [Md.exact, head_drop, List.tail_drop]
  repeat' first | exact peek_F (by (repeat' constructor); first | done | fail) (by omega) (by omega) | exact arI | refine Pst.mk ⟨?_, rfl⟩ (by (repeat' constructor); first | done | fail) | constructor | (refine fun _ _ (hq : Hold _) => ?_; replace hq := hq.out; obtain ⟨_, rfl, rfl⟩ := hq) | (refine fun _ _ (hq : Hold _) => ?_; replace hq := hq.out; obtain ⟨_, _, rfl, rfl⟩ := hq) | rintro _ _ ⟨rfl, rfl⟩ | rintro _ _ ⟨_, rfl, rfl⟩ | rintro _ _ ⟨_, _, rfl, rfl⟩ | (refine fun (hc : _ = _) => ?_; (try simp only [BB] at hc)) | refine fun (_ : Nat) => ?_ | refine fun (_ : _ ≤ _) => ?_ | refine fun (_ : _ < _) => ?_
  · rw [hdec (by omega)] at hc
    rw [← h2, hst (by omega), beq_false_of_ne hc]; rfl
  · rw [hdec (by omega)] at hc ⊢
    refine ih _ _ (i + 1) ⟨by omega, ?_⟩ (by omega) ⟨rfl, rfl, trivial⟩ (by (repeat' constructor); first | done | fail)
    rw [← h2, hst (by omega)]; simp [hc]
  · cases hc
  · rw [← h2, List.drop_eq_nil_of_le (by omega)]; rfl
theorem blanksN_step (h : s.pos < s.inp.length) : Md.blanksN s.rest = if Md.blank (s.pk 0) = true then Md.blanksN (s.adv 1).rest + 1 else 0 := by
  rw [rest_cons h, rest_adv]
  simp only [Md.blanksN, List.takeWhile_cons]
  split <;> simp
theorem blank_eof : Md.blank (-1) = false := by decide
theorem blanks_F {cs2 : List Ck} (hu : Upd1 (LX id s g) (LX id s.blanks g) cs cs2) (hb : s.inp.length ≤ 1000000000 ∧ s.pos ≤ 20000000000) : F D 113 [.ptr id 0] cs (fun v cs' => v = .tup [] ∧ cs2 = cs') := by
  refine F.at1 hu fun R => F.of rfl rfl rfl ?_
  repeat' first | exact arI | refine Pst.mk ⟨?_, rfl⟩ (by (repeat' constructor); first | done | fail) | constructor | (refine fun _ _ (hq : Hold _) => ?_; replace hq := hq.out; obtain ⟨_, rfl, rfl⟩ := hq) | (refine fun _ _ (hq : Hold _) => ?_; replace hq := hq.out; obtain ⟨_, _, rfl, rfl⟩ := hq) | rintro _ _ ⟨rfl, rfl⟩ | rintro _ _ ⟨_, rfl, rfl⟩ | rintro _ _ ⟨_, _, rfl, rfl⟩ | (refine fun (hc : _ = _) => ?_; (try simp only [BB] at hc)) | refine fun (_ : Nat) => ?_ | refine fun (_ : _ ≤ _) => ?_ | refine fun (_ : _ < _) => ?_
  refine RS.loopW (α := Nat) (fun i => [(0, .ptr id 0)]) (fun i => LX id (s.adv i) g :: R)
    (fun i => i + Md.blanksN (s.adv i).rest = Md.blanksN s.rest ∧ (i = 0 ∨ s.pos + i ≤ s.inp.length)) (fun i => s.inp.length - (s.pos + i)) 0 ⟨by simp [adv_zero], .inl rfl⟩ ⟨rfl, trivial⟩ .refl ?_
  rintro i ⟨h1, h2⟩ ih
  dsimp only [ents] at *
  have hp : (s.adv i).pos = s.pos + i := rfl
  have hq : (s.adv i).inp = s.inp := rfl
  have hst := fun h => blanksN_step (s := s.adv i) h
  have hnil := fun h => rest_nil (s := s.adv i) h
  have hpn := fun h => pk_nil (s := s.adv i) h
  rw [adv_adv] at hst
  rw [hp, hq] at hst hnil hpn
  repeat' first | (show LD _ _ _ _; first | exact LX.ldPos (by (repeat' constructor); first | done | fail) | exact LX.ldWay (by (repeat' constructor); first | done | fail) | exact LX.ldLast (by (repeat' constructor); first | done | fail) | exact LX.ldRoom (by (repeat' constructor); first | done | fail) | exact LX.ldDone (by (repeat' constructor); first | done | fail) | exact LX.ldText (by (repeat' constructor); first | done | fail)) | (apply RR.lxIn; exact rfl; exact rfl; exact rfl; exact (by (repeat' constructor); first | done | fail); refine fun _ => ?_) | (apply RR.lxOut; exact rfl; exact rfl; exact rfl; exact (by (repeat' constructor); first | done | fail); refine fun _ => ?_) | (apply RR.storeS; exact rfl; exact rfl; first | exact LX.stPos 1 rfl (by (repeat' constructor); first | done | fail) | exact LX.stPos 2 rfl (by (repeat' constructor); first | done | fail) | exact LX.stPos 3 rfl (by (repeat' constructor); first | done | fail) | exact LX.stPos 6 rfl (by (repeat' constructor); first | done | fail) | exact LX.stPos 7 rfl (by (repeat' constructor); first | done | fail) | exact LX.stPos _ rfl (by (repeat' constructor); first | done | fail) | exact LX.stPos2 1 _ (by (repeat' constructor); first | done | fail) | exact LX.stPos2 2 _ (by (repeat' constructor); first | done | fail) | exact LX.stWay (by (repeat' constructor); first | done | fail) | exact LX.stLast (by (repeat' constructor); first | done | fail) | exact LX.stRoom (by (repeat' constructor); first | done | fail) | exact LX.stDone (by (repeat' constructor); first | done | fail); exact rfl) | exact peek0_F (by (repeat' constructor); first | done | fail) (by rw [hp, hq]; omega) | exact blank_F | exact arI | refine Pst.mk ⟨?_, rfl⟩ (by (repeat' constructor); first | done | fail) | constructor | (refine fun _ _ (hq : Hold _) => ?_; replace hq := hq.out; obtain ⟨_, rfl, rfl⟩ := hq) | (refine fun _ _ (hq : Hold _) => ?_; replace hq := hq.out; obtain ⟨_, _, rfl, rfl⟩ := hq) | rintro _ _ ⟨rfl, rfl⟩ | rintro _ _ ⟨_, rfl, rfl⟩ | rintro _ _ ⟨_, _, rfl, rfl⟩ | (refine fun (hc : _ = _) => ?_; (try simp only [BB] at hc)) | refine fun (_ : Nat) => ?_ | refine fun (_ : _ ≤ _) => ?_ | refine fun (_ : _ < _) => ?_
  · by_cases h : s.inp.length ≤ s.pos + i
    · rw [hpn h] at hc; cases hc
    · rw [hst (by omega), if_pos hc] at h1
      exact ih _ _ (i + 1) ⟨by omega, .inr (by omega)⟩ (by omega) ⟨rfl, trivial⟩ (by (repeat' constructor); first | done | fail)
  · have e : s.blanks = s.adv i := by
      by_cases h : s.inp.length ≤ s.pos + i
      · rw [hnil h] at h1; rw [Md.Lx.blanks, ← h1]; rfl
      · rw [hst (by omega), hc] at h1; rw [Md.Lx.blanks, ← h1]; rfl
    rw [e]; exact Pst.mk ⟨rfl, rfl⟩ .refl
end Go.Proofs.YticnenofiibpgaaDoor.Code
/- What the lexer's steps up to a sign do. -/
namespace Go.Proofs.YticnenofiibpgaaDoor.Code
open Go.Dm Go.Dm.C
set_option linter.unusedSimpArgs false
set_option linter.unusedVariables false
set_option linter.unnecessarySimpa false
set_option maxRecDepth 10000
attribute [local irreducible] Go.Dm.F Go.Dm.RS Go.Dm.Y Go.Dm.FD Go.Dm.FZ1 Go.Dm.Hold
variable {id : Nat} {s : Md.Lx} {g : Nat × Nat} {cs : List Ck}
theorem rest_adv_cons {i : Nat} (h : s.pos + i < s.inp.length) : (s.adv i).rest = s.pk i :: (s.adv (i + 1)).rest := by
  have := rest_cons (s := s.adv i) h
  rw [this, pk_adv, Nat.add_zero, ← rest_adv, adv_adv]
theorem rest_adv_nil {i : Nat} (h : s.inp.length ≤ s.pos + i) : (s.adv i).rest = [] := rest_nil (s := s.adv i) h
theorem pk_out {i : Nat} (h : s.inp.length ≤ s.pos + i) : s.pk i = -1 := by
  have := pk_nil (s := s.adv i) h
  rwa [pk_adv, Nat.add_zero] at this
theorem pk_in {i : Nat} (hn : ∀ r ∈ s.inp, 0 ≤ r) (h : s.pos + i < s.inp.length) : 0 ≤ s.pk i := by
  have := pk_nonneg (s := s.adv i) hn h
  rwa [pk_adv, Nat.add_zero] at this
theorem pk_say (rs : List Int) (n : Nat) : (s.say rs).pk n = s.pk n := rfl
theorem pk_clr (n : Nat) : s.clr.pk n = s.pk n := rfl
theorem adv_clr (n : Nat) : s.clr.adv n = (s.adv n).clr := rfl
theorem rest_clr : s.clr.rest = s.rest := rfl
theorem say_say (a b : List Int) : (s.say a).say b = s.say (a ++ b) := by simp [Md.Lx.say]
theorem say_adv (a : List Int) (n : Nat) : (s.say a).adv n = (s.adv n).say a := rfl
theorem skip_F {cs2 : List Ck} (hu : Upd1 (LX id s g) (LX id s.skip g) cs cs2) (hb : s.inp.length ≤ 1000000000 ∧ s.pos ≤ 20000000000) (hn : ∀ r ∈ s.inp, 0 ≤ r) : F D 114 [.ptr id 0] cs (fun v cs' => v = .tup [] ∧ cs2 = cs') := by
  refine F.at1 hu fun R => F.of rfl rfl rfl ?_
  repeat' first | exact arI | refine Pst.mk ⟨?_, rfl⟩ (by (repeat' constructor); first | done | fail) | constructor | (refine fun _ _ (hq : Hold _) => ?_; replace hq := hq.out; obtain ⟨_, rfl, rfl⟩ := hq) | (refine fun _ _ (hq : Hold _) => ?_; replace hq := hq.out; obtain ⟨_, _, rfl, rfl⟩ := hq) | rintro _ _ ⟨rfl, rfl⟩ | rintro _ _ ⟨_, rfl, rfl⟩ | rintro _ _ ⟨_, _, rfl, rfl⟩ | (refine fun (hc : _ = _) => ?_; (try simp only [BB] at hc)) | refine fun (_ : Nat) => ?_ | refine fun (_ : _ ≤ _) => ?_ | refine fun (_ : _ < _) => ?_
  refine RS.loopW (α := Nat) (fun i => [(0, .ptr id 0)]) (fun i => LX id (s.adv i) g :: R)
    (fun i => i + Md.skipN (s.adv i).rest = Md.skipN s.rest ∧ (i = 0 ∨ s.pos + i ≤ s.inp.length)) (fun i => s.inp.length - (s.pos + i)) 0 ⟨by simp [adv_zero], .inl rfl⟩ ⟨rfl, trivial⟩ .refl ?_
  rintro i ⟨h1, h2⟩ ih
  dsimp only [ents] at *
  (have hst := fun h => rest_adv_cons (s := s) (i := i) h; have hnil := fun h => rest_adv_nil (s := s) (i := i) h; have hpn := fun h => pk_out (s := s) (i := i) h; have hpi := fun h => pk_in (s := s) (i := i) hn h)
  repeat' first | (show LD _ _ _ _; first | exact LX.ldPos (by (repeat' constructor); first | done | fail) | exact LX.ldWay (by (repeat' constructor); first | done | fail) | exact LX.ldLast (by (repeat' constructor); first | done | fail) | exact LX.ldRoom (by (repeat' constructor); first | done | fail) | exact LX.ldDone (by (repeat' constructor); first | done | fail) | exact LX.ldText (by (repeat' constructor); first | done | fail)) | (apply RR.lxIn; exact rfl; exact rfl; exact rfl; exact (by (repeat' constructor); first | done | fail); refine fun _ => ?_) | (apply RR.lxOut; exact rfl; exact rfl; exact rfl; exact (by (repeat' constructor); first | done | fail); refine fun _ => ?_) | (apply RR.storeS; exact rfl; exact rfl; first | exact LX.stPos 1 rfl (by (repeat' constructor); first | done | fail) | exact LX.stPos 2 rfl (by (repeat' constructor); first | done | fail) | exact LX.stPos 3 rfl (by (repeat' constructor); first | done | fail) | exact LX.stPos 6 rfl (by (repeat' constructor); first | done | fail) | exact LX.stPos 7 rfl (by (repeat' constructor); first | done | fail) | exact LX.stPos _ rfl (by (repeat' constructor); first | done | fail) | exact LX.stPos2 1 _ (by (repeat' constructor); first | done | fail) | exact LX.stPos2 2 _ (by (repeat' constructor); first | done | fail) | exact LX.stWay (by (repeat' constructor); first | done | fail) | exact LX.stLast (by (repeat' constructor); first | done | fail) | exact LX.stRoom (by (repeat' constructor); first | done | fail) | exact LX.stDone (by (repeat' constructor); first | done | fail); exact rfl) | (show FC _ _ _ _ _; first | exact peek0_F (by (repeat' constructor); first | done | fail) (by first | omega | ((simp only [Md.Lx.adv, Md.Lx.say, Md.Lx.clr, List.nil_append, List.length_append, List.length_cons, List.length_nil]); omega)) | exact peek1_F (by (repeat' constructor); first | done | fail) (by first | omega | ((simp only [Md.Lx.adv, Md.Lx.say, Md.Lx.clr, List.nil_append, List.length_append, List.length_cons, List.length_nil]); omega)) | exact peek6_F (by (repeat' constructor); first | done | fail) (by first | omega | ((simp only [Md.Lx.adv, Md.Lx.say, Md.Lx.clr, List.nil_append, List.length_append, List.length_cons, List.length_nil]); omega)) | exact next_F (by (repeat' constructor); first | done | fail) (by first | omega | ((simp only [Md.Lx.adv, Md.Lx.say, Md.Lx.clr, List.nil_append, List.length_append, List.length_cons, List.length_nil]); omega)) | exact back_F (by (repeat' constructor); first | done | fail) (by first | omega | ((simp only [Md.Lx.adv, Md.Lx.say, Md.Lx.clr, List.nil_append, List.length_append, List.length_cons, List.length_nil]); omega)) | exact blank_F | exact letter_F | exact small_F | exact encode_F rfl (by first | omega | ((simp only [Md.Lx.adv, Md.Lx.say, Md.Lx.clr, List.nil_append, List.length_append, List.length_cons, List.length_nil]); omega)) | exact say_F rfl (by (repeat' constructor); first | done | fail) (by (repeat' constructor); first | done | fail) (by first | omega | ((simp only [Md.Lx.adv, Md.Lx.say, Md.Lx.clr, List.nil_append, List.length_append, List.length_cons, List.length_nil]); omega)) | exact stands_F (by (repeat' constructor); first | done | fail) (by first | omega | ((simp only [Md.Lx.adv, Md.Lx.say, Md.Lx.clr, List.nil_append, List.length_append, List.length_cons, List.length_nil]); omega)) (by decide) (by first | omega | ((simp only [Md.Lx.adv, Md.Lx.say, Md.Lx.clr, List.nil_append, List.length_append, List.length_cons, List.length_nil]); omega)) | exact exact_F (by (repeat' constructor); first | done | fail) (by first | omega | ((simp only [Md.Lx.adv, Md.Lx.say, Md.Lx.clr, List.nil_append, List.length_append, List.length_cons, List.length_nil]); omega)) (by decide) (by first | omega | ((simp only [Md.Lx.adv, Md.Lx.say, Md.Lx.clr, List.nil_append, List.length_append, List.length_cons, List.length_nil]); omega))) | (refine fun (hc : _ = _) => ?_; (try simp only [BB] at hc); (try (first | contradiction | (exfalso; omega)))) | (refine Arith.mk ?_; (try intro _); simp only [Md.Lx.adv, Md.Lx.say, Md.Lx.clr, List.nil_append, List.length_append, List.length_cons, List.length_nil]; omega) | exact arI | refine Pst.mk ⟨?_, rfl⟩ (by (repeat' constructor); first | done | fail) | constructor | (refine fun _ _ (hq : Hold _) => ?_; replace hq := hq.out; obtain ⟨_, rfl, rfl⟩ := hq) | (refine fun _ _ (hq : Hold _) => ?_; replace hq := hq.out; obtain ⟨_, _, rfl, rfl⟩ := hq) | rintro _ _ ⟨rfl, rfl⟩ | rintro _ _ ⟨_, rfl, rfl⟩ | rintro _ _ ⟨_, _, rfl, rfl⟩ | (refine fun (hc : _ = _) => ?_; (try simp only [BB] at hc)) | refine fun (_ : Nat) => ?_ | refine fun (_ : _ ≤ _) => ?_ | refine fun (_ : _ < _) => ?_
  all_goals (try simp only [pk_adv, pk_say, Nat.add_zero, adv_adv, say_say, say_adv, pk_clr, adv_clr] at *)
  · have hlt : s.pos + i < s.inp.length := by by_cases h : s.pos + i < s.inp.length; exact h; rw [hpn (by omega)] at hc; omega
    rw [hst hlt] at h1
    simp only [Md.skipN, if_pos hc] at h1
    rw [Md.Lx.skip, ← h1]; exact Pst.mk ⟨trivial, rfl⟩ .refl
  · have hge : s.inp.length ≤ s.pos + i := by by_cases h : s.pos + i < s.inp.length; (have := hpi h; omega); omega
    rw [hnil hge] at h1
    rw [Md.Lx.skip, ← h1]; exact Pst.mk ⟨trivial, rfl⟩ .refl
  · have hlt : s.pos + i < s.inp.length := by by_cases h : s.pos + i < s.inp.length; exact h; rw [hpn (by omega)] at hc; omega
    rw [hst hlt] at h1
    rename_i hc1
    simp only [Md.skipN, if_neg hc1] at h1
    exact ih _ _ (i + 1) ⟨by omega, by omega⟩ (by omega) ⟨rfl, trivial⟩ (by (repeat' constructor); first | done | fail)
theorem word_F (hm : Me (LX id s g) cs) (hb : s.inp.length ≤ 1000000000 ∧ s.pos ≤ 20000000000) : F D 95 [.ptr id 0] cs (fun v cs' => v = .int .i64 (Md.word s.rest : Nat) ∧ cs = cs') := by
  refine F.atM hm fun R => F.of rfl rfl rfl ?_
  repeat' first | (show LD _ _ _ _; first | exact LX.ldPos (by (repeat' constructor); first | done | fail) | exact LX.ldWay (by (repeat' constructor); first | done | fail) | exact LX.ldLast (by (repeat' constructor); first | done | fail) | exact LX.ldRoom (by (repeat' constructor); first | done | fail) | exact LX.ldDone (by (repeat' constructor); first | done | fail) | exact LX.ldText (by (repeat' constructor); first | done | fail)) | (apply RR.lxIn; exact rfl; exact rfl; exact rfl; exact (by (repeat' constructor); first | done | fail); refine fun _ => ?_) | (apply RR.lxOut; exact rfl; exact rfl; exact rfl; exact (by (repeat' constructor); first | done | fail); refine fun _ => ?_) | (apply RR.storeS; exact rfl; exact rfl; first | exact LX.stPos 1 rfl (by (repeat' constructor); first | done | fail) | exact LX.stPos 2 rfl (by (repeat' constructor); first | done | fail) | exact LX.stPos 3 rfl (by (repeat' constructor); first | done | fail) | exact LX.stPos 6 rfl (by (repeat' constructor); first | done | fail) | exact LX.stPos 7 rfl (by (repeat' constructor); first | done | fail) | exact LX.stPos _ rfl (by (repeat' constructor); first | done | fail) | exact LX.stPos2 1 _ (by (repeat' constructor); first | done | fail) | exact LX.stPos2 2 _ (by (repeat' constructor); first | done | fail) | exact LX.stWay (by (repeat' constructor); first | done | fail) | exact LX.stLast (by (repeat' constructor); first | done | fail) | exact LX.stRoom (by (repeat' constructor); first | done | fail) | exact LX.stDone (by (repeat' constructor); first | done | fail); exact rfl) | (show FC _ _ _ _ _; first | exact peek0_F (by (repeat' constructor); first | done | fail) (by first | omega | ((simp only [Md.Lx.adv, Md.Lx.say, Md.Lx.clr, List.nil_append, List.length_append, List.length_cons, List.length_nil]); omega)) | exact peek1_F (by (repeat' constructor); first | done | fail) (by first | omega | ((simp only [Md.Lx.adv, Md.Lx.say, Md.Lx.clr, List.nil_append, List.length_append, List.length_cons, List.length_nil]); omega)) | exact peek6_F (by (repeat' constructor); first | done | fail) (by first | omega | ((simp only [Md.Lx.adv, Md.Lx.say, Md.Lx.clr, List.nil_append, List.length_append, List.length_cons, List.length_nil]); omega)) | exact next_F (by (repeat' constructor); first | done | fail) (by first | omega | ((simp only [Md.Lx.adv, Md.Lx.say, Md.Lx.clr, List.nil_append, List.length_append, List.length_cons, List.length_nil]); omega)) | exact back_F (by (repeat' constructor); first | done | fail) (by first | omega | ((simp only [Md.Lx.adv, Md.Lx.say, Md.Lx.clr, List.nil_append, List.length_append, List.length_cons, List.length_nil]); omega)) | exact blank_F | exact letter_F | exact small_F | exact encode_F rfl (by first | omega | ((simp only [Md.Lx.adv, Md.Lx.say, Md.Lx.clr, List.nil_append, List.length_append, List.length_cons, List.length_nil]); omega)) | exact say_F rfl (by (repeat' constructor); first | done | fail) (by (repeat' constructor); first | done | fail) (by first | omega | ((simp only [Md.Lx.adv, Md.Lx.say, Md.Lx.clr, List.nil_append, List.length_append, List.length_cons, List.length_nil]); omega)) | exact stands_F (by (repeat' constructor); first | done | fail) (by first | omega | ((simp only [Md.Lx.adv, Md.Lx.say, Md.Lx.clr, List.nil_append, List.length_append, List.length_cons, List.length_nil]); omega)) (by decide) (by first | omega | ((simp only [Md.Lx.adv, Md.Lx.say, Md.Lx.clr, List.nil_append, List.length_append, List.length_cons, List.length_nil]); omega)) | exact exact_F (by (repeat' constructor); first | done | fail) (by first | omega | ((simp only [Md.Lx.adv, Md.Lx.say, Md.Lx.clr, List.nil_append, List.length_append, List.length_cons, List.length_nil]); omega)) (by decide) (by first | omega | ((simp only [Md.Lx.adv, Md.Lx.say, Md.Lx.clr, List.nil_append, List.length_append, List.length_cons, List.length_nil]); omega))) | (refine fun (hc : _ = _) => ?_; (try simp only [BB] at hc); (try (first | contradiction | (exfalso; omega)))) | (refine Arith.mk ?_; (try intro _); simp only [Md.Lx.adv, Md.Lx.say, Md.Lx.clr, List.nil_append, List.length_append, List.length_cons, List.length_nil]; omega) | exact arI | refine Pst.mk ⟨?_, rfl⟩ (by (repeat' constructor); first | done | fail) | constructor | (refine fun _ _ (hq : Hold _) => ?_; replace hq := hq.out; obtain ⟨_, rfl, rfl⟩ := hq) | (refine fun _ _ (hq : Hold _) => ?_; replace hq := hq.out; obtain ⟨_, _, rfl, rfl⟩ := hq) | rintro _ _ ⟨rfl, rfl⟩ | rintro _ _ ⟨_, rfl, rfl⟩ | rintro _ _ ⟨_, _, rfl, rfl⟩ | (refine fun (hc : _ = _) => ?_; (try simp only [BB] at hc)) | refine fun (_ : Nat) => ?_ | refine fun (_ : _ ≤ _) => ?_ | refine fun (_ : _ < _) => ?_
  all_goals simp only [← pk_rest, Md.word, Md.over, Bool.or_eq_true, beq_iff_eq]
  · rw [if_neg (by simp [hc])]; rfl
  · rename_i h1
    rw [if_pos ⟨h1, by simpa using hc⟩]; rfl
  · rename_i h1
    rw [if_neg (fun h => by simp_all)]; rfl
theorem over_t {r : Int} : (Md.over r = true) = ((Md.blank r = true ∨ r = 47) ∨ r = 62) := by simp [Md.over]
theorem over_f {r : Int} : (Md.over r = false) = ((Md.blank r = false ∧ ¬r = 47) ∧ ¬r = 62) := by simp [Md.over, Bool.or_eq_false_iff]
theorem nameOf_cons {r : Int} {l : List Int} : Md.nameOf (r :: l) = if Md.over r = true then [] else r :: Md.nameOf l := by
  simp only [Md.nameOf, List.takeWhile_cons]
  cases h : Md.over r <;> simp [h]
theorem name_F {cs2 : List Ck} (hu : Upd1 (LX id s g) (LX id (s.adv (Md.nameOf s.rest).length) g) cs cs2) (hb : s.inp.length ≤ 1000000000 ∧ s.pos ≤ 20000000000) (hn : ∀ r ∈ s.inp, 0 ≤ r) : F D 105 [.ptr id 0] cs (fun v cs' => v = .str (Md.encode ((Md.nameOf s.rest).map fun r => Md.small (Md.fixr r))) ∧ cs2 = cs') := by
  refine F.at1 hu fun R => F.of rfl rfl rfl ?_
  repeat' first | exact arI | refine Pst.mk ⟨?_, rfl⟩ (by (repeat' constructor); first | done | fail) | constructor | (refine fun _ _ (hq : Hold _) => ?_; replace hq := hq.out; obtain ⟨_, rfl, rfl⟩ := hq) | (refine fun _ _ (hq : Hold _) => ?_; replace hq := hq.out; obtain ⟨_, _, rfl, rfl⟩ := hq) | rintro _ _ ⟨rfl, rfl⟩ | rintro _ _ ⟨_, rfl, rfl⟩ | rintro _ _ ⟨_, _, rfl, rfl⟩ | (refine fun (hc : _ = _) => ?_; (try simp only [BB] at hc)) | refine fun (_ : Nat) => ?_ | refine fun (_ : _ ≤ _) => ?_ | refine fun (_ : _ < _) => ?_
  refine RS.nilOwn 1 (RS.loopW (α := Nat × Nat × List Int) (fun a => [(0, .ptr id 0), (3, .lst a.2.1 (zOf a.2.1 1) (a.2.2.map I32))]) (fun a => .own a.2.1 1 (a.2.2.map I32) :: LX id (s.adv a.1) g :: R)
    (fun a => a.1 + (Md.nameOf (s.adv a.1).rest).length = (Md.nameOf s.rest).length ∧ (a.1 = 0 ∨ s.pos + a.1 ≤ s.inp.length) ∧ a.2.2.length = a.1 ∧ a.2.2 ++ (Md.nameOf (s.adv a.1).rest).map (fun r => Md.small (Md.fixr r)) = (Md.nameOf s.rest).map (fun r => Md.small (Md.fixr r))) (fun a => s.inp.length - (s.pos + a.1)) (0, 0, []) ⟨by simp [adv_zero], .inl rfl, rfl, by simp [adv_zero]⟩ ⟨rfl, rfl, trivial⟩ .refl ?_)
  rintro ⟨i, tb, acc⟩ ⟨h1, h2, h3, h4⟩ ih
  dsimp only [ents] at *
  (have hst := fun h => rest_adv_cons (s := s) (i := i) h; have hnil := fun h => rest_adv_nil (s := s) (i := i) h; have hpn := fun h => pk_out (s := s) (i := i) h; have hpi := fun h => pk_in (s := s) (i := i) hn h)
  repeat' first | (show LD _ _ _ _; first | exact LX.ldPos (by (repeat' constructor); first | done | fail) | exact LX.ldWay (by (repeat' constructor); first | done | fail) | exact LX.ldLast (by (repeat' constructor); first | done | fail) | exact LX.ldRoom (by (repeat' constructor); first | done | fail) | exact LX.ldDone (by (repeat' constructor); first | done | fail) | exact LX.ldText (by (repeat' constructor); first | done | fail)) | (apply RR.lxIn; exact rfl; exact rfl; exact rfl; exact (by (repeat' constructor); first | done | fail); refine fun _ => ?_) | (apply RR.lxOut; exact rfl; exact rfl; exact rfl; exact (by (repeat' constructor); first | done | fail); refine fun _ => ?_) | (apply RR.storeS; exact rfl; exact rfl; first | exact LX.stPos 1 rfl (by (repeat' constructor); first | done | fail) | exact LX.stPos 2 rfl (by (repeat' constructor); first | done | fail) | exact LX.stPos 3 rfl (by (repeat' constructor); first | done | fail) | exact LX.stPos 6 rfl (by (repeat' constructor); first | done | fail) | exact LX.stPos 7 rfl (by (repeat' constructor); first | done | fail) | exact LX.stPos _ rfl (by (repeat' constructor); first | done | fail) | exact LX.stPos2 1 _ (by (repeat' constructor); first | done | fail) | exact LX.stPos2 2 _ (by (repeat' constructor); first | done | fail) | exact LX.stWay (by (repeat' constructor); first | done | fail) | exact LX.stLast (by (repeat' constructor); first | done | fail) | exact LX.stRoom (by (repeat' constructor); first | done | fail) | exact LX.stDone (by (repeat' constructor); first | done | fail); exact rfl) | (show FC _ _ _ _ _; first | exact peek0_F (by (repeat' constructor); first | done | fail) (by first | omega | ((simp only [Md.Lx.adv, Md.Lx.say, Md.Lx.clr, List.nil_append, List.length_append, List.length_cons, List.length_nil]); omega)) | exact peek1_F (by (repeat' constructor); first | done | fail) (by first | omega | ((simp only [Md.Lx.adv, Md.Lx.say, Md.Lx.clr, List.nil_append, List.length_append, List.length_cons, List.length_nil]); omega)) | exact peek6_F (by (repeat' constructor); first | done | fail) (by first | omega | ((simp only [Md.Lx.adv, Md.Lx.say, Md.Lx.clr, List.nil_append, List.length_append, List.length_cons, List.length_nil]); omega)) | exact next_F (by (repeat' constructor); first | done | fail) (by first | omega | ((simp only [Md.Lx.adv, Md.Lx.say, Md.Lx.clr, List.nil_append, List.length_append, List.length_cons, List.length_nil]); omega)) | exact back_F (by (repeat' constructor); first | done | fail) (by first | omega | ((simp only [Md.Lx.adv, Md.Lx.say, Md.Lx.clr, List.nil_append, List.length_append, List.length_cons, List.length_nil]); omega)) | exact blank_F | exact letter_F | exact small_F | exact encode_F rfl (by first | omega | ((simp only [Md.Lx.adv, Md.Lx.say, Md.Lx.clr, List.nil_append, List.length_append, List.length_cons, List.length_nil]); omega)) | exact say_F rfl (by (repeat' constructor); first | done | fail) (by (repeat' constructor); first | done | fail) (by first | omega | ((simp only [Md.Lx.adv, Md.Lx.say, Md.Lx.clr, List.nil_append, List.length_append, List.length_cons, List.length_nil]); omega)) | exact stands_F (by (repeat' constructor); first | done | fail) (by first | omega | ((simp only [Md.Lx.adv, Md.Lx.say, Md.Lx.clr, List.nil_append, List.length_append, List.length_cons, List.length_nil]); omega)) (by decide) (by first | omega | ((simp only [Md.Lx.adv, Md.Lx.say, Md.Lx.clr, List.nil_append, List.length_append, List.length_cons, List.length_nil]); omega)) | exact exact_F (by (repeat' constructor); first | done | fail) (by first | omega | ((simp only [Md.Lx.adv, Md.Lx.say, Md.Lx.clr, List.nil_append, List.length_append, List.length_cons, List.length_nil]); omega)) (by decide) (by first | omega | ((simp only [Md.Lx.adv, Md.Lx.say, Md.Lx.clr, List.nil_append, List.length_append, List.length_cons, List.length_nil]); omega))) | (refine fun (hc : _ = _) => ?_; (try simp only [BB] at hc); (try (first | contradiction | (exfalso; omega)))) | (refine Arith.mk ?_; (try intro _); simp only [Md.Lx.adv, Md.Lx.say, Md.Lx.clr, List.nil_append, List.length_append, List.length_cons, List.length_nil]; omega) | exact arI | refine Pst.mk ⟨?_, rfl⟩ (by (repeat' constructor); first | done | fail) | constructor | (refine fun _ _ (hq : Hold _) => ?_; replace hq := hq.out; obtain ⟨_, rfl, rfl⟩ := hq) | (refine fun _ _ (hq : Hold _) => ?_; replace hq := hq.out; obtain ⟨_, _, rfl, rfl⟩ := hq) | rintro _ _ ⟨rfl, rfl⟩ | rintro _ _ ⟨_, rfl, rfl⟩ | rintro _ _ ⟨_, _, rfl, rfl⟩ | (refine fun (hc : _ = _) => ?_; (try simp only [BB] at hc)) | refine fun (_ : Nat) => ?_ | refine fun (_ : _ ≤ _) => ?_ | refine fun (_ : _ < _) => ?_
  all_goals (try simp only [pk_adv, pk_say, Nat.add_zero, adv_adv, say_say, say_adv, pk_clr, adv_clr] at *)
  · have hnil2 : Md.nameOf (s.adv i).rest = [] := by
      by_cases h : s.inp.length ≤ s.pos + i
      · rw [hnil h]; rfl
      · have := hpi (by omega)
        rw [hst (by omega), nameOf_cons, if_pos]
        rw [over_t]; exact hc.resolve_right (by omega)
    rw [hnil2] at h1 h4
    simp only [List.map_nil, List.append_nil, List.length_nil, Nat.add_zero] at h1 h4
    rw [h4, ← h1]
    exact Pst.mk ⟨rfl, rfl⟩ (by (repeat' constructor); first | done | fail)
  all_goals
    rename_i t1 q1 t2 hA
    have hlt : s.pos + i < s.inp.length := by by_cases h : s.pos + i < s.inp.length; exact h; rw [hpn (by omega)] at hA; omega
    rw [hst hlt, nameOf_cons, if_neg (by rw [Bool.not_eq_true, over_f]; exact hA.1)] at h1 h4
    simp only [List.map_cons, List.length_cons] at h1 h4
    refine ih _ _ (i + 1, t2, acc ++ [Md.small (Md.fixr (s.pk i))]) ⟨by dsimp only; omega, .inr (by dsimp only; omega), by simp [h3], by rw [← h4]; simp⟩ (by dsimp only; omega) ?_ ?_
  · simp only [Md.fixr, if_pos hc]; exact ⟨rfl, rfl, trivial⟩
  · simp only [Md.fixr, if_pos hc]; exact (by (repeat' constructor); first | done | fail)
  · simp only [Md.fixr, if_neg hc]; exact ⟨rfl, rfl, trivial⟩
  · simp only [Md.fixr, if_neg hc]; exact (by (repeat' constructor); first | done | fail)
theorem filter_le (l : List Int) : (l.filter (· != -1)).length ≤ l.length := List.length_filter_le ..
theorem take_F {n : Nat} {cs2 : Nat → List Ck} (hu : Upd (LX id s g) (fun a => LX id ((s.say (s.rest.take n)).adv n) (g.1, a)) cs cs2) (hb : s.inp.length ≤ 1000000000 ∧ s.pos ≤ 20000000000 ∧ s.text.length ≤ 80000000000) (hn : s.pos + n ≤ s.inp.length) :
    F D 96 [.ptr id 0, .int .i64 (n : Nat)] cs (fun v cs' => Hold (∃ a, v = .tup [] ∧ cs2 a = cs')) := by
  refine F.atG hu fun R => F.of rfl rfl rfl ?_
  repeat' first | exact arI | refine Pst.mk ⟨?_, rfl⟩ (by (repeat' constructor); first | done | fail) | constructor | (refine fun _ _ (hq : Hold _) => ?_; replace hq := hq.out; obtain ⟨_, rfl, rfl⟩ := hq) | (refine fun _ _ (hq : Hold _) => ?_; replace hq := hq.out; obtain ⟨_, _, rfl, rfl⟩ := hq) | rintro _ _ ⟨rfl, rfl⟩ | rintro _ _ ⟨_, rfl, rfl⟩ | rintro _ _ ⟨_, _, rfl, rfl⟩ | (refine fun (hc : _ = _) => ?_; (try simp only [BB] at hc)) | refine fun (_ : Nat) => ?_ | refine fun (_ : _ ≤ _) => ?_ | refine fun (_ : _ < _) => ?_
  refine RS.loopW (α := Nat × Nat) (fun a => [(0, .ptr id 0), (4, .int .i64 (n : Nat)), (5, .int .i64 (a.1 : Nat))]) (fun a => LX id ((s.say (s.rest.take a.1)).adv a.1) (g.1, a.2) :: R)
    (fun a => a.1 ≤ n) (fun a => n - a.1) (0, g.2) (Nat.zero_le _) ⟨rfl, rfl, rfl, trivial⟩ (by simpa [Md.Lx.say, Md.Lx.adv] using KK.refl) ?_
  rintro ⟨i, tt⟩ h1 ih
  dsimp only [ents] at *
  have hfl := filter_le (s.rest.take i)
  rw [List.length_take] at hfl
  repeat' first | (show LD _ _ _ _; first | exact LX.ldPos (by (repeat' constructor); first | done | fail) | exact LX.ldWay (by (repeat' constructor); first | done | fail) | exact LX.ldLast (by (repeat' constructor); first | done | fail) | exact LX.ldRoom (by (repeat' constructor); first | done | fail) | exact LX.ldDone (by (repeat' constructor); first | done | fail) | exact LX.ldText (by (repeat' constructor); first | done | fail)) | (apply RR.lxIn; exact rfl; exact rfl; exact rfl; exact (by (repeat' constructor); first | done | fail); refine fun _ => ?_) | (apply RR.lxOut; exact rfl; exact rfl; exact rfl; exact (by (repeat' constructor); first | done | fail); refine fun _ => ?_) | (apply RR.storeS; exact rfl; exact rfl; first | exact LX.stPos 1 rfl (by (repeat' constructor); first | done | fail) | exact LX.stPos 2 rfl (by (repeat' constructor); first | done | fail) | exact LX.stPos 3 rfl (by (repeat' constructor); first | done | fail) | exact LX.stPos 6 rfl (by (repeat' constructor); first | done | fail) | exact LX.stPos 7 rfl (by (repeat' constructor); first | done | fail) | exact LX.stPos _ rfl (by (repeat' constructor); first | done | fail) | exact LX.stPos2 1 _ (by (repeat' constructor); first | done | fail) | exact LX.stPos2 2 _ (by (repeat' constructor); first | done | fail) | exact LX.stWay (by (repeat' constructor); first | done | fail) | exact LX.stLast (by (repeat' constructor); first | done | fail) | exact LX.stRoom (by (repeat' constructor); first | done | fail) | exact LX.stDone (by (repeat' constructor); first | done | fail); exact rfl) | (show FC _ _ _ _ _; first | exact peek0_F (by (repeat' constructor); first | done | fail) (by first | omega | ((simp only [Md.Lx.adv, Md.Lx.say, Md.Lx.clr, List.nil_append, List.length_append, List.length_cons, List.length_nil]); omega)) | exact peek1_F (by (repeat' constructor); first | done | fail) (by first | omega | ((simp only [Md.Lx.adv, Md.Lx.say, Md.Lx.clr, List.nil_append, List.length_append, List.length_cons, List.length_nil]); omega)) | exact peek6_F (by (repeat' constructor); first | done | fail) (by first | omega | ((simp only [Md.Lx.adv, Md.Lx.say, Md.Lx.clr, List.nil_append, List.length_append, List.length_cons, List.length_nil]); omega)) | exact next_F (by (repeat' constructor); first | done | fail) (by first | omega | ((simp only [Md.Lx.adv, Md.Lx.say, Md.Lx.clr, List.nil_append, List.length_append, List.length_cons, List.length_nil]); omega)) | exact back_F (by (repeat' constructor); first | done | fail) (by first | omega | ((simp only [Md.Lx.adv, Md.Lx.say, Md.Lx.clr, List.nil_append, List.length_append, List.length_cons, List.length_nil]); omega)) | exact blank_F | exact letter_F | exact small_F | exact encode_F rfl (by first | omega | ((simp only [Md.Lx.adv, Md.Lx.say, Md.Lx.clr, List.nil_append, List.length_append, List.length_cons, List.length_nil]); omega)) | exact say_F rfl (by (repeat' constructor); first | done | fail) (by (repeat' constructor); first | done | fail) (by first | omega | ((simp only [Md.Lx.adv, Md.Lx.say, Md.Lx.clr, List.nil_append, List.length_append, List.length_cons, List.length_nil]); omega)) | exact stands_F (by (repeat' constructor); first | done | fail) (by first | omega | ((simp only [Md.Lx.adv, Md.Lx.say, Md.Lx.clr, List.nil_append, List.length_append, List.length_cons, List.length_nil]); omega)) (by decide) (by first | omega | ((simp only [Md.Lx.adv, Md.Lx.say, Md.Lx.clr, List.nil_append, List.length_append, List.length_cons, List.length_nil]); omega)) | exact exact_F (by (repeat' constructor); first | done | fail) (by first | omega | ((simp only [Md.Lx.adv, Md.Lx.say, Md.Lx.clr, List.nil_append, List.length_append, List.length_cons, List.length_nil]); omega)) (by decide) (by first | omega | ((simp only [Md.Lx.adv, Md.Lx.say, Md.Lx.clr, List.nil_append, List.length_append, List.length_cons, List.length_nil]); omega))) | (refine fun (hc : _ = _) => ?_; (try simp only [BB] at hc); (try (first | contradiction | (exfalso; omega)))) | (refine Arith.mk ?_; (try intro _); simp only [Md.Lx.adv, Md.Lx.say, Md.Lx.clr, List.nil_append, List.length_append, List.length_cons, List.length_nil]; omega) | exact arI | refine Pst.mk ⟨?_, rfl⟩ (by (repeat' constructor); first | done | fail) | constructor | (refine fun _ _ (hq : Hold _) => ?_; replace hq := hq.out; obtain ⟨_, rfl, rfl⟩ := hq) | (refine fun _ _ (hq : Hold _) => ?_; replace hq := hq.out; obtain ⟨_, _, rfl, rfl⟩ := hq) | rintro _ _ ⟨rfl, rfl⟩ | rintro _ _ ⟨_, rfl, rfl⟩ | rintro _ _ ⟨_, _, rfl, rfl⟩ | (refine fun (hc : _ = _) => ?_; (try simp only [BB] at hc)) | refine fun (_ : Nat) => ?_ | refine fun (_ : _ ≤ _) => ?_ | refine fun (_ : _ < _) => ?_
  all_goals (try simp only [pk_adv, pk_say, Nat.add_zero, adv_adv, say_say, say_adv, pk_clr, adv_clr] at *)
  · rename_i t1 q1 t2
    have e : s.rest.take (i + 1) = s.rest.take i ++ [s.pk i] := by
      rw [List.take_add_one, List.getElem?_eq_getElem (by rw [rest_len]; omega), pk_rest, List.getD_eq_getElem?_getD, List.getElem?_eq_getElem (by rw [rest_len]; omega)]; rfl
    refine ih _ _ (i + 1, t2) (by dsimp only; omega) (by dsimp only; omega) ⟨rfl, rfl, rfl, trivial⟩ ?_
    dsimp only; rw [e]; exact (by (repeat' constructor); first | done | fail)
  · obtain rfl : i = n := by omega
    exact Pst.mk (.mk ⟨tt, trivial, rfl⟩) .refl
theorem headD_adv (i : Nat) : (s.adv i).rest.headD (-1) = s.pk i := by rw [rest_adv, head_drop]
theorem tail_adv (i : Nat) : (s.adv i).rest.tail = (s.adv (i + 1)).rest := by rw [rest_adv, rest_adv, List.tail_drop]
theorem sec_len : ∀ l : List Int, (Md.sectionGo l).1.length ≤ l.length ∧ (Md.sectionGo l).2 ≤ l.length
  | [] => by simp [Md.sectionGo]
  | r :: l => by
    have := sec_len l
    simp only [Md.sectionGo]
    split
    · rename_i h
      cases l with
      | nil => simp at h
      | cons a l => cases l with
        | nil => simp at h
        | cons b l => simp
    · simp only [List.length_cons]; omega
theorem section_F {cs2 : Nat → List Ck} (hu : Upd (LX id s g) (fun a => LX id s.section_ (g.1, a)) cs cs2) (hb : s.inp.length ≤ 1000000000 ∧ s.pos ≤ 20000000000 ∧ s.text.length ≤ 80000000000) (hn : ∀ r ∈ s.inp, 0 ≤ r) :
    F D 104 [.ptr id 0] cs (fun v cs' => Hold (∃ a, v = .tup [] ∧ cs2 a = cs')) := by
  refine F.atG hu fun R => F.of rfl rfl rfl ?_
  repeat' first | exact arI | refine Pst.mk ⟨?_, rfl⟩ (by (repeat' constructor); first | done | fail) | constructor | (refine fun _ _ (hq : Hold _) => ?_; replace hq := hq.out; obtain ⟨_, rfl, rfl⟩ := hq) | (refine fun _ _ (hq : Hold _) => ?_; replace hq := hq.out; obtain ⟨_, _, rfl, rfl⟩ := hq) | rintro _ _ ⟨rfl, rfl⟩ | rintro _ _ ⟨_, rfl, rfl⟩ | rintro _ _ ⟨_, _, rfl, rfl⟩ | (refine fun (hc : _ = _) => ?_; (try simp only [BB] at hc)) | refine fun (_ : Nat) => ?_ | refine fun (_ : _ ≤ _) => ?_ | refine fun (_ : _ < _) => ?_
  refine RS.loopW (α := Nat × Nat × List Int) (fun a => [(0, .ptr id 0)]) (fun a => LX id ((s.adv a.1).say a.2.2) (g.1, a.2.1) :: R)
    (fun a => a.2.2.length = a.1 ∧ (a.1 = 0 ∨ s.pos + a.1 ≤ s.inp.length) ∧ a.2.2 ++ (Md.sectionGo (s.adv a.1).rest).1 = (Md.sectionGo s.rest).1 ∧ a.1 + (Md.sectionGo (s.adv a.1).rest).2 = (Md.sectionGo s.rest).2) (fun a => s.inp.length - (s.pos + a.1)) (0, g.2, []) ⟨rfl, .inl rfl, by simp [adv_zero], by simp [adv_zero]⟩ ⟨rfl, trivial⟩ (by simpa [Md.Lx.say, Md.Lx.adv] using KK.refl) ?_
  rintro ⟨i, tt, acc⟩ ⟨h1, h2, h3, h4⟩ ih
  dsimp only [ents] at *
  have hfl := filter_le acc
  (have hst := fun h => rest_adv_cons (s := s) (i := i) h; have hnil := fun h => rest_adv_nil (s := s) (i := i) h; have hpn := fun h => pk_out (s := s) (i := i) h; have hpi := fun h => pk_in (s := s) (i := i) hn h)
  have hgo : s.pos + i < s.inp.length → Md.sectionGo (s.adv i).rest = if s.pk i = 93 ∧ s.pk (i + 1) = 93 ∧ s.pk (i + 1 + 1) = 62 then ([], 3) else (s.pk i :: (Md.sectionGo (s.adv (i + 1)).rest).1, (Md.sectionGo (s.adv (i + 1)).rest).2 + 1) := fun h => by
    rw [hst h]; simp only [Md.sectionGo, headD_adv, tail_adv]
  repeat' first | (show LD _ _ _ _; first | exact LX.ldPos (by (repeat' constructor); first | done | fail) | exact LX.ldWay (by (repeat' constructor); first | done | fail) | exact LX.ldLast (by (repeat' constructor); first | done | fail) | exact LX.ldRoom (by (repeat' constructor); first | done | fail) | exact LX.ldDone (by (repeat' constructor); first | done | fail) | exact LX.ldText (by (repeat' constructor); first | done | fail)) | (apply RR.lxIn; exact rfl; exact rfl; exact rfl; exact (by (repeat' constructor); first | done | fail); refine fun _ => ?_) | (apply RR.lxOut; exact rfl; exact rfl; exact rfl; exact (by (repeat' constructor); first | done | fail); refine fun _ => ?_) | (apply RR.storeS; exact rfl; exact rfl; first | exact LX.stPos 1 rfl (by (repeat' constructor); first | done | fail) | exact LX.stPos 2 rfl (by (repeat' constructor); first | done | fail) | exact LX.stPos 3 rfl (by (repeat' constructor); first | done | fail) | exact LX.stPos 6 rfl (by (repeat' constructor); first | done | fail) | exact LX.stPos 7 rfl (by (repeat' constructor); first | done | fail) | exact LX.stPos _ rfl (by (repeat' constructor); first | done | fail) | exact LX.stPos2 1 _ (by (repeat' constructor); first | done | fail) | exact LX.stPos2 2 _ (by (repeat' constructor); first | done | fail) | exact LX.stWay (by (repeat' constructor); first | done | fail) | exact LX.stLast (by (repeat' constructor); first | done | fail) | exact LX.stRoom (by (repeat' constructor); first | done | fail) | exact LX.stDone (by (repeat' constructor); first | done | fail); exact rfl) | (show FC _ _ _ _ _; first | exact peek0_F (by (repeat' constructor); first | done | fail) (by first | omega | ((simp only [Md.Lx.adv, Md.Lx.say, Md.Lx.clr, List.nil_append, List.length_append, List.length_cons, List.length_nil]); omega)) | exact peek1_F (by (repeat' constructor); first | done | fail) (by first | omega | ((simp only [Md.Lx.adv, Md.Lx.say, Md.Lx.clr, List.nil_append, List.length_append, List.length_cons, List.length_nil]); omega)) | exact peek6_F (by (repeat' constructor); first | done | fail) (by first | omega | ((simp only [Md.Lx.adv, Md.Lx.say, Md.Lx.clr, List.nil_append, List.length_append, List.length_cons, List.length_nil]); omega)) | exact next_F (by (repeat' constructor); first | done | fail) (by first | omega | ((simp only [Md.Lx.adv, Md.Lx.say, Md.Lx.clr, List.nil_append, List.length_append, List.length_cons, List.length_nil]); omega)) | exact back_F (by (repeat' constructor); first | done | fail) (by first | omega | ((simp only [Md.Lx.adv, Md.Lx.say, Md.Lx.clr, List.nil_append, List.length_append, List.length_cons, List.length_nil]); omega)) | exact blank_F | exact letter_F | exact small_F | exact encode_F rfl (by first | omega | ((simp only [Md.Lx.adv, Md.Lx.say, Md.Lx.clr, List.nil_append, List.length_append, List.length_cons, List.length_nil]); omega)) | exact say_F rfl (by (repeat' constructor); first | done | fail) (by (repeat' constructor); first | done | fail) (by first | omega | ((simp only [Md.Lx.adv, Md.Lx.say, Md.Lx.clr, List.nil_append, List.length_append, List.length_cons, List.length_nil]); omega)) | exact stands_F (by (repeat' constructor); first | done | fail) (by first | omega | ((simp only [Md.Lx.adv, Md.Lx.say, Md.Lx.clr, List.nil_append, List.length_append, List.length_cons, List.length_nil]); omega)) (by decide) (by first | omega | ((simp only [Md.Lx.adv, Md.Lx.say, Md.Lx.clr, List.nil_append, List.length_append, List.length_cons, List.length_nil]); omega)) | exact exact_F (by (repeat' constructor); first | done | fail) (by first | omega | ((simp only [Md.Lx.adv, Md.Lx.say, Md.Lx.clr, List.nil_append, List.length_append, List.length_cons, List.length_nil]); omega)) (by decide) (by first | omega | ((simp only [Md.Lx.adv, Md.Lx.say, Md.Lx.clr, List.nil_append, List.length_append, List.length_cons, List.length_nil]); omega))) | (refine fun (hc : _ = _) => ?_; (try simp only [BB] at hc); (try (first | contradiction | (exfalso; omega)))) | (refine Arith.mk ?_; (try intro _); simp only [Md.Lx.adv, Md.Lx.say, Md.Lx.clr, List.nil_append, List.length_append, List.length_cons, List.length_nil]; omega) | exact arI | refine Pst.mk ⟨?_, rfl⟩ (by (repeat' constructor); first | done | fail) | constructor | (refine fun _ _ (hq : Hold _) => ?_; replace hq := hq.out; obtain ⟨_, rfl, rfl⟩ := hq) | (refine fun _ _ (hq : Hold _) => ?_; replace hq := hq.out; obtain ⟨_, _, rfl, rfl⟩ := hq) | rintro _ _ ⟨rfl, rfl⟩ | rintro _ _ ⟨_, rfl, rfl⟩ | rintro _ _ ⟨_, _, rfl, rfl⟩ | (refine fun (hc : _ = _) => ?_; (try simp only [BB] at hc)) | refine fun (_ : Nat) => ?_ | refine fun (_ : _ ≤ _) => ?_ | refine fun (_ : _ < _) => ?_
  all_goals (try simp only [pk_adv, pk_say, Nat.add_zero, adv_adv, say_say, say_adv, pk_clr, adv_clr] at *)
  · have hge : s.inp.length ≤ s.pos + i := by by_cases h : s.pos + i < s.inp.length; (have := hpi h; omega); omega
    rw [hnil hge] at h3 h4
    simp only [Md.sectionGo, List.append_nil, Nat.add_zero] at h3 h4
    rw [Md.Lx.section_, ← h3, ← h4]
    exact Pst.mk (.mk ⟨tt, trivial, rfl⟩) .refl
  · have hlt : s.pos + i < s.inp.length := by by_cases h : s.pos + i < s.inp.length; exact h; rw [hpn (by omega)] at hc; omega
    rw [hgo hlt, if_pos ⟨hc.1.1, hc.1.2, hc.2⟩] at h3 h4
    simp only [List.append_nil] at h3 h4
    rw [Md.Lx.section_, ← h3, ← h4]
    exact Pst.mk (.mk ⟨tt, trivial, rfl⟩) .refl
  all_goals
    have hlt : s.pos + i < s.inp.length := by by_cases h : s.pos + i < s.inp.length; exact h; have := hpn (by omega); omega
    rw [hgo hlt, if_neg (fun h => by omega)] at h3 h4
    refine ih _ _ (i + 1, _, acc ++ [s.pk i]) ⟨by simp [h1], .inr (by dsimp only; omega), by rw [← h3]; simp, by rw [← h4]; dsimp only; omega⟩ (by dsimp only; omega) ⟨rfl, trivial⟩ (by (repeat' constructor); first | done | fail)
theorem bogusGo_cons {r : Int} {l : List Int} : Md.bogusGo (r :: l) = if r = 62 then ([], 1) else (Md.fixr r :: (Md.bogusGo l).1, (Md.bogusGo l).2 + 1) := rfl
theorem bogus_F {cs2 : Nat × Nat → List Ck} (hu : Upd (LX id s g) (fun a => LX id s.bogus a) cs cs2) (hb : s.inp.length ≤ 1000000000 ∧ s.pos ≤ 20000000000 ∧ s.text.length ≤ 80000000000 ∧ s.out.length ≤ 10000000) (hn : ∀ r ∈ s.inp, 0 ≤ r) :
    F D 92 [.ptr id 0] cs (fun v cs' => Hold (∃ a, v = .tup [] ∧ cs2 a = cs')) := by
  refine F.atG hu fun R => F.of rfl rfl rfl ?_
  repeat' first | exact arI | refine Pst.mk ⟨?_, rfl⟩ (by (repeat' constructor); first | done | fail) | constructor | (refine fun _ _ (hq : Hold _) => ?_; replace hq := hq.out; obtain ⟨_, rfl, rfl⟩ := hq) | (refine fun _ _ (hq : Hold _) => ?_; replace hq := hq.out; obtain ⟨_, _, rfl, rfl⟩ := hq) | rintro _ _ ⟨rfl, rfl⟩ | rintro _ _ ⟨_, rfl, rfl⟩ | rintro _ _ ⟨_, _, rfl, rfl⟩ | (refine fun (hc : _ = _) => ?_; (try simp only [BB] at hc)) | refine fun (_ : Nat) => ?_ | refine fun (_ : _ ≤ _) => ?_ | refine fun (_ : _ < _) => ?_
  refine RS.nilOwn 1 (RS.loopW (α := Nat × Nat × List Int) (fun a => [(0, .ptr id 0), (2, .lst a.2.1 (zOf a.2.1 1) (a.2.2.map I32))]) (fun a => .own a.2.1 1 (a.2.2.map I32) :: LX id (s.adv a.1) g :: R)
    (fun a => a.2.2.length = a.1 ∧ (a.1 = 0 ∨ s.pos + a.1 ≤ s.inp.length) ∧ a.2.2 ++ (Md.bogusGo (s.adv a.1).rest).1 = (Md.bogusGo s.rest).1 ∧ a.1 + (Md.bogusGo (s.adv a.1).rest).2 = (Md.bogusGo s.rest).2) (fun a => s.inp.length - (s.pos + a.1)) (0, 0, []) ⟨rfl, .inl rfl, by simp [adv_zero], by simp [adv_zero]⟩ ⟨rfl, rfl, trivial⟩ .refl ?_)
  rintro ⟨i, tb, acc⟩ ⟨h1, h2, h3, h4⟩ ih
  dsimp only [ents] at *
  (have hst := fun h => rest_adv_cons (s := s) (i := i) h; have hnil := fun h => rest_adv_nil (s := s) (i := i) h; have hpn := fun h => pk_out (s := s) (i := i) h; have hpi := fun h => pk_in (s := s) (i := i) hn h)
  repeat' first | (show LD _ _ _ _; first | exact LX.ldPos (by (repeat' constructor); first | done | fail) | exact LX.ldWay (by (repeat' constructor); first | done | fail) | exact LX.ldLast (by (repeat' constructor); first | done | fail) | exact LX.ldRoom (by (repeat' constructor); first | done | fail) | exact LX.ldDone (by (repeat' constructor); first | done | fail) | exact LX.ldText (by (repeat' constructor); first | done | fail)) | (apply RR.lxIn; exact rfl; exact rfl; exact rfl; exact (by (repeat' constructor); first | done | fail); refine fun _ => ?_) | (apply RR.lxOut; exact rfl; exact rfl; exact rfl; exact (by (repeat' constructor); first | done | fail); refine fun _ => ?_) | (apply RR.storeS; exact rfl; exact rfl; first | exact LX.stPos 1 rfl (by (repeat' constructor); first | done | fail) | exact LX.stPos 2 rfl (by (repeat' constructor); first | done | fail) | exact LX.stPos 3 rfl (by (repeat' constructor); first | done | fail) | exact LX.stPos 6 rfl (by (repeat' constructor); first | done | fail) | exact LX.stPos 7 rfl (by (repeat' constructor); first | done | fail) | exact LX.stPos _ rfl (by (repeat' constructor); first | done | fail) | exact LX.stPos2 1 _ (by (repeat' constructor); first | done | fail) | exact LX.stPos2 2 _ (by (repeat' constructor); first | done | fail) | exact LX.stWay (by (repeat' constructor); first | done | fail) | exact LX.stLast (by (repeat' constructor); first | done | fail) | exact LX.stRoom (by (repeat' constructor); first | done | fail) | exact LX.stDone (by (repeat' constructor); first | done | fail); exact rfl) | (show FC _ _ _ _ _; first | exact emit_F (t := Md.commentTok acc) (ta := 0) rfl (by (repeat' constructor); first | done | fail) (by first | omega | ((simp only [Md.Lx.adv, Md.Lx.say, Md.Lx.clr, List.nil_append, List.length_append, List.length_cons, List.length_nil]); omega)) | exact peek0_F (by (repeat' constructor); first | done | fail) (by first | omega | ((simp only [Md.Lx.adv, Md.Lx.say, Md.Lx.clr, List.nil_append, List.length_append, List.length_cons, List.length_nil]); omega)) | exact peek1_F (by (repeat' constructor); first | done | fail) (by first | omega | ((simp only [Md.Lx.adv, Md.Lx.say, Md.Lx.clr, List.nil_append, List.length_append, List.length_cons, List.length_nil]); omega)) | exact peek6_F (by (repeat' constructor); first | done | fail) (by first | omega | ((simp only [Md.Lx.adv, Md.Lx.say, Md.Lx.clr, List.nil_append, List.length_append, List.length_cons, List.length_nil]); omega)) | exact next_F (by (repeat' constructor); first | done | fail) (by first | omega | ((simp only [Md.Lx.adv, Md.Lx.say, Md.Lx.clr, List.nil_append, List.length_append, List.length_cons, List.length_nil]); omega)) | exact back_F (by (repeat' constructor); first | done | fail) (by first | omega | ((simp only [Md.Lx.adv, Md.Lx.say, Md.Lx.clr, List.nil_append, List.length_append, List.length_cons, List.length_nil]); omega)) | exact blank_F | exact letter_F | exact small_F | exact encode_F rfl (by first | omega | ((simp only [Md.Lx.adv, Md.Lx.say, Md.Lx.clr, List.nil_append, List.length_append, List.length_cons, List.length_nil]); omega)) | exact say_F rfl (by (repeat' constructor); first | done | fail) (by (repeat' constructor); first | done | fail) (by first | omega | ((simp only [Md.Lx.adv, Md.Lx.say, Md.Lx.clr, List.nil_append, List.length_append, List.length_cons, List.length_nil]); omega)) | exact stands_F (by (repeat' constructor); first | done | fail) (by first | omega | ((simp only [Md.Lx.adv, Md.Lx.say, Md.Lx.clr, List.nil_append, List.length_append, List.length_cons, List.length_nil]); omega)) (by decide) (by first | omega | ((simp only [Md.Lx.adv, Md.Lx.say, Md.Lx.clr, List.nil_append, List.length_append, List.length_cons, List.length_nil]); omega)) | exact exact_F (by (repeat' constructor); first | done | fail) (by first | omega | ((simp only [Md.Lx.adv, Md.Lx.say, Md.Lx.clr, List.nil_append, List.length_append, List.length_cons, List.length_nil]); omega)) (by decide) (by first | omega | ((simp only [Md.Lx.adv, Md.Lx.say, Md.Lx.clr, List.nil_append, List.length_append, List.length_cons, List.length_nil]); omega))) | exact arI | refine Pst.mk ⟨?_, rfl⟩ (by (repeat' constructor); first | done | fail) | constructor | (refine fun _ _ (hq : Hold _) => ?_; replace hq := hq.out; obtain ⟨_, rfl, rfl⟩ := hq) | (refine fun _ _ (hq : Hold _) => ?_; replace hq := hq.out; obtain ⟨_, _, rfl, rfl⟩ := hq) | rintro _ _ ⟨rfl, rfl⟩ | rintro _ _ ⟨_, rfl, rfl⟩ | rintro _ _ ⟨_, _, rfl, rfl⟩ | (refine fun (hc : _ = _) => ?_; (try simp only [BB] at hc)) | refine fun (_ : Nat) => ?_ | refine fun (_ : _ ≤ _) => ?_ | refine fun (_ : _ < _) => ?_
  all_goals (try simp only [pk_adv, pk_say, Nat.add_zero, adv_adv, say_say, say_adv, pk_clr, adv_clr] at *)
  all_goals try (exfalso; omega)
  · have hlt : s.pos + i < s.inp.length := by by_cases h : s.pos + i < s.inp.length; exact h; have := hpn (by omega); omega
    rw [hst hlt, bogusGo_cons, if_pos (by omega)] at h3 h4
    simp only [List.append_nil] at h3 h4
    rw [Md.Lx.bogus, ← h3, ← h4]
    exact Pst.mk (.mk ⟨_, trivial, rfl⟩) (by (repeat' constructor); first | done | fail)
  · have hge : s.inp.length ≤ s.pos + i := by by_cases h : s.pos + i < s.inp.length; (have := hpi h; omega); omega
    rw [hnil hge] at h3 h4
    simp only [Md.bogusGo, List.append_nil, Nat.add_zero] at h3 h4
    rw [Md.Lx.bogus, ← h3, ← h4]
    exact Pst.mk (.mk ⟨_, trivial, rfl⟩) (by (repeat' constructor); first | done | fail)
  · have hlt : s.pos + i < s.inp.length := by by_cases h : s.pos + i < s.inp.length; exact h; have := hpn (by omega); omega
    rw [hst hlt, bogusGo_cons, if_neg (by omega)] at h3 h4
    rw [Md.fixr, if_pos hc] at h3 
    exact ih _ _ (i + 1, _, acc ++ [65533]) ⟨by simp [h1], .inr (by dsimp only; omega), by rw [← h3]; simp, by rw [← h4]; dsimp only; omega⟩ (by dsimp only; omega) ⟨rfl, rfl, trivial⟩ (by (repeat' constructor); first | done | fail)
  · have hlt : s.pos + i < s.inp.length := by by_cases h : s.pos + i < s.inp.length; exact h; have := hpn (by omega); omega
    rw [hst hlt, bogusGo_cons, if_neg (by omega)] at h3 h4
    rw [Md.fixr, if_neg hc] at h3 
    exact ih _ _ (i + 1, _, acc ++ [s.pk i]) ⟨by simp [h1], .inr (by dsimp only; omega), by rw [← h3]; simp, by rw [← h4]; dsimp only; omega⟩ (by dsimp only; omega) ⟨rfl, rfl, trivial⟩ (by (repeat' constructor); first | done | fail)
theorem quotedGo_cons {q r : Int} {l : List Int} : Md.quotedGo q (r :: l) = if r = q then ([], true, 1) else if r = 62 then ([], false, 1) else (Md.fixr r :: (Md.quotedGo q l).1, (Md.quotedGo q l).2.1, (Md.quotedGo q l).2.2 + 1) := rfl
theorem quoted_F {cs2 : List Ck} (hu : Upd1 (LX id s g) (LX id (s.adv (Md.quoted s.rest).2.2.2) g) cs cs2) (hb : s.inp.length ≤ 1000000000 ∧ s.pos ≤ 20000000000) (hn : ∀ r ∈ s.inp, 0 ≤ r) :
    F D 115 [.ptr id 0] cs (fun v cs' => v = .tup [.str (Md.quoted s.rest).1, .bool (Md.quoted s.rest).2.1, .bool (Md.quoted s.rest).2.2.1] ∧ cs2 = cs') := by
  have hq : Md.quoted s.rest = if s.pk 0 = 34 ∨ s.pk 0 = 39 then (Md.encode (Md.quotedGo (s.pk 0) (s.adv 1).rest).1, true, (Md.quotedGo (s.pk 0) (s.adv 1).rest).2.1, (Md.quotedGo (s.pk 0) (s.adv 1).rest).2.2 + 1) else ([], false, false, Md.skipN s.rest) := by
    simp only [Md.quoted, ← tail_adv, show (s.adv 0) = s from rfl, show s.rest.headD (-1) = s.pk 0 from headD_adv 0]
  refine F.at1 hu fun R => F.of rfl rfl rfl ?_
  repeat' first | (show LD _ _ _ _; first | exact LX.ldPos (by (repeat' constructor); first | done | fail) | exact LX.ldWay (by (repeat' constructor); first | done | fail) | exact LX.ldLast (by (repeat' constructor); first | done | fail) | exact LX.ldRoom (by (repeat' constructor); first | done | fail) | exact LX.ldDone (by (repeat' constructor); first | done | fail) | exact LX.ldText (by (repeat' constructor); first | done | fail)) | (apply RR.lxIn; exact rfl; exact rfl; exact rfl; exact (by (repeat' constructor); first | done | fail); refine fun _ => ?_) | (apply RR.lxOut; exact rfl; exact rfl; exact rfl; exact (by (repeat' constructor); first | done | fail); refine fun _ => ?_) | (apply RR.storeS; exact rfl; exact rfl; first | exact LX.stPos 1 rfl (by (repeat' constructor); first | done | fail) | exact LX.stPos 2 rfl (by (repeat' constructor); first | done | fail) | exact LX.stPos 3 rfl (by (repeat' constructor); first | done | fail) | exact LX.stPos 6 rfl (by (repeat' constructor); first | done | fail) | exact LX.stPos 7 rfl (by (repeat' constructor); first | done | fail) | exact LX.stPos _ rfl (by (repeat' constructor); first | done | fail) | exact LX.stPos2 1 _ (by (repeat' constructor); first | done | fail) | exact LX.stPos2 2 _ (by (repeat' constructor); first | done | fail) | exact LX.stWay (by (repeat' constructor); first | done | fail) | exact LX.stLast (by (repeat' constructor); first | done | fail) | exact LX.stRoom (by (repeat' constructor); first | done | fail) | exact LX.stDone (by (repeat' constructor); first | done | fail); exact rfl) | (show FC _ _ _ _ _; first | exact skip_F (by (repeat' constructor); first | done | fail) hb hn | exact peek0_F (by (repeat' constructor); first | done | fail) (by first | omega | ((simp only [Md.Lx.adv, Md.Lx.say, Md.Lx.clr, List.nil_append, List.length_append, List.length_cons, List.length_nil]); omega)) | exact peek1_F (by (repeat' constructor); first | done | fail) (by first | omega | ((simp only [Md.Lx.adv, Md.Lx.say, Md.Lx.clr, List.nil_append, List.length_append, List.length_cons, List.length_nil]); omega)) | exact peek6_F (by (repeat' constructor); first | done | fail) (by first | omega | ((simp only [Md.Lx.adv, Md.Lx.say, Md.Lx.clr, List.nil_append, List.length_append, List.length_cons, List.length_nil]); omega)) | exact next_F (by (repeat' constructor); first | done | fail) (by first | omega | ((simp only [Md.Lx.adv, Md.Lx.say, Md.Lx.clr, List.nil_append, List.length_append, List.length_cons, List.length_nil]); omega)) | exact back_F (by (repeat' constructor); first | done | fail) (by first | omega | ((simp only [Md.Lx.adv, Md.Lx.say, Md.Lx.clr, List.nil_append, List.length_append, List.length_cons, List.length_nil]); omega)) | exact blank_F | exact letter_F | exact small_F | exact encode_F rfl (by first | omega | ((simp only [Md.Lx.adv, Md.Lx.say, Md.Lx.clr, List.nil_append, List.length_append, List.length_cons, List.length_nil]); omega)) | exact say_F rfl (by (repeat' constructor); first | done | fail) (by (repeat' constructor); first | done | fail) (by first | omega | ((simp only [Md.Lx.adv, Md.Lx.say, Md.Lx.clr, List.nil_append, List.length_append, List.length_cons, List.length_nil]); omega)) | exact stands_F (by (repeat' constructor); first | done | fail) (by first | omega | ((simp only [Md.Lx.adv, Md.Lx.say, Md.Lx.clr, List.nil_append, List.length_append, List.length_cons, List.length_nil]); omega)) (by decide) (by first | omega | ((simp only [Md.Lx.adv, Md.Lx.say, Md.Lx.clr, List.nil_append, List.length_append, List.length_cons, List.length_nil]); omega)) | exact exact_F (by (repeat' constructor); first | done | fail) (by first | omega | ((simp only [Md.Lx.adv, Md.Lx.say, Md.Lx.clr, List.nil_append, List.length_append, List.length_cons, List.length_nil]); omega)) (by decide) (by first | omega | ((simp only [Md.Lx.adv, Md.Lx.say, Md.Lx.clr, List.nil_append, List.length_append, List.length_cons, List.length_nil]); omega))) | exact arI | refine Pst.mk ⟨?_, rfl⟩ (by (repeat' constructor); first | done | fail) | constructor | (refine fun _ _ (hq : Hold _) => ?_; replace hq := hq.out; obtain ⟨_, rfl, rfl⟩ := hq) | (refine fun _ _ (hq : Hold _) => ?_; replace hq := hq.out; obtain ⟨_, _, rfl, rfl⟩ := hq) | rintro _ _ ⟨rfl, rfl⟩ | rintro _ _ ⟨_, rfl, rfl⟩ | rintro _ _ ⟨_, _, rfl, rfl⟩ | (refine fun (hc : _ = _) => ?_; (try simp only [BB] at hc)) | refine fun (_ : Nat) => ?_ | refine fun (_ : _ ≤ _) => ?_ | refine fun (_ : _ < _) => ?_
  · rw [if_neg (by omega)] at hq
    rw [hq]; exact Pst.mk ⟨rfl, rfl⟩ .refl
  rw [if_pos (by omega)] at hq
  have h0 : s.pos + 0 < s.inp.length := by by_cases h : s.pos + 0 < s.inp.length; exact h; have := pk_out (s := s) (i := 0) (by omega); omega
  refine RS.nilOwn 1 (RS.loopW (α := Nat × Nat × List Int) (fun a => [(0, .ptr id 0), (5, .int .i32 (s.pk 0)), (6, .lst a.2.1 (zOf a.2.1 1) (a.2.2.map I32))]) (fun a => .own a.2.1 1 (a.2.2.map I32) :: LX id (s.adv a.1) g :: R)
    (fun a => a.2.2.length ≤ a.1 ∧ s.pos + a.1 ≤ s.inp.length ∧ a.2.2 ++ (Md.quotedGo (s.pk 0) (s.adv a.1).rest).1 = (Md.quotedGo (s.pk 0) (s.adv 1).rest).1 ∧ (Md.quotedGo (s.pk 0) (s.adv a.1).rest).2.1 = (Md.quotedGo (s.pk 0) (s.adv 1).rest).2.1 ∧ a.1 + (Md.quotedGo (s.pk 0) (s.adv a.1).rest).2.2 = 1 + (Md.quotedGo (s.pk 0) (s.adv 1).rest).2.2) (fun a => s.inp.length - (s.pos + a.1)) (1, 0, []) ⟨by simp, by dsimp only; omega, by simp, rfl, rfl⟩ ⟨rfl, rfl, rfl, trivial⟩ .refl ?_)
  rintro ⟨i, tb, acc⟩ ⟨h1, h2, h3, h4, h5⟩ ih
  dsimp only [ents] at *
  (have hst := fun h => rest_adv_cons (s := s) (i := i) h; have hnil := fun h => rest_adv_nil (s := s) (i := i) h; have hpn := fun h => pk_out (s := s) (i := i) h; have hpi := fun h => pk_in (s := s) (i := i) hn h)
  repeat' first | (show LD _ _ _ _; first | exact LX.ldPos (by (repeat' constructor); first | done | fail) | exact LX.ldWay (by (repeat' constructor); first | done | fail) | exact LX.ldLast (by (repeat' constructor); first | done | fail) | exact LX.ldRoom (by (repeat' constructor); first | done | fail) | exact LX.ldDone (by (repeat' constructor); first | done | fail) | exact LX.ldText (by (repeat' constructor); first | done | fail)) | (apply RR.lxIn; exact rfl; exact rfl; exact rfl; exact (by (repeat' constructor); first | done | fail); refine fun _ => ?_) | (apply RR.lxOut; exact rfl; exact rfl; exact rfl; exact (by (repeat' constructor); first | done | fail); refine fun _ => ?_) | (apply RR.storeS; exact rfl; exact rfl; first | exact LX.stPos 1 rfl (by (repeat' constructor); first | done | fail) | exact LX.stPos 2 rfl (by (repeat' constructor); first | done | fail) | exact LX.stPos 3 rfl (by (repeat' constructor); first | done | fail) | exact LX.stPos 6 rfl (by (repeat' constructor); first | done | fail) | exact LX.stPos 7 rfl (by (repeat' constructor); first | done | fail) | exact LX.stPos _ rfl (by (repeat' constructor); first | done | fail) | exact LX.stPos2 1 _ (by (repeat' constructor); first | done | fail) | exact LX.stPos2 2 _ (by (repeat' constructor); first | done | fail) | exact LX.stWay (by (repeat' constructor); first | done | fail) | exact LX.stLast (by (repeat' constructor); first | done | fail) | exact LX.stRoom (by (repeat' constructor); first | done | fail) | exact LX.stDone (by (repeat' constructor); first | done | fail); exact rfl) | (show FC _ _ _ _ _; first | exact peek0_F (by (repeat' constructor); first | done | fail) (by first | omega | ((simp only [Md.Lx.adv, Md.Lx.say, Md.Lx.clr, List.nil_append, List.length_append, List.length_cons, List.length_nil]); omega)) | exact peek1_F (by (repeat' constructor); first | done | fail) (by first | omega | ((simp only [Md.Lx.adv, Md.Lx.say, Md.Lx.clr, List.nil_append, List.length_append, List.length_cons, List.length_nil]); omega)) | exact peek6_F (by (repeat' constructor); first | done | fail) (by first | omega | ((simp only [Md.Lx.adv, Md.Lx.say, Md.Lx.clr, List.nil_append, List.length_append, List.length_cons, List.length_nil]); omega)) | exact next_F (by (repeat' constructor); first | done | fail) (by first | omega | ((simp only [Md.Lx.adv, Md.Lx.say, Md.Lx.clr, List.nil_append, List.length_append, List.length_cons, List.length_nil]); omega)) | exact back_F (by (repeat' constructor); first | done | fail) (by first | omega | ((simp only [Md.Lx.adv, Md.Lx.say, Md.Lx.clr, List.nil_append, List.length_append, List.length_cons, List.length_nil]); omega)) | exact blank_F | exact letter_F | exact small_F | exact encode_F rfl (by first | omega | ((simp only [Md.Lx.adv, Md.Lx.say, Md.Lx.clr, List.nil_append, List.length_append, List.length_cons, List.length_nil]); omega)) | exact say_F rfl (by (repeat' constructor); first | done | fail) (by (repeat' constructor); first | done | fail) (by first | omega | ((simp only [Md.Lx.adv, Md.Lx.say, Md.Lx.clr, List.nil_append, List.length_append, List.length_cons, List.length_nil]); omega)) | exact stands_F (by (repeat' constructor); first | done | fail) (by first | omega | ((simp only [Md.Lx.adv, Md.Lx.say, Md.Lx.clr, List.nil_append, List.length_append, List.length_cons, List.length_nil]); omega)) (by decide) (by first | omega | ((simp only [Md.Lx.adv, Md.Lx.say, Md.Lx.clr, List.nil_append, List.length_append, List.length_cons, List.length_nil]); omega)) | exact exact_F (by (repeat' constructor); first | done | fail) (by first | omega | ((simp only [Md.Lx.adv, Md.Lx.say, Md.Lx.clr, List.nil_append, List.length_append, List.length_cons, List.length_nil]); omega)) (by decide) (by first | omega | ((simp only [Md.Lx.adv, Md.Lx.say, Md.Lx.clr, List.nil_append, List.length_append, List.length_cons, List.length_nil]); omega))) | (refine fun (hc : _ = _) => ?_; (try simp only [BB] at hc); (try (first | contradiction | (exfalso; omega)))) | (refine Arith.mk ?_; (try intro _); simp only [Md.Lx.adv, Md.Lx.say, Md.Lx.clr, List.nil_append, List.length_append, List.length_cons, List.length_nil]; omega) | exact arI | refine Pst.mk ⟨?_, rfl⟩ (by (repeat' constructor); first | done | fail) | constructor | (refine fun _ _ (hq : Hold _) => ?_; replace hq := hq.out; obtain ⟨_, rfl, rfl⟩ := hq) | (refine fun _ _ (hq : Hold _) => ?_; replace hq := hq.out; obtain ⟨_, _, rfl, rfl⟩ := hq) | rintro _ _ ⟨rfl, rfl⟩ | rintro _ _ ⟨_, rfl, rfl⟩ | rintro _ _ ⟨_, _, rfl, rfl⟩ | (refine fun (hc : _ = _) => ?_; (try simp only [BB] at hc)) | refine fun (_ : Nat) => ?_ | refine fun (_ : _ ≤ _) => ?_ | refine fun (_ : _ < _) => ?_
  all_goals (try simp only [pk_adv, pk_say, Nat.add_zero, adv_adv, say_say, say_adv, pk_clr, adv_clr] at *)
  all_goals try (exfalso; omega)
  · have hlt : s.pos + i < s.inp.length := by by_cases h : s.pos + i < s.inp.length; exact h; have := hpn (by omega); omega
    rw [hst hlt, quotedGo_cons, if_pos hc] at h3 h4 h5
    simp only [List.append_nil] at h3 h4 h5
    rw [hq, ← h3, ← h4, Nat.add_comm, ← h5]
    exact Pst.mk ⟨rfl, rfl⟩ (by (repeat' constructor); first | done | fail)
  · have hlt : s.pos + i < s.inp.length := by by_cases h : s.pos + i < s.inp.length; exact h; have := hpn (by omega); omega
    rename_i hcc
    rw [hst hlt, quotedGo_cons, if_neg hcc, if_pos hc] at h3 h4 h5
    simp only [List.append_nil] at h3 h4 h5
    rw [hq, ← h3, ← h4, Nat.add_comm, ← h5]
    exact Pst.mk ⟨rfl, rfl⟩ (by (repeat' constructor); first | done | fail)
  · have hge : s.inp.length ≤ s.pos + i := by by_cases h : s.pos + i < s.inp.length; (have := hpi h; omega); omega
    rw [hnil hge] at h3 h4 h5
    simp only [Md.quotedGo, List.append_nil, Nat.add_zero] at h3 h4 h5
    rw [hq, ← h3, ← h4, Nat.add_comm, ← h5]
    exact Pst.mk ⟨rfl, rfl⟩ (by (repeat' constructor); first | done | fail)
  all_goals
    have hlt : s.pos + i < s.inp.length := by by_cases h : s.pos + i < s.inp.length; exact h; have := hpn (by omega); omega
    rw [hst hlt, quotedGo_cons, if_neg (by omega), if_neg (by omega)] at h3 h4 h5
  · rw [Md.fixr, if_pos hc] at h3
    exact ih _ _ (i + 1, _, acc ++ [65533]) ⟨by simp; omega, by dsimp only; omega, by rw [← h3]; simp, h4, by rw [← h5]; dsimp only; omega⟩ (by dsimp only; omega) ⟨rfl, rfl, rfl, trivial⟩ (by (repeat' constructor); first | done | fail)
  · rw [Md.fixr, if_neg hc] at h3
    exact ih _ _ (i + 1, _, acc ++ [s.pk i]) ⟨by simp; omega, by dsimp only; omega, by rw [← h3]; simp, h4, by rw [← h5]; dsimp only; omega⟩ (by dsimp only; omega) ⟨rfl, rfl, rfl, trivial⟩ (by (repeat' constructor); first | done | fail)
end Go.Proofs.YticnenofiibpgaaDoor.Code
