/- SerReads returns true for every input: part 4 of the proof (several texts joined). -/
import Derived.Test.YticnenofiibpgaaDoorChecked
import Derived.KernelRfl
import Derived.RowKit3
import Derived.Laws.RangeString
import Derived.Test.YticnenofiibpgaaDoorJ3
/- Functions of the program az code of the D-machine (4): PRINTED BY PROGRAM; each is checked to be what the program's own compiles to. -/
namespace Go.Proofs.YticnenofiibpgaaDoor.Code
set_option linter.unusedSimpArgs false
set_option linter.unusedVariables false
open Go.Dm Go.Dm.C
def cfg4 : Cfg := ⟨fun t => [3, 83].contains t, fun f => [26, 46, 57, 58, 59].contains f⟩
/-- text.need -/
def c_text_need : DFunc := ⟨38, 
(.seq 
(.region [v 2 (.mv (.c (.int .i64 0))), v 3 (.mv (.c (.int .u8 0))), v 4 (.mv (.c (.int .u8 0)))]) 
(.seq 
(.block 0 
(.seq 
(.region [m 6 0, v 7 (.bin .geq .any (.t 6) (.c (.int .u8 194))), m 8 7, w 9 (.mv (.t 0)) 8 true, w 10 (.bin .leq .any (.t 9) (.c (.int .u8 223))) 8 true, v 11 (.pick (.t 8) (.t 10) (.c (.bool false))), m 5 11]) 
(.cond (.t 5) 
(.seq 
(.region [v 2 (.mv (.c (.int .i64 1))), v 3 (.mv (.c (.int .u8 128))), v 4 (.mv (.c (.int .u8 191)))]) .ret) 
(.seq 
(.region [m 13 0, v 14 (.bin .eql .any (.t 13) (.c (.int .u8 224))), m 12 14]) 
(.cond (.t 12) 
(.seq 
(.region [v 2 (.mv (.c (.int .i64 2))), v 3 (.mv (.c (.int .u8 160))), v 4 (.mv (.c (.int .u8 191)))]) .ret) 
(.seq 
(.region [m 16 0, v 17 (.bin .eql .any (.t 16) (.c (.int .u8 237))), m 15 17]) 
(.cond (.t 15) 
(.seq 
(.region [v 2 (.mv (.c (.int .i64 2))), v 3 (.mv (.c (.int .u8 128))), v 4 (.mv (.c (.int .u8 159)))]) .ret) 
(.seq 
(.region [m 19 0, v 20 (.bin .geq .any (.t 19) (.c (.int .u8 225))), m 21 20, w 22 (.mv (.t 0)) 21 true, w 23 (.bin .leq .any (.t 22) (.c (.int .u8 239))) 21 true, v 24 (.pick (.t 21) (.t 23) (.c (.bool false))), m 18 24]) 
(.cond (.t 18) 
(.seq 
(.region [v 2 (.mv (.c (.int .i64 2))), v 3 (.mv (.c (.int .u8 128))), v 4 (.mv (.c (.int .u8 191)))]) .ret) 
(.seq 
(.region [m 26 0, v 27 (.bin .eql .any (.t 26) (.c (.int .u8 240))), m 25 27]) 
(.cond (.t 25) 
(.seq 
(.region [v 2 (.mv (.c (.int .i64 3))), v 3 (.mv (.c (.int .u8 144))), v 4 (.mv (.c (.int .u8 191)))]) .ret) 
(.seq 
(.region [m 29 0, v 30 (.bin .geq .any (.t 29) (.c (.int .u8 241))), m 31 30, w 32 (.mv (.t 0)) 31 true, w 33 (.bin .leq .any (.t 32) (.c (.int .u8 243))) 31 true, v 34 (.pick (.t 31) (.t 33) (.c (.bool false))), m 28 34]) 
(.cond (.t 28) 
(.seq 
(.region [v 2 (.mv (.c (.int .i64 3))), v 3 (.mv (.c (.int .u8 128))), v 4 (.mv (.c (.int .u8 191)))]) .ret) 
(.seq 
(.region [m 36 0, v 37 (.bin .eql .any (.t 36) (.c (.int .u8 244))), m 35 37]) 
(.cond (.t 35) 
(.seq 
(.region [v 2 (.mv (.c (.int .i64 3))), v 3 (.mv (.c (.int .u8 128))), v 4 (.mv (.c (.int .u8 143)))]) .ret) .skip))))))))))))))) 
(.seq 
(.region [v 2 (.mv (.c (.int .i64 0))), v 3 (.mv (.c (.int .u8 0))), v 4 (.mv (.c (.int .u8 0)))]) .ret))),
 [.tmp 2, .tmp 3, .tmp 4]⟩
/-- chars.Number -/
def c_chars_Number : DFunc := ⟨35, 
(.seq 
(.region [v 4 (.mv (.c (.int .i64 0))), v 5 (.mv (.c (.int .i64 0)))]) 
(.seq 
(.region [v 6 (.mv (.c (.int .i64 0))), v 7 (.mv (.c (.int .i64 0)))]) 
(.seq 
(.block 0 
(.loop 
(.seq 
(.seq 
(.region [m 9 7, m 10 0, v 11 (.len true (.t 10)), v 12 (.bin .lss .any (.t 9) (.t 11))]) 
(.cond (.t 12) .skip (.exit 0))) 
(.block 1 
(.seq 
(.region [m 13 0, m 14 7, v 15 (.iaddr 1 (.t 13) (.t 14)), v 16 (.load none (.t 15)), v 17 (.call (.f 100) [(.t 16)] false), m 8 17]) 
(.seq 
(.seq 
(.region [m 18 8, v 19 (.bin .lss .any (.t 18) (.c (.int .i64 0))), m 20 19, w 21 (.mv (.t 8)) 20 false, w 22 (.mv (.t 1)) 20 false, w 23 (.bin .geq .any (.t 21) (.t 22)) 20 false, v 24 (.pick (.t 20) (.c (.bool true)) (.t 23))]) 
(.cond (.t 24) (.exit 0) .skip)) 
(.seq 
(.region [m 25 6, m 26 1, v 27 (.bin .mul .any (.t 25) (.t 26)), m 28 8, v 29 (.bin .add .any (.t 27) (.t 28)), v 30 (.minmax false (.t 29) (.c (.int .i64 1114112))), m 6 30]) 
(.region [m 31 7, v 32 (.bin .add .any (.t 31) (.c (.int .i64 1))), m 7 32])))))))) 
(.seq 
(.region [m 33 6, m 34 7, m 4 33, m 5 34]) .ret)))),
 [.tmp 4, .tmp 5]⟩
/-- (*lex.Lexer).declare -/
def c_lex_Lexer_declare : DFunc := ⟨51, 
(.block 0 
(.seq 
(.region [m 5 0, v 6 (.call (.f 101) [(.t 5), (.c (.str [45, 45]))] false), m 4 6]) 
(.cond (.t 4) 
(.seq 
(.region [m 7 0, v 8 (.nilc (.t 7)), v 9 (.faddr 1 (.t 8)), v 10 (.load none (.t 9)), v 11 (.bin .add .any (.t 10) (.c (.int .i64 2))), v 12 (.nilc (.t 7)), v 13 (.faddr 1 (.t 12)), u (.store 1 (.t 13) (.t 11))]) 
(.region [m 14 0, v 15 (.call (.f 102) [(.t 14)] false)])) 
(.seq 
(.region [m 17 0, v 18 (.call (.f 101) [(.t 17), (.c (.str [100, 111, 99, 116, 121, 112, 101]))] false), m 16 18]) 
(.cond (.t 16) 
(.seq 
(.region [m 19 0, v 20 (.nilc (.t 19)), v 21 (.faddr 1 (.t 20)), v 22 (.load none (.t 21)), v 23 (.bin .add .any (.t 22) (.c (.int .i64 7))), v 24 (.nilc (.t 19)), v 25 (.faddr 1 (.t 24)), u (.store 1 (.t 25) (.t 23))]) 
(.region [m 26 0, v 27 (.call (.f 103) [(.t 26)] false)])) 
(.seq 
(.region [m 29 0, v 30 (.nilc (.t 29)), v 31 (.faddr 4 (.t 30)), v 32 (.load none (.t 31)), m 33 32, w 34 (.mv (.t 0)) 33 true, w 35 (.call (.f 75) [(.t 34), (.c (.int .i64 0))] false) 33 true, w 36 (.bin .eql .any (.t 35) (.c (.int .i32 91))) 33 true, v 37 (.pick (.t 33) (.t 36) (.c (.bool false))), m 38 37, w 39 (.mv (.t 0)) 38 true, w 40 (.call (.f 94) [(.t 39), (.c (.str [91, 67, 68, 65, 84, 65, 91]))] false) 38 true, v 41 (.pick (.t 38) (.t 40) (.c (.bool false))), m 28 41]) 
(.cond (.t 28) 
(.seq 
(.region [m 42 0, v 43 (.nilc (.t 42)), v 44 (.faddr 1 (.t 43)), v 45 (.load none (.t 44)), v 46 (.bin .add .any (.t 45) (.c (.int .i64 7))), v 47 (.nilc (.t 42)), v 48 (.faddr 1 (.t 47)), u (.store 1 (.t 48) (.t 46))]) 
(.region [m 49 0, v 50 (.call (.f 104) [(.t 49)] false)])) 
(.region [m 2 0, v 3 (.call (.f 92) [(.t 2)] false)])))))))),
 []⟩
/-- (*lex.Lexer).ending -/
def c_lex_Lexer_ending : DFunc := ⟨27, 
(.seq 
(.region [m 3 0, v 4 (.call (.f 68) [(.t 3)] false), m 2 4]) 
(.block 0 
(.seq 
(.region [m 10 2, v 11 (.call (.f 18) [(.t 10)] false), m 9 11]) 
(.cond (.t 9) 
(.seq 
(.region [m 12 0, v 13 (.call (.f 90) [(.t 12)] false)]) 
(.region [m 14 0, v 15 (.call (.f 91) [(.t 14), (.c (.int .i64 3))] false)])) 
(.seq 
(.region [m 17 2, v 18 (.bin .eql .any (.t 17) (.c (.int .i32 62))), m 16 18]) 
(.cond (.t 16) .skip 
(.seq 
(.region [m 20 2, v 21 (.bin .eql .any (.t 20) (.c (.int .i32 (-1)))), m 19 21]) 
(.cond (.t 19) 
(.seq 
(.region [m 22 0, v 23 (.call (.f 90) [(.t 22)] false)]) 
(.region [m 24 0, v 25 (.mks false none (.int .i32 0) 2 [(0, (.c (.int .i32 60))), (1, (.c (.int .i32 47)))]), v 26 (.call (.f 74) [(.t 24), (.t 25)] false)])) 
(.seq 
(.region [m 5 0, v 6 (.call (.f 90) [(.t 5)] false)]) 
(.region [m 7 0, v 8 (.call (.f 92) [(.t 7)] false)])))))))))),
 []⟩
/-- (*lex.Lexer).back -/
def c_lex_Lexer_back : DFunc := ⟨9, 
(.region [m 2 0, v 3 (.nilc (.t 2)), v 4 (.faddr 1 (.t 3)), v 5 (.load none (.t 4)), v 6 (.bin .sub .any (.t 5) (.c (.int .i64 1))), v 7 (.nilc (.t 2)), v 8 (.faddr 1 (.t 7)), u (.store 1 (.t 8) (.t 6))]),
 []⟩
/-- (*lex.Lexer).tag -/
def c_lex_Lexer_tag : DFunc := ⟨18, 
(.seq 
(.region [m 5 1, m 6 0, v 7 (.call (.f 105) [(.t 6)] false), v 8 (.build [(.int .i64 0), (.str []), (.lst 0 0 []), (.bool false), (.str []), (.str []), (.str []), (.bool false), (.bool false), (.bool false)] [(0, 1, (.t 5)), (1, 1, (.t 7))]), v 4 (.alloc [(.int .i64 0), (.str []), (.lst 0 0 []), (.bool false), (.str []), (.str []), (.str []), (.bool false), (.bool false), (.bool false)] none), u (.store 10 (.t 4) (.t 8))]) 
(.seq 
(.region [m 9 0, v 10 (.call (.f 106) [(.t 9), (.t 4)] false)]) 
(.cond (.t 10) 
(.seq 
(.seq 
(.region [m 11 1, v 12 (.bin .eql .any (.t 11) (.c (.int .i64 3)))]) 
(.cond (.t 12) 
(.region [v 13 (.faddr 2 (.t 4)), u (.store 1 (.t 13) (.c (.lst 0 0 []))), v 14 (.faddr 3 (.t 4)), u (.store 1 (.t 14) (.c (.bool false)))]) .skip)) 
(.region [m 15 0, v 16 (.load (some 10) (.t 4)), v 17 (.call (.f 107) [(.t 15), (.t 16)] false)])) .skip))),
 []⟩
/-- (*lex.Lexer).bogus -/
def c_lex_Lexer_bogus : DFunc := ⟨29, 
(.seq 
(.region [v 2 (.mv (.c (.lst 0 0 [])))]) 
(.block 0 
(.loop 
(.block 1 
(.seq 
(.region [m 4 0, v 5 (.call (.f 68) [(.t 4)] false), m 3 5]) 
(.seq 
(.region [m 6 3]) 
(.block 2 
(.seq 
(.seq 
(.region [v 12 (.bin .eql .any (.t 6) (.c (.int .i32 62))), m 11 12]) 
(.cond (.t 11) .skip 
(.region [v 13 (.bin .eql .any (.t 6) (.c (.int .i32 (-1)))), m 11 13]))) 
(.cond (.t 11) 
(.seq 
(.seq 
(.region [m 14 3, v 15 (.bin .eql .any (.t 14) (.c (.int .i32 (-1))))]) 
(.cond (.t 15) 
(.region [m 16 0, v 17 (.call (.f 90) [(.t 16)] false)]) .skip)) 
(.seq 
(.region [m 18 0, m 19 2, v 20 (.call (.f 17) [(.t 19)] false), v 21 (.conv .bytesStr false (.t 20)), v 22 (.build [(.int .i64 0), (.str []), (.lst 0 0 []), (.bool false), (.str []), (.str []), (.str []), (.bool false), (.bool false), (.bool false)] [(0, 1, (.c (.int .i64 4))), (4, 1, (.t 21))]), v 23 (.call (.f 107) [(.t 18), (.t 22)] false)]) .ret)) 
(.seq 
(.region [v 25 (.bin .eql .any (.t 6) (.c (.int .i32 0))), m 24 25]) 
(.cond (.t 24) 
(.region [m 26 2, v 27 (.mks false none (.int .i32 0) 1 [(0, (.c (.int .i32 65533)))]), v 28 (.append false none 4 (.t 26) (.t 27)), m 2 28]) 
(.region [m 7 2, m 8 3, v 9 (.mks false none (.int .i32 0) 1 [(0, (.t 8))]), v 10 (.append false none 4 (.t 7) (.t 9)), m 2 10])))))))))))),
 []⟩
/-- (*lex.Lexer).closes -/
def c_lex_Lexer_closes : DFunc := ⟨53, 
(.seq 
(.region [v 2 (.mv (.c (.int .i64 0)))]) 
(.seq 
(.seq 
(.region [m 7 0, v 8 (.call (.f 75) [(.t 7), (.c (.int .i64 0))] false), v 9 (.bin .neq .any (.t 8) (.c (.int .i32 47))), m 10 9, w 11 (.mv (.t 0)) 10 false, w 12 (.call (.f 75) [(.t 11), (.c (.int .i64 1))] false) 10 false, w 13 (.call (.f 18) [(.t 12)] false) 10 false, w 14 (.un .not (.t 13)) 10 false, v 15 (.pick (.t 10) (.c (.bool true)) (.t 14)), m 16 15, w 17 (.mv (.t 0)) 16 false, w 18 (.nilc (.t 17)) 16 false, w 19 (.faddr 3 (.t 18)) 16 false, w 20 (.load none (.t 19)) 16 false, w 21 (.bin .eql .any (.t 20) (.c (.str []))) 16 false, v 22 (.pick (.t 16) (.c (.bool true)) (.t 21))]) 
(.cond (.t 22) 
(.seq 
(.region [v 2 (.mv (.c (.int .i64 0)))]) .ret) .skip)) 
(.seq 
(.region [v 3 (.mv (.c (.int .i64 1)))]) 
(.seq 
(.seq 
(.region [m 23 0, v 24 (.nilc (.t 23)), v 25 (.faddr 3 (.t 24)), v 26 (.load none (.t 25)), v 27 
(.range (.t 26))]) 
(.block 0 
(.loop 
(.seq 
(.region [v 28 (.next (.t 27)), v 29 (.extract (.t 28) 0)]) 
(.seq 
(.cond (.t 29) .skip (.exit 0)) 
(.block 1 
(.seq 
(.region [v 30 (.extract (.t 28) 2), m 5 30]) 
(.seq 
(.seq 
(.region [m 31 0, m 32 3, v 33 (.call (.f 75) [(.t 31), (.t 32)] false), v 34 (.call (.f 108) [(.t 33)] false), m 35 5, v 36 (.bin .neq .any (.t 34) (.t 35))]) 
(.cond (.t 36) 
(.seq 
(.region [v 2 (.mv (.c (.int .i64 0)))]) .ret) .skip)) 
(.region [m 37 3, v 38 (.bin .add .any (.t 37) (.c (.int .i64 1))), m 3 38]))))))))) 
(.seq 
(.seq 
(.region [m 39 0, m 40 3, v 41 (.call (.f 75) [(.t 39), (.t 40)] false), m 6 41]) 
(.seq 
(.region [m 42 6, v 43 (.call (.f 109) [(.t 42)] false), m 44 43, w 45 (.mv (.t 6)) 44 false, w 46 (.bin .eql .any (.t 45) (.c (.int .i32 47))) 44 false, v 47 (.pick (.t 44) (.c (.bool true)) (.t 46)), m 48 47, w 49 (.mv (.t 6)) 48 false, w 50 (.bin .eql .any (.t 49) (.c (.int .i32 62))) 48 false, v 51 (.pick (.t 48) (.c (.bool true)) (.t 50))]) 
(.cond (.t 51) 
(.seq 
(.region [m 52 3, m 2 52]) .ret) .skip))) 
(.seq 
(.region [v 2 (.mv (.c (.int .i64 0)))]) .ret)))))),
 [.tmp 2]⟩
/-- (*lex.Lexer).exact -/
def c_lex_Lexer_exact : DFunc := ⟨18, 
(.seq 
(.region [v 4 (.mv (.c (.bool false)))]) 
(.seq 
(.seq 
(.region [m 7 1, v 8 
(.range (.t 7))]) 
(.block 0 
(.loop 
(.seq 
(.region [v 9 (.next (.t 8)), v 10 (.extract (.t 9) 0)]) 
(.seq 
(.cond (.t 10) .skip (.exit 0)) 
(.block 1 
(.seq 
(.region [v 11 (.extract (.t 9) 1), v 12 (.extract (.t 9) 2), m 5 11, m 6 12]) 
(.seq 
(.region [m 13 0, m 14 5, v 15 (.call (.f 75) [(.t 13), (.t 14)] false), m 16 6, v 17 (.bin .neq .any (.t 15) (.t 16))]) 
(.cond (.t 17) 
(.seq 
(.region [v 4 (.mv (.c (.bool false)))]) .ret) .skip))))))))) 
(.seq 
(.region [v 4 (.mv (.c (.bool true)))]) .ret))),
 [.tmp 4]⟩
/-- (*lex.Lexer).word -/
def c_lex_Lexer_word : DFunc := ⟨19, 
(.seq 
(.region [v 2 (.mv (.c (.int .i64 0)))]) 
(.seq 
(.seq 
(.region [m 4 0, v 5 (.call (.f 101) [(.t 4), (.c (.str [115, 99, 114, 105, 112, 116]))] false), v 6 (.un .not (.t 5))]) 
(.cond (.t 6) 
(.seq 
(.region [v 2 (.mv (.c (.int .i64 0)))]) .ret) .skip)) 
(.seq 
(.seq 
(.region [m 7 0, v 8 (.call (.f 75) [(.t 7), (.c (.int .i64 6))] false), m 3 8]) 
(.seq 
(.region [m 9 3, v 10 (.call (.f 109) [(.t 9)] false), m 11 10, w 12 (.mv (.t 3)) 11 false, w 13 (.bin .eql .any (.t 12) (.c (.int .i32 47))) 11 false, v 14 (.pick (.t 11) (.c (.bool true)) (.t 13)), m 15 14, w 16 (.mv (.t 3)) 15 false, w 17 (.bin .eql .any (.t 16) (.c (.int .i32 62))) 15 false, v 18 (.pick (.t 15) (.c (.bool true)) (.t 17))]) 
(.cond (.t 18) 
(.seq 
(.region [v 2 (.mv (.c (.int .i64 7)))]) .ret) .skip))) 
(.seq 
(.region [v 2 (.mv (.c (.int .i64 0)))]) .ret)))),
 [.tmp 2]⟩
/-- (*lex.Lexer).take -/
def c_lex_Lexer_take : DFunc := ⟨13, 
(.seq 
(.region [m 4 1, v 5 (.mv (.c (.int .i64 0)))]) 
(.block 0 
(.loop 
(.seq 
(.region [v 6 (.bin .lss .any (.t 5) (.t 4))]) 
(.seq 
(.cond (.t 6) .skip (.exit 0)) 
(.seq 
(.block 1 
(.region [m 7 0, m 8 0, v 9 (.call (.f 68) [(.t 8)] false), v 10 (.mks false none (.int .i32 0) 1 [(0, (.t 9))]), v 11 (.call (.f 74) [(.t 7), (.t 10)] false)])) 
(.region [v 12 (.bin .add .any (.t 5) (.c (.int .i64 1))), m 5 12]))))))),
 []⟩
/-- slices.rotateLeft[int] -/
def c_slices_rotateLeft_int : DFunc := ⟨14, 
(.seq 
(.region [m 4 0, m 5 1, v 6 (.slice 1 (.t 4) none (some (.t 5)) none), v 7 (.call (.f 83) [(.t 6)] false)]) 
(.seq 
(.region [m 8 0, m 9 1, v 10 (.slice 1 (.t 8) (some (.t 9)) none none), v 11 (.call (.f 83) [(.t 10)] false)]) 
(.region [m 12 0, v 13 (.call (.f 83) [(.t 12)] false)]))),
 []⟩
/-- slices.Clone[[]int,int] -/
def c_slices_Clone_int_int : DFunc := ⟨8, 
(.seq 
(.region [v 2 (.mv (.c (.lst 0 0 [])))]) 
(.seq 
(.seq 
(.region [m 3 0, v 4 (.bin .eql .sl (.t 3) (.c (.lst 0 0 [])))]) 
(.cond (.t 4) 
(.seq 
(.region [v 2 (.mv (.c (.lst 0 0 [])))]) .ret) .skip)) 
(.seq 
(.region [v 5 (.mks true none (.int .i64 0) 0 []), m 6 0, v 7 (.append true none 8 (.t 5) (.t 6)), m 2 7]) .ret))),
 [.tmp 2]⟩
/-- ser.Raw -/
def c_ser_Raw : DFunc := ⟨6, 
(.seq 
(.region [v 2 (.mv (.c (.bool false)))]) 
(.seq 
(.region [v 3 (.load none (.g 2)), m 4 0, v 5 (.call (.f 43) [(.t 3), (.t 4)] false), m 2 5]) .ret)),
 [.tmp 2]⟩
/-- text.Hex -/
def c_text_Hex : DFunc := ⟨31, 
(.seq 
(.region [v 2 (.mv (.c (.int .i64 0)))]) 
(.seq 
(.block 0 
(.seq 
(.region [m 4 0, v 5 (.call (.f 19) [(.t 4)] false), m 3 5]) 
(.cond (.t 3) 
(.seq 
(.region [m 6 0, v 7 (.bin .sub .any (.t 6) (.c (.int .i32 48))), v 8 (.conv (.int .i64) false (.t 7)), m 2 8]) .ret) 
(.seq 
(.region [m 10 0, v 11 (.bin .geq .any (.t 10) (.c (.int .i32 97))), m 12 11, w 13 (.mv (.t 0)) 12 true, w 14 (.bin .leq .any (.t 13) (.c (.int .i32 102))) 12 true, v 15 (.pick (.t 12) (.t 14) (.c (.bool false))), m 9 15]) 
(.cond (.t 9) 
(.seq 
(.region [m 16 0, v 17 (.bin .sub .any (.t 16) (.c (.int .i32 97))), v 18 (.conv (.int .i64) false (.t 17)), v 19 (.bin .add .any (.t 18) (.c (.int .i64 10))), m 2 19]) .ret) 
(.seq 
(.region [m 21 0, v 22 (.bin .geq .any (.t 21) (.c (.int .i32 65))), m 23 22, w 24 (.mv (.t 0)) 23 true, w 25 (.bin .leq .any (.t 24) (.c (.int .i32 70))) 23 true, v 26 (.pick (.t 23) (.t 25) (.c (.bool false))), m 20 26]) 
(.cond (.t 20) 
(.seq 
(.region [m 27 0, v 28 (.bin .sub .any (.t 27) (.c (.int .i32 65))), v 29 (.conv (.int .i64) false (.t 28)), v 30 (.bin .add .any (.t 29) (.c (.int .i64 10))), m 2 30]) .ret) .skip))))))) 
(.seq 
(.region [v 2 (.mv (.c (.int .i64 (-1))))]) .ret))),
 [.tmp 2]⟩
/-- (*lex.Lexer).stands -/
def c_lex_Lexer_stands : DFunc := ⟨20, 
(.seq 
(.region [v 4 (.mv (.c (.bool false)))]) 
(.seq 
(.seq 
(.region [m 7 1, v 8 
(.range (.t 7))]) 
(.block 0 
(.loop 
(.seq 
(.region [v 9 (.next (.t 8)), v 10 (.extract (.t 9) 0)]) 
(.seq 
(.cond (.t 10) .skip (.exit 0)) 
(.block 1 
(.seq 
(.region [v 11 (.extract (.t 9) 1), v 12 (.extract (.t 9) 2), m 5 11, m 6 12]) 
(.seq 
(.region [m 13 0, m 14 5, v 15 (.call (.f 75) [(.t 13), (.t 14)] false), v 16 (.call (.f 108) [(.t 15)] false), m 17 6, v 18 (.call (.f 108) [(.t 17)] false), v 19 (.bin .neq .any (.t 16) (.t 18))]) 
(.cond (.t 19) 
(.seq 
(.region [v 4 (.mv (.c (.bool false)))]) .ret) .skip))))))))) 
(.seq 
(.region [v 4 (.mv (.c (.bool true)))]) .ret))),
 [.tmp 4]⟩
/-- (*lex.Lexer).comment -/
def c_lex_Lexer_comment : DFunc := ⟨108, 
(.seq 
(.region [v 1 (.box (.t 0) 1)]) 
(.seq 
(.region [v 2 (.alloc [(.lst 0 0 [])] none)]) 
(.seq 
(.region [v 8 (.mkfn (.func 110) [] [(.t 1), (.t 2)]), m 3 8]) 
(.seq 
(.seq 
(.region [v 9 (.load none (.t 1)), v 10 (.call (.f 75) [(.t 9), (.c (.int .i64 0))] false), v 11 (.bin .eql .any (.t 10) (.c (.int .i32 62)))]) 
(.cond (.t 11) 
(.seq 
(.region [v 12 (.load none (.t 1)), v 13 (.nilc (.t 12)), v 14 (.faddr 1 (.t 13)), v 15 (.load none (.t 14)), v 16 (.bin .add .any (.t 15) (.c (.int .i64 1))), v 17 (.nilc (.t 12)), v 18 (.faddr 1 (.t 17)), u (.store 1 (.t 18) (.t 16))]) 
(.seq 
(.region [m 19 3, v 20 (.call (.t 19) [] false)]) .ret)) .skip)) 
(.seq 
(.seq 
(.region [v 21 (.load none (.t 1)), v 22 (.call (.f 75) [(.t 21), (.c (.int .i64 0))] false), v 23 (.bin .eql .any (.t 22) (.c (.int .i32 45))), m 24 23, w 25 (.load none (.t 1)) 24 true, w 26 (.call (.f 75) [(.t 25), (.c (.int .i64 1))] false) 24 true, w 27 (.bin .eql .any (.t 26) (.c (.int .i32 62))) 24 true, v 28 (.pick (.t 24) (.t 27) (.c (.bool false)))]) 
(.cond (.t 28) 
(.seq 
(.region [v 29 (.load none (.t 1)), v 30 (.nilc (.t 29)), v 31 (.faddr 1 (.t 30)), v 32 (.load none (.t 31)), v 33 (.bin .add .any (.t 32) (.c (.int .i64 2))), v 34 (.nilc (.t 29)), v 35 (.faddr 1 (.t 34)), u (.store 1 (.t 35) (.t 33))]) 
(.seq 
(.region [m 36 3, v 37 (.call (.t 36) [] false)]) .ret)) .skip)) 
(.block 0 
(.loop 
(.block 1 
(.seq 
(.region [v 38 (.load none (.t 1)), v 39 (.call (.f 68) [(.t 38)] false), m 4 39]) 
(.block 2 
(.seq 
(.region [m 45 4, v 46 (.bin .eql .any (.t 45) (.c (.int .i32 (-1)))), m 44 46]) 
(.cond (.t 44) 
(.seq 
(.region [v 47 (.load none (.t 1)), v 48 (.call (.f 90) [(.t 47)] false)]) 
(.seq 
(.seq 
(.region [v 49 (.mks false none (.str []) 3 [(0, (.c (.str [45, 45, 33]))), (1, (.c (.str [45, 45]))), (2, (.c (.str [45])))]), v 50 (.len true (.t 49)), v 51 (.mv (.c (.int .i64 0)))]) 
(.block 3 
(.loop 
(.seq 
(.region [v 52 (.bin .lss .any (.t 51) (.t 50))]) 
(.seq 
(.cond (.t 52) .skip (.exit 3)) 
(.seq 
(.block 4 
(.seq 
(.region [v 53 (.iaddr 1 (.t 49) (.t 51)), v 54 (.load none (.t 53)), m 6 54]) 
(.seq 
(.region [v 55 (.load none (.t 2)), v 56 (.conv .runesStr false (.t 55)), m 7 56]) 
(.seq 
(.region [m 57 7, m 58 6, v 59 (.call (.f 111) [(.t 57), (.t 58)] false)]) 
(.cond (.t 59) 
(.seq 
(.region [v 60 (.load none (.t 2)), v 61 (.load none (.t 2)), v 62 (.len true (.t 61)), m 63 6, v 64 (.len false (.t 63)), v 65 (.bin .sub .any (.t 62) (.t 64)), v 66 (.slice 1 (.t 60) none (some (.t 65)) none), u (.store 1 (.t 2) (.t 66))]) (.exit 3)) .skip))))) 
(.region [v 67 (.bin .add .any (.t 51) (.c (.int .i64 1))), m 51 67]))))))) 
(.seq 
(.region [m 68 3, v 69 (.call (.t 68) [] false)]) .ret))) 
(.seq 
(.region [m 71 4, v 72 (.bin .eql .any (.t 71) (.c (.int .i32 45))), m 73 72, w 74 (.load none (.t 1)) 73 true, w 75 (.call (.f 94) [(.t 74), (.c (.str [45, 62]))] false) 73 true, v 76 (.pick (.t 73) (.t 75) (.c (.bool false))), m 70 76]) 
(.cond (.t 70) 
(.seq 
(.region [v 77 (.load none (.t 1)), v 78 (.nilc (.t 77)), v 79 (.faddr 1 (.t 78)), v 80 (.load none (.t 79)), v 81 (.bin .add .any (.t 80) (.c (.int .i64 2))), v 82 (.nilc (.t 77)), v 83 (.faddr 1 (.t 82)), u (.store 1 (.t 83) (.t 81))]) 
(.seq 
(.region [m 84 3, v 85 (.call (.t 84) [] false)]) .ret)) 
(.seq 
(.region [m 87 4, v 88 (.bin .eql .any (.t 87) (.c (.int .i32 45))), m 89 88, w 90 (.load none (.t 1)) 89 true, w 91 (.call (.f 94) [(.t 90), (.c (.str [45, 33, 62]))] false) 89 true, v 92 (.pick (.t 89) (.t 91) (.c (.bool false))), m 86 92]) 
(.cond (.t 86) 
(.seq 
(.region [v 93 (.load none (.t 1)), v 94 (.nilc (.t 93)), v 95 (.faddr 1 (.t 94)), v 96 (.load none (.t 95)), v 97 (.bin .add .any (.t 96) (.c (.int .i64 3))), v 98 (.nilc (.t 93)), v 99 (.faddr 1 (.t 98)), u (.store 1 (.t 99) (.t 97))]) 
(.seq 
(.region [m 100 3, v 101 (.call (.t 100) [] false)]) .ret)) 
(.seq 
(.region [m 103 4, v 104 (.bin .eql .any (.t 103) (.c (.int .i32 0))), m 102 104]) 
(.cond (.t 102) 
(.region [v 105 (.load none (.t 2)), v 106 (.mks false none (.int .i32 0) 1 [(0, (.c (.int .i32 65533)))]), v 107 (.append false none 4 (.t 105) (.t 106)), u (.store 1 (.t 2) (.t 107))]) 
(.region [v 40 (.load none (.t 2)), m 41 4, v 42 (.mks false none (.int .i32 0) 1 [(0, (.t 41))]), v 43 (.append false none 4 (.t 40) (.t 42)), u (.store 1 (.t 2) (.t 43))]))))))))))))))))))),
 []⟩
/-- (*lex.Lexer).doctype -/
def c_lex_Lexer_doctype : DFunc := ⟨163, 
(.seq 
(.region [v 1 (.box (.t 0) 1)]) 
(.seq 
(.region [v 11 (.build [(.int .i64 0), (.str []), (.lst 0 0 []), (.bool false), (.str []), (.str []), (.str []), (.bool false), (.bool false), (.bool false)] [(0, 1, (.c (.int .i64 5)))]), v 2 (.alloc [(.int .i64 0), (.str []), (.lst 0 0 []), (.bool false), (.str []), (.str []), (.str []), (.bool false), (.bool false), (.bool false)] none), u (.store 10 (.t 2) (.t 11))]) 
(.seq 
(.region [v 12 (.mkfn (.func 112) [] [(.t 2), (.t 1)]), m 3 12]) 
(.seq 
(.region [v 13 (.load none (.t 1)), v 14 (.call (.f 113) [(.t 13)] false)]) 
(.seq 
(.seq 
(.region [v 15 (.load none (.t 1)), v 16 (.call (.f 75) [(.t 15), (.c (.int .i64 0))] false), m 4 16]) 
(.seq 
(.region [m 17 4, v 18 (.bin .eql .any (.t 17) (.c (.int .i32 62))), m 19 18, w 20 (.mv (.t 4)) 19 false, w 21 (.bin .eql .any (.t 20) (.c (.int .i32 (-1)))) 19 false, v 22 (.pick (.t 19) (.c (.bool true)) (.t 21))]) 
(.cond (.t 22) 
(.seq 
(.seq 
(.region [m 23 4, v 24 (.bin .eql .any (.t 23) (.c (.int .i32 62)))]) 
(.cond (.t 24) 
(.region [v 25 (.load none (.t 1)), v 26 (.nilc (.t 25)), v 27 (.faddr 1 (.t 26)), v 28 (.load none (.t 27)), v 29 (.bin .add .any (.t 28) (.c (.int .i64 1))), v 30 (.nilc (.t 25)), v 31 (.faddr 1 (.t 30)), u (.store 1 (.t 31) (.t 29))]) .skip)) 
(.seq 
(.region [m 32 3, v 33 (.call (.t 32) [(.c (.bool true))] false)]) .ret)) .skip))) 
(.seq 
(.region [v 5 (.mv (.c (.lst 0 0 [])))]) 
(.seq 
(.seq 
(.region [v 34 (.load none (.t 1)), v 35 (.call (.f 75) [(.t 34), (.c (.int .i64 0))] false), m 6 35]) 
(.block 0 
(.loop 
(.seq 
(.seq 
(.region [m 36 6, v 37 (.call (.f 109) [(.t 36)] false), v 38 (.un .not (.t 37)), m 39 38, w 40 (.mv (.t 6)) 39 true, w 41 (.bin .neq .any (.t 40) (.c (.int .i32 62))) 39 true, v 42 (.pick (.t 39) (.t 41) (.c (.bool false))), m 43 42, w 44 (.mv (.t 6)) 43 true, w 45 (.bin .neq .any (.t 44) (.c (.int .i32 (-1)))) 43 true, v 46 (.pick (.t 43) (.t 45) (.c (.bool false)))]) 
(.cond (.t 46) .skip (.exit 0))) 
(.seq 
(.block 1 
(.seq 
(.region [v 49 (.load none (.t 1)), v 50 (.nilc (.t 49)), v 51 (.faddr 1 (.t 50)), v 52 (.load none (.t 51)), v 53 (.bin .add .any (.t 52) (.c (.int .i64 1))), v 54 (.nilc (.t 49)), v 55 (.faddr 1 (.t 54)), u (.store 1 (.t 55) (.t 53))]) 
(.seq 
(.seq 
(.region [m 56 6, v 57 (.bin .eql .any (.t 56) (.c (.int .i32 0)))]) 
(.cond (.t 57) 
(.region [v 6 (.mv (.c (.int .i32 65533)))]) .skip)) 
(.region [m 58 5, m 59 6, v 60 (.call (.f 108) [(.t 59)] false), v 61 (.mks false none (.int .i32 0) 1 [(0, (.t 60))]), v 62 (.append false none 4 (.t 58) (.t 61)), m 5 62])))) 
(.region [v 47 (.load none (.t 1)), v 48 (.call (.f 75) [(.t 47), (.c (.int .i64 0))] false), m 6 48])))))) 
(.seq 
(.region [m 63 5, v 64 (.call (.f 17) [(.t 63)] false), v 65 (.conv .bytesStr false (.t 64)), v 66 (.faddr 1 (.t 2)), u (.store 1 (.t 66) (.t 65))]) 
(.seq 
(.region [v 67 (.load none (.t 1)), v 68 (.call (.f 113) [(.t 67)] false)]) 
(.seq 
(.region [v 69 (.load none (.t 1)), v 71 (.load none (.t 1)), ⟨(some 70), .call (.f 101) [(.t 69), (.c (.str [112, 117, 98, 108, 105, 99]))] false, none, [((.t 1), none, 71, none)]⟩, v 72 (.call (.f 101) [(.t 71), (.c (.str [115, 121, 115, 116, 101, 109]))] false), m 7 70, m 8 72]) 
(.seq 
(.seq 
(.region [v 73 (.load none (.t 1)), v 74 (.call (.f 75) [(.t 73), (.c (.int .i64 0))] false), m 9 74]) 
(.block 2 
(.seq 
(.region [m 76 9, v 77 (.bin .eql .any (.t 76) (.c (.int .i32 62))), m 75 77]) 
(.cond (.t 75) 
(.seq 
(.region [v 78 (.load none (.t 1)), v 79 (.nilc (.t 78)), v 80 (.faddr 1 (.t 79)), v 81 (.load none (.t 80)), v 82 (.bin .add .any (.t 81) (.c (.int .i64 1))), v 83 (.nilc (.t 78)), v 84 (.faddr 1 (.t 83)), u (.store 1 (.t 84) (.t 82))]) 
(.seq 
(.region [m 85 3, v 86 (.call (.t 85) [(.c (.bool false))] false)]) .ret)) 
(.seq 
(.region [m 88 9, v 89 (.bin .eql .any (.t 88) (.c (.int .i32 (-1)))), m 87 89]) 
(.cond (.t 87) 
(.seq 
(.region [m 90 3, v 91 (.call (.t 90) [(.c (.bool true))] false)]) .ret) 
(.seq 
(.region [m 93 7, v 94 (.un .not (.t 93)), m 95 94, w 96 (.mv (.t 8)) 95 true, w 97 (.un .not (.t 96)) 95 true, v 98 (.pick (.t 95) (.t 97) (.c (.bool false))), m 92 98]) 
(.cond (.t 92) 
(.seq 
(.region [v 99 (.faddr 9 (.t 2)), u (.store 1 (.t 99) (.c (.bool true)))]) 
(.seq 
(.region [v 100 (.load none (.t 1)), v 101 (.call (.f 114) [(.t 100)] false)]) 
(.seq 
(.region [m 102 3, v 103 (.call (.t 102) [(.c (.bool true))] false)]) .ret))) .skip)))))))) 
(.seq 
(.region [v 104 (.load none (.t 1)), v 105 (.nilc (.t 104)), v 106 (.faddr 1 (.t 105)), v 107 (.load none (.t 106)), v 108 (.bin .add .any (.t 107) (.c (.int .i64 6))), v 109 (.nilc (.t 104)), v 110 (.faddr 1 (.t 109)), u (.store 1 (.t 110) (.t 108))]) 
(.seq 
(.region [v 111 (.load none (.t 1)), v 112 (.call (.f 113) [(.t 111)] false)]) 
(.seq 
(.region [v 10 (.mv (.c (.bool false)))]) 
(.seq 
(.seq 
(.region [m 113 7]) 
(.cond (.t 113) 
(.seq 
(.seq 
(.region [v 115 (.load none (.t 1)), v 116 (.call (.f 115) [(.t 115)] false), m 114 116, v 117 (.extract (.t 114) 0), v 118 (.extract (.t 114) 1), v 119 (.extract (.t 114) 2), v 120 (.faddr 5 (.t 2)), u (.store 1 (.t 120) (.t 117)), v 121 (.faddr 7 (.t 2)), u (.store 1 (.t 121) (.t 118)), m 10 119]) 
(.seq 
(.region [m 122 10, v 123 (.un .not (.t 122))]) 
(.cond (.t 123) 
(.seq 
(.region [m 124 3, v 125 (.call (.t 124) [(.c (.bool true))] false)]) .ret) .skip))) 
(.seq 
(.region [v 126 (.load none (.t 1)), v 127 (.call (.f 113) [(.t 126)] false)]) 
(.seq 
(.region [v 128 (.load none (.t 1)), v 129 (.call (.f 75) [(.t 128), (.c (.int .i64 0))] false), v 130 (.bin .eql .any (.t 129) (.c (.int .i32 62)))]) 
(.cond (.t 130) 
(.seq 
(.region [v 131 (.load none (.t 1)), v 132 (.nilc (.t 131)), v 133 (.faddr 1 (.t 132)), v 134 (.load none (.t 133)), v 135 (.bin .add .any (.t 134) (.c (.int .i64 1))), v 136 (.nilc (.t 131)), v 137 (.faddr 1 (.t 136)), u (.store 1 (.t 137) (.t 135))]) 
(.seq 
(.region [m 138 3, v 139 (.call (.t 138) [(.c (.bool false))] false)]) .ret)) .skip)))) .skip)) 
(.seq 
(.seq 
(.region [v 141 (.load none (.t 1)), v 142 (.call (.f 115) [(.t 141)] false), m 140 142, v 143 (.extract (.t 140) 0), v 144 (.extract (.t 140) 1), v 145 (.extract (.t 140) 2), v 146 (.faddr 6 (.t 2)), u (.store 1 (.t 146) (.t 143)), v 147 (.faddr 8 (.t 2)), u (.store 1 (.t 147) (.t 144)), m 10 145]) 
(.seq 
(.region [m 148 10, v 149 (.un .not (.t 148))]) 
(.cond (.t 149) 
(.seq 
(.region [m 150 3, v 151 (.call (.t 150) [(.c (.bool true))] false)]) .ret) .skip))) 
(.seq 
(.region [v 152 (.load none (.t 1)), v 153 (.call (.f 113) [(.t 152)] false)]) 
(.seq 
(.seq 
(.region [v 154 (.load none (.t 1)), v 155 (.call (.f 75) [(.t 154), (.c (.int .i64 0))] false), v 156 (.bin .eql .any (.t 155) (.c (.int .i32 (-1))))]) 
(.cond (.t 156) 
(.seq 
(.region [m 157 3, v 158 (.call (.t 157) [(.c (.bool true))] false)]) .ret) .skip)) 
(.seq 
(.region [v 159 (.load none (.t 1)), v 160 (.call (.f 114) [(.t 159)] false)]) 
(.region [m 161 3, v 162 (.call (.t 161) [(.c (.bool false))] false)])))))))))))))))))))),
 []⟩
/-- (*lex.Lexer).section -/
def c_lex_Lexer_section : DFunc := ⟨32, 
(.block 0 
(.loop 
(.block 1 
(.seq 
(.region [m 3 0, v 4 (.call (.f 68) [(.t 3)] false), m 2 4]) 
(.seq 
(.seq 
(.region [m 5 2, v 6 (.bin .eql .any (.t 5) (.c (.int .i32 (-1))))]) 
(.cond (.t 6) 
(.seq 
(.region [m 7 0, v 8 (.call (.f 90) [(.t 7)] false)]) .ret) .skip)) 
(.seq 
(.seq 
(.region [m 9 2, v 10 (.bin .eql .any (.t 9) (.c (.int .i32 93))), m 11 10, w 12 (.mv (.t 0)) 11 true, w 13 (.call (.f 75) [(.t 12), (.c (.int .i64 0))] false) 11 true, w 14 (.bin .eql .any (.t 13) (.c (.int .i32 93))) 11 true, v 15 (.pick (.t 11) (.t 14) (.c (.bool false))), m 16 15, w 17 (.mv (.t 0)) 16 true, w 18 (.call (.f 75) [(.t 17), (.c (.int .i64 1))] false) 16 true, w 19 (.bin .eql .any (.t 18) (.c (.int .i32 62))) 16 true, v 20 (.pick (.t 16) (.t 19) (.c (.bool false)))]) 
(.cond (.t 20) 
(.seq 
(.region [m 21 0, v 22 (.nilc (.t 21)), v 23 (.faddr 1 (.t 22)), v 24 (.load none (.t 23)), v 25 (.bin .add .any (.t 24) (.c (.int .i64 2))), v 26 (.nilc (.t 21)), v 27 (.faddr 1 (.t 26)), u (.store 1 (.t 27) (.t 25))]) .ret) .skip)) 
(.region [m 28 0, m 29 2, v 30 (.mks false none (.int .i32 0) 1 [(0, (.t 29))]), v 31 (.call (.f 74) [(.t 28), (.t 30)] false)]))))))),
 []⟩
/-- (*lex.Lexer).name -/
def c_lex_Lexer_name : DFunc := ⟨33, 
(.seq 
(.region [v 2 (.mv (.c (.str [])))]) 
(.seq 
(.region [v 3 (.mv (.c (.lst 0 0 [])))]) 
(.block 0 
(.loop 
(.block 1 
(.seq 
(.region [m 5 0, v 6 (.call (.f 68) [(.t 5)] false), m 4 6]) 
(.seq 
(.seq 
(.region [m 7 4, v 8 (.call (.f 109) [(.t 7)] false), m 9 8, w 10 (.mv (.t 4)) 9 false, w 11 (.bin .eql .any (.t 10) (.c (.int .i32 47))) 9 false, v 12 (.pick (.t 9) (.c (.bool true)) (.t 11)), m 13 12, w 14 (.mv (.t 4)) 13 false, w 15 (.bin .eql .any (.t 14) (.c (.int .i32 62))) 13 false, v 16 (.pick (.t 13) (.c (.bool true)) (.t 15)), m 17 16, w 18 (.mv (.t 4)) 17 false, w 19 (.bin .eql .any (.t 18) (.c (.int .i32 (-1)))) 17 false, v 20 (.pick (.t 17) (.c (.bool true)) (.t 19))]) 
(.cond (.t 20) 
(.seq 
(.region [m 21 0, v 22 (.call (.f 90) [(.t 21)] false)]) 
(.seq 
(.region [m 23 3, v 24 (.call (.f 17) [(.t 23)] false), v 25 (.conv .bytesStr false (.t 24)), m 2 25]) .ret)) .skip)) 
(.seq 
(.seq 
(.region [m 26 4, v 27 (.bin .eql .any (.t 26) (.c (.int .i32 0)))]) 
(.cond (.t 27) 
(.region [v 4 (.mv (.c (.int .i32 65533)))]) .skip)) 
(.region [m 28 3, m 29 4, v 30 (.call (.f 108) [(.t 29)] false), v 31 (.mks false none (.int .i32 0) 1 [(0, (.t 30))]), v 32 (.append false none 4 (.t 28) (.t 31)), m 3 32]))))))))),
 [.tmp 2]⟩
/-- (*lex.Lexer).attrs -/
def c_lex_Lexer_attrs : DFunc := ⟨36, 
(.seq 
(.region [v 4 (.mv (.c (.bool false)))]) 
(.block 0 
(.loop 
(.block 1 
(.seq 
(.region [m 6 0, v 7 (.call (.f 68) [(.t 6)] false), m 5 7]) 
(.block 2 
(.seq 
(.region [m 15 5, v 16 (.bin .eql .any (.t 15) (.c (.int .i32 (-1)))), m 14 16]) 
(.cond (.t 14) 
(.seq 
(.region [m 17 0, v 18 (.call (.f 90) [(.t 17)] false)]) 
(.seq 
(.region [v 4 (.mv (.c (.bool false)))]) .ret)) 
(.seq 
(.region [m 20 5, v 21 (.call (.f 109) [(.t 20)] false), m 19 21]) 
(.cond (.t 19) .skip 
(.seq 
(.region [m 23 5, v 24 (.bin .eql .any (.t 23) (.c (.int .i32 62))), m 22 24]) 
(.cond (.t 22) 
(.seq 
(.region [v 4 (.mv (.c (.bool true)))]) .ret) 
(.seq 
(.region [m 26 5, v 27 (.bin .eql .any (.t 26) (.c (.int .i32 47))), m 25 27]) 
(.cond (.t 25) 
(.seq 
(.region [m 28 0, v 29 (.call (.f 75) [(.t 28), (.c (.int .i64 0))] false), v 30 (.bin .eql .any (.t 29) (.c (.int .i32 62)))]) 
(.cond (.t 30) 
(.seq 
(.region [m 31 0, v 32 (.call (.f 68) [(.t 31)] false)]) 
(.seq 
(.region [m 33 1, v 34 (.nilc (.t 33)), v 35 (.faddr 3 (.t 34)), u (.store 1 (.t 35) (.c (.bool true)))]) 
(.seq 
(.region [v 4 (.mv (.c (.bool true)))]) .ret))) .skip)) 
(.seq 
(.region [m 8 0, v 9 (.call (.f 90) [(.t 8)] false)]) 
(.seq 
(.region [m 10 0, m 11 1, v 12 (.call (.f 116) [(.t 10), (.t 11)] false), v 13 (.un .not (.t 12))]) 
(.cond (.t 13) 
(.seq 
(.region [v 4 (.mv (.c (.bool false)))]) .ret) .skip))))))))))))))))),
 [.tmp 4]⟩
/-- (*lex.Lexer).emit -/
def c_lex_Lexer_emit : DFunc := ⟨24, 
(.seq 
(.region [v 3 (.box (.t 1) 10)]) 
(.seq 
(.region [m 4 0, v 5 (.call (.f 69) [(.t 4)] false)]) 
(.seq 
(.seq 
(.region [v 6 (.faddr 0 (.t 3)), v 7 (.load none (.t 6)), v 8 (.bin .eql .any (.t 7) (.c (.int .i64 2)))]) 
(.cond (.t 8) 
(.region [m 9 0, v 10 (.faddr 1 (.t 3)), v 11 (.load none (.t 10)), v 12 (.nilc (.t 9)), v 13 (.faddr 3 (.t 12)), u (.store 1 (.t 13) (.t 11))]) .skip)) 
(.region [m 14 0, m 15 0, v 16 (.nilc (.t 15)), v 17 (.faddr 5 (.t 16)), v 18 (.load none (.t 17)), v 19 (.load (some 10) (.t 3)), v 20 (.mks false (some 10) (.agg [(.int .i64 0), (.str []), (.lst 0 0 []), (.bool false), (.str []), (.str []), (.str []), (.bool false), (.bool false), (.bool false)]) 1 [(0, (.t 19))]), v 21 (.append false (some 10) 112 (.t 18) (.t 20)), v 22 (.nilc (.t 14)), v 23 (.faddr 5 (.t 22)), u (.store 1 (.t 23) (.t 21))])))),
 []⟩
/-- text.Small -/
def c_text_Small : DFunc := ⟨12, 
(.seq 
(.region [v 2 (.mv (.c (.int .i32 0)))]) 
(.seq 
(.seq 
(.region [m 3 0, v 4 (.bin .geq .any (.t 3) (.c (.int .i32 65))), m 5 4, w 6 (.mv (.t 0)) 5 true, w 7 (.bin .leq .any (.t 6) (.c (.int .i32 90))) 5 true, v 8 (.pick (.t 5) (.t 7) (.c (.bool false)))]) 
(.cond (.t 8) 
(.seq 
(.region [m 9 0, v 10 (.bin .add .any (.t 9) (.c (.int .i32 32))), m 2 10]) .ret) .skip)) 
(.seq 
(.region [m 11 0, m 2 11]) .ret))),
 [.tmp 2]⟩
/-- text.Blank -/
def c_text_Blank : DFunc := ⟨21, 
(.seq 
(.region [v 2 (.mv (.c (.bool false)))]) 
(.seq 
(.region [m 3 0, v 4 (.bin .eql .any (.t 3) (.c (.int .i32 9))), m 5 4, w 6 (.mv (.t 0)) 5 false, w 7 (.bin .eql .any (.t 6) (.c (.int .i32 10))) 5 false, v 8 (.pick (.t 5) (.c (.bool true)) (.t 7)), m 9 8, w 10 (.mv (.t 0)) 9 false, w 11 (.bin .eql .any (.t 10) (.c (.int .i32 12))) 9 false, v 12 (.pick (.t 9) (.c (.bool true)) (.t 11)), m 13 12, w 14 (.mv (.t 0)) 13 false, w 15 (.bin .eql .any (.t 14) (.c (.int .i32 13))) 13 false, v 16 (.pick (.t 13) (.c (.bool true)) (.t 15)), m 17 16, w 18 (.mv (.t 0)) 17 false, w 19 (.bin .eql .any (.t 18) (.c (.int .i32 32))) 17 false, v 20 (.pick (.t 17) (.c (.bool true)) (.t 19)), m 2 20]) .ret)),
 [.tmp 2]⟩
/-- (*lex.Lexer).comment$1 -/
def c_lex_Lexer_comment_1 : DFunc := ⟨8, 
(.region [v 2 (.load none (.t 0)), v 3 (.load none (.t 1)), ⟨(some 4), .call (.f 17) [(.t 3)] false, none, [((.t 0), none, 2, none)]⟩, v 5 (.conv .bytesStr false (.t 4)), v 6 (.build [(.int .i64 0), (.str []), (.lst 0 0 []), (.bool false), (.str []), (.str []), (.str []), (.bool false), (.bool false), (.bool false)] [(0, 1, (.c (.int .i64 4))), (4, 1, (.t 5))]), v 7 (.call (.f 107) [(.t 2), (.t 6)] false)]),
 []⟩
/-- strings.HasSuffix -/
def c_strings_HasSuffix : DFunc := ⟨8, 
(.seq 
(.region [v 4 (.mv (.c (.bool false)))]) 
(.seq 
(.region [m 5 0, m 6 1, v 7 (.call (.f 117) [(.t 5), (.t 6)] false), m 4 7]) .ret)),
 [.tmp 4]⟩
/-- (*lex.Lexer).doctype$1 -/
def c_lex_Lexer_doctype_1 : DFunc := ⟨13, 
(.seq 
(.region [v 4 (.faddr 9 (.t 1)), v 5 (.load none (.t 4)), m 6 5, w 7 (.mv (.t 0)) 6 false, v 8 (.pick (.t 6) (.c (.bool true)) (.t 7)), v 9 (.faddr 9 (.t 1)), u (.store 1 (.t 9) (.t 8))]) 
(.region [v 10 (.load none (.t 2)), v 11 (.load (some 10) (.t 1)), v 12 (.call (.f 107) [(.t 10), (.t 11)] false)])),
 []⟩
/-- (*lex.Lexer).blanks -/
def c_lex_Lexer_blanks : DFunc := ⟨12, 
(.block 0 
(.loop 
(.seq 
(.seq 
(.region [m 2 0, v 3 (.call (.f 75) [(.t 2), (.c (.int .i64 0))] false), v 4 (.call (.f 109) [(.t 3)] false)]) 
(.cond (.t 4) .skip (.exit 0))) 
(.block 1 
(.region [m 5 0, v 6 (.nilc (.t 5)), v 7 (.faddr 1 (.t 6)), v 8 (.load none (.t 7)), v 9 (.bin .add .any (.t 8) (.c (.int .i64 1))), v 10 (.nilc (.t 5)), v 11 (.faddr 1 (.t 10)), u (.store 1 (.t 11) (.t 9))]))))),
 []⟩
/-- (*lex.Lexer).skip -/
def c_lex_Lexer_skip : DFunc := ⟨10, 
(.block 0 
(.loop 
(.block 1 
(.seq 
(.region [m 2 0, v 3 (.call (.f 68) [(.t 2)] false)]) 
(.block 2 
(.seq 
(.region [v 5 (.bin .eql .any (.t 3) (.c (.int .i32 62))), m 4 5]) 
(.cond (.t 4) .ret 
(.seq 
(.region [v 7 (.bin .eql .any (.t 3) (.c (.int .i32 (-1)))), m 6 7]) 
(.cond (.t 6) 
(.seq 
(.region [m 8 0, v 9 (.call (.f 90) [(.t 8)] false)]) .ret) .skip))))))))),
 []⟩
/-- (*lex.Lexer).quoted -/
def c_lex_Lexer_quoted : DFunc := ⟨55, 
(.seq 
(.region [v 2 (.mv (.c (.str []))), v 3 (.mv (.c (.bool false))), v 4 (.mv (.c (.bool false)))]) 
(.seq 
(.region [m 8 0, v 9 (.call (.f 75) [(.t 8), (.c (.int .i64 0))] false), m 5 9]) 
(.seq 
(.seq 
(.region [m 10 5, v 11 (.bin .neq .any (.t 10) (.c (.int .i32 34))), m 12 11, w 13 (.mv (.t 5)) 12 true, w 14 (.bin .neq .any (.t 13) (.c (.int .i32 39))) 12 true, v 15 (.pick (.t 12) (.t 14) (.c (.bool false)))]) 
(.cond (.t 15) 
(.seq 
(.region [m 16 0, v 17 (.call (.f 114) [(.t 16)] false)]) 
(.seq 
(.region [v 2 (.mv (.c (.str []))), v 3 (.mv (.c (.bool false))), v 4 (.mv (.c (.bool false)))]) .ret)) .skip)) 
(.seq 
(.region [m 18 0, v 19 (.nilc (.t 18)), v 20 (.faddr 1 (.t 19)), v 21 (.load none (.t 20)), v 22 (.bin .add .any (.t 21) (.c (.int .i64 1))), v 23 (.nilc (.t 18)), v 24 (.faddr 1 (.t 23)), u (.store 1 (.t 24) (.t 22))]) 
(.seq 
(.region [v 6 (.mv (.c (.lst 0 0 [])))]) 
(.block 0 
(.loop 
(.block 1 
(.seq 
(.region [m 25 0, v 26 (.call (.f 68) [(.t 25)] false), m 7 26]) 
(.seq 
(.region [m 27 7]) 
(.block 2 
(.seq 
(.region [m 33 5, v 34 (.bin .eql .any (.t 27) (.t 33)), m 32 34]) 
(.cond (.t 32) 
(.seq 
(.region [m 35 6, v 36 (.call (.f 17) [(.t 35)] false), v 37 (.conv .bytesStr false (.t 36)), m 2 37, v 3 (.mv (.c (.bool true))), v 4 (.mv (.c (.bool true)))]) .ret) 
(.seq 
(.region [v 39 (.bin .eql .any (.t 27) (.c (.int .i32 62))), m 38 39]) 
(.cond (.t 38) 
(.seq 
(.region [m 40 6, v 41 (.call (.f 17) [(.t 40)] false), v 42 (.conv .bytesStr false (.t 41)), m 2 42, v 3 (.mv (.c (.bool true))), v 4 (.mv (.c (.bool false)))]) .ret) 
(.seq 
(.region [v 44 (.bin .eql .any (.t 27) (.c (.int .i32 (-1)))), m 43 44]) 
(.cond (.t 43) 
(.seq 
(.region [m 45 0, v 46 (.call (.f 90) [(.t 45)] false)]) 
(.seq 
(.region [m 47 6, v 48 (.call (.f 17) [(.t 47)] false), v 49 (.conv .bytesStr false (.t 48)), m 2 49, v 3 (.mv (.c (.bool true))), v 4 (.mv (.c (.bool false)))]) .ret)) 
(.seq 
(.region [v 51 (.bin .eql .any (.t 27) (.c (.int .i32 0))), m 50 51]) 
(.cond (.t 50) 
(.region [m 52 6, v 53 (.mks false none (.int .i32 0) 1 [(0, (.c (.int .i32 65533)))]), v 54 (.append false none 4 (.t 52) (.t 53)), m 6 54]) 
(.region [m 28 6, m 29 7, v 30 (.mks false none (.int .i32 0) 1 [(0, (.t 29))]), v 31 (.append false none 4 (.t 28) (.t 30)), m 6 31])))))))))))))))))))),
 [.tmp 2, .tmp 3, .tmp 4]⟩
/-- (*lex.Lexer).attr -/
def c_lex_Lexer_attr : DFunc := ⟨87, 
(.seq 
(.region [v 4 (.mv (.c (.bool false)))]) 
(.seq 
(.region [v 5 (.mv (.c (.lst 0 0 [])))]) 
(.seq 
(.seq 
(.region [v 6 (.mv (.c (.bool true)))]) 
(.block 0 
(.loop 
(.seq 
(.block 1 
(.seq 
(.region [m 12 0, v 13 (.call (.f 68) [(.t 12)] false), m 7 13]) 
(.seq 
(.seq 
(.region [m 14 7, v 15 (.call (.f 109) [(.t 14)] false), m 16 15, w 17 (.mv (.t 7)) 16 false, w 18 (.bin .eql .any (.t 17) (.c (.int .i32 47))) 16 false, v 19 (.pick (.t 16) (.c (.bool true)) (.t 18)), m 20 19, w 21 (.mv (.t 7)) 20 false, w 22 (.bin .eql .any (.t 21) (.c (.int .i32 62))) 20 false, v 23 (.pick (.t 20) (.c (.bool true)) (.t 22)), m 24 23, w 25 (.mv (.t 7)) 24 false, w 26 (.bin .eql .any (.t 25) (.c (.int .i32 (-1)))) 24 false, v 27 (.pick (.t 24) (.c (.bool true)) (.t 26)), m 28 27, w 29 (.mv (.t 7)) 28 false, w 30 (.bin .eql .any (.t 29) (.c (.int .i32 61))) 28 false, w 31 (.mv (.t 30)) 28 false, w 32 (.mv (.t 6)) 31 true, w 33 (.un .not (.t 32)) 31 true, w 34 (.pick (.t 31) (.t 33) (.c (.bool false))) 28 false, v 35 (.pick (.t 28) (.c (.bool true)) (.t 34))]) 
(.cond (.t 35) 
(.seq 
(.region [m 36 0, v 37 (.call (.f 90) [(.t 36)] false)]) (.exit 0)) .skip)) 
(.seq 
(.seq 
(.region [m 38 7, v 39 (.bin .eql .any (.t 38) (.c (.int .i32 0)))]) 
(.cond (.t 39) 
(.region [v 7 (.mv (.c (.int .i32 65533)))]) .skip)) 
(.region [m 40 5, m 41 7, v 42 (.call (.f 108) [(.t 41)] false), v 43 (.mks false none (.int .i32 0) 1 [(0, (.t 42))]), v 44 (.append false none 4 (.t 40) (.t 43)), m 5 44]))))) 
(.region [v 6 (.mv (.c (.bool false)))]))))) 
(.seq 
(.region [m 45 5, v 46 (.call (.f 17) [(.t 45)] false), v 47 (.conv .bytesStr false (.t 46)), v 48 (.build [(.str []), (.str [])] [(0, 1, (.t 47))]), v 8 (.alloc [(.str []), (.str [])] none), u (.store 2 (.t 8) (.t 48))]) 
(.seq 
(.block 2 
(.loop 
(.seq 
(.seq 
(.region [m 49 0, v 50 (.call (.f 75) [(.t 49), (.c (.int .i64 0))] false), v 51 (.call (.f 109) [(.t 50)] false)]) 
(.cond (.t 51) .skip (.exit 2))) 
(.block 3 
(.region [m 52 0, v 53 (.call (.f 68) [(.t 52)] false)]))))) 
(.seq 
(.region [v 9 (.mv (.c (.bool true)))]) 
(.seq 
(.seq 
(.region [m 54 0, v 55 (.call (.f 75) [(.t 54), (.c (.int .i64 0))] false), v 56 (.bin .eql .any (.t 55) (.c (.int .i32 61)))]) 
(.cond (.t 56) 
(.seq 
(.region [m 57 0, v 58 (.call (.f 68) [(.t 57)] false)]) 
(.region [m 60 0, v 61 (.call (.f 118) [(.t 60)] false), m 59 61, v 62 (.extract (.t 59) 0), v 63 (.extract (.t 59) 1), v 64 (.faddr 1 (.t 8)), u (.store 1 (.t 64) (.t 62)), m 9 63])) .skip)) 
(.seq 
(.seq 
(.region [m 66 1, v 67 (.nilc (.t 66)), v 68 (.load (some 10) (.t 67)), v 69 (.faddr 0 (.t 8)), v 70 (.load none (.t 69)), v 71 (.call (.f 119) [(.t 68), (.t 70)] false), m 65 71, v 72 (.extract (.t 65) 0), v 73 (.extract (.t 65) 1), m 10 72, m 11 73]) 
(.seq 
(.region [m 74 11, v 75 (.un .not (.t 74))]) 
(.cond (.t 75) 
(.region [m 76 1, m 77 1, v 78 (.nilc (.t 77)), v 79 (.faddr 2 (.t 78)), v 80 (.load none (.t 79)), v 81 (.load (some 2) (.t 8)), v 82 (.mks false (some 2) (.agg [(.str []), (.str [])]) 1 [(0, (.t 81))]), v 83 (.append false (some 2) 32 (.t 80) (.t 82)), v 84 (.nilc (.t 76)), v 85 (.faddr 2 (.t 84)), u (.store 1 (.t 85) (.t 83))]) .skip))) 
(.seq 
(.region [m 86 9, m 4 86]) .ret))))))))),
 [.tmp 4]⟩
/-- internal/stringslite.HasSuffix -/
def c_internal_stringslite_HasSuffix : DFunc := ⟨21, 
(.seq 
(.region [v 4 (.mv (.c (.bool false)))]) 
(.seq 
(.region [m 5 0, v 6 (.len false (.t 5)), m 7 1, v 8 (.len false (.t 7)), v 9 (.bin .geq .any (.t 6) (.t 8)), m 10 9, w 11 (.mv (.t 0)) 10 true, w 12 (.mv (.t 0)) 10 true, w 13 (.len false (.t 12)) 10 true, w 14 (.mv (.t 1)) 10 true, w 15 (.len false (.t 14)) 10 true, w 16 (.bin .sub .any (.t 13) (.t 15)) 10 true, w 17 (.sliceStr (.t 11) (some (.t 16)) none) 10 true, w 18 (.mv (.t 1)) 10 true, w 19 (.bin .eql .any (.t 17) (.t 18)) 10 true, v 20 (.pick (.t 10) (.t 19) (.c (.bool false))), m 4 20]) .ret)),
 [.tmp 4]⟩
/-- (*lex.Lexer).value -/
def c_lex_Lexer_value : DFunc := ⟨91, 
(.seq 
(.region [v 1 (.box (.t 0) 1), v 2 (.mv (.c (.str []))), v 3 (.mv (.c (.bool false)))]) 
(.seq 
(.block 0 
(.loop 
(.seq 
(.seq 
(.region [v 7 (.load none (.t 1)), v 8 (.call (.f 75) [(.t 7), (.c (.int .i64 0))] false), v 9 (.call (.f 109) [(.t 8)] false)]) 
(.cond (.t 9) .skip (.exit 0))) 
(.block 1 
(.region [v 10 (.load none (.t 1)), v 11 (.call (.f 68) [(.t 10)] false)]))))) 
(.seq 
(.region [v 12 (.load none (.t 1)), v 13 (.call (.f 75) [(.t 12), (.c (.int .i64 0))] false), m 4 13]) 
(.seq 
(.seq 
(.region [m 14 4]) 
(.block 2 
(.seq 
(.seq 
(.region [v 16 (.bin .eql .any (.t 14) (.c (.int .i32 34))), m 15 16]) 
(.cond (.t 15) .skip 
(.region [v 17 (.bin .eql .any (.t 14) (.c (.int .i32 39))), m 15 17]))) 
(.cond (.t 15) 
(.region [v 18 (.load none (.t 1)), v 19 (.call (.f 68) [(.t 18)] false)]) 
(.seq 
(.region [v 21 (.bin .eql .any (.t 14) (.c (.int .i32 62))), m 20 21]) 
(.cond (.t 20) 
(.seq 
(.region [v 2 (.mv (.c (.str []))), v 3 (.mv (.c (.bool true)))]) .ret) 
(.region [v 4 (.mv (.c (.int .i32 0)))]))))))) 
(.seq 
(.region [v 22 (.load none (.t 1)), v 23 (.nilc (.t 22)), v 24 (.faddr 6 (.t 23)), v 25 (.load none (.t 24)), v 5 (.alloc [(.lst 0 0 [])] none), u (.store 1 (.t 5) (.t 25))]) 
(.seq 
(.region [v 26 (.load none (.t 1)), v 27 (.nilc (.t 26)), v 28 (.faddr 6 (.t 27)), u (.store 1 (.t 28) (.c (.lst 0 0 [])))]) 
(.seq 
(.region [v 29 (.mkfn (.func 120) [] [(.t 5), (.t 1)]), u (.defr (.t 29) [])]) 
(.block 3 
(.loop 
(.block 4 
(.seq 
(.region [v 30 (.load none (.t 1)), v 31 (.call (.f 68) [(.t 30)] false), m 6 31]) 
(.block 5 
(.seq 
(.region [m 37 6, v 38 (.bin .eql .any (.t 37) (.c (.int .i32 (-1)))), m 36 38]) 
(.cond (.t 36) 
(.seq 
(.region [v 39 (.load none (.t 1)), v 40 (.call (.f 90) [(.t 39)] false)]) 
(.seq 
(.region [v 41 (.load none (.t 1)), v 42 (.nilc (.t 41)), v 43 (.faddr 6 (.t 42)), v 44 (.load none (.t 43)), v 45 (.call (.f 17) [(.t 44)] false), v 46 (.conv .bytesStr false (.t 45)), m 2 46, v 3 (.mv (.c (.bool false)))]) .ret)) 
(.seq 
(.region [m 48 4, v 49 (.bin .neq .any (.t 48) (.c (.int .i32 0))), m 50 49, w 51 (.mv (.t 6)) 50 true, w 52 (.mv (.t 4)) 50 true, w 53 (.bin .eql .any (.t 51) (.t 52)) 50 true, v 54 (.pick (.t 50) (.t 53) (.c (.bool false))), m 47 54]) 
(.cond (.t 47) 
(.seq 
(.region [v 55 (.load none (.t 1)), v 56 (.nilc (.t 55)), v 57 (.faddr 6 (.t 56)), v 58 (.load none (.t 57)), v 59 (.call (.f 17) [(.t 58)] false), v 60 (.conv .bytesStr false (.t 59)), m 2 60, v 3 (.mv (.c (.bool true)))]) .ret) 
(.seq 
(.region [m 62 4, v 63 (.bin .eql .any (.t 62) (.c (.int .i32 0))), m 64 63, w 65 (.mv (.t 6)) 64 true, w 66 (.call (.f 109) [(.t 65)] false) 64 true, w 67 (.mv (.t 66)) 64 true, w 68 (.mv (.t 6)) 67 false, w 69 (.bin .eql .any (.t 68) (.c (.int .i32 62))) 67 false, w 70 (.pick (.t 67) (.c (.bool true)) (.t 69)) 64 true, v 71 (.pick (.t 64) (.t 70) (.c (.bool false))), m 61 71]) 
(.cond (.t 61) 
(.seq 
(.region [v 72 (.load none (.t 1)), v 73 (.call (.f 90) [(.t 72)] false)]) 
(.seq 
(.region [v 74 (.load none (.t 1)), v 75 (.nilc (.t 74)), v 76 (.faddr 6 (.t 75)), v 77 (.load none (.t 76)), v 78 (.call (.f 17) [(.t 77)] false), v 79 (.conv .bytesStr false (.t 78)), m 2 79, v 3 (.mv (.c (.bool true)))]) .ret)) 
(.seq 
(.region [m 81 6, v 82 (.bin .eql .any (.t 81) (.c (.int .i32 38))), m 80 82]) 
(.cond (.t 80) 
(.region [v 83 (.load none (.t 1)), v 84 (.call (.f 70) [(.t 83), (.c (.bool true))] false)]) 
(.seq 
(.region [m 86 6, v 87 (.bin .eql .any (.t 86) (.c (.int .i32 0))), m 85 87]) 
(.cond (.t 85) 
(.region [v 88 (.load none (.t 1)), v 89 (.mks false none (.int .i32 0) 1 [(0, (.c (.int .i32 65533)))]), v 90 (.call (.f 74) [(.t 88), (.t 89)] false)]) 
(.region [v 32 (.load none (.t 1)), m 33 6, v 34 (.mks false none (.int .i32 0) 1 [(0, (.t 33))]), v 35 (.call (.f 74) [(.t 32), (.t 34)] false)]))))))))))))))))))))))),
 [.tmp 2, .tmp 3]⟩
/-- (token.Token).Get -/
def c_token_Token_Get : DFunc := ⟨12, 
(.seq 
(.region [v 2 (.box (.t 0) 10), v 4 (.mv (.c (.str []))), v 5 (.mv (.c (.bool false)))]) 
(.seq 
(.region [v 6 (.faddr 2 (.t 2)), v 7 (.load none (.t 6)), m 8 1, v 9 (.call (.f 121) [(.t 7), (.t 8)] false), v 10 (.extract (.t 9) 0), v 11 (.extract (.t 9) 1), m 4 10, m 5 11]) .ret)),
 [.tmp 4, .tmp 5]⟩
/-- (*lex.Lexer).value$1 -/
def c_lex_Lexer_value_1 : DFunc := ⟨6, 
(.region [v 2 (.load none (.t 1)), v 3 (.load none (.t 0)), v 4 (.nilc (.t 2)), v 5 (.faddr 6 (.t 4)), u (.store 1 (.t 5) (.t 3))]),
 []⟩
/-- token.Get -/
def c_token_Get : DFunc := ⟨17, 
(.seq 
(.region [v 3 (.box (.t 1) 1), v 4 (.mv (.c (.str []))), v 5 (.mv (.c (.bool false)))]) 
(.seq 
(.region [m 7 0, v 8 (.mkfn (.func 122) [] [(.t 3)]), v 9 (.call (.f 76) [(.t 7), (.t 8)] false), m 6 9]) 
(.seq 
(.seq 
(.region [m 10 6, v 11 (.bin .lss .any (.t 10) (.c (.int .i64 0)))]) 
(.cond (.t 11) 
(.seq 
(.region [v 4 (.mv (.c (.str []))), v 5 (.mv (.c (.bool false)))]) .ret) .skip)) 
(.seq 
(.region [m 12 0, m 13 6, v 14 (.iaddr 2 (.t 12) (.t 13)), v 15 (.faddr 1 (.t 14)), v 16 (.load none (.t 15)), m 4 16, v 5 (.mv (.c (.bool true)))]) .ret)))),
 [.tmp 4, .tmp 5]⟩
/-- token.Get$1 -/
def c_token_Get_1 : DFunc := ⟨8, 
(.seq 
(.region [v 2 (.box (.t 0) 2), v 3 (.mv (.c (.bool false)))]) 
(.seq 
(.region [v 4 (.faddr 0 (.t 2)), v 5 (.load none (.t 4)), v 6 (.load none (.t 1)), v 7 (.bin .eql .any (.t 5) (.t 6)), m 3 7]) .ret)),
 [.tmp 3]⟩
theorem ok_text_need : compF Tryd.prog cfg4 86 = some c_text_need := by kernel_rfl
theorem ok_chars_Number : compF Tryd.prog cfg4 87 = some c_chars_Number := by kernel_rfl
theorem ok_lex_Lexer_declare : compF Tryd.prog cfg4 88 = some c_lex_Lexer_declare := by kernel_rfl
theorem ok_lex_Lexer_ending : compF Tryd.prog cfg4 89 = some c_lex_Lexer_ending := by kernel_rfl
theorem ok_lex_Lexer_back : compF Tryd.prog cfg4 90 = some c_lex_Lexer_back := by kernel_rfl
theorem ok_lex_Lexer_tag : compF Tryd.prog cfg4 91 = some c_lex_Lexer_tag := by kernel_rfl
theorem ok_lex_Lexer_bogus : compF Tryd.prog cfg4 92 = some c_lex_Lexer_bogus := by kernel_rfl
theorem ok_lex_Lexer_closes : compF Tryd.prog cfg4 93 = some c_lex_Lexer_closes := by kernel_rfl
theorem ok_lex_Lexer_exact : compF Tryd.prog cfg4 94 = some c_lex_Lexer_exact := by kernel_rfl
theorem ok_lex_Lexer_word : compF Tryd.prog cfg4 95 = some c_lex_Lexer_word := by kernel_rfl
theorem ok_lex_Lexer_take : compF Tryd.prog cfg4 96 = some c_lex_Lexer_take := by kernel_rfl
theorem ok_slices_rotateLeft_int : compF Tryd.prog cfg4 97 = some c_slices_rotateLeft_int := by kernel_rfl
theorem ok_slices_Clone_int_int : compF Tryd.prog cfg4 98 = some c_slices_Clone_int_int := by kernel_rfl
theorem ok_ser_Raw : compF Tryd.prog cfg4 99 = some c_ser_Raw := by kernel_rfl
theorem ok_text_Hex : compF Tryd.prog cfg4 100 = some c_text_Hex := by kernel_rfl
theorem ok_lex_Lexer_stands : compF Tryd.prog cfg4 101 = some c_lex_Lexer_stands := by kernel_rfl
theorem ok_lex_Lexer_comment : compF Tryd.prog cfg4 102 = some c_lex_Lexer_comment := by kernel_rfl
theorem ok_lex_Lexer_doctype : compF Tryd.prog cfg4 103 = some c_lex_Lexer_doctype := by kernel_rfl
theorem ok_lex_Lexer_section : compF Tryd.prog cfg4 104 = some c_lex_Lexer_section := by kernel_rfl
theorem ok_lex_Lexer_name : compF Tryd.prog cfg4 105 = some c_lex_Lexer_name := by kernel_rfl
theorem ok_lex_Lexer_attrs : compF Tryd.prog cfg4 106 = some c_lex_Lexer_attrs := by kernel_rfl
theorem ok_lex_Lexer_emit : compF Tryd.prog cfg4 107 = some c_lex_Lexer_emit := by kernel_rfl
theorem ok_text_Small : compF Tryd.prog cfg4 108 = some c_text_Small := by kernel_rfl
theorem ok_text_Blank : compF Tryd.prog cfg4 109 = some c_text_Blank := by kernel_rfl
theorem ok_lex_Lexer_comment_1 : compF Tryd.prog cfg4 110 = some c_lex_Lexer_comment_1 := by kernel_rfl
theorem ok_strings_HasSuffix : compF Tryd.prog cfg4 111 = some c_strings_HasSuffix := by kernel_rfl
theorem ok_lex_Lexer_doctype_1 : compF Tryd.prog cfg4 112 = some c_lex_Lexer_doctype_1 := by kernel_rfl
theorem ok_lex_Lexer_blanks : compF Tryd.prog cfg4 113 = some c_lex_Lexer_blanks := by kernel_rfl
theorem ok_lex_Lexer_skip : compF Tryd.prog cfg4 114 = some c_lex_Lexer_skip := by kernel_rfl
theorem ok_lex_Lexer_quoted : compF Tryd.prog cfg4 115 = some c_lex_Lexer_quoted := by kernel_rfl
theorem ok_lex_Lexer_attr : compF Tryd.prog cfg4 116 = some c_lex_Lexer_attr := by kernel_rfl
theorem ok_internal_stringslite_HasSuffix : compF Tryd.prog cfg4 117 = some c_internal_stringslite_HasSuffix := by kernel_rfl
theorem ok_lex_Lexer_value : compF Tryd.prog cfg4 118 = some c_lex_Lexer_value := by kernel_rfl
theorem ok_token_Token_Get : compF Tryd.prog cfg4 119 = some c_token_Token_Get := by kernel_rfl
theorem ok_lex_Lexer_value_1 : compF Tryd.prog cfg4 120 = some c_lex_Lexer_value_1 := by kernel_rfl
theorem ok_token_Get : compF Tryd.prog cfg4 121 = some c_token_Get := by kernel_rfl
theorem ok_token_Get_1 : compF Tryd.prog cfg4 122 = some c_token_Get_1 := by kernel_rfl
end Go.Proofs.YticnenofiibpgaaDoor.Code
/- The D-machine (30): from a run of ours to the model's call. -/
namespace Go.Dm
set_option linter.unusedSimpArgs false
set_option linter.unusedVariables false
set_option linter.unnecessarySimpa false
open Go.RowKit

/-- Where nothing is ours yet: all that lies in the memory stays. -/
def Cor.start (W : World) : Cor := { φ := fun _ => none, τ := fun _ => none, kp := fun b o => W.cell? ⟨b, o, none⟩ }
def Heap.start : Heap := { next := 2, objs := .nil, tags := .nil }
theorem start_sim {CC : Code → DC → Prop} (W : World) : Sim CC W.heap.size (Cor.start W) Heap.start W.heap := by
  refine ⟨?_, ?_, ?_, ?_, ?_, ?_, ?_, ?_, ?_, ?_, Nat.le_refl _, Nat.le_refl _, ?_⟩
  · intro _ _ _ _ _ _ _ h; cases h
  · intro _ _ _ _ _ _ _ _ _ _ _ _ _ h; cases h
  · intro b o v h
    have h' : W.cell? ⟨b, o, none⟩ = some v := h
    unfold World.cell? at h'
    split at h'
    · rename_i c e f hb
      exact ⟨c, e, f, hb, by simpa using h'⟩
    · cases h'
  · intro _ _ _ _ _ _ _ h; cases h
  · intro _ _ _ _ _ _ _ h; cases h
  · intro _ _ _ _ _ _ _ _ _ _ _ _ _ h; cases h
  · intro _ _ _ _ _ _ _ _ _ _ _ _ h; cases h
  · intro _ _ h; cases h
  · intro _ _ h; cases h
  · intro _ _ _ _ _ h; cases h
  · intro id _; exact ⟨rfl, rfl⟩
theorem Keeps.but {W W' : World} (h : Keeps W.heap.size W W') (may : MemPlace → Prop) : W.keptBut W' may := by
  refine ⟨h.os, h.output, fun i hi => ?_⟩
  have := h.old i hi
  rw [this]
  cases hx : W.heap[i]? with
  | none => trivial
  | some o => cases o <;> first | exact ⟨rfl, rfl, rfl, fun _ _ => rfl⟩ | exact .inr ⟨rfl, rfl⟩ | rfl

/-- What the parts that are not run az code do is what the model's do. -/
def PrimOk (P : Program) (cfg : Cfg) (D : DProg) : Prop := ∀ base, CallOk P (fun code dc => ∃ mf, compC P cfg mf code = some dc) base D (fun f args h => (D.prim f).bind fun p => p args h)
theorem primOk_none {P : Program} {cfg : Cfg} {D : DProg} (hprim : ∀ f, D.prim f = none) : PrimOk P cfg D := by
  intro base f args h v h' he
  simp only [hprim, Option.bind_none] at he
  cases he
theorem calls_of_runs {P : Program} {cfg : Cfg} {D : DProg} (hm : P.follows .mixedOrders = true) (hD : ∀ f df, D.fn f = some df → compF P cfg f = some df) (hprim : PrimOk P cfg D) {f : Nat} {args : List DV} {v : DV} {h' : Heap} (hr : Runs D f args Heap.start v h')
    {W : World} {vargs : Array Value} (hv : VRels (Cor.start W) args vargs.toList) (hg : GlobOk D (Cor.start W)) : Calls P f vargs W fun e W' => ∃ v' c', e = .returned v' ∧ VRel c' v v' ∧ Keeps W.heap.size W W' := by
  obtain ⟨n, hn⟩ := hr
  let CC : Code → DC → Prop := fun code dc => ∃ mf, compC P cfg mf code = some dc
  have hp : CallOk P CC W.heap.size D (fun f args h => (D.prim f).bind fun p => p args h) := hprim _
  have hcode := code_sound (base := W.heap.size) hm (CC := CC) rfl hD hp n
  have hcall := call_sound (cfg := cfg) hcode (fun mf code dc h => ⟨mf, h⟩) hD hp
  obtain ⟨fn, _, _, _, hcs⟩ := hcall f args Heap.start v h' hn 0 (Cor.start W) W vargs.toList hg hv (start_sim W)
  have hcs' := callsIn_wide.1 hcs
  rw [Array.toArray_toList] at hcs'
  exact Calls.mono hcs' fun e W' ⟨v', c', he, ho, hv'⟩ => ⟨v', c', he, hv', ho.keeps⟩
theorem calls_true {P : Program} {cfg : Cfg} {D : DProg} (hm : P.follows .mixedOrders = true) (hD : ∀ f df, D.fn f = some df → compF P cfg f = some df) (hprim : PrimOk P cfg D) {f : Nat} {args : List DV} {h' : Heap} (hr : Runs D f args Heap.start (.bool true) h')
    {W : World} {vargs : Array Value} (hv : VRels (Cor.start W) args vargs.toList) (hg : GlobOk D (Cor.start W)) : Calls P f vargs W fun e W' => e = .returned (.bool true) ∧ Keeps W.heap.size W W' :=
  (calls_of_runs hm hD hprim hr hv hg).mono fun _ _ ⟨_, _, he, hv', hk⟩ => ⟨by rw [he, hv'.bool_inv], hk⟩
end Go.Dm
/- The table of the functions. -/
namespace Go.Proofs.YticnenofiibpgaaDoor.Code
set_option linter.unusedSimpArgs false
set_option linter.unusedVariables false
open Go.Dm Go.Dm.C
def cfg : Cfg := ⟨fun t => [3, 83].contains t, fun f => [26, 46, 57, 58, 59].contains f⟩
def tab : BT :=
 (.node (.node (.node (.node (.node (.node (.node .nil 12 c_woodcutlaw10_SerReads .nil) 14 c_woodcutlaw09_word (.node .nil 15 c_lex_All .nil)) 16 c_chars_Match (.node (.node .nil 17 c_text_Encode .nil) 18 c_text_Letter .nil)) 19 c_text_Digit (.node (.node (.node .nil 20 c_chars_Numeric .nil) 21 c_woodcutlaw09_clean .nil) 22 c_lex_New (.node (.node .nil 23 c_lex_Lexer_Way .nil) 24 c_lex_Lexer_Tokens .nil))) 25 c_lex_Lexer_Sections (.node (.node (.node (.node .nil 26 c_token_Join .nil) 29 c_token_Token_Same (.node .nil 30 c_token_Token_Is .nil)) 33 c_woodcutlaw10_head (.node (.node .nil 34 c_ser_Value .nil) 35 c_ser_Text .nil)) 36 c_slices_Collect_token_Token (.node (.node (.node .nil 37 c_chars_table .nil) 38 c_text_Put .nil) 39 c_text_Decode (.node (.node .nil 40 c_lex_Lexer_Tokens_1 .nil) 41 c_lex_Lexer_Next .nil)))) 42 c_slices_Equal_token_Attr_token_Attr (.node (.node (.node (.node (.node .nil 43 c_slices_Contains_string_string .nil) 47 c_dom_New (.node .nil 48 c_dom_Doc_Add .nil)) 49 c_dom_Doc_Put (.node (.node .nil 50 c_dom_Doc_Say .nil) 51 c_ser_Page .nil)) 52 c_ser_escape (.node (.node (.node .nil 53 c_slices_AppendSeq_token_Token_token_Token .nil) 54 c_text_Signs .nil) 55 c_lex_Lexer_step (.node (.node .nil 56 c_slices_Index_string_string .nil) 58 c_slices_Clone_token_Attr_token_Attr .nil))) 60 c_dom_Doc_in (.node (.node (.node (.node .nil 61 c_dom_Doc_above .nil) 62 c_dom_Doc_Out .nil) 63 c_slices_Index_int_int (.node (.node .nil 64 c_slices_Insert_int_int .nil) 65 c_ser_Inner .nil)) 66 c_text_Signs_1 (.node (.node (.node .nil 67 c_text_one .nil) 68 c_lex_Lexer_next .nil) 69 c_lex_Lexer_flush (.node (.node .nil 70 c_lex_Lexer_reference .nil) 71 c_lex_Lexer_open .nil))))) 72 c_lex_Lexer_close (.node (.node (.node (.node (.node (.node .nil 73 c_lex_Lexer_script .nil) 74 c_lex_Lexer_say (.node .nil 75 c_lex_Lexer_peek .nil)) 76 c_slices_IndexFunc_token_Attr_token_Attr (.node (.node .nil 77 c_slices_Delete_int_int .nil) 79 c_slices_rotateRight_int .nil)) 80 c_dom_Doc_Kind (.node (.node (.node .nil 81 c_ser_Inner_1 .nil) 82 c_dom_Doc_Kids .nil) 83 c_slices_Reverse_int_int (.node (.node .nil 84 c_ser_Void .nil) 85 c_ser_begin .nil))) 86 c_text_need (.node (.node (.node (.node .nil 87 c_chars_Number .nil) 88 c_lex_Lexer_declare .nil) 89 c_lex_Lexer_ending (.node (.node .nil 90 c_lex_Lexer_back .nil) 91 c_lex_Lexer_tag .nil)) 92 c_lex_Lexer_bogus (.node (.node (.node .nil 93 c_lex_Lexer_closes .nil) 94 c_lex_Lexer_exact .nil) 95 c_lex_Lexer_word (.node (.node .nil 96 c_lex_Lexer_take .nil) 97 c_slices_rotateLeft_int .nil)))) 98 c_slices_Clone_int_int (.node (.node (.node (.node (.node .nil 99 c_ser_Raw .nil) 100 c_text_Hex (.node .nil 101 c_lex_Lexer_stands .nil)) 102 c_lex_Lexer_comment (.node (.node .nil 103 c_lex_Lexer_doctype .nil) 104 c_lex_Lexer_section .nil)) 105 c_lex_Lexer_name (.node (.node (.node .nil 106 c_lex_Lexer_attrs .nil) 107 c_lex_Lexer_emit .nil) 108 c_text_Small (.node (.node .nil 109 c_text_Blank .nil) 110 c_lex_Lexer_comment_1 .nil))) 111 c_strings_HasSuffix (.node (.node (.node (.node .nil 112 c_lex_Lexer_doctype_1 .nil) 113 c_lex_Lexer_blanks .nil) 114 c_lex_Lexer_skip (.node (.node .nil 115 c_lex_Lexer_quoted .nil) 116 c_lex_Lexer_attr .nil)) 117 c_internal_stringslite_HasSuffix (.node (.node (.node .nil 118 c_lex_Lexer_value .nil) 119 c_token_Token_Get .nil) 120 c_lex_Lexer_value_1 (.node (.node .nil 121 c_token_Get .nil) 122 c_token_Get_1 .nil))))))
theorem tabOk : BT.All (fun f d => compF Tryd.prog cfg f = some d) tab :=
 (.node (.node (.node (.node (.node (.node (.node .nil ok_woodcutlaw10_SerReads .nil) ok_woodcutlaw09_word (.node .nil ok_lex_All .nil)) ok_chars_Match (.node (.node .nil ok_text_Encode .nil) ok_text_Letter .nil)) ok_text_Digit (.node (.node (.node .nil ok_chars_Numeric .nil) ok_woodcutlaw09_clean .nil) ok_lex_New (.node (.node .nil ok_lex_Lexer_Way .nil) ok_lex_Lexer_Tokens .nil))) ok_lex_Lexer_Sections (.node (.node (.node (.node .nil ok_token_Join .nil) ok_token_Token_Same (.node .nil ok_token_Token_Is .nil)) ok_woodcutlaw10_head (.node (.node .nil ok_ser_Value .nil) ok_ser_Text .nil)) ok_slices_Collect_token_Token (.node (.node (.node .nil ok_chars_table .nil) ok_text_Put .nil) ok_text_Decode (.node (.node .nil ok_lex_Lexer_Tokens_1 .nil) ok_lex_Lexer_Next .nil)))) ok_slices_Equal_token_Attr_token_Attr (.node (.node (.node (.node (.node .nil ok_slices_Contains_string_string .nil) ok_dom_New (.node .nil ok_dom_Doc_Add .nil)) ok_dom_Doc_Put (.node (.node .nil ok_dom_Doc_Say .nil) ok_ser_Page .nil)) ok_ser_escape (.node (.node (.node .nil ok_slices_AppendSeq_token_Token_token_Token .nil) ok_text_Signs .nil) ok_lex_Lexer_step (.node (.node .nil ok_slices_Index_string_string .nil) ok_slices_Clone_token_Attr_token_Attr .nil))) ok_dom_Doc_in (.node (.node (.node (.node .nil ok_dom_Doc_above .nil) ok_dom_Doc_Out .nil) ok_slices_Index_int_int (.node (.node .nil ok_slices_Insert_int_int .nil) ok_ser_Inner .nil)) ok_text_Signs_1 (.node (.node (.node .nil ok_text_one .nil) ok_lex_Lexer_next .nil) ok_lex_Lexer_flush (.node (.node .nil ok_lex_Lexer_reference .nil) ok_lex_Lexer_open .nil))))) ok_lex_Lexer_close (.node (.node (.node (.node (.node (.node .nil ok_lex_Lexer_script .nil) ok_lex_Lexer_say (.node .nil ok_lex_Lexer_peek .nil)) ok_slices_IndexFunc_token_Attr_token_Attr (.node (.node .nil ok_slices_Delete_int_int .nil) ok_slices_rotateRight_int .nil)) ok_dom_Doc_Kind (.node (.node (.node .nil ok_ser_Inner_1 .nil) ok_dom_Doc_Kids .nil) ok_slices_Reverse_int_int (.node (.node .nil ok_ser_Void .nil) ok_ser_begin .nil))) ok_text_need (.node (.node (.node (.node .nil ok_chars_Number .nil) ok_lex_Lexer_declare .nil) ok_lex_Lexer_ending (.node (.node .nil ok_lex_Lexer_back .nil) ok_lex_Lexer_tag .nil)) ok_lex_Lexer_bogus (.node (.node (.node .nil ok_lex_Lexer_closes .nil) ok_lex_Lexer_exact .nil) ok_lex_Lexer_word (.node (.node .nil ok_lex_Lexer_take .nil) ok_slices_rotateLeft_int .nil)))) ok_slices_Clone_int_int (.node (.node (.node (.node (.node .nil ok_ser_Raw .nil) ok_text_Hex (.node .nil ok_lex_Lexer_stands .nil)) ok_lex_Lexer_comment (.node (.node .nil ok_lex_Lexer_doctype .nil) ok_lex_Lexer_section .nil)) ok_lex_Lexer_name (.node (.node (.node .nil ok_lex_Lexer_attrs .nil) ok_lex_Lexer_emit .nil) ok_text_Small (.node (.node .nil ok_text_Blank .nil) ok_lex_Lexer_comment_1 .nil))) ok_strings_HasSuffix (.node (.node (.node (.node .nil ok_lex_Lexer_doctype_1 .nil) ok_lex_Lexer_blanks .nil) ok_lex_Lexer_skip (.node (.node .nil ok_lex_Lexer_quoted .nil) ok_lex_Lexer_attr .nil)) ok_internal_stringslite_HasSuffix (.node (.node (.node .nil ok_lex_Lexer_value .nil) ok_token_Token_Get .nil) ok_lex_Lexer_value_1 (.node (.node .nil ok_token_Get .nil) ok_token_Get_1 .nil))))))
def windows : List Int := [8364, 129, 8218, 402, 8222, 8230, 8224, 8225, 710, 8240, 352, 8249, 338, 141, 381, 143, 144, 8216, 8217, 8220, 8221, 8226, 8211, 8212, 732, 8482, 353, 8250, 339, 157, 382, 376]
def gl_ser_voids : List DV := [(.lst 1 1 [(.str [97, 114, 101, 97]), (.str [98, 97, 115, 101]), (.str [98, 97, 115, 101, 102, 111, 110, 116]), (.str [98, 103, 115, 111, 117, 110, 100]), (.str [98, 114]), (.str [99, 111, 108]), (.str [101, 109, 98, 101, 100]), (.str [102, 114, 97, 109, 101]), (.str [104, 114]), (.str [105, 109, 103]), (.str [105, 110, 112, 117, 116]), (.str [107, 101, 121, 103, 101, 110]), (.str [108, 105, 110, 107]), (.str [109, 101, 116, 97]), (.str [112, 97, 114, 97, 109]), (.str [115, 111, 117, 114, 99, 101]), (.str [116, 114, 97, 99, 107]), (.str [119, 98, 114])])]
def gl_ser_raws : List DV := [(.lst 1 1 [(.str [115, 116, 121, 108, 101]), (.str [115, 99, 114, 105, 112, 116]), (.str [120, 109, 112]), (.str [105, 102, 114, 97, 109, 101]), (.str [110, 111, 101, 109, 98, 101, 100]), (.str [110, 111, 102, 114, 97, 109, 101, 115]), (.str [112, 108, 97, 105, 110, 116, 101, 120, 116])])]
def glob (g : Nat) : Option (List DV) := match Nat.beq g 0 with
  | true => some (windows.map (DV.int .i32))
  | false => match Nat.beq g 1 with
  | true => some gl_ser_voids
  | false => match Nat.beq g 2 with
  | true => some gl_ser_raws
  | false => none
def D : DProg := ⟨tab.get, glob, fun _ => none⟩
theorem hP : PrimOk Tryd.prog cfg D := primOk_none fun _ => rfl

theorem hD : ∀ f df, D.fn f = some df → compF Tryd.prog cfg f = some df := fun _ _ h => tabOk.get h
theorem hm : Tryd.prog.follows .mixedOrders = true := by kernel_rfl
end Go.Proofs.YticnenofiibpgaaDoor.Code
/- The D-machine (37): symbolic runs of ranges over functions. -/
namespace Go.Dm
set_option linter.unusedSimpArgs false
set_option linter.unusedVariables false
set_option linter.unnecessarySimpa false

/-- A loop's record: of its frame some entries are known. -/
def LoopP (l nt : Nat) (es : List En) (ps : List Nat) (asg body : DC) (st : LState) (pend : Option DX) : HP where
  foot i := i = l
  ok o _ := ∃ tmps, o l = some (.loop ⟨tmps, ps, asg, body, st, pend⟩) ∧ tmps.length = nt ∧ Ag tmps [] es
  loc := fun o t o' t' h ⟨tmps, h1, h2⟩ => ⟨tmps, by rw [← (h l rfl).1]; exact h1, h2⟩
abbrev Lp (l nt : Nat) (es : List En) (ps : List Nat) (asg body : DC) (st : LState) (pend : Option DX) : Ck := .pr (LoopP l nt es ps asg body st pend)
section
variable {D : DProg}
def psE : List Nat → List DV → List En → List En
  | p :: ps, v :: vs, es => psE ps vs (⟨p, none, v⟩ :: es)
  | _, _, es => es
theorem psE_ag : ∀ {ps : List Nat} {vs tmps : List DV} {es : List En} {nt : Nat}, tmps.length = nt → ps.all (fun p => Nat.blt p nt) = true → Ag tmps [] es →
    ((ps.zip vs).foldl (fun ts (q : Nat × DV) => ts.set q.1 q.2) tmps).length = nt ∧ Ag ((ps.zip vs).foldl (fun ts (q : Nat × DV) => ts.set q.1 q.2) tmps) [] (psE ps vs es)
  | [], vs, tmps, es, nt, hl, _, ha => ⟨hl, ha⟩
  | p :: ps, [], tmps, es, nt, hl, _, ha => ⟨hl, ha⟩
  | p :: ps, v :: vs, tmps, es, nt, hl, hp, ha => by
    simp only [List.all_cons, Bool.and_eq_true] at hp
    have hlt : p < tmps.length := by rw [hl]; exact Nat.le_of_ble_eq_true hp.1
    simp only [List.zip_cons_cons, List.foldl_cons, psE]
    exact psE_ag (tmps := tmps.set p v) (by rw [List.length_set]; exact hl) hp.2 (ha.put hlt rfl)
/-- How a round's body may end. Lr: the loop's record where a round may begin, Lb: within one, Ld: behind an exit. -/
inductive YB (Lr Lb : Ck) (Ld : DX → Ck) (P : Bool → List Ck → Prop) : DX → St → List Ck → Prop where
  | normal {n2 : Nat} {es2 : List En} {ir : Option Nat} {cs cs3 : List Ck} : Upd1 Lb Lr cs cs3 → Pst (P true) cs3 → YB Lr Lb Ld P .normal ⟨n2, es2, [], ir⟩ cs
  | exit {i n2 : Nat} {es2 : List En} {ir : Option Nat} {cs cs3 : List Ck} : Upd1 Lb (Ld (.exit i)) cs cs3 → Pst (P false) cs3 → YB Lr Lb Ld P (.exit i) ⟨n2, es2, [], ir⟩ cs
  | ret {n2 : Nat} {es2 : List En} {ir : Option Nat} {cs cs3 : List Ck} : Upd1 Lb (Ld .ret) cs cs3 → Pst (P false) cs3 → YB Lr Lb Ld P .ret ⟨n2, es2, [], ir⟩ cs
variable (D) in
inductive YA (l : Nat) (Lr Lb : Ck) (Ld : DX → Ck) (body : DC) (P : Bool → List Ck → Prop) : DX → St → List Ck → Prop where
  | mk {n2 : Nat} {es1 : List En} {cs1 csb : List Ck} : Upd1 Lr Lb cs1 csb → RR D [.code body] ⟨n2, es1, [], some l⟩ csb (YB Lr Lb Ld P) → YA l Lr Lb Ld body P .normal ⟨n2, es1, [], some l⟩ cs1
theorem sat_loop {h : Heap} {cs cs' : List Ck} {l nt : Nat} {es : List En} {ps : List Nat} {asg body : DC} {st st' : LState} {pend pend' : Option DX} (hs : Sat h cs) (hu : Upd1 (Lp l nt es ps asg body st pend) (Lp l nt es ps asg body st' pend') cs cs') :
    ∃ tmps, h.objs.get l = some (.loop ⟨tmps, ps, asg, body, st, pend⟩) ∧ tmps.length = nt ∧ Ag tmps [] es ∧ Sat (h.put l (.loop ⟨tmps, ps, asg, body, st', pend'⟩)) cs' := by
  obtain ⟨tmps, h1, h2, h3⟩ := hs.get (Me.mem' hu.mem)
  exact ⟨tmps, h1, h2, h3, hs.upd hu (Nat.le_refl _) ⟨tmps, put_get h l _, h2, h3⟩ (fun i hi => by cases hi; exact (hs.ok _ hu.mem).2 _ rfl) (fun i hi => .inl hi) (fun i _ hn => put_keep h l _ (fun e => hn e))⟩
theorem Y.of {l nt : Nat} {es : List En} {ps : List Nat} {asg body : DC} {args : List DV} {cs : List Ck} {P : Bool → List Ck → Prop} (hm : Me (Lp l nt es ps asg body .ready none) cs) (hl : Nat.beq args.length ps.length = true) (hps : ps.all (fun p => Nat.blt p nt) = true)
    (hr : RR D [.code asg] ⟨nt, psE ps args es, [], some l⟩ cs (YA D l (Lp l nt es ps asg body .ready none) (Lp l nt es ps asg body .busy none) (fun x => Lp l nt es ps asg body .done (some x)) body P)) : Y D l args cs P := by
  intro h hs
  obtain ⟨tmps, h1, h2, h3⟩ := hs.get hm
  obtain ⟨q1, q2⟩ := psE_ag (vs := args) h2 hps h3
  obtain ⟨n, x, fr1, ha1, r1, st1, cs1, a1, a2, a3⟩ := hr.sound { tmps := (ps.zip args).foldl (fun ts (q : Nat × DV) => ts.set q.1 q.2) tmps, defers := [], inr := some l } h ⟨q1, q2, rfl, rfl⟩ hs
  cases a3 with
  | @mk n2 es1 _ csb hu hb =>
    obtain ⟨tmps1, b1, b2, b3, b4⟩ := sat_loop a2 hu
    obtain ⟨n3, x2, fr2, hb2, r2, st2, cs2, c1, c2, c3⟩ := hb.sound fr1 _ a1 b4
    have e1 := exec_le (Nat.le_max_left n n3) _ _ _ _ r1
    have e2 := exec_le (Nat.le_max_right n n3) _ _ _ _ r2
    have hlen := Nat.eq_of_beq_eq_true hl
    cases c3 with
    | normal hu2 hp =>
      obtain ⟨cs4, hk4, hp⟩ := hp.out
      obtain ⟨tmps2, d1, d2, d3, d4⟩ := sat_loop c2 hu2
      have hds : fr2.defers = [] := c1.ds
      refine ⟨max n n3, true, _, _, ?_, hk4 _ d4, hp⟩
      unfold yieldD
      rw [h1]; dsimp only
      rw [if_pos ⟨rfl, hlen⟩]
      simp only [e1, b1, if_true, e2, d1, hds]
    | @exit i n2 es2 ir _ cs3 hu2 hp =>
      obtain ⟨cs4, hk4, hp⟩ := hp.out
      obtain ⟨tmps2, d1, d2, d3, d4⟩ := sat_loop c2 hu2
      have hds : fr2.defers = [] := c1.ds
      refine ⟨max n n3, false, _, _, ?_, hk4 _ d4, hp⟩
      unfold yieldD
      rw [h1]; dsimp only
      rw [if_pos ⟨rfl, hlen⟩]
      simp only [e1, b1, if_true, e2, d1, hds]
    | ret hu2 hp =>
      obtain ⟨cs4, hk4, hp⟩ := hp.out
      obtain ⟨tmps2, d1, d2, d3, d4⟩ := sat_loop c2 hu2
      have hds : fr2.defers = [] := c1.ds
      refine ⟨max n n3, false, _, _, ?_, hk4 _ d4, hp⟩
      unfold yieldD
      rw [h1]; dsimp only
      rw [if_pos ⟨rfl, hlen⟩]
      simp only [e1, b1, if_true, e2, d1, hds]
/-- How a range over a function goes on. -/
inductive RG (Lr : Ck) (Ld : DX → Ck) (K : DX → List Ck → Prop) : DV → List Ck → Prop where
  | ready {v : DV} {cs cs2 : List Ck} : Rem Lr cs cs2 → K .normal cs2 → RG Lr Ld K v cs
  | done {v : DV} {x : DX} {cs cs2 : List Ck} : Rem (Ld x) cs cs2 → K x cs2 → RG Lr Ld K v cs
theorem RG.ok {l nt : Nat} {es : List En} {ps : List Nat} {asg body : DC} {K : DX → List Ck → Prop} {v : DV} {cs : List Ck} {h : Heap} (hs : Sat h cs) (hr : RG (Lp l nt es ps asg body .ready none) (fun x => Lp l nt es ps asg body .done (some x)) K v cs) :
    ∃ r cs2 x, h.objs.get l = some (.loop r) ∧ r.st ≠ .busy ∧ (r.pend = none ∧ x = .normal ∨ r.pend = some x) ∧ Sat (h.put l (.loop { r with st := .over })) cs2 ∧ K x cs2 := by
  cases hr with
  | @ready _ cs2 hm hk =>
    obtain ⟨tmps, h1, h2, h3⟩ := hs.get (Me.mem' hm.mem)
    exact ⟨_, cs2, .normal, h1, by simp, .inl ⟨rfl, rfl⟩, hm.keep hs (Nat.le_refl _) fun i _ hn => put_keep h l _ (fun e => hn e), hk⟩
  | @done x _ cs2 hm hk =>
    obtain ⟨tmps, h1, h2, h3⟩ := hs.get (Me.mem' hm.mem)
    exact ⟨_, cs2, x, h1, by simp, .inr rfl, hm.keep hs (Nat.le_refl _) fun i _ hn => put_keep h l _ (fun e => hn e), hk⟩
def xIt : DX → List It → List It
  | .normal, k => k
  | .exit i, k => .code (.exit i) :: k
  | .ret, k => .code .ret :: k
theorem xIt_wp {x : DX} {k : List It} {fr : Fr} {h : Heap} {Q : DX → Fr → Heap → Prop} (hw : WpK D (xIt x k) .normal fr h Q) : WpK D k x fr h Q := by
  cases x with
  | normal => exact hw
  | exit i =>
    obtain ⟨n, x2, fr2, h2, q1, q2⟩ := hw
    cases n with
    | zero => cases q1
    | succ n => simp only [exec, stepD, Option.some.injEq, Prod.mk.injEq] at q1; obtain ⟨rfl, rfl, rfl⟩ := q1; exact q2
  | ret =>
    obtain ⟨n, x2, fr2, h2, q1, q2⟩ := hw
    cases n with
    | zero => cases q1
    | succ n => simp only [exec, stepD, Option.some.injEq, Prod.mk.injEq] at q1; obtain ⟨rfl, rfl, rfl⟩ := q1; exact q2
theorem sat_newloop {h : Heap} {cs : List Ck} {fr : Fr} {st : St} (hs : Sat h cs) (ha : AgS fr st) (ps : List Nat) (asg body : DC) : Sat (h.add (.loop ⟨fr.tmps, ps, asg, body, .ready, none⟩)) (Lp h.next st.nt st.es ps asg body .ready none :: cs) :=
  hs.add (Nat.le_succ _) ⟨fr.tmps, add_get h _, ha.len, ha.es⟩ (fun i hi => by cases hi; exact Nat.lt_succ_self _) (fun i hi => by cases hi; exact Nat.le_refl _) (fun i hi => add_keep h _ hi)
/-- A range over a function, in no other one. -/
theorem RS.rangeN {f : Opd} {ps : List Nat} {asg body : DC} {k : List It} {nt : Nat} {es : List En} {ds : List DDef} {cs : List Ck} {Q : DX → St → List Ck → Prop} {g : Nat} {first caps : List DV} (h1 : lo D es [] f = some (.fn (.func g) first caps))
    (hF : ∀ m l, 2 ≤ m → 2 ≤ l → F D g (first ++ [.fn (.yield l) [] []] ++ caps) (Lp l nt es ps asg body .ready none :: .obj m .mark :: cs) (RG (Lp l nt es ps asg body .ready none) (fun x => Lp l nt es ps asg body .done (some x)) fun x cs2 => RR D (xIt x k) ⟨nt, es, .mark m :: ds, none⟩ cs2 Q)) :
    RS D (.code (.range f ps asg body) :: k) ⟨nt, es, ds, none⟩ cs Q := by
  intro fr h ha hs
  have e1 := lo_ok (D := D) ha.es Tags.nil h1
  have hir : fr.inr = none := ha.ir
  have hs1 := hs.addO .mark
  have hs2 := sat_newloop hs1 ha ps asg body
  obtain ⟨v, h2, cs', r1, r2, r3⟩ := hF h.next (h.add .mark).next hs.two hs1.two _ hs2
  obtain ⟨r, cs2, x, q1, q2, q3, q4, q5⟩ := r3.ok r2
  obtain ⟨n, hn⟩ := r1.mono
  have ha' : AgS { fr with defers := .mark h.next :: fr.defers } ⟨nt, es, .mark h.next :: ds, none⟩ := ⟨ha.len, ha.es, by rw [show fr.defers = ds from ha.ds], ha.ir⟩
  refine ⟨n + 1, x, { fr with defers := .mark h.next :: fr.defers }, h2.put (h.add .mark).next (.loop { r with st := .over }), ?_, xIt_wp (q5.sound _ _ ha' q4)⟩
  show rangeD D (exec D n) f ps asg body fr h = _
  unfold rangeD
  rw [e1]; dsimp only
  unfold startD
  rw [hir]; dsimp only
  rw [hn n (Nat.le_refl _)]; dsimp only
  rw [q1]; dsimp only
  rw [if_neg q2]
  rcases q3 with ⟨q3, rfl⟩ | q3 <;> rw [q3]
/-- Of a loop's record that is taken az a whole. -/
structure Loopy (D : DProg) (l nt : Nat) (es : List En) (ps : List Nat) (asg body : DC) (Lr Lb : Ck) (Ld : DX → Ck) : Prop where
  y : ∀ {args : List DV} {cs : List Ck} {P : Bool → List Ck → Prop}, Me Lr cs → Nat.beq args.length ps.length = true → RR D [.code asg] ⟨nt, psE ps args es, [], some l⟩ cs (YA D l Lr Lb Ld body P) → Y D l args cs P
  loop : ∀ {h : Heap} {cs : List Ck}, Me Lb cs → Sat h cs → ∃ r, h.objs.get l = some (.loop r)
theorem loopy {l nt : Nat} {es : List En} {ps : List Nat} {asg body : DC} (hps : ps.all (fun p => Nat.blt p nt) = true) : Loopy D l nt es ps asg body (Lp l nt es ps asg body .ready none) (Lp l nt es ps asg body .busy none) (fun x => Lp l nt es ps asg body .done (some x)) :=
  ⟨fun hm hl hr => Y.of hm hl hps hr, fun hm hs => let ⟨_, h1, _, _⟩ := hs.get hm; ⟨_, h1⟩⟩
theorem RS.rangeO {f : Opd} {ps : List Nat} {asg body : DC} {k : List It} {nt : Nat} {es : List En} {ds : List DDef} {cs : List Ck} {Q : DX → St → List Ck → Prop} {g : Nat} {first caps : List DV} (h1 : lo D es [] f = some (.fn (.func g) first caps)) (hps : ps.all (fun p => Nat.blt p nt) = true)
    (hF : ∀ m l Lr Lb Ld, Loopy D l nt es ps asg body Lr Lb Ld → F D g (first ++ [.fn (.yield l) [] []] ++ caps) (Lr :: .obj m .mark :: cs) (RG Lr Ld fun x cs2 => RR D (xIt x k) ⟨nt, es, .mark m :: ds, none⟩ cs2 Q)) :
    RS D (.code (.range f ps asg body) :: k) ⟨nt, es, ds, none⟩ cs Q :=
  RS.rangeN h1 fun m l _ _ => hF m l _ _ _ (loopy hps)
end
end Go.Dm
/- The D-machine (38): bits; small words for symbolic runs. -/
namespace Go.Dm
set_option linter.unusedSimpArgs false
set_option linter.unusedVariables false
set_option linter.unnecessarySimpa false
set_option maxRecDepth 10000
attribute [local irreducible] Go.Dm.F Go.Dm.RS Go.Dm.Y Go.Dm.FD Go.Dm.FZ1 Go.Dm.Hold
theorem or_192 : ∀ x, x < 64 → 192 ||| x = 192 + x := by decide
theorem or_128 : ∀ x, x < 128 → 128 ||| x = 128 + x := by decide
theorem or_224 : ∀ x, x < 32 → 224 ||| x = 224 + x := by decide
theorem or_240 : ∀ x, x < 16 → 240 ||| x = 240 + x := by decide
theorem wrap_u8 (n : Int) : IntKind.u8.wrap n = n % 256 := rfl
theorem or_shl (a x i : Nat) (h : x < 2 ^ i) : (a * 2 ^ i) ||| x = a * 2 ^ i + x := by
  have := Nat.shiftLeft_add_eq_or_of_lt h a
  rw [Nat.shiftLeft_eq] at this
  exact this.symm
theorem and_63 (x : Nat) : x &&& 63 = x % 64 := Nat.and_two_pow_sub_one_eq_mod x 6
/-- The laws of truth values, in one. -/
theorem BB : (∀ a b : Bool, ((a || b) = true) = (a = true ∨ b = true)) ∧ (∀ a b : Bool, ((a && b) = true) = (a = true ∧ b = true)) ∧ (∀ b : Bool, ((!b) = true) = (b = false)) ∧ (∀ b : Bool, ((!b) = false) = (b = true)) ∧
    (∀ x y : Bool, (x || y) = false ↔ x = false ∧ y = false) ∧ (∀ x y : Bool, (x && y) = false ↔ x = true → y = false) ∧
    (∀ (p : Prop) [Decidable p], (decide p = true) = p) ∧ (∀ (p : Prop) [Decidable p], decide p = false ↔ ¬p) ∧
    (∀ (α : Type) [BEq α] [LawfulBEq α] (a b : α), (a == b) = true ↔ a = b) ∧ (∀ (α : Type) [BEq α] [LawfulBEq α] (a b : α), (a == b) = false ↔ a ≠ b) ∧
    (∀ (α : Type) [BEq α] [LawfulBEq α] (a b : α), (a != b) = true ↔ a ≠ b) ∧ (∀ (α : Type) [BEq α] [LawfulBEq α] (a b : α), (a != b) = false ↔ a = b) ∧
    (∀ (α : Type) (a b : α), (a ≠ b) = ¬a = b) ∧ (∀ c, eqB c true = c) ∧ (∀ c, eqB c false = !c) ∧ Int.toNat 0 = 0 ∧ (∀ n : Nat, (n : Int).toNat = n) ∧
    (∀ (α : Type) (x : α) (xs : List α) (d : α), (x :: xs).getD 0 d = x) ∧ (∀ (α : Type) (x : α) (xs : List α) (n : Nat) (d : α), (x :: xs).getD (n + 1) d = xs.getD n d) ∧
    ((false = true) = False) ∧ (∀ p : Prop, (p ∧ False) = False) ∧ (∀ p : Prop, (False ∧ p) = False) ∧ (∀ p : Prop, (True ∧ p) = p) ∧ (∀ p : Prop, (p ∧ True) = p) ∧
    (∀ p : Prop, (True → p) = p) ∧ (∀ p : Prop, (p → True) = True) ∧ (∀ p : Prop, (False → p) = True) ∧ ((¬True) = False) ∧ ((¬False) = True) := by
  refine ⟨?_, ?_, ?_, ?_, ?_, ?_, ?_, ?_, ?_, ?_, ?_, ?_, ?_, ?_, ?_, ?_, ?_, ?_, ?_, ?_, ?_, ?_, ?_, ?_, ?_, ?_, ?_, ?_, ?_⟩ <;> intros <;> first | rfl | simp
/-- Arithmetic shows it. -/
theorem arI {p : Prop} (h : p := by ((try (intro hc; (try simp only [BB] at hc))); first | done | omega | (simp only [List.length_cons, List.length_map, List.length_append, List.length_nil, List.length_take, List.length_drop, Go.Dm.bytesV, Go.Dm.wid, Go.Dm.top, List.getD_cons_zero, Int.toNat_zero, Int.toNat_natCast, Int.reduceToNat, Int.reducePow, Nat.reducePow, Go.Dm.wrap_u8]; omega) | (simp only [BB]; first | done | omega | assumption))) : Arith p := .mk h
/-- It is found by the rules alone. -/
theorem kk {p : Prop} (h : p := by (repeat' constructor); first | done | fail) : p := h
end Go.Dm
/- What the text, chars, token and lex layers compute, az plain functions (no program in sight). -/
namespace Go.Md
set_option linter.unusedVariables false

/-! ### text -/
def blank (r : Int) : Bool := r == 9 || r == 10 || r == 12 || r == 13 || r == 32
def letter (r : Int) : Bool := (decide (r ≥ 97) && decide (r ≤ 122)) || (decide (r ≥ 65) && decide (r ≤ 90))
def digit (r : Int) : Bool := decide (r ≥ 48) && decide (r ≤ 57)
def hex (r : Int) : Int := if 48 ≤ r ∧ r ≤ 57 then r - 48 else if 97 ≤ r ∧ r ≤ 102 then r - 87 else if 65 ≤ r ∧ r ≤ 70 then r - 55 else -1
def small (r : Int) : Int := if 65 ≤ r ∧ r ≤ 90 then r + 32 else r
def need (b : Nat) : Nat × Nat × Nat :=
  if 0xc2 ≤ b ∧ b ≤ 0xdf then (1, 0x80, 0xbf)
  else if b = 0xe0 then (2, 0xa0, 0xbf)
  else if b = 0xed then (2, 0x80, 0x9f)
  else if 0xe1 ≤ b ∧ b ≤ 0xef then (2, 0x80, 0xbf)
  else if b = 0xf0 then (3, 0x90, 0xbf)
  else if 0xf1 ≤ b ∧ b ≤ 0xf3 then (3, 0x80, 0xbf)
  else if b = 0xf4 then (3, 0x80, 0x8f)
  else (0, 0, 0)
/-- The bytes that follow a first one: 'k' are wanted, the first of them from lo to hi. -/
def oneGo : Nat → List UInt8 → Nat → Int → Nat → Nat → Int × Nat
  | 0, _, i, r, _, _ => (r, i)
  | _ + 1, [], i, _, _, _ => (65533, i)
  | k + 1, c :: rest, i, r, lo, hi => if c.toNat < lo ∨ hi < c.toNat then (65533, i) else oneGo k rest (i + 1) (r * 64 + (c.toNat % 64 : Nat)) 0x80 0xbf
def one : List UInt8 → Int × Nat
  | [] => (0, 0)
  | b :: rest => if b.toNat < 0x80 then (b.toNat, 1) else
    let n := (need b.toNat).1
    if n = 0 then (65533, 1) else oneGo n rest 1 (b.toNat % (64 / 2 ^ n) : Nat) (need b.toNat).2.1 (need b.toNat).2.2
/-- The signs that bytes are; 'fuel' bytes at most. -/
def signs : Nat → List UInt8 → List Int
  | 0, _ => []
  | _ + 1, [] => []
  | f + 1, b => (one b).1 :: signs f (b.drop (one b).2)
/-- Ends of lines az one sign. -/
def lines : Int → List Int → List Int
  | _, [] => []
  | last, r :: rs => if r = 13 then 10 :: lines r rs else if r = 10 ∧ last = 13 then lines r rs else r :: lines r rs
def unmark (b : List UInt8) : List UInt8 := match b with
  | 0xef :: 0xbb :: 0xbf :: r => r
  | _ => b
def decode (b : List UInt8) : List Int := lines 0 (signs (unmark b).length (unmark b))
def byteN (n : Nat) : UInt8 := UInt8.ofNat n
/-- A sign az bytes. -/
def putR (r : Int) : List UInt8 :=
  let n := if r < 0 ∨ r > 0x10ffff ∨ (r ≥ 0xd800 ∧ r ≤ 0xdfff) then 0xfffd else r.toNat
  if n < 0x80 then [byteN n]
  else if n < 0x800 then [byteN (0xc0 + n / 64), byteN (0x80 + n % 64)]
  else if n < 0x10000 then [byteN (0xe0 + n / 4096), byteN (0x80 + n / 64 % 64), byteN (0x80 + n % 64)]
  else [byteN (0xf0 + n / 262144), byteN (0x80 + n / 4096 % 64), byteN (0x80 + n / 64 % 64), byteN (0x80 + n % 64)]
def encode (rs : List Int) : List UInt8 := rs.flatMap putR

/-! ### chars -/
structure Entry where
  name : List UInt8
  sign : Int
  bare : Bool
  deriving Inhabited
/-- All names. -/
def table : List Entry := [
  ⟨[97, 109, 112], 38, true⟩,
  ⟨[108, 116], 60, true⟩,
  ⟨[103, 116], 62, true⟩,
  ⟨[113, 117, 111, 116], 34, true⟩,
  ⟨[65, 77, 80], 38, true⟩,
  ⟨[76, 84], 60, true⟩,
  ⟨[71, 84], 62, true⟩,
  ⟨[110, 98, 115, 112], 160, true⟩,
  ⟨[105, 101, 120, 99, 108], 161, true⟩,
  ⟨[99, 101, 110, 116], 162, true⟩,
  ⟨[112, 111, 117, 110, 100], 163, true⟩,
  ⟨[121, 101, 110], 165, true⟩,
  ⟨[115, 101, 99, 116], 167, true⟩,
  ⟨[99, 111, 112, 121], 169, true⟩,
  ⟨[108, 97, 113, 117, 111], 171, true⟩,
  ⟨[110, 111, 116], 172, true⟩,
  ⟨[115, 104, 121], 173, true⟩,
  ⟨[114, 101, 103], 174, true⟩,
  ⟨[100, 101, 103], 176, true⟩,
  ⟨[112, 108, 117, 115, 109, 110], 177, true⟩,
  ⟨[115, 117, 112, 50], 178, true⟩,
  ⟨[109, 105, 99, 114, 111], 181, true⟩,
  ⟨[112, 97, 114, 97], 182, true⟩,
  ⟨[109, 105, 100, 100, 111, 116], 183, true⟩,
  ⟨[114, 97, 113, 117, 111], 187, true⟩,
  ⟨[102, 114, 97, 99, 49, 50], 189, true⟩,
  ⟨[105, 113, 117, 101, 115, 116], 191, true⟩,
  ⟨[65, 117, 109, 108], 196, true⟩,
  ⟨[69, 97, 99, 117, 116, 101], 201, true⟩,
  ⟨[79, 117, 109, 108], 214, true⟩,
  ⟨[116, 105, 109, 101, 115], 215, true⟩,
  ⟨[85, 117, 109, 108], 220, true⟩,
  ⟨[115, 122, 108, 105, 103], 223, true⟩,
  ⟨[97, 103, 114, 97, 118, 101], 224, true⟩,
  ⟨[97, 117, 109, 108], 228, true⟩,
  ⟨[99, 99, 101, 100, 105, 108], 231, true⟩,
  ⟨[101, 97, 99, 117, 116, 101], 233, true⟩,
  ⟨[110, 116, 105, 108, 100, 101], 241, true⟩,
  ⟨[111, 117, 109, 108], 246, true⟩,
  ⟨[100, 105, 118, 105, 100, 101], 247, true⟩,
  ⟨[117, 117, 109, 108], 252, true⟩,
  ⟨[97, 112, 111, 115], 39, false⟩,
  ⟨[104, 101, 108, 108, 105, 112], 8230, false⟩,
  ⟨[109, 100, 97, 115, 104], 8212, false⟩,
  ⟨[110, 100, 97, 115, 104], 8211, false⟩,
  ⟨[101, 117, 114, 111], 8364, false⟩,
  ⟨[116, 114, 97, 100, 101], 8482, false⟩,
  ⟨[108, 97, 114, 114], 8592, false⟩,
  ⟨[114, 97, 114, 114], 8594, false⟩,
  ⟨[110, 111, 116, 105, 110], 8713, false⟩,
  ⟨[97, 108, 112, 104, 97], 945, false⟩,
  ⟨[111, 109, 101, 103, 97], 969, false⟩,
  ⟨[105, 110, 102, 105, 110], 8734, false⟩,
  ⟨[98, 117, 108, 108], 8226, false⟩,
  ⟨[108, 115, 113, 117, 111], 8216, false⟩,
  ⟨[114, 115, 113, 117, 111], 8217, false⟩,
  ⟨[108, 100, 113, 117, 111], 8220, false⟩,
  ⟨[114, 100, 113, 117, 111], 8221, false⟩,
  ⟨[110, 101], 8800, false⟩,
  ⟨[108, 101], 8804, false⟩,
  ⟨[110, 118, 108, 116], 60, false⟩]
def windows : List Int := [8364, 129, 8218, 402, 8222, 8230, 8224, 8225, 710, 8240, 352, 8249, 338, 141, 381, 143, 144, 8216, 8217, 8220, 8221, 8226, 8211, 8212, 732, 8482, 353, 8250, 339, 157, 382, 376]
def numeric (n : Int) : Int := if n ≤ 0 ∨ n > 1114111 ∨ (n ≥ 55296 ∧ n ≤ 57343) then 65533 else if n ≥ 128 ∧ n < 160 then windows.getD (n - 128).toNat 0 else n
/-- Digits in front: the number, at most 0x110000, and how many they are. -/
def number (base : Int) : List Int → Int → Nat → Int × Nat
  | [], n, k => (n, k)
  | r :: rs, n, k => if hex r < 0 ∨ hex r ≥ base then (n, k) else number base rs (min (n * base + hex r) 0x110000) (k + 1)
/-- A round of the look for the longest name. -/
def matchStep (runeBytes : List Int → List UInt8) (rs : List Int) (a : Int × Nat × Bool) (i : Nat) (e : Entry) : Int × Nat × Bool :=
  if e.name.length > rs.length ∨ runeBytes (rs.take e.name.length) ≠ e.name then a else
  let n := e.name.length
  let fin := decide (n < rs.length) && rs.getD n 0 == 59
  let n' := if fin then n + 1 else n
  if (fin || e.bare) && decide (n' > a.2.1) then (i, n', fin) else a
def matchAll (rb : List Int → List UInt8) (rs : List Int) : Int × Nat × Bool := (table.zipIdx).foldl (fun a p => matchStep rb rs a p.2 p.1) (-1, 0, false)
/-- The longest name with which signs begin: what it means, how many it takes, whether its end is there. -/
def matchT (rb : List Int → List UInt8) (rs : List Int) : List Int × Nat × Bool :=
  let a := matchAll rb rs
  if a.1 < 0 then ([], 0, false) else
  let e := table.getD a.1.toNat default
  (if e.name = [110, 118, 108, 116] then [e.sign, 8402] else [e.sign], a.2.1, a.2.2)
end Go.Md
/- What the text layer's functions do. -/
namespace Go.Proofs.YticnenofiibpgaaDoor.Code
open Go.Dm Go.Dm.C
set_option linter.unusedSimpArgs false
set_option linter.unusedVariables false
set_option linter.unnecessarySimpa false
set_option maxRecDepth 10000
attribute [local irreducible] Go.Dm.F Go.Dm.RS Go.Dm.Y Go.Dm.FD Go.Dm.FZ1 Go.Dm.Hold
variable {R : List Ck}
theorem blank_F {r : Int} : F D 109 [.int .i32 r] R (fun v cs' => v = .bool (Md.blank r) ∧ R = cs') := by
  refine F.of rfl rfl rfl ?_
  repeat' first | exact arI | refine Pst.mk ⟨?_, rfl⟩ kk | constructor | (refine fun _ _ (hq : Hold _) => ?_; replace hq := hq.out; obtain ⟨_, rfl, rfl⟩ := hq) | (refine fun _ _ (hq : Hold _) => ?_; replace hq := hq.out; obtain ⟨_, _, rfl, rfl⟩ := hq) | rintro _ _ ⟨rfl, rfl⟩ | rintro _ _ ⟨_, rfl, rfl⟩ | rintro _ _ ⟨_, _, rfl, rfl⟩ | (refine fun (hc : _ = _) => ?_; (try simp only [BB] at hc)) | refine fun (_ : Nat) => ?_ | refine fun (_ : _ ≤ _) => ?_ | refine fun (_ : _ < _) => ?_
theorem digit_F {r : Int} : F D 19 [.int .i32 r] R (fun v cs' => v = .bool (Md.digit r) ∧ R = cs') := by
  refine F.of rfl rfl rfl ?_
  repeat' first | exact arI | refine Pst.mk ⟨?_, rfl⟩ kk | constructor | (refine fun _ _ (hq : Hold _) => ?_; replace hq := hq.out; obtain ⟨_, rfl, rfl⟩ := hq) | (refine fun _ _ (hq : Hold _) => ?_; replace hq := hq.out; obtain ⟨_, _, rfl, rfl⟩ := hq) | rintro _ _ ⟨rfl, rfl⟩ | rintro _ _ ⟨_, rfl, rfl⟩ | rintro _ _ ⟨_, _, rfl, rfl⟩ | (refine fun (hc : _ = _) => ?_; (try simp only [BB] at hc)) | refine fun (_ : Nat) => ?_ | refine fun (_ : _ ≤ _) => ?_ | refine fun (_ : _ < _) => ?_
theorem letter_F {r : Int} : F D 18 [.int .i32 r] R (fun v cs' => v = .bool (Md.letter r) ∧ R = cs') := by
  refine F.of rfl rfl rfl ?_
  repeat' first | exact arI | refine Pst.mk ⟨?_, rfl⟩ kk | constructor | (refine fun _ _ (hq : Hold _) => ?_; replace hq := hq.out; obtain ⟨_, rfl, rfl⟩ := hq) | (refine fun _ _ (hq : Hold _) => ?_; replace hq := hq.out; obtain ⟨_, _, rfl, rfl⟩ := hq) | rintro _ _ ⟨rfl, rfl⟩ | rintro _ _ ⟨_, rfl, rfl⟩ | rintro _ _ ⟨_, _, rfl, rfl⟩ | (refine fun (hc : _ = _) => ?_; (try simp only [BB] at hc)) | refine fun (_ : Nat) => ?_ | refine fun (_ : _ ≤ _) => ?_ | refine fun (_ : _ < _) => ?_
theorem small_F {r : Int} : F D 108 [.int .i32 r] R (fun v cs' => v = .int .i32 (Md.small r) ∧ R = cs') := by
  refine F.of rfl rfl rfl ?_
  repeat' first | exact arI | refine Pst.mk ⟨?_, rfl⟩ kk | constructor | (refine fun _ _ (hq : Hold _) => ?_; replace hq := hq.out; obtain ⟨_, rfl, rfl⟩ := hq) | (refine fun _ _ (hq : Hold _) => ?_; replace hq := hq.out; obtain ⟨_, _, rfl, rfl⟩ := hq) | rintro _ _ ⟨rfl, rfl⟩ | rintro _ _ ⟨_, rfl, rfl⟩ | rintro _ _ ⟨_, _, rfl, rfl⟩ | (refine fun (hc : _ = _) => ?_; (try simp only [BB] at hc)) | refine fun (_ : Nat) => ?_ | refine fun (_ : _ ≤ _) => ?_ | refine fun (_ : _ < _) => ?_
  all_goals (congr 1; unfold Md.small; split <;> omega)
theorem digit_t {r : Int} : (Md.digit r = true) = (48 ≤ r ∧ r ≤ 57) := by simp [Md.digit]
theorem digit_f {r : Int} : (Md.digit r = false) = ¬(48 ≤ r ∧ r ≤ 57) := by simp [Md.digit]
theorem hex_F {r : Int} : F D 100 [.int .i32 r] R (fun v cs' => v = .int .i64 (Md.hex r) ∧ R = cs') := by
  refine F.of rfl rfl rfl ?_
  repeat' first | exact digit_F | exact arI | refine Pst.mk ⟨?_, rfl⟩ kk | constructor | (refine fun _ _ (hq : Hold _) => ?_; replace hq := hq.out; obtain ⟨_, rfl, rfl⟩ := hq) | (refine fun _ _ (hq : Hold _) => ?_; replace hq := hq.out; obtain ⟨_, _, rfl, rfl⟩ := hq) | rintro _ _ ⟨rfl, rfl⟩ | rintro _ _ ⟨_, rfl, rfl⟩ | rintro _ _ ⟨_, _, rfl, rfl⟩ | (refine fun (hc : _ = _) => ?_; (try simp only [BB] at hc)) | refine fun (_ : Nat) => ?_ | refine fun (_ : _ ≤ _) => ?_ | refine fun (_ : _ < _) => ?_
  all_goals (simp only [digit_t, digit_f] at *)
  all_goals first | (refine Arith.mk fun _ => ?_; omega) | (congr 1; unfold Md.hex; split <;> omega)

theorem need_F {c : UInt8} : F D 86 [.int .u8 (c.toNat : Int)] R (fun v cs' => v = .tup [.int .i64 ((Md.need c.toNat).1 : Nat), .int .u8 ((Md.need c.toNat).2.1 : Nat), .int .u8 ((Md.need c.toNat).2.2 : Nat)] ∧ R = cs') := by
  refine F.of rfl rfl rfl ?_
  repeat' first | exact arI | refine Pst.mk ⟨?_, rfl⟩ kk | constructor | (refine fun _ _ (hq : Hold _) => ?_; replace hq := hq.out; obtain ⟨_, rfl, rfl⟩ := hq) | (refine fun _ _ (hq : Hold _) => ?_; replace hq := hq.out; obtain ⟨_, _, rfl, rfl⟩ := hq) | rintro _ _ ⟨rfl, rfl⟩ | rintro _ _ ⟨_, rfl, rfl⟩ | rintro _ _ ⟨_, _, rfl, rfl⟩ | (refine fun (hc : _ = _) => ?_; (try simp only [BB] at hc)) | refine fun (_ : Nat) => ?_ | refine fun (_ : _ ≤ _) => ?_ | refine fun (_ : _ < _) => ?_
  all_goals ((unfold Md.need; repeat' split) <;> first | omega | rfl)
theorem need_le (n : Nat) : (Md.need n).1 ≤ 3 ∧ (Md.need n).2.1 < 256 ∧ (Md.need n).2.2 < 256 ∧ ((Md.need n).1 ≠ 0 → n ≥ 194 ∧ n ≤ 244) := by
  unfold Md.need; repeat' split
  all_goals simp
  all_goals omega
theorem and_pow (x n : Nat) (h : n ≤ 3) : x &&& ((63 : Int) / 2 ^ n).toNat = x % (64 / 2 ^ n) := by
  rcases (by omega : n = 0 ∨ n = 1 ∨ n = 2 ∨ n = 3) with rfl | rfl | rfl | rfl
  · exact Nat.and_two_pow_sub_one_eq_mod x 6
  · exact Nat.and_two_pow_sub_one_eq_mod x 5
  · exact Nat.and_two_pow_sub_one_eq_mod x 4
  · exact Nat.and_two_pow_sub_one_eq_mod x 3
theorem or_next (r : Int) (c : Nat) (h0 : 0 ≤ r) : (((r * 2 ^ (6 : Int).toNat).toNat ||| (((c : Int).toNat &&& (63 : Int).toNat : Nat) : Int).toNat : Nat) : Int) = r * 64 + (c % 64 : Nat) := by
  obtain ⟨a, rfl⟩ := Int.eq_ofNat_of_zero_le h0
  have e1 : ((a : Int) * 2 ^ (6 : Int).toNat).toNat = a * 2 ^ 6 := by simp; omega
  have e2 : (((c : Int).toNat &&& (63 : Int).toNat : Nat) : Int).toNat = c % 64 := by simp only [Int.toNat_natCast]; exact and_63 c
  rw [e1, e2, or_shl a (c % 64) 6 (Nat.mod_lt _ (by omega))]
  simp
theorem oneGo_stop {k : Nat} {l : List UInt8} {i : Nat} {r : Int} {lo hi : Nat} (hk : 1 ≤ k) (hs : l.length = 0 ∨ (l.getD 0 default).toNat < lo ∨ hi < (l.getD 0 default).toNat) : Md.oneGo k l i r lo hi = (65533, i) := by
  cases k with
  | zero => omega
  | succ k =>
    cases l with
    | nil => rfl
    | cons c l =>
      simp only [List.length_cons, List.getD_cons_zero] at hs
      simp only [Md.oneGo]
      rw [if_pos (by omega)]
theorem oneGo_go {k : Nat} {l : List UInt8} {i : Nat} {r : Int} {lo hi : Nat} (hk : 1 ≤ k) (h0 : l.length ≠ 0) (h1 : lo ≤ (l.getD 0 default).toNat) (h2 : (l.getD 0 default).toNat ≤ hi) :
    Md.oneGo k l i r lo hi = Md.oneGo (k - 1) (l.drop 1) (i + 1) (r * 64 + ((l.getD 0 default).toNat % 64 : Nat)) 128 191 := by
  cases k with
  | zero => omega
  | succ k =>
    cases l with
    | nil => simp at h0
    | cons c l =>
      simp only [List.getD_cons_zero] at h1 h2 ⊢
      simp only [Md.oneGo]
      rw [if_neg (by omega)]
      rfl
theorem getD_drop {α : Type} (l : List α) (j : Nat) (d : α) : (l.drop j).getD 0 d = l.getD j d := by
  simp [List.getD_eq_getElem?_getD]
theorem pow64 : ∀ i, i ≤ 3 → (64 : Int) ^ i ≤ 262144 := by decide
theorem one_F {b : UInt8} {rest : List UInt8} {t z : Nat} (hz : z = zOf t 1) (hl : rest.length < 1000000000000) : F D 67 [.lst t z (bytesV (b :: rest))] R (fun v cs' => v = .tup [.int .i32 (Md.one (b :: rest)).1, .int .i64 ((Md.one (b :: rest)).2 : Nat)] ∧ R = cs') := by
  subst hz
  have hb := b.toNat_lt
  have hnl := need_le b.toNat
  have hp3 : ∀ n, n ≤ 3 → (0 : Int) ≤ 63 / 2 ^ n ∧ (63 : Int) / 2 ^ n ≤ 2147483647 := by decide
  have hp := hp3 _ hnl.1
  refine F.of rfl rfl rfl ?_
  repeat' first | exact need_F | exact arI | refine Pst.mk ⟨?_, rfl⟩ kk | constructor | (refine fun _ _ (hq : Hold _) => ?_; replace hq := hq.out; obtain ⟨_, rfl, rfl⟩ := hq) | (refine fun _ _ (hq : Hold _) => ?_; replace hq := hq.out; obtain ⟨_, _, rfl, rfl⟩ := hq) | rintro _ _ ⟨rfl, rfl⟩ | rintro _ _ ⟨_, rfl, rfl⟩ | rintro _ _ ⟨_, _, rfl, rfl⟩ | (refine fun (hc : _ = _) => ?_; (try simp only [BB] at hc)) | refine fun (_ : Nat) => ?_ | refine fun (_ : _ ≤ _) => ?_ | refine fun (_ : _ < _) => ?_
  · simp [Md.one, show b.toNat < 128 by omega]
  · simp [Md.one, show ¬ b.toNat < 128 by omega, show (Md.need b.toNat).1 = 0 by omega]
  · have hn0 : (Md.need b.toNat).1 ≠ 0 := by omega
    have hone : Md.one (b :: rest) = Md.oneGo (Md.need b.toNat).1 rest 1 (b.toNat % (64 / 2 ^ (Md.need b.toNat).1) : Nat) (Md.need b.toNat).2.1 (Md.need b.toNat).2.2 := by
      simp [Md.one, show ¬ b.toNat < 128 by omega, hn0]
    refine RS.loopW (α := Nat × Int × Nat × Nat) (fun a => [(0, .lst t (zOf t 1) (bytesV (b :: rest))), (4, .int .i64 ((Md.need b.toNat).1 : Nat)), (5, .int .u8 (a.2.2.1 : Nat)), (6, .int .u8 (a.2.2.2 : Nat)), (7, .int .i32 a.2.1), (8, .int .i64 (a.1 : Nat))])
      (fun _ => R) (fun a => 1 ≤ a.1 ∧ a.1 ≤ (Md.need b.toNat).1 + 1 ∧ 0 ≤ a.2.1 ∧ a.2.1 < 64 ^ a.1 ∧ Md.oneGo ((Md.need b.toNat).1 + 1 - a.1) (rest.drop (a.1 - 1)) a.1 a.2.1 a.2.2.1 a.2.2.2 = Md.one (b :: rest)) (fun a => (Md.need b.toNat).1 + 1 - a.1) (1, (b.toNat % (64 / 2 ^ (Md.need b.toNat).1) : Nat), (Md.need b.toNat).2.1, (Md.need b.toNat).2.2) ?_ ?_ .refl ?_
    · rw [hone]
      have h64 : b.toNat % (64 / 2 ^ (Md.need b.toNat).1) < 64 := Nat.lt_of_lt_of_le (Nat.mod_lt _ (Nat.div_pos (Nat.le_trans (Nat.pow_le_pow_right (by omega) hnl.1) (by omega)) (Nat.pow_pos (by omega)))) (Nat.div_le_self _ _)
      refine ⟨?_, ?_, ?_, ?_, ?_⟩ <;> dsimp only
      · omega
      · omega
      · exact Int.natCast_nonneg _
      · exact Int.ofNat_lt.2 h64
      · simp
    · rw [← and_pow _ _ hnl.1]; exact ⟨rfl, rfl, rfl, rfl, rfl, rfl, trivial⟩
    · rintro ⟨i, r, lo, hi⟩ ⟨h1, h2, h3, h4, h5⟩ ih
      dsimp only [ents] at *
      have hx : ((b :: rest).getD i default).toNat < 256 := UInt8.toNat_lt _
      have hand : ((b :: rest).getD i default).toNat &&& 63 ≤ 63 := Nat.and_le_right
      have hr : i ≤ 3 → r < 262144 := fun h => Int.lt_of_lt_of_le h4 (pow64 i h)
      have hg : (b :: rest).getD i default = (rest.drop (i - 1)).getD 0 default := by
        rw [getD_drop]; cases i with
        | zero => omega
        | succ i => simp
      have hld : (rest.drop (i - 1)).length = rest.length - (i - 1) := List.length_drop
      repeat' first | exact arI | refine Pst.mk ⟨?_, rfl⟩ kk | constructor | (refine fun _ _ (hq : Hold _) => ?_; replace hq := hq.out; obtain ⟨_, rfl, rfl⟩ := hq) | (refine fun _ _ (hq : Hold _) => ?_; replace hq := hq.out; obtain ⟨_, _, rfl, rfl⟩ := hq) | rintro _ _ ⟨rfl, rfl⟩ | rintro _ _ ⟨_, rfl, rfl⟩ | rintro _ _ ⟨_, _, rfl, rfl⟩ | (refine fun (hc : _ = _) => ?_; (try simp only [BB] at hc)) | refine fun (_ : Nat) => ?_ | refine fun (_ : _ ≤ _) => ?_ | refine fun (_ : _ < _) => ?_
      · simp only [Int.toNat_natCast, hg, List.length_cons] at hc
        rw [oneGo_stop (by omega) (by omega)] at h5
        rw [← h5]
      · simp only [Int.toNat_natCast, hg, List.length_cons] at hc
        rw [oneGo_go (by omega) (by omega) (by omega) (by omega)] at h5
        refine ih _ _ (i + 1, r * 64 + (((b :: rest).getD i default).toNat % 64 : Nat), 128, 191) ?_ (by dsimp only; omega) ?_ .refl
        · refine ⟨by dsimp only; omega, by dsimp only; omega, by dsimp only; omega, ?_, ?_⟩
          · dsimp only
            rw [Int.pow_succ]; omega
          · dsimp only
            rw [← h5, hg, List.drop_drop]
            congr 1 <;> congr 1 <;> omega
        · refine ⟨rfl, rfl, rfl, rfl, ?_, rfl, trivial⟩
          dsimp only
          rw [← or_next _ _ h3]
          rfl
      · have : (Md.need b.toNat).1 + 1 - i = 0 := by omega
        rw [this] at h5
        simp only [Md.oneGo] at h5
        rw [← h5, show i = (Md.need b.toNat).1 + 1 by omega]
        simp
end Go.Proofs.YticnenofiibpgaaDoor.Code
/- What the text layer's functions do (2): signs out of bytes, bytes out of signs. -/
namespace Go.Proofs.YticnenofiibpgaaDoor.Code
open Go.Dm Go.Dm.C
set_option linter.unusedSimpArgs false
set_option linter.unusedVariables false
set_option linter.unnecessarySimpa false
set_option maxRecDepth 10000
attribute [local irreducible] Go.Dm.F Go.Dm.RS Go.Dm.Y Go.Dm.FD Go.Dm.FZ1 Go.Dm.Hold
variable {R : List Ck}
theorem oneGo_pos : ∀ (k : Nat) (l : List UInt8) (i : Nat) (r : Int) (lo hi : Nat), i ≤ (Md.oneGo k l i r lo hi).2 ∧ (Md.oneGo k l i r lo hi).2 ≤ i + l.length
  | 0, l, i, r, lo, hi => by simp [Md.oneGo]
  | k + 1, [], i, r, lo, hi => by simp [Md.oneGo]
  | k + 1, c :: l, i, r, lo, hi => by
    simp only [Md.oneGo]
    split
    · simp
    · have := oneGo_pos k l (i + 1) (r * 64 + (c.toNat % 64 : Nat)) 0x80 0xbf
      simp only [List.length_cons]; omega
theorem one_pos {b : List UInt8} (h : b ≠ []) : 1 ≤ (Md.one b).2 ∧ (Md.one b).2 ≤ b.length := by
  cases b with
  | nil => exact absurd rfl h
  | cons c l =>
    simp only [Md.one]
    split
    · simp
    · split
      · simp
      · have := oneGo_pos (Md.need c.toNat).1 l 1 (c.toNat % (64 / 2 ^ (Md.need c.toNat).1) : Nat) (Md.need c.toNat).2.1 (Md.need c.toNat).2.2
        simp only [List.length_cons]; omega
theorem one_F' {b : List UInt8} {t z : Nat} (hb : b ≠ []) (hz : z = zOf t 1) (hl : b.length < 1000000000000) : F D 67 [.lst t z (bytesV b)] R (fun v cs' => v = .tup [.int .i32 (Md.one b).1, .int .i64 ((Md.one b).2 : Nat)] ∧ R = cs') := by
  cases b with
  | nil => exact absurd rfl hb
  | cons c l => exact one_F hz (by simp at hl; omega)
/-- The signs of bytes, gone through. -/
theorem signs_it {l q t z : Nat} {b : List UInt8} (hz : z = zOf t 1) (hl : b.length < 1000000000000) (I : Nat → List Ck → Prop) (E : List Ck → Prop)
    (hy : ∀ i cs, i < b.length → I i cs → Y D l [.int .i64 i, .int .i32 (Md.one (b.drop i)).1] (.obj q (.cells [.lst t z (bytesV b)] none) :: cs) (fun c cs' => Hold (∃ cs1, .obj q (.cells [.lst t z (bytesV b)] none) :: cs1 = cs' ∧ ((c = true ∧ I (i + (Md.one (b.drop i)).2) cs1) ∨ (c = false ∧ E cs1)))))
    {cs : List Ck} (h0 : I 0 cs) :
    F D 66 [.fn (.yield l) [] [], .ptr q 0] (.obj q (.cells [.lst t z (bytesV b)] none) :: cs) (fun v cs' => Hold (∃ cs1, .obj q (.cells [.lst t z (bytesV b)] none) :: cs1 = cs' ∧ (I b.length cs1 ∨ E cs1))) := by
  subst hz
  refine F.of rfl rfl rfl ?_
  repeat' first | exact arI | refine Pst.mk ⟨?_, rfl⟩ kk | constructor | (refine fun _ _ (hq : Hold _) => ?_; replace hq := hq.out; obtain ⟨_, rfl, rfl⟩ := hq) | (refine fun _ _ (hq : Hold _) => ?_; replace hq := hq.out; obtain ⟨_, _, rfl, rfl⟩ := hq) | rintro _ _ ⟨rfl, rfl⟩ | rintro _ _ ⟨_, rfl, rfl⟩ | rintro _ _ ⟨_, _, rfl, rfl⟩ | (refine fun (hc : _ = _) => ?_; (try simp only [BB] at hc)) | refine fun (_ : Nat) => ?_ | refine fun (_ : _ ≤ _) => ?_ | refine fun (_ : _ < _) => ?_
  refine RS.loopW (α := Nat × List Ck) (fun a => [(0, .fn (.yield l) [] []), (1, .ptr q 0), (3, .int .i64 (a.1 : Nat))]) (fun a => .obj q (.cells [.lst t (zOf t 1) (bytesV b)] none) :: a.2)
    (fun a => a.1 ≤ b.length ∧ I a.1 a.2) (fun a => b.length - a.1) (0, cs) ⟨Nat.zero_le _, h0⟩ ⟨rfl, rfl, rfl, trivial⟩ .refl ?_
  rintro ⟨i, cs0⟩ ⟨h1, h2⟩ ih
  dsimp only [ents] at *
  have hp : i < b.length → 1 ≤ (Md.one (b.drop i)).2 ∧ (Md.one (b.drop i)).2 ≤ b.length - i := fun h => by
    have := one_pos (b := b.drop i) (by simp; omega)
    rwa [List.length_drop] at this
  repeat' first | exact one_F' (by simp; omega) rfl (by simp; omega) | exact FC.yield (hy i _ (by omega) h2) | (refine fun _ _ (hq : YPost _ _ _) => ?_; obtain ⟨hq⟩ := hq; replace hq := hq.out; obtain ⟨cs1, rfl, hq⟩ := hq) | exact arI | refine Pst.mk ⟨?_, rfl⟩ kk | constructor | (refine fun _ _ (hq : Hold _) => ?_; replace hq := hq.out; obtain ⟨_, rfl, rfl⟩ := hq) | (refine fun _ _ (hq : Hold _) => ?_; replace hq := hq.out; obtain ⟨_, _, rfl, rfl⟩ := hq) | rintro _ _ ⟨rfl, rfl⟩ | rintro _ _ ⟨_, rfl, rfl⟩ | rintro _ _ ⟨_, _, rfl, rfl⟩ | (refine fun (hc : _ = _) => ?_; (try simp only [BB] at hc)) | refine fun (_ : Nat) => ?_ | refine fun (_ : _ ≤ _) => ?_ | refine fun (_ : _ < _) => ?_
  all_goals first
    | (have hq' := hq.resolve_right (fun h => by rw [h.1] at hc; cases hc)
       exact ih _ _ (i + (Md.one (b.drop i)).2, cs1) ⟨by dsimp only; omega, hq'.2⟩ (by dsimp only; omega) ⟨rfl, rfl, rfl, trivial⟩ .refl)
    | (have hq' := hq.resolve_left (fun h => by rw [h.1] at hc; cases hc)
       exact Pst.mk (.mk ⟨cs1, rfl, .inr hq'.2⟩) .refl)
    | (obtain rfl : i = b.length := by omega
       exact Pst.mk (.mk ⟨cs0, rfl, .inl h2⟩) .refl)
theorem signs_F {t z : Nat} {b : List UInt8} : F D 54 [.lst t z (bytesV b)] R (fun v cs' => Hold (∃ q, v = .fn (.func 66) [] [.ptr q 0] ∧ .obj q (.cells [.lst t z (bytesV b)] none) :: R = cs')) := by
  refine F.of rfl rfl rfl ?_
  repeat' first | exact arI | refine Pst.mk ⟨?_, rfl⟩ kk | constructor | (refine fun _ _ (hq : Hold _) => ?_; replace hq := hq.out; obtain ⟨_, rfl, rfl⟩ := hq) | (refine fun _ _ (hq : Hold _) => ?_; replace hq := hq.out; obtain ⟨_, _, rfl, rfl⟩ := hq) | rintro _ _ ⟨rfl, rfl⟩ | rintro _ _ ⟨_, rfl, rfl⟩ | rintro _ _ ⟨_, _, rfl, rfl⟩ | (refine fun (hc : _ = _) => ?_; (try simp only [BB] at hc)) | refine fun (_ : Nat) => ?_ | refine fun (_ : _ ≤ _) => ?_ | refine fun (_ : _ < _) => ?_
  exact Pst.mk (.mk ⟨_, rfl, rfl⟩) kk
theorem signs_fuel : ∀ (n f g : Nat) (b : List UInt8), b.length ≤ n → b.length ≤ f → b.length ≤ g → Md.signs f b = Md.signs g b := by
  intro n
  induction n with
  | zero => intro f g b h _ _; have : b = [] := List.eq_nil_of_length_eq_zero (by omega); subst this; cases f <;> cases g <;> rfl
  | succ n ih =>
    intro f g b h hf hg
    cases b with
    | nil => cases f <;> cases g <;> rfl
    | cons c l =>
      have hp := one_pos (b := c :: l) (by simp)
      simp only [List.length_cons] at h hf hg
      obtain ⟨f, rfl⟩ : ∃ f', f = f' + 1 := ⟨f - 1, by omega⟩
      obtain ⟨g, rfl⟩ : ∃ g', g = g' + 1 := ⟨g - 1, by omega⟩
      simp only [Md.signs]
      congr 1
      have hm : ((c :: l).drop (Md.one (c :: l)).2).length ≤ l.length := by simp; omega
      exact ih f g _ (by omega) (by omega) (by omega)
theorem signs_cons {b : List UInt8} (h : b ≠ []) : Md.signs b.length b = (Md.one b).1 :: Md.signs (b.drop (Md.one b).2).length (b.drop (Md.one b).2) := by
  cases b with
  | nil => exact absurd rfl h
  | cons c l =>
    have hp := one_pos (b := c :: l) (by simp)
    simp only [List.length_cons, Md.signs]
    congr 1
    have hm : ((c :: l).drop (Md.one (c :: l)).2).length ≤ l.length := by simp; omega
    exact signs_fuel l.length _ _ _ hm hm (Nat.le_refl _)
theorem lines_len : ∀ (l : List Int) (last : Int), (Md.lines last l).length ≤ l.length
  | [], _ => by simp [Md.lines]
  | r :: rs, last => by
    have h1 := lines_len rs r
    simp only [Md.lines]
    split
    · simp only [List.length_cons]; omega
    · split
      · simp only [List.length_cons]; omega
      · simp only [List.length_cons]; omega
theorem unmark_drop {b : List UInt8} (h : (3 ≤ b.length ∧ (b.getD 0 default).toNat = 239) ∧ (b.getD 1 default).toNat = 187 ∧ (b.getD 2 default).toNat = 191) : Md.unmark b = b.drop 3 := by
  rcases b with _ | ⟨x, _ | ⟨y, _ | ⟨z, r⟩⟩⟩
  · simp at h
  · simp at h
  · simp at h
  · simp only [List.getD_cons_zero, List.getD_cons_succ] at h
    obtain rfl : x = 0xef := UInt8.toNat_inj.1 h.1.2
    obtain rfl : y = 0xbb := UInt8.toNat_inj.1 h.2.1
    obtain rfl : z = 0xbf := UInt8.toNat_inj.1 h.2.2
    rfl
theorem unmark_same {b : List UInt8} (h : ¬((3 ≤ b.length ∧ (b.getD 0 default).toNat = 239) ∧ (b.getD 1 default).toNat = 187 ∧ (b.getD 2 default).toNat = 191)) : Md.unmark b = b := by
  unfold Md.unmark
  split
  · exact absurd ⟨⟨by simp, rfl⟩, rfl, rfl⟩ h
  · rfl
theorem decode_F {t z : Nat} {b : List UInt8} (hz : z = zOf t 1) (hl : b.length < 1000000000000) : F D 39 [.lst t z (bytesV b)] R (fun v cs' => Hold (∃ t', v = .lst t' (zOf t' 1) ((Md.decode b).map I32) ∧ .own t' 1 ((Md.decode b).map I32) :: R = cs')) := by
  subst hz
  refine F.of rfl rfl rfl ?_
  repeat' first | exact signs_F | exact arI | refine Pst.mk ⟨?_, rfl⟩ kk | constructor | (refine fun _ _ (hq : Hold _) => ?_; replace hq := hq.out; obtain ⟨_, rfl, rfl⟩ := hq) | (refine fun _ _ (hq : Hold _) => ?_; replace hq := hq.out; obtain ⟨_, _, rfl, rfl⟩ := hq) | rintro _ _ ⟨rfl, rfl⟩ | rintro _ _ ⟨_, rfl, rfl⟩ | rintro _ _ ⟨_, _, rfl, rfl⟩ | (refine fun (hc : _ = _) => ?_; (try simp only [BB] at hc)) | refine fun (_ : Nat) => ?_ | refine fun (_ : _ ≤ _) => ?_ | refine fun (_ : _ < _) => ?_
  · rename_i qo _ ql _ q
    have hd : Md.lines 0 (Md.signs (b.drop (Int.toNat 3)).length (b.drop (Int.toNat 3))) = Md.decode b := by
      unfold Md.decode
      rw [unmark_drop (b := b) (by simp only [Int.reduceToNat] at hc; omega)]
      rfl
    generalize Md.decode b = dec at *
    have hl' : (b.drop (Int.toNat 3)).length < 1000000000000 := by simp; omega
    clear hc
    generalize b.drop (Int.toNat 3) = X at *
    refine RS.nilOwn 1 (RS.rangeO rfl rfl fun m l Lr Lb Ld hL => ?_)
    refine F.perm (List.perm_middle (l₁ := [_, _, _])) (F.mono (signs_it (l := l) rfl hl'
      (fun i cs => ∃ t' last acc, Lr :: .obj m .mark :: .own t' 1 (acc.map I32) :: .obj ql (.cells [.int .i32 last] none) :: .obj qo (.cells [.lst t' (zOf t' 1) (acc.map I32)] none) :: R = cs ∧ acc.length ≤ i ∧ acc ++ Md.lines last (Md.signs (X.drop i).length (X.drop i)) = dec) (fun _ => False) ?_ ⟨0, 0, [], rfl, by simp, by simpa using hd⟩) ?_)
    · rintro i _ hi ⟨t', last, acc, rfl, ha, hdec⟩
      refine hL.y (.tail .head) rfl ?_
      have hne : X.drop i ≠ [] := by simp; omega
      have hp := one_pos hne
      rw [signs_cons hne, List.drop_drop] at hdec
      repeat' first | exact arI | refine Pst.mk ⟨?_, rfl⟩ kk | constructor | (refine fun _ _ (hq : Hold _) => ?_; replace hq := hq.out; obtain ⟨_, rfl, rfl⟩ := hq) | (refine fun _ _ (hq : Hold _) => ?_; replace hq := hq.out; obtain ⟨_, _, rfl, rfl⟩ := hq) | rintro _ _ ⟨rfl, rfl⟩ | rintro _ _ ⟨_, rfl, rfl⟩ | rintro _ _ ⟨_, _, rfl, rfl⟩ | (refine fun (hc : _ = _) => ?_; (try simp only [BB] at hc)) | refine fun (_ : Nat) => ?_ | refine fun (_ : _ ≤ _) => ?_ | refine fun (_ : _ < _) => ?_
      · refine Pst.mk (.mk ⟨_, rfl, .inl ⟨rfl, _, _, acc ++ [10], rfl, by simp; omega, ?_⟩⟩) kk
        rw [← hdec]; simp [Md.lines, hc]
      · refine Pst.mk (.mk ⟨_, rfl, .inl ⟨rfl, _, _, acc, rfl, by omega, ?_⟩⟩) kk
        rw [← hdec]; simp [Md.lines, hc]
      · refine Pst.mk (.mk ⟨_, rfl, .inl ⟨rfl, _, _, acc ++ [_], rfl, by simp; omega, ?_⟩⟩) kk
        rw [← hdec]; simp only [Md.lines]
        rw [if_neg (by omega), if_neg (by omega)]; simp
    · intro v cs' hv
      obtain ⟨cs1, rfl, ⟨t', last, acc, rfl, ha, hdec⟩ | hf⟩ := hv.out
      · have hd2 : acc = dec := by rw [← hdec, List.drop_eq_nil_of_le (Nat.le_refl _)]; simp [Md.signs, Md.lines]
        subst hd2
        refine .ready (.tail .head) ?_
        repeat' first | exact arI | refine Pst.mk ⟨?_, rfl⟩ kk | constructor | (refine fun _ _ (hq : Hold _) => ?_; replace hq := hq.out; obtain ⟨_, rfl, rfl⟩ := hq) | (refine fun _ _ (hq : Hold _) => ?_; replace hq := hq.out; obtain ⟨_, _, rfl, rfl⟩ := hq) | rintro _ _ ⟨rfl, rfl⟩ | rintro _ _ ⟨_, rfl, rfl⟩ | rintro _ _ ⟨_, _, rfl, rfl⟩ | (refine fun (hc : _ = _) => ?_; (try simp only [BB] at hc)) | refine fun (_ : Nat) => ?_ | refine fun (_ : _ ≤ _) => ?_ | refine fun (_ : _ < _) => ?_
        exact Pst.mk (.mk ⟨_, rfl, rfl⟩) kk
      · exact hf.elim
  · rename_i qo _ ql _ q
    have hd : Md.lines 0 (Md.signs b.length b) = Md.decode b := by
      unfold Md.decode
      rw [unmark_same (b := b) (by simp only [Int.reduceToNat] at hc; omega)]
    have hl' := hl
    generalize Md.decode b = dec at *
    obtain ⟨X, hX⟩ : ∃ X, X = b := ⟨b, rfl⟩
    subst hX
    refine RS.nilOwn 1 (RS.rangeO rfl rfl fun m l Lr Lb Ld hL => ?_)
    refine F.perm (List.perm_middle (l₁ := [_, _, _])) (F.mono (signs_it (l := l) rfl hl'
      (fun i cs => ∃ t' last acc, Lr :: .obj m .mark :: .own t' 1 (acc.map I32) :: .obj ql (.cells [.int .i32 last] none) :: .obj qo (.cells [.lst t' (zOf t' 1) (acc.map I32)] none) :: R = cs ∧ acc.length ≤ i ∧ acc ++ Md.lines last (Md.signs (X.drop i).length (X.drop i)) = dec) (fun _ => False) ?_ ⟨0, 0, [], rfl, by simp, by simpa using hd⟩) ?_)
    · rintro i _ hi ⟨t', last, acc, rfl, ha, hdec⟩
      refine hL.y (.tail .head) rfl ?_
      have hne : X.drop i ≠ [] := by simp; omega
      have hp := one_pos hne
      rw [signs_cons hne, List.drop_drop] at hdec
      repeat' first | exact arI | refine Pst.mk ⟨?_, rfl⟩ kk | constructor | (refine fun _ _ (hq : Hold _) => ?_; replace hq := hq.out; obtain ⟨_, rfl, rfl⟩ := hq) | (refine fun _ _ (hq : Hold _) => ?_; replace hq := hq.out; obtain ⟨_, _, rfl, rfl⟩ := hq) | rintro _ _ ⟨rfl, rfl⟩ | rintro _ _ ⟨_, rfl, rfl⟩ | rintro _ _ ⟨_, _, rfl, rfl⟩ | (refine fun (hc : _ = _) => ?_; (try simp only [BB] at hc)) | refine fun (_ : Nat) => ?_ | refine fun (_ : _ ≤ _) => ?_ | refine fun (_ : _ < _) => ?_
      · refine Pst.mk (.mk ⟨_, rfl, .inl ⟨rfl, _, _, acc ++ [10], rfl, by simp; omega, ?_⟩⟩) kk
        rw [← hdec]; simp [Md.lines, hc]
      · refine Pst.mk (.mk ⟨_, rfl, .inl ⟨rfl, _, _, acc, rfl, by omega, ?_⟩⟩) kk
        rw [← hdec]; simp [Md.lines, hc]
      · refine Pst.mk (.mk ⟨_, rfl, .inl ⟨rfl, _, _, acc ++ [_], rfl, by simp; omega, ?_⟩⟩) kk
        rw [← hdec]; simp only [Md.lines]
        rw [if_neg (by omega), if_neg (by omega)]; simp
    · intro v cs' hv
      obtain ⟨cs1, rfl, ⟨t', last, acc, rfl, ha, hdec⟩ | hf⟩ := hv.out
      · have hd2 : acc = dec := by rw [← hdec, List.drop_eq_nil_of_le (Nat.le_refl _)]; simp [Md.signs, Md.lines]
        subst hd2
        refine .ready (.tail .head) ?_
        repeat' first | exact arI | refine Pst.mk ⟨?_, rfl⟩ kk | constructor | (refine fun _ _ (hq : Hold _) => ?_; replace hq := hq.out; obtain ⟨_, rfl, rfl⟩ := hq) | (refine fun _ _ (hq : Hold _) => ?_; replace hq := hq.out; obtain ⟨_, _, rfl, rfl⟩ := hq) | rintro _ _ ⟨rfl, rfl⟩ | rintro _ _ ⟨_, rfl, rfl⟩ | rintro _ _ ⟨_, _, rfl, rfl⟩ | (refine fun (hc : _ = _) => ?_; (try simp only [BB] at hc)) | refine fun (_ : Nat) => ?_ | refine fun (_ : _ ≤ _) => ?_ | refine fun (_ : _ < _) => ?_
        exact Pst.mk (.mk ⟨_, rfl, rfl⟩) kk
      · exact hf.elim
theorem c128 (x : Nat) : Int.toNat 128 ||| (IntKind.u8.wrap ((x &&& Int.toNat 63 : Nat) : Int)).toNat = 128 + x % 64 := by
  have h1 : x &&& Int.toNat 63 = x % 64 := and_63 x
  have h2 := Nat.mod_lt x (show 0 < 64 by omega)
  rw [h1, wrap_u8, show (((x % 64 : Nat) : Int) % 256).toNat = x % 64 by omega]
  exact or_128 _ (by omega)
theorem c192 {x : Int} (h : 0 ≤ x ∧ x < 64) : Int.toNat 192 ||| (IntKind.u8.wrap x).toNat = 192 + x.toNat := by
  rw [wrap_u8, show (x % 256).toNat = x.toNat by omega]
  exact or_192 _ (by omega)
theorem c224 {x : Int} (h : 0 ≤ x ∧ x < 32) : Int.toNat 224 ||| (IntKind.u8.wrap x).toNat = 224 + x.toNat := by
  rw [wrap_u8, show (x % 256).toNat = x.toNat by omega]
  exact or_224 _ (by omega)
theorem c240 {x : Int} (h : 0 ≤ x ∧ x < 16) : Int.toNat 240 ||| (IntKind.u8.wrap x).toNat = 240 + x.toNat := by
  rw [wrap_u8, show (x % 256).toNat = x.toNat by omega]
  exact or_240 _ (by omega)
theorem putR_nat {n : Nat} (h : n ≤ 1114111 ∧ ¬(55296 ≤ n ∧ n ≤ 57343)) : Md.putR (n : Int) =
    if n < 0x80 then [Md.byteN n]
    else if n < 0x800 then [Md.byteN (0xc0 + n / 64), Md.byteN (0x80 + n % 64)]
    else if n < 0x10000 then [Md.byteN (0xe0 + n / 4096), Md.byteN (0x80 + n / 64 % 64), Md.byteN (0x80 + n % 64)]
    else [Md.byteN (0xf0 + n / 262144), Md.byteN (0x80 + n / 4096 % 64), Md.byteN (0x80 + n / 64 % 64), Md.byteN (0x80 + n % 64)] := by
  unfold Md.putR
  have e1 : (if (n : Int) < 0 ∨ (n : Int) > 0x10ffff ∨ ((n : Int) ≥ 0xd800 ∧ (n : Int) ≤ 0xdfff) then 0xfffd else (n : Int).toNat) = n := by rw [if_neg (by omega)]; omega
  rw [e1]
theorem putPst {b l : List UInt8} {r : Int} {x : Nat} {cs : List Ck} (h : Md.putR r = l) (hk : KK cs (.own x 1 (bytesV (b ++ l)) :: R)) : Pst (fun cs' => Hold (∃ t', DV.lst x (zOf x 1) (bytesV (b ++ l)) = .lst t' (zOf t' 1) (bytesV (b ++ Md.putR r)) ∧ .own t' 1 (bytesV (b ++ Md.putR r)) :: R = cs')) cs := by
  subst h; exact Pst.mk (.mk ⟨_, rfl, rfl⟩) hk
theorem put_ok {t z : Nat} {b : List UInt8} {r : Int} (hz : z = zOf t 1) (hl : b.length < 1000000000000) (h0 : 0 ≤ r ∧ r ≤ 1114111 ∧ ¬(55296 ≤ r ∧ r ≤ 57343)) : F D 38 [.lst t z (bytesV b), .int .i32 r] (.own t 1 (bytesV b) :: R) (fun v cs' => Hold (∃ t', v = .lst t' (zOf t' 1) (bytesV (b ++ Md.putR r)) ∧ .own t' 1 (bytesV (b ++ Md.putR r)) :: R = cs')) := by
  subst hz
  obtain ⟨n, rfl⟩ := Int.eq_ofNat_of_zero_le h0.1
  refine F.of rfl rfl rfl ?_
  repeat' first | exact absurd hc (by omega) | (refine Arith.mk ?_; rw [c128]; omega) | (refine Arith.mk ?_; rw [c192 (by simp only [List.length_cons, List.length_map, List.length_append, List.length_nil, List.length_take, List.length_drop, Go.Dm.bytesV, Go.Dm.wid, Go.Dm.top, List.getD_cons_zero, Int.toNat_zero, Int.toNat_natCast, Int.reduceToNat, Int.reducePow, Nat.reducePow, Go.Dm.wrap_u8]; omega)]; simp only [List.length_cons, List.length_map, List.length_append, List.length_nil, List.length_take, List.length_drop, Go.Dm.bytesV, Go.Dm.wid, Go.Dm.top, List.getD_cons_zero, Int.toNat_zero, Int.toNat_natCast, Int.reduceToNat, Int.reducePow, Nat.reducePow, Go.Dm.wrap_u8]; omega) | (refine Arith.mk ?_; rw [c224 (by simp only [List.length_cons, List.length_map, List.length_append, List.length_nil, List.length_take, List.length_drop, Go.Dm.bytesV, Go.Dm.wid, Go.Dm.top, List.getD_cons_zero, Int.toNat_zero, Int.toNat_natCast, Int.reduceToNat, Int.reducePow, Nat.reducePow, Go.Dm.wrap_u8]; omega)]; simp only [List.length_cons, List.length_map, List.length_append, List.length_nil, List.length_take, List.length_drop, Go.Dm.bytesV, Go.Dm.wid, Go.Dm.top, List.getD_cons_zero, Int.toNat_zero, Int.toNat_natCast, Int.reduceToNat, Int.reducePow, Nat.reducePow, Go.Dm.wrap_u8]; omega) | (refine Arith.mk ?_; rw [c240 (by simp only [List.length_cons, List.length_map, List.length_append, List.length_nil, List.length_take, List.length_drop, Go.Dm.bytesV, Go.Dm.wid, Go.Dm.top, List.getD_cons_zero, Int.toNat_zero, Int.toNat_natCast, Int.reduceToNat, Int.reducePow, Nat.reducePow, Go.Dm.wrap_u8]; omega)]; simp only [List.length_cons, List.length_map, List.length_append, List.length_nil, List.length_take, List.length_drop, Go.Dm.bytesV, Go.Dm.wid, Go.Dm.top, List.getD_cons_zero, Int.toNat_zero, Int.toNat_natCast, Int.reduceToNat, Int.reducePow, Nat.reducePow, Go.Dm.wrap_u8]; omega) | exact arI | refine Pst.mk ⟨?_, rfl⟩ kk | constructor | (refine fun _ _ (hq : Hold _) => ?_; replace hq := hq.out; obtain ⟨_, rfl, rfl⟩ := hq) | (refine fun _ _ (hq : Hold _) => ?_; replace hq := hq.out; obtain ⟨_, _, rfl, rfl⟩ := hq) | rintro _ _ ⟨rfl, rfl⟩ | rintro _ _ ⟨_, rfl, rfl⟩ | rintro _ _ ⟨_, _, rfl, rfl⟩ | (refine fun (hc : _ = _) => ?_; (try simp only [BB] at hc)) | refine fun (_ : Nat) => ?_ | refine fun (_ : _ ≤ _) => ?_ | refine fun (_ : _ < _) => ?_
  all_goals refine putPst ?_ (.drop .refl)
  all_goals rw [putR_nat (by omega)]
  all_goals (try simp only [Int.toNat_natCast])
  · rw [if_pos (by omega), wrap_u8, show ((n : Int) % 256).toNat = n by omega]; rfl
  · rw [if_neg (by omega), if_pos (by omega), c128, c192 (by simp only [List.length_cons, List.length_map, List.length_append, List.length_nil, List.length_take, List.length_drop, Go.Dm.bytesV, Go.Dm.wid, Go.Dm.top, List.getD_cons_zero, Int.toNat_zero, Int.toNat_natCast, Int.reduceToNat, Int.reducePow, Nat.reducePow, Go.Dm.wrap_u8]; omega)]
    simp only [Md.byteN, List.length_cons, List.length_map, List.length_append, List.length_nil, List.length_take, List.length_drop, Go.Dm.bytesV, Go.Dm.wid, Go.Dm.top, List.getD_cons_zero, Int.toNat_zero, Int.toNat_natCast, Int.reduceToNat, Int.reducePow, Nat.reducePow, Go.Dm.wrap_u8]
    rw [show ((n : Int) / 64).toNat = n / 64 by omega]
  · rw [if_neg (by omega), if_neg (by omega), if_pos (by omega), c128, c128, c224 (by simp only [List.length_cons, List.length_map, List.length_append, List.length_nil, List.length_take, List.length_drop, Go.Dm.bytesV, Go.Dm.wid, Go.Dm.top, List.getD_cons_zero, Int.toNat_zero, Int.toNat_natCast, Int.reduceToNat, Int.reducePow, Nat.reducePow, Go.Dm.wrap_u8]; omega)]
    simp only [Md.byteN, List.length_cons, List.length_map, List.length_append, List.length_nil, List.length_take, List.length_drop, Go.Dm.bytesV, Go.Dm.wid, Go.Dm.top, List.getD_cons_zero, Int.toNat_zero, Int.toNat_natCast, Int.reduceToNat, Int.reducePow, Nat.reducePow, Go.Dm.wrap_u8]
    rw [show ((n : Int) / 64).toNat = n / 64 by omega, show ((n : Int) / 4096).toNat = n / 4096 by omega]
  · rw [if_neg (by omega), if_neg (by omega), if_neg (by omega), c128, c128, c128, c240 (by simp only [List.length_cons, List.length_map, List.length_append, List.length_nil, List.length_take, List.length_drop, Go.Dm.bytesV, Go.Dm.wid, Go.Dm.top, List.getD_cons_zero, Int.toNat_zero, Int.toNat_natCast, Int.reduceToNat, Int.reducePow, Nat.reducePow, Go.Dm.wrap_u8]; omega)]
    simp only [Md.byteN, List.length_cons, List.length_map, List.length_append, List.length_nil, List.length_take, List.length_drop, Go.Dm.bytesV, Go.Dm.wid, Go.Dm.top, List.getD_cons_zero, Int.toNat_zero, Int.toNat_natCast, Int.reduceToNat, Int.reducePow, Nat.reducePow, Go.Dm.wrap_u8]
    rw [show ((n : Int) / 64).toNat = n / 64 by omega, show ((n : Int) / 4096).toNat = n / 4096 by omega, show ((n : Int) / 262144).toNat = n / 262144 by omega]
theorem put_F {t z : Nat} {b : List UInt8} {r : Int} (hz : z = zOf t 1) (hl : b.length < 1000000000000) : F D 38 [.lst t z (bytesV b), .int .i32 r] (.own t 1 (bytesV b) :: R) (fun v cs' => Hold (∃ t', v = .lst t' (zOf t' 1) (bytesV (b ++ Md.putR r)) ∧ .own t' 1 (bytesV (b ++ Md.putR r)) :: R = cs')) := by
  by_cases h0 : 0 ≤ r ∧ r ≤ 1114111 ∧ ¬(55296 ≤ r ∧ r ≤ 57343)
  · exact put_ok hz hl h0
  · have e : Md.putR r = Md.putR 65533 := by
      unfold Md.putR
      have e1 : (if r < 0 ∨ r > 0x10ffff ∨ (r ≥ 0xd800 ∧ r ≤ 0xdfff) then 0xfffd else r.toNat) = 0xfffd := if_pos (by omega)
      rw [e1]; rfl
    rw [e]
    subst hz
    refine F.of rfl rfl rfl ?_
    repeat' first | exact put_ok rfl hl (by omega) | exact absurd hc (by omega) | exact arI | refine Pst.mk ⟨?_, rfl⟩ kk | constructor | (refine fun _ _ (hq : Hold _) => ?_; replace hq := hq.out; obtain ⟨_, rfl, rfl⟩ := hq) | (refine fun _ _ (hq : Hold _) => ?_; replace hq := hq.out; obtain ⟨_, _, rfl, rfl⟩ := hq) | rintro _ _ ⟨rfl, rfl⟩ | rintro _ _ ⟨_, rfl, rfl⟩ | rintro _ _ ⟨_, _, rfl, rfl⟩ | (refine fun (hc : _ = _) => ?_; (try simp only [BB] at hc)) | refine fun (_ : Nat) => ?_ | refine fun (_ : _ ≤ _) => ?_ | refine fun (_ : _ < _) => ?_
    all_goals exact Pst.mk (.mk ⟨_, rfl, rfl⟩) .refl
theorem putR_len (r : Int) : (Md.putR r).length ≤ 4 := by
  unfold Md.putR
  dsimp only
  split <;> (repeat' split) <;> simp
theorem encode_F {t z : Nat} {rs : List Int} (hz : z = zOf t 1) (hl : rs.length < 100000000000) : F D 17 [.lst t z (rs.map I32)] R (fun v cs' => Hold (∃ t', v = .lst t' (zOf t' 1) (bytesV (Md.encode rs)) ∧ .own t' 1 (bytesV (Md.encode rs)) :: R = cs')) := by
  subst hz
  refine F.of rfl rfl rfl ?_
  repeat' first | exact arI | refine Pst.mk ⟨?_, rfl⟩ kk | constructor | (refine fun _ _ (hq : Hold _) => ?_; replace hq := hq.out; obtain ⟨_, rfl, rfl⟩ := hq) | (refine fun _ _ (hq : Hold _) => ?_; replace hq := hq.out; obtain ⟨_, _, rfl, rfl⟩ := hq) | rintro _ _ ⟨rfl, rfl⟩ | rintro _ _ ⟨_, rfl, rfl⟩ | rintro _ _ ⟨_, _, rfl, rfl⟩ | (refine fun (hc : _ = _) => ?_; (try simp only [BB] at hc)) | refine fun (_ : Nat) => ?_ | refine fun (_ : _ ≤ _) => ?_ | refine fun (_ : _ < _) => ?_
  refine RS.nilOwn 1 (RS.loopW (α := Nat × Nat × List UInt8) (fun a => [(6, .lst t (zOf t 1) (rs.map I32)), (7, .int .i64 rs.length), (8, .int .i64 (a.1 : Nat)), (3, .lst a.2.1 (zOf a.2.1 1) (bytesV a.2.2))]) (fun a => .own a.2.1 1 (bytesV a.2.2) :: R)
    (fun a => a.1 ≤ rs.length ∧ a.2.2.length ≤ 4 * a.1 ∧ a.2.2 ++ Md.encode (rs.drop a.1) = Md.encode rs) (fun a => rs.length - a.1) (0, 0, []) ⟨by simp, by simp, by simp⟩ ⟨rfl, rfl, rfl, rfl, trivial⟩ .refl ?_)
  rintro ⟨i, t', acc⟩ ⟨h1, h2, h3⟩ ih
  dsimp only [ents] at *
  repeat' first | exact put_F rfl (by omega) | exact arI | refine Pst.mk ⟨?_, rfl⟩ kk | constructor | (refine fun _ _ (hq : Hold _) => ?_; replace hq := hq.out; obtain ⟨_, rfl, rfl⟩ := hq) | (refine fun _ _ (hq : Hold _) => ?_; replace hq := hq.out; obtain ⟨_, _, rfl, rfl⟩ := hq) | rintro _ _ ⟨rfl, rfl⟩ | rintro _ _ ⟨_, rfl, rfl⟩ | rintro _ _ ⟨_, _, rfl, rfl⟩ | (refine fun (hc : _ = _) => ?_; (try simp only [BB] at hc)) | refine fun (_ : Nat) => ?_ | refine fun (_ : _ ≤ _) => ?_ | refine fun (_ : _ < _) => ?_
  · refine ih _ _ (i + 1, _, _) ?_ (by dsimp only; omega) ⟨rfl, rfl, rfl, rfl, trivial⟩ .refl
    have hlt : i < rs.length := by omega
    have := putR_len (rs.getD i default)
    refine ⟨by dsimp only; omega, by simp only [Int.toNat_natCast, List.length_append]; omega, ?_⟩
    rw [← h3]
    dsimp only
    have hd : rs.drop i = rs.getD i default :: rs.drop (i + 1) := by
      rw [List.drop_eq_getElem_cons hlt, List.getD_eq_getElem?_getD, List.getElem?_eq_getElem hlt]; rfl
    rw [hd]
    simp [Md.encode]
  · obtain rfl : i = rs.length := by omega
    have e : acc = Md.encode rs := by rw [← h3]; simp [Md.encode]
    rw [e]
    exact Pst.mk (.mk ⟨_, rfl, rfl⟩) .refl
end Go.Proofs.YticnenofiibpgaaDoor.Code
/- What the chars layer's functions do. -/
namespace Go.Proofs.YticnenofiibpgaaDoor.Code
open Go.Dm Go.Dm.C
set_option linter.unusedSimpArgs false
set_option linter.unusedVariables false
set_option linter.unnecessarySimpa false
set_option maxRecDepth 10000
attribute [local irreducible] Go.Dm.F Go.Dm.RS Go.Dm.Y Go.Dm.FD Go.Dm.FZ1 Go.Dm.Hold
variable {R : List Ck}
theorem win_get {k : Nat} (h : k < 32) : (Md.windows.map (DV.int .i32))[k]? = some (.int .i32 (Md.windows.getD k 0)) := by
  rw [List.getElem?_map]
  have : Md.windows[k]? = some Md.windows[k] := List.getElem?_eq_getElem (by simpa [Md.windows] using h)
  rw [this, List.getD_eq_getElem?_getD, this]; rfl
theorem numeric_F {n : Int} (hn : n ≤ 9223372036854775807) : F D 20 [.int .i64 n] R (fun v cs' => v = .int .i32 (Md.numeric n) ∧ R = cs') := by
  refine F.of rfl rfl rfl ?_
  repeat' first | exact arI | refine Pst.mk ⟨?_, rfl⟩ kk | constructor | (refine fun _ _ (hq : Hold _) => ?_; replace hq := hq.out; obtain ⟨_, rfl, rfl⟩ := hq) | (refine fun _ _ (hq : Hold _) => ?_; replace hq := hq.out; obtain ⟨_, _, rfl, rfl⟩ := hq) | rintro _ _ ⟨rfl, rfl⟩ | rintro _ _ ⟨_, rfl, rfl⟩ | rintro _ _ ⟨_, _, rfl, rfl⟩ | (refine fun (hc : _ = _) => ?_; (try simp only [BB] at hc)) | refine fun (_ : Nat) => ?_ | refine fun (_ : _ ≤ _) => ?_ | refine fun (_ : _ < _) => ?_
  · congr 1; unfold Md.numeric; rw [if_pos (by omega)]
  · have := win_get (k := (n - 128).toNat) (by omega)
    rw [List.getElem?_drop, Nat.mul_one, Nat.add_zero]
    refine this.trans ?_
    unfold Md.numeric; rw [if_neg (by omega), if_pos (by omega)]
  · unfold Md.numeric; rw [if_neg (by omega), if_neg (by omega), wrap_i32_in (by omega)]
theorem hex_le (r : Int) : -1 ≤ Md.hex r ∧ Md.hex r ≤ 15 := by unfold Md.hex; repeat' split <;> omega
theorem number_F {rs : List Int} {base : Int} {t z : Nat} (hz : z = zOf t 1) (hb : 2 ≤ base ∧ base ≤ 16) (hl : rs.length < 100000000000) : F D 87 [.lst t z (rs.map I32), .int .i64 base] R (fun v cs' => v = .tup [.int .i64 (Md.number base rs 0 0).1, .int .i64 ((Md.number base rs 0 0).2 : Nat)] ∧ R = cs') := by
  subst hz
  refine F.of rfl rfl rfl ?_
  repeat' first | exact arI | refine Pst.mk ⟨?_, rfl⟩ kk | constructor | (refine fun _ _ (hq : Hold _) => ?_; replace hq := hq.out; obtain ⟨_, rfl, rfl⟩ := hq) | (refine fun _ _ (hq : Hold _) => ?_; replace hq := hq.out; obtain ⟨_, _, rfl, rfl⟩ := hq) | rintro _ _ ⟨rfl, rfl⟩ | rintro _ _ ⟨_, rfl, rfl⟩ | rintro _ _ ⟨_, _, rfl, rfl⟩ | (refine fun (hc : _ = _) => ?_; (try simp only [BB] at hc)) | refine fun (_ : Nat) => ?_ | refine fun (_ : _ ≤ _) => ?_ | refine fun (_ : _ < _) => ?_
  refine RS.loopW (α := Nat × Int) (fun a => [(0, .lst t (zOf t 1) (rs.map I32)), (1, .int .i64 base), (6, .int .i64 a.2), (7, .int .i64 (a.1 : Nat))]) (fun _ => R)
    (fun a => a.1 ≤ rs.length ∧ 0 ≤ a.2 ∧ a.2 ≤ 1114112 ∧ Md.number base (rs.drop a.1) a.2 a.1 = Md.number base rs 0 0) (fun a => rs.length - a.1) (0, 0) ⟨by simp, by simp, by simp, by simp⟩ ⟨rfl, rfl, rfl, rfl, trivial⟩ .refl ?_
  rintro ⟨i, n⟩ ⟨h1, h2, h3, h4⟩ ih
  dsimp only [ents] at *
  have hh := hex_le (rs.getD i default)
  have hm : 0 ≤ n * base ∧ n * base ≤ 1114112 * 16 := ⟨Int.mul_nonneg h2 (by omega), Int.mul_le_mul h3 hb.2 (by omega) (by omega)⟩
  have hd : i < rs.length → rs.drop i = rs.getD i default :: rs.drop (i + 1) := fun hlt => by
    rw [List.drop_eq_getElem_cons hlt, List.getD_eq_getElem?_getD, List.getElem?_eq_getElem hlt]; rfl
  repeat' first | exact hex_F | exact arI | refine Pst.mk ⟨?_, rfl⟩ kk | constructor | (refine fun _ _ (hq : Hold _) => ?_; replace hq := hq.out; obtain ⟨_, rfl, rfl⟩ := hq) | (refine fun _ _ (hq : Hold _) => ?_; replace hq := hq.out; obtain ⟨_, _, rfl, rfl⟩ := hq) | rintro _ _ ⟨rfl, rfl⟩ | rintro _ _ ⟨_, rfl, rfl⟩ | rintro _ _ ⟨_, _, rfl, rfl⟩ | (refine fun (hc : _ = _) => ?_; (try simp only [BB] at hc)) | refine fun (_ : Nat) => ?_ | refine fun (_ : _ ≤ _) => ?_ | refine fun (_ : _ < _) => ?_
  · rw [hd (by omega)] at h4
    simp only [Md.number] at h4
    rw [if_pos (by omega)] at h4
    rw [← h4]
  · rw [hd (by omega)] at h4
    simp only [Md.number] at h4
    rw [if_neg (by omega)] at h4
    exact ih _ _ (i + 1, min (n * base + Md.hex (rs.getD i default)) 1114112) ⟨by dsimp only; omega, by dsimp only; omega, by dsimp only; omega, h4⟩ (by dsimp only; omega) ⟨rfl, rfl, rfl, rfl, trivial⟩ .refl
  · rw [List.drop_eq_nil_of_le (by omega)] at h4
    simp only [Md.number] at h4
    rw [← h4]
def encE (e : Md.Entry) : DV := .agg [.str e.name, .int .i32 e.sign, .bool e.bare]
theorem table_F : F D 37 [] R (fun v cs' => Hold (∃ t, v = .lst t (zOf t 3) (Md.table.map encE) ∧ R = cs')) := by
  refine F.of rfl rfl rfl ?_
  repeat' first | exact arI | refine Pst.mk ⟨?_, rfl⟩ kk | constructor | (refine fun _ _ (hq : Hold _) => ?_; replace hq := hq.out; obtain ⟨_, rfl, rfl⟩ := hq) | (refine fun _ _ (hq : Hold _) => ?_; replace hq := hq.out; obtain ⟨_, _, rfl, rfl⟩ := hq) | rintro _ _ ⟨rfl, rfl⟩ | rintro _ _ ⟨_, rfl, rfl⟩ | rintro _ _ ⟨_, _, rfl, rfl⟩ | (refine fun (hc : _ = _) => ?_; (try simp only [BB] at hc)) | refine fun (_ : Nat) => ?_ | refine fun (_ : _ ≤ _) => ?_ | refine fun (_ : _ < _) => ?_
  exact Pst.mk (.mk ⟨_, rfl, rfl⟩) (.drop .refl)
def mAt (rs : List Int) (i : Nat) : Int × Nat × Bool := ((Md.table.zipIdx).take i).foldl (fun a p => Md.matchStep runeBytes rs a p.2 p.1) (-1, 0, false)
theorem mAt_succ {rs : List Int} {i : Nat} (h : i < Md.table.length) : mAt rs (i + 1) = Md.matchStep runeBytes rs (mAt rs i) i (Md.table.getD i default) := by
  unfold mAt
  rw [List.take_add_one, List.getElem?_eq_getElem (by simpa using h), List.foldl_append]
  simp [List.getD_eq_getElem?_getD, List.getElem?_eq_getElem h]
theorem match_F {rs : List Int} {t z : Nat} (hz : z = zOf t 1) (hl : rs.length < 100000000000) : F D 16 [.lst t z (rs.map I32)] R (fun v cs' => Hold (∃ t', v = .tup [.lst t' (zOf t' 1) ((Md.matchT runeBytes rs).1.map I32), .int .i64 ((Md.matchT runeBytes rs).2.1 : Nat), .bool (Md.matchT runeBytes rs).2.2] ∧ R = cs')) := by
  subst hz
  refine F.of rfl rfl rfl ?_
  repeat' first | exact table_F | exact arI | refine Pst.mk ⟨?_, rfl⟩ kk | constructor | (refine fun _ _ (hq : Hold _) => ?_; replace hq := hq.out; obtain ⟨_, rfl, rfl⟩ := hq) | (refine fun _ _ (hq : Hold _) => ?_; replace hq := hq.out; obtain ⟨_, _, rfl, rfl⟩ := hq) | rintro _ _ ⟨rfl, rfl⟩ | rintro _ _ ⟨_, rfl, rfl⟩ | rintro _ _ ⟨_, _, rfl, rfl⟩ | (refine fun (hc : _ = _) => ?_; (try simp only [BB] at hc)) | refine fun (_ : Nat) => ?_ | refine fun (_ : _ ≤ _) => ?_ | refine fun (_ : _ < _) => ?_
  rename_i t1
  refine RS.loopW (α := Nat × Int × Nat × Bool) (fun a => [(0, .lst t (zOf t 1) (rs.map I32)), (5, .int .i64 a.2.1), (6, .int .i64 (a.2.2.1 : Nat)), (7, .bool a.2.2.2), (13, .lst t1 (zOf t1 3) (Md.table.map encE)), (14, .int .i64 Md.table.length), (15, .int .i64 (a.1 : Nat))]) (fun _ => R)
    (fun a => a.1 ≤ Md.table.length ∧ a.2 = mAt rs a.1 ∧ -1 ≤ a.2.1 ∧ a.2.1 < 61) (fun a => Md.table.length - a.1) (0, -1, 0, false) ⟨by simp, rfl, by simp, by simp⟩ ⟨rfl, rfl, rfl, rfl, rfl, rfl, rfl, trivial⟩ .refl ?_
  rintro ⟨i, b, n, f⟩ ⟨h1, h2, h3, h4⟩ ih
  dsimp only [ents] at *
  have h61 : Md.table.length = 61 := rfl
  have hstep := fun h : i < Md.table.length => mAt_succ (rs := rs) h
  rw [← h2] at hstep
  generalize he : Md.table.getD i default = e at hstep
  have hX : (decide ((e.name.length : Int) < (rs.length : Int)) && rs.getD (e.name.length : Int).toNat default == 59) = (decide (e.name.length < rs.length) && rs.getD e.name.length 0 == 59) := by
    simp only [Int.toNat_natCast, Int.ofNat_lt]; rfl
  generalize hfin : (decide (e.name.length < rs.length) && rs.getD e.name.length 0 == 59) = fin at hX
  simp only [Md.matchStep, hfin] at hstep
  repeat' first | exact table_F | exact arI | refine Pst.mk ⟨?_, rfl⟩ kk | constructor | (refine fun _ _ (hq : Hold _) => ?_; replace hq := hq.out; obtain ⟨_, rfl, rfl⟩ := hq) | (refine fun _ _ (hq : Hold _) => ?_; replace hq := hq.out; obtain ⟨_, _, rfl, rfl⟩ := hq) | rintro _ _ ⟨rfl, rfl⟩ | rintro _ _ ⟨_, rfl, rfl⟩ | rintro _ _ ⟨_, _, rfl, rfl⟩ | (refine fun (hc : _ = _) => ?_; (try simp only [BB] at hc)) | refine fun (_ : Nat) => ?_ | refine fun (_ : _ ≤ _) => ?_ | refine fun (_ : _ < _) => ?_
  · rw [he] at hc
    refine ih _ _ (i + 1, b, n, f) ⟨by dsimp only; omega, ?_, h3, h4⟩ (by dsimp only; omega) ⟨rfl, rfl, rfl, rfl, rfl, rfl, rfl, trivial⟩ kk
    rw [hstep (by omega), if_pos (hc.imp (fun h => by omega) id)]
  · rename_i hA hB
    rw [he] at hc hA hB
    have hf : fin = true := by rw [← hfin]; simp only [Bool.and_eq_true, decide_eq_true_eq, beq_iff_eq]; exact ⟨by omega, hB.2⟩
    refine ih _ _ (i + 1, i, e.name.length + 1, fin) ⟨by dsimp only; omega, ?_, by dsimp only; omega, by dsimp only; omega⟩ (by dsimp only; omega) ⟨rfl, rfl, ?_, ?_, rfl, rfl, rfl, trivial⟩ kk
    · rw [hstep (by omega), if_neg (fun h => h.elim (fun h => by omega) (fun h => h hA.2))]
      simp only [hf, if_true, Bool.true_or, Bool.true_and]
      rw [if_pos (by simp only [decide_eq_true_eq]; omega)]
    · rw [← he]; rfl
    · rw [← hX, ← he]; rfl
  · rename_i hA hB
    rw [he] at hc hA hB
    have hf : fin = true := by rw [← hfin]; simp only [Bool.and_eq_true, decide_eq_true_eq, beq_iff_eq]; exact ⟨by omega, hB.2⟩
    refine ih _ _ (i + 1, b, n, f) ⟨by dsimp only; omega, ?_, h3, h4⟩ (by dsimp only; omega) ⟨rfl, rfl, rfl, rfl, rfl, rfl, rfl, trivial⟩ kk
    rw [hstep (by omega), if_neg (fun h => h.elim (fun h => by omega) (fun h => h hA.2))]
    simp only [hf, if_true, Bool.true_or, Bool.true_and]
    rw [if_neg (by have := hc (.inl ⟨by omega, hB.2⟩); simp only [decide_eq_true_eq]; omega)]
  · rename_i hA hB
    rw [he] at hc hA hB
    have hf : fin = false := by
      rw [← hfin]; simp only [Bool.and_eq_false_imp, decide_eq_true_eq, beq_eq_false_iff_ne]
      exact fun h => hB (by omega)
    refine ih _ _ (i + 1, i, e.name.length, fin) ⟨by dsimp only; omega, ?_, by dsimp only; omega, by dsimp only; omega⟩ (by dsimp only; omega) ⟨rfl, rfl, ?_, ?_, rfl, rfl, rfl, trivial⟩ kk
    · rw [hstep (by omega), if_neg (fun h => h.elim (fun h => by omega) (fun h => h hA.2))]
      have hbare : e.bare = true := hc.1.resolve_left (fun h => hB h.1 h.2)
      simp only [hf, Bool.false_eq_true, if_false, Bool.false_or, hbare, Bool.true_and]
      rw [if_pos (by simp only [decide_eq_true_eq]; omega)]
    · rw [← he]; rfl
    · rw [← hX, ← he]; rfl
  · rename_i hA hB
    rw [he] at hc hA hB
    have hf : fin = false := by
      rw [← hfin]; simp only [Bool.and_eq_false_imp, decide_eq_true_eq, beq_eq_false_iff_ne]
      exact fun h => hB (by omega)
    refine ih _ _ (i + 1, b, n, f) ⟨by dsimp only; omega, ?_, h3, h4⟩ (by dsimp only; omega) ⟨rfl, rfl, rfl, rfl, rfl, rfl, rfl, trivial⟩ kk
    rw [hstep (by omega), if_neg (fun h => h.elim (fun h => by omega) (fun h => h hA.2))]
    simp only [hf, Bool.false_eq_true, if_false, Bool.false_or]
    rw [if_neg (fun h => by
      simp only [Bool.and_eq_true, decide_eq_true_eq] at h
      have := hc (.inr h.1)
      omega)]
  all_goals
    have hall : Md.matchAll runeBytes rs = (b, n, f) := by
      obtain rfl : i = Md.table.length := by omega
      rw [h2]; unfold mAt Md.matchAll
      rw [List.take_of_length_le (by simp)]
  · have e1 : Md.matchT runeBytes rs = ([], 0, false) := by unfold Md.matchT; rw [hall]; dsimp only; rw [if_pos hc]
    rw [e1]
    exact Pst.mk (.mk ⟨0, rfl, rfl⟩) .refl
  · have hb : ¬ b < 0 := by assumption
    have e1 : Md.matchT runeBytes rs = ([(Md.table.getD b.toNat default).sign, 8402], n, f) := by unfold Md.matchT; rw [hall]; dsimp only; rw [if_neg hb, if_pos hc]
    rw [e1]
    exact Pst.mk (.mk ⟨_, rfl, rfl⟩) (.drop (.drop .refl))
  · have hb : ¬ b < 0 := by assumption
    have e1 : Md.matchT runeBytes rs = ([(Md.table.getD b.toNat default).sign], n, f) := by unfold Md.matchT; rw [hall]; dsimp only; rw [if_neg hb, if_neg hc]
    rw [e1]
    exact Pst.mk (.mk ⟨_, rfl, rfl⟩) (.drop .refl)
end Go.Proofs.YticnenofiibpgaaDoor.Code
/- The lexer az plain functions: a state, what each function makes of it (no program in sight). -/
namespace Go.Md
set_option linter.unusedVariables false
abbrev Str := List UInt8
structure Tok where
  kind : Int
  name : Str
  attrs : List (Str × Str)
  self : Bool
  data : Str
  pub : Str
  sys : Str
  hasPub : Bool
  hasSys : Bool
  quirks : Bool
  deriving DecidableEq
def Tok.zero : Tok := ⟨0, [], [], false, [], [], [], false, false, false⟩
instance : Inhabited Tok := ⟨Tok.zero⟩
structure Lx where
  inp : List Int
  pos : Nat
  way : Int
  last : Str
  room : Bool
  out : List Tok
  text : List Int
  done : Bool
def Lx.rest (s : Lx) : List Int := s.inp.drop s.pos
def Lx.pk (s : Lx) (n : Nat) : Int := s.inp.getD (s.pos + n) (-1)
def Lx.adv (s : Lx) (n : Nat) : Lx := { s with pos := s.pos + n }
def Lx.say (s : Lx) (rs : List Int) : Lx := { s with text := s.text ++ rs.filter (· != -1) }
/-- Without its text. -/
def Lx.clr (s : Lx) : Lx := { s with text := [] }
def textTok (t : List Int) : Tok := { Tok.zero with kind := 1, data := encode t }
def Lx.flush (s : Lx) : Lx := if s.text = [] then s else { s with out := s.out ++ [textTok s.text], text := [] }
def Lx.emit (s : Lx) (t : Tok) : Lx := { s.flush with last := if t.kind = 2 then t.name else s.flush.last, out := s.flush.out ++ [t] }

/-! ### pieces of what stands next -/
def fixr (r : Int) : Int := if r = 0 then 65533 else r
def blanksN (l : List Int) : Nat := (l.takeWhile blank).length
/-- A text of low signs stands next, in whatever letters. -/
def stands : Str → List Int → Bool
  | [], _ => true
  | c :: w, l => small (l.headD (-1)) == small (c.toNat : Int) && stands w l.tail
def exact : Str → List Int → Bool
  | [], _ => true
  | c :: w, l => l.headD (-1) == (c.toNat : Int) && exact w l.tail
def over (r : Int) : Bool := blank r || r == 47 || r == 62
def bogusGo : List Int → List Int × Nat
  | [] => ([], 0)
  | r :: l => if r = 62 then ([], 1) else (fixr r :: (bogusGo l).1, (bogusGo l).2 + 1)
def nameOf (l : List Int) : List Int := (l.takeWhile fun r => !over r)
def skipN : List Int → Nat
  | [] => 0
  | r :: l => if r = 62 then 1 else skipN l + 1

/-! ### references -/
/-- What stands behind an &: the signs that it means, how many it takes. -/
def refer (value : Bool) (l : List Int) : List Int × Nat :=
  if l.getD 0 (-1) = 35 then
    let n := if l.getD 1 (-1) = 120 ∨ l.getD 1 (-1) = 88 then 2 else 1
    let q := number (if l.getD 1 (-1) = 120 ∨ l.getD 1 (-1) = 88 then 16 else 10) (l.drop n) 0 0
    if q.2 = 0 then ([38], 0) else
    ([numeric q.1], if l.getD (n + q.2) (-1) = 59 then n + q.2 + 1 else n + q.2)
  else
    let m := matchT Go.Dm.runeBytes l
    if m.2.1 = 0 then ([38], 0) else
    if (value = true ∧ m.2.2 = false ∧ m.2.1 < l.length) ∧ (l.getD m.2.1 (-1) = 61 ∨ letter (l.getD m.2.1 (-1)) = true ∨ digit (l.getD m.2.1 (-1)) = true) then ([38], 0) else (m.1, m.2.1)

/-! ### tags -/
/-- A value: its signs, whether it ended, how many signs it takes. -/
def valueGo (quote : Int) (l : List Int) (acc : List Int) : List Int × Bool × Nat :=
  match l with
  | [] => (acc, false, 0)
  | r :: l =>
    if quote ≠ 0 ∧ r = quote then (acc, true, 1)
    else if quote = 0 ∧ (blank r = true ∨ r = 62) then (acc, true, 0)
    else if r = 38 then
      let q := valueGo quote (l.drop (refer true l).2) (acc ++ (refer true l).1)
      (q.1, q.2.1, q.2.2 + (refer true l).2 + 1)
    else
      let q := valueGo quote l (acc ++ [fixr r])
      (q.1, q.2.1, q.2.2 + 1)
  termination_by l.length
  decreasing_by all_goals simp; try omega
def value (l : List Int) : Str × Bool × Nat :=
  let b := blanksN l
  let r := l.getD b (-1)
  if r = 62 then ([], true, b) else
  if r = 34 ∨ r = 39 then
    let q := valueGo r (l.drop (b + 1)) []
    (encode q.1, q.2.1, b + 1 + q.2.2)
  else
    let q := valueGo 0 (l.drop b) []
    (encode q.1, q.2.1, b + q.2.2)
/-- An attribute's name: its first sign whatever it is. -/
def attrName (l : List Int) : List Int :=
  match l with
  | [] => []
  | r :: l => if over r = true then [] else r :: l.takeWhile fun r => !(over r || r == 61)
def hasAttr (al : List (Str × Str)) (n : Str) : Bool := al.any fun a => a.1 == n
def putAttr (al : List (Str × Str)) (a : Str × Str) : List (Str × Str) := if hasAttr al a.1 then al else al ++ [a]
/-- An attribute: it, whether the text goes on, how many signs it takes. -/
def attr1 (l : List Int) : (Str × Str) × Bool × Nat :=
  let nm := attrName l
  let n := nm.length + blanksN (l.drop nm.length)
  let name := encode (nm.map fun r => small (fixr r))
  if l.getD n (-1) = 61 then
    let v := value (l.drop (n + 1))
    ((name, v.1), v.2.1, n + 1 + v.2.2)
  else ((name, []), true, n)
theorem attrName_pos {r : Int} {l : List Int} (h : over r = false) : 0 < (attrName (r :: l)).length := by simp [attrName, h]
/-- Attributes up to a tag's end: they, whether it ends itself, whether there is an end, how many signs. -/
def attrsGo (l : List Int) (acc : List (Str × Str)) : List (Str × Str) × Bool × Bool × Nat :=
  match l with
  | [] => (acc, false, false, 0)
  | r :: l =>
    if hb : blank r = true then
      let q := attrsGo l acc
      (q.1, q.2.1, q.2.2.1, q.2.2.2 + 1)
    else if h1 : r = 62 then (acc, false, true, 1)
    else if h2 : r = 47 then
      if l.headD (-1) = 62 then (acc, true, true, 2) else
      let q := attrsGo l acc
      (q.1, q.2.1, q.2.2.1, q.2.2.2 + 1)
    else
      if (attr1 (r :: l)).2.1 = true then
        let q := attrsGo ((r :: l).drop (attr1 (r :: l)).2.2) (putAttr acc (attr1 (r :: l)).1)
        (q.1, q.2.1, q.2.2.1, q.2.2.2 + (attr1 (r :: l)).2.2)
      else (putAttr acc (attr1 (r :: l)).1, false, false, (attr1 (r :: l)).2.2)
  termination_by l.length
  decreasing_by
    · simp
    · simp
    · have hov : over r = false := by
        simp only [Bool.not_eq_true] at hb
        simp [over, hb, h1, h2]
      have hp : 0 < (attr1 (r :: l)).2.2 := by
        have h3 := attrName_pos (l := l) hov
        unfold attr1
        dsimp only
        split
        · dsimp only; omega
        · dsimp only; omega
      simp only [List.length_drop, List.length_cons]; omega
def Lx.tag (s : Lx) (kind : Int) : Lx :=
  let nm := nameOf s.rest
  let q := attrsGo (s.rest.drop nm.length) []
  let s1 := s.adv (nm.length + q.2.2.2)
  if q.2.2.1 = true then s1.emit { Tok.zero with kind := kind, name := encode (nm.map fun r => small (fixr r)), attrs := if kind = 3 then [] else q.1, self := if kind = 3 then false else q.2.1 } else s1

/-! ### what else there is -/
def Lx.bogus (s : Lx) : Lx := (s.adv (bogusGo s.rest).2).emit { Tok.zero with kind := 4, data := encode (bogusGo s.rest).1 }
def Lx.ending (s : Lx) : Lx :=
  if letter (s.pk 0) = true then s.tag 3
  else if s.pk 0 = 62 then s.adv 1
  else if s.pk 0 = -1 then s.say [60, 47]
  else s.bogus
/-- A marked section: its signs, how many it takes. -/
def sectionGo : List Int → List Int × Nat
  | [] => ([], 0)
  | r :: l => if r = 93 ∧ l.headD (-1) = 93 ∧ l.tail.headD (-1) = 62 then ([], 3) else (r :: (sectionGo l).1, (sectionGo l).2 + 1)
def Lx.section_ (s : Lx) : Lx := (s.adv (sectionGo s.rest).2).say (sectionGo s.rest).1
/-- A comment's signs, how many it takes, whether its end is there. -/
def commentGo : List Int → List Int × Nat × Bool
  | [] => ([], 0, false)
  | r :: l => if r = 45 ∧ exact [45, 62] l = true then ([], 3, true) else if r = 45 ∧ exact [45, 33, 62] l = true then ([], 4, true) else
    (fixr r :: (commentGo l).1, (commentGo l).2.1 + 1, (commentGo l).2.2)
def hasSuffix (s w : Str) : Bool := decide (w.length ≤ s.length) && s.drop (s.length - w.length) == w
def stripTail (d : List Int) : List Int :=
  if hasSuffix (Go.Dm.runeBytes d) [45, 45, 33] then d.take (d.length - 3) else
  if hasSuffix (Go.Dm.runeBytes d) [45, 45] then d.take (d.length - 2) else
  if hasSuffix (Go.Dm.runeBytes d) [45] then d.take (d.length - 1) else d
def commentTok (d : List Int) : Tok := { Tok.zero with kind := 4, data := encode d }
def Lx.comment (s : Lx) : Lx :=
  if s.pk 0 = 62 then (s.adv 1).emit (commentTok [])
  else if s.pk 0 = 45 ∧ s.pk 1 = 62 then (s.adv 2).emit (commentTok [])
  else
    let q := commentGo s.rest
    (s.adv q.2.1).emit (commentTok (if q.2.2 = true then q.1 else stripTail q.1))
/-- A text in quotes: it, whether there is one, whether it ended, how many signs it takes. -/
def quotedGo (quote : Int) : List Int → List Int × Bool × Nat
  | [] => ([], false, 0)
  | r :: l => if r = quote then ([], true, 1) else if r = 62 then ([], false, 1) else (fixr r :: (quotedGo quote l).1, (quotedGo quote l).2.1, (quotedGo quote l).2.2 + 1)
def quoted (l : List Int) : Str × Bool × Bool × Nat :=
  let r := l.headD (-1)
  if r = 34 ∨ r = 39 then (encode (quotedGo r l.tail).1, true, (quotedGo r l.tail).2.1, (quotedGo r l.tail).2.2 + 1) else ([], false, false, skipN l)
def doctypeName (l : List Int) : List Int := l.takeWhile fun r => !(blank r || r == 62)
def Lx.blanks (s : Lx) : Lx := s.adv (blanksN s.rest)
def Lx.skip (s : Lx) : Lx := s.adv (skipN s.rest)
def dtok : Tok := { Tok.zero with kind := 5 }
/-- A doctype's end, from its second text on. -/
def Lx.doctypeSys (s : Lx) (t : Tok) : Lx :=
  let y := quoted s.rest
  let t1 := { t with sys := y.1, hasSys := y.2.1 }
  let s1 := s.adv y.2.2.2
  if y.2.2.1 = false then s1.emit { t1 with quirks := true } else
  if s1.blanks.pk 0 = -1 then s1.blanks.emit { t1 with quirks := true } else
  s1.blanks.skip.emit t1
def Lx.doctypePub (s : Lx) (t : Tok) : Lx :=
  let p := quoted s.rest
  let t1 := { t with pub := p.1, hasPub := p.2.1 }
  let s1 := s.adv p.2.2.2
  if p.2.2.1 = false then s1.emit { t1 with quirks := true } else
  if s1.blanks.pk 0 = 62 then (s1.blanks.adv 1).emit t1 else s1.blanks.doctypeSys t1
def Lx.doctypeRest (s : Lx) (t : Tok) : Lx :=
  if s.pk 0 = 62 then (s.adv 1).emit t
  else if s.pk 0 = -1 then s.emit { t with quirks := true }
  else if stands [112, 117, 98, 108, 105, 99] s.rest = true then (s.adv 6).blanks.doctypePub t
  else if stands [115, 121, 115, 116, 101, 109] s.rest = true then (s.adv 6).blanks.doctypeSys t
  else s.skip.emit { t with quirks := true }
def Lx.doctype (s : Lx) : Lx :=
  let s := s.blanks
  if s.pk 0 = 62 then (s.adv 1).emit { dtok with quirks := true }
  else if s.pk 0 = -1 then s.emit { dtok with quirks := true }
  else
    let nm := doctypeName s.rest
    (s.adv nm.length).blanks.doctypeRest { dtok with name := encode (nm.map fun r => small (fixr r)) }
def Lx.declare (s : Lx) : Lx :=
  if stands [45, 45] s.rest = true then (s.adv 2).comment
  else if stands [100, 111, 99, 116, 121, 112, 101] s.rest = true then (s.adv 7).doctype
  else if s.room = true ∧ s.pk 0 = 91 ∧ exact [91, 67, 68, 65, 84, 65, 91] s.rest = true then (s.adv 7).section_
  else s.bogus
def Lx.open_ (s : Lx) : Lx :=
  if s.pk 0 = 33 then (s.adv 1).declare
  else if s.pk 0 = 47 then (s.adv 1).ending
  else if letter (s.pk 0) = true then s.tag 2
  else if s.pk 0 = 63 then s.bogus
  else s.say [60]
/-- The signs of a text az a program goes through them. -/
def runesGo : Nat → Str → Nat → List Int
  | 0, _, _ => []
  | f + 1, s, i => if i < s.length then (Utf8.decode ⟨s.toArray⟩ i).1 :: runesGo f s (i + (Utf8.decode ⟨s.toArray⟩ i).2) else []
def runes (s : Str) : List Int := runesGo s.length s 0
/-- How many signs the end of an element takes up to its name's end, behind <; 0: it doesn't stand there. -/
def goesOn : List Int → List Int → Bool
  | [], _ => true
  | c :: w, l => small (l.headD (-1)) == c && goesOn w l.tail
def closes (last : Str) (l : List Int) : Nat :=
  if l.getD 0 (-1) ≠ 47 ∨ letter (l.getD 1 (-1)) = false ∨ last = [] then 0 else
  if goesOn (runes last) l.tail = true ∧ over (l.getD (1 + (runes last).length) (-1)) = true then 1 + (runes last).length else 0
def Lx.close (s : Lx) : Lx := if closes s.last s.rest = 0 then s.say [60] else ({ s.adv 1 with way := 0 }).tag 3
def word (l : List Int) : Nat := if stands [115, 99, 114, 105, 112, 116] l = true ∧ over (l.getD 6 (-1)) = true then 7 else 0
/-- A script's signs behind what began a comment; how many they take; whether the element's end stands there. -/
def scriptGo (last : Str) (l : List Int) (dashes : Nat) (hidden : Bool) : List Int × Nat × Bool :=
  match l with
  | [] => ([], 0, false)
  | r :: l =>
    if r = 45 then
      let q := scriptGo last l (dashes + 1) hidden
      (r :: q.1, q.2.1 + 1, q.2.2)
    else if r = 62 ∧ 2 ≤ dashes then ([62], 1, false)
    else if r = 60 ∧ hidden = false then
      if 0 < closes last l then ([], 1, true) else
      let q := scriptGo last (l.drop (word l)) 0 (decide (0 < word l))
      (r :: (l.take (word l) ++ q.1), q.2.1 + word l + 1, q.2.2)
    else if r = 60 then
      if l.headD (-1) = 47 then
        let q := scriptGo last (l.tail.drop (word l.tail)) 0 (decide (word l.tail = 0))
        (r :: 47 :: (l.tail.take (word l.tail) ++ q.1), q.2.1 + word l.tail + 2, q.2.2)
      else
        let q := scriptGo last l 0 hidden
        (r :: q.1, q.2.1 + 1, q.2.2)
    else
      let q := scriptGo last l 0 hidden
      (fixr r :: q.1, q.2.1 + 1, q.2.2)
  termination_by l.length
  decreasing_by all_goals simp; try omega
def Lx.script (s : Lx) : Lx :=
  if exact [33, 45, 45] s.rest = false then s.close else
  let s1 := (s.say [60, 33, 45, 45]).adv 3
  let q := scriptGo s.last s1.rest 2 false
  let s2 := (s1.say q.1).adv q.2.1
  if q.2.2 = true then s2.flush.close else s2
def plainSign (r : Int) : Bool := !(r == 38 || r == 60 || r == 0)
def Lx.step (s : Lx) : Lx :=
  let r := s.pk 0
  let s1 := s.adv 1
  let s2 :=
    if r = -1 then { s1.flush with done := true }
    else if r = 38 ∧ (s.way = 0 ∨ s.way = 1) then (s1.adv (refer false s1.rest).2).say (refer false s1.rest).1
    else if r = 60 ∧ s.way = 0 then s1.flush.open_
    else if r = 60 ∧ (s.way = 1 ∨ s.way = 2) then s1.flush.close
    else if r = 60 ∧ s.way = 3 then s1.flush.script
    else if r = 0 ∧ s.way = 0 then s1.say [0]
    else if r = 0 then s1.say [65533]
    else (s1.adv (s1.rest.takeWhile plainSign).length).say (r :: s1.rest.takeWhile plainSign)
  if s2.out = [] ∧ s2.text ≠ [] ∧ (s2.pk 0 = 60 ∨ s2.pk 0 = -1) then s2.flush else s2
def Lx.new (b : Str) : Lx := ⟨decode b, 0, 0, [], false, [], [], false⟩
/-- How much is left to do. -/
def Lx.left (s : Lx) : Nat := s.inp.length + 1 - s.pos
/-- All tokens that come. -/
def Lx.toks (s : Lx) : List Tok :=
  s.out ++ (if s.done = true then [] else if h : Lx.left (Lx.step { s with out := [] }) < s.left then Lx.toks (Lx.step { s with out := [] }) else [])
  termination_by s.left
  decreasing_by exact h
/-- Texts that follow each other az one. -/
def joinStep (out : List Tok) (t : Tok) : List Tok :=
  match out.getLast? with
  | some u => if t.kind = 1 ∧ u.kind = 1 then out.dropLast ++ [{ u with data := u.data ++ t.data }] else if t.kind = 1 ∧ t.data = [] then out else out ++ [t]
  | none => if t.kind = 1 ∧ t.data = [] then out else out ++ [t]
def join (l : List Tok) : List Tok := l.foldl joinStep []
def all (b : Str) : List Tok := join (Lx.new b).toks
end Go.Md
/- The lexer's object az a piece of a heap; bundles of pieces. -/
namespace Go.Dm
set_option linter.unusedSimpArgs false
set_option linter.unusedVariables false
set_option linter.unnecessarySimpa false
set_option maxRecDepth 10000
/-! ### pieces that are taken together -/
def Ck.okf (o : Nat → Option HObj) (t : Nat → Option Nat) : Ck → Prop
  | .obj id x => o id = some x
  | .own a sz xs => (a = 0 ∧ xs = []) ∨ (2 ≤ a ∧ t a = some sz)
  | .pr p => p.ok o t
theorem Ck.okf_ok {h : Heap} {c : Ck} : c.okf h.objs.get h.tags.get ↔ c.ok h := by cases c <;> exact Iff.rfl
theorem Ck.okf_loc {o o' : Nat → Option HObj} {t t' : Nat → Option Nat} {c : Ck} (hl : ∀ i, c.foot i → o i = o' i ∧ t i = t' i) (hc : c.okf o t) : c.okf o' t' := by
  cases c with
  | obj id x => show o' id = some x; rw [← (hl id rfl).1]; exact hc
  | own a sz xs =>
    rcases hc with h0 | ⟨h2, ht⟩
    · exact .inl h0
    · exact .inr ⟨h2, by rw [← (hl a ⟨rfl, h2⟩).2]; exact ht⟩
  | pr p => exact p.loc _ _ _ _ hl hc
def bun {α : Type} (F : Nat → Prop) (f : α → List Ck) (P : α → Prop) : HP where
  foot := F
  ok o t := ∃ a, P a ∧ (∀ c ∈ f a, c.okf o t) ∧ (∀ i, F i ↔ ∃ c ∈ f a, c.foot i) ∧ (f a).Pairwise fun (x y : Ck) => ∀ i : Nat, ¬(x.foot i ∧ y.foot i)
  loc := fun o t o' t' h ⟨a, h1, h2, h3, h4⟩ => ⟨a, h1, fun c hc => Ck.okf_loc (fun i hi => h i ((h3 i).2 ⟨c, hc, hi⟩)) (h2 c hc), h3, h4⟩
theorem Sat.opn {α : Type} {F : Nat → Prop} {f : α → List Ck} {P : α → Prop} {R : List Ck} {h : Heap} (hs : Sat h (.pr (bun F f P) :: R)) : ∃ a, P a ∧ Sat h (f a ++ R) := by
  obtain ⟨a, h1, h2, h3, h4⟩ := (hs.ok _ (List.mem_cons_self ..)).1
  have hlt := (hs.ok _ (List.mem_cons_self ..)).2
  obtain ⟨s1, s2⟩ := List.pairwise_cons.1 hs.sep
  refine ⟨a, h1, hs.two, fun c hc => ?_, List.pairwise_append.2 ⟨h4, s2, fun x hx y hy i ⟨hi, hj⟩ => s1 y hy i ⟨(h3 i).2 ⟨x, hx, hi⟩, hj⟩⟩⟩
  rcases List.mem_append.1 hc with hc | hc
  · exact ⟨Ck.okf_ok.1 (h2 c hc), fun i hi => hlt i ((h3 i).2 ⟨c, hc, hi⟩)⟩
  · exact hs.ok c (List.mem_cons_of_mem _ hc)
theorem Sat.cls {α : Type} {F : Nat → Prop} {f : α → List Ck} {P : α → Prop} {R : List Ck} {h : Heap} {a : α} (hs : Sat h (f a ++ R)) (hp : P a) (hF : ∀ i, F i ↔ ∃ c ∈ f a, c.foot i) : Sat h (.pr (bun F f P) :: R) := by
  obtain ⟨s1, s2, s3⟩ := List.pairwise_append.1 hs.sep
  refine ⟨hs.two, fun c hc => ?_, List.pairwise_cons.2 ⟨fun y hy i ⟨hi, hj⟩ => ?_, s2⟩⟩
  · rcases List.mem_cons.1 hc with rfl | hc
    · refine ⟨⟨a, hp, fun c hc => Ck.okf_ok.2 (hs.ok c (List.mem_append_left _ hc)).1, hF, s1⟩, fun i hi => ?_⟩
      obtain ⟨c, hc, hi⟩ := (hF i).1 hi
      exact (hs.ok c (List.mem_append_left _ hc)).2 i hi
    · exact hs.ok c (List.mem_append_right _ hc)
  · obtain ⟨c, hc, hi⟩ := (hF i).1 hi
    exact s3 c hc y hy i ⟨hi, hj⟩
section
variable {D : DProg}
theorem Rem.perm' {c : Ck} {a b : List Ck} (hm : Rem c a b) : a.Perm (c :: b) := by
  induction hm with
  | head => exact .refl _
  | tail _ ih => exact (ih.cons _).trans (.swap ..)
theorem Upd1.rem {c n : Ck} {cs cs2 : List Ck} (hu : Upd1 c n cs cs2) : ∃ R, cs.Perm (c :: R) ∧ cs2.Perm (n :: R) := by
  induction hu with
  | head => exact ⟨_, .refl _, .refl _⟩
  | @tail x r r' _ ih =>
    obtain ⟨R, h1, h2⟩ := ih
    exact ⟨x :: R, (h1.cons x).trans (.swap ..), (h2.cons x).trans (.swap ..)⟩
theorem Upd.rem {α : Type} {c : Ck} {n : α → Ck} {cs : List Ck} {cs2 : α → List Ck} (hu : Upd c n cs cs2) : ∃ R, cs.Perm (c :: R) ∧ ∀ a, (cs2 a).Perm (n a :: R) := by
  induction hu with
  | head => exact ⟨_, .refl _, fun _ => .refl _⟩
  | @tail x r r' _ ih =>
    obtain ⟨R, h1, h2⟩ := ih
    exact ⟨x :: R, (h1.cons x).trans (.swap ..), fun a => ((h2 a).cons x).trans (.swap ..)⟩
theorem Me.upd {c : Ck} {cs : List Ck} (hm : Me c cs) : Upd1 c c cs cs := by
  induction hm with
  | head => exact .head
  | tail _ ih => exact .tail ih
theorem F.at1 {f : Nat} {args : List DV} {c n : Ck} {cs cs2 : List Ck} {P : DV → Prop} (hu : Upd1 c n cs cs2) (hF : ∀ R, F D f args (c :: R) (fun v cs' => P v ∧ n :: R = cs')) : F D f args cs (fun v cs' => P v ∧ cs2 = cs') := by
  obtain ⟨R, h1, h2⟩ := hu.rem
  refine F.perm h1 (F.post (hF R) fun v cs' ⟨hp, he⟩ => ⟨cs2, ?_, hp, rfl⟩)
  subst he; exact h2.symm
theorem F.atM {f : Nat} {args : List DV} {c : Ck} {cs : List Ck} {P : DV → Prop} (hm : Me c cs) (hF : ∀ R, F D f args (c :: R) (fun v cs' => P v ∧ c :: R = cs')) : F D f args cs (fun v cs' => P v ∧ cs = cs') := F.at1 hm.upd hF
theorem F.atG {α : Type} {f : Nat} {args : List DV} {c : Ck} {n : α → Ck} {cs : List Ck} {cs2 : α → List Ck} {P : α → DV → Prop} (hu : Upd c n cs cs2) (hF : ∀ R, F D f args (c :: R) (fun v cs' => Hold (∃ a, P a v ∧ n a :: R = cs'))) : F D f args cs (fun v cs' => Hold (∃ a, P a v ∧ cs2 a = cs')) := by
  obtain ⟨R, h1, h2⟩ := hu.rem
  refine F.perm h1 (F.post (hF R) fun v cs' hq => ?_)
  obtain ⟨a, hp, he⟩ := hq.out
  subst he
  exact ⟨cs2 a, (h2 a).symm, Hold.mk ⟨a, hp, rfl⟩⟩
theorem F.opn {α : Type} {F' : Nat → Prop} {f : α → List Ck} {P : α → Prop} {g : Nat} {args : List DV} {R : List Ck} {Q : DV → List Ck → Prop} (hF : ∀ a, P a → F D g args (f a ++ R) Q) : F D g args (.pr (bun F' f P) :: R) Q := fun h hs =>
  let ⟨a, hp, hs'⟩ := hs.opn; hF a hp h hs'
theorem RS.opn {α : Type} {F' : Nat → Prop} {f : α → List Ck} {P : α → Prop} {k : List It} {st : St} {R : List Ck} {Q : DX → St → List Ck → Prop} (hF : ∀ a, P a → RS D k st (f a ++ R) Q) : RS D k st (.pr (bun F' f P) :: R) Q := fun fr h ha hs =>
  let ⟨a, hp, hs'⟩ := hs.opn; hF a hp fr h ha hs'
theorem F.conv {f : Nat} {args : List DV} {cs : List Ck} {P P' : DV → List Ck → Prop} (hf : F D f args cs P) (hp : ∀ v cs', P v cs' → ∃ cs2, (∀ h, Sat h cs' → Sat h cs2) ∧ P' v cs2) : F D f args cs P' := fun h hs =>
  let ⟨v, h', cs', r1, r2, r3⟩ := hf h hs; let ⟨cs2, q1, q2⟩ := hp _ _ r3; ⟨v, h', cs2, r1, q1 _ r2, q2⟩
theorem F.from {f : Nat} {args : List DV} {cs cs2 : List Ck} {P : DV → List Ck → Prop} (hs : ∀ h, Sat h cs → Sat h cs2) (hf : F D f args cs2 P) : F D f args cs P := fun h hh => hf h (hs h hh)
theorem RS.from {k : List It} {st : St} {cs cs2 : List Ck} {Q : DX → St → List Ck → Prop} (hs : ∀ h, Sat h cs → Sat h cs2) (hr : RS D k st cs2 Q) : RS D k st cs Q := fun fr h ha hh => hr fr h ha (hs h hh)
end
theorem Pst.of {Q : List Ck → Prop} {cs cs' : List Ck} (hs : ∀ h, Sat h cs → Sat h cs') (hq : Q cs') : Pst Q cs := by unfold Pst; exact ⟨cs', hs, hq⟩

theorem Pst.nil {Q : List Ck → Prop} {cs : List Ck} (sz : Nat) (hq : Pst Q (.own 0 sz [] :: cs)) : Pst Q cs := by
  obtain ⟨cs', h1, h2⟩ := hq.out
  exact Pst.of (fun h hs => h1 h (hs.nilOwn sz)) h2

theorem LD.id {cs : List Ck} {sh : Shape} {a v : DV} (h : LD cs sh a v) : LD cs sh a v := h
/-! ### tokens, the lexer's object -/
def encA (a : Md.Str × Md.Str) : DV := .agg [.str a.1, .str a.2]
def encT (p : Md.Tok × Nat) : DV := .agg [.int .i64 p.1.kind, .str p.1.name, .lst p.2 (zOf p.2 2) (p.1.attrs.map encA), .bool p.1.self, .str p.1.data, .str p.1.pub, .str p.1.sys, .bool p.1.hasPub, .bool p.1.hasSys, .bool p.1.quirks]
instance : Inhabited (Md.Tok × Nat) := ⟨(default, 0)⟩
abbrev lcell (s : Md.Lx) (ti to tt : Nat) (os : List (Md.Tok × Nat)) : HObj := .cells [.lst ti (zOf ti 1) (s.inp.map I32), .int .i64 (s.pos : Nat), .int .i64 s.way, .str s.last, .bool s.room, .lst to (zOf to 10) (os.map encT), .lst tt (zOf tt 1) (s.text.map I32), .bool s.done] none
def lfoot (id : Nat) (g : Nat × Nat) (i : Nat) : Prop := i = id ∨ (i = g.1 ∧ 2 ≤ g.1) ∨ (i = g.2 ∧ 2 ≤ g.2)
def lpart (id : Nat) (s : Md.Lx) (g : Nat × Nat) (a : Nat × List (Md.Tok × Nat)) : List Ck := [.obj id (lcell s a.1 g.1 g.2 a.2), .own g.2 1 (s.text.map I32), .own g.1 10 (a.2.map encT)]
/-- The lexer at a place; g: of whom its lists are (tokens, text). -/
@[irreducible] def LX (id : Nat) (s : Md.Lx) (g : Nat × Nat) : Ck := .pr (bun (lfoot id g) (lpart id s g) (fun a => a.2.map Prod.fst = s.out))
theorem lfoot_iff {id : Nat} {s : Md.Lx} {g : Nat × Nat} {a : Nat × List (Md.Tok × Nat)} (i : Nat) : lfoot id g i ↔ ∃ c ∈ lpart id s g a, c.foot i := by
  constructor
  · rintro (rfl | h | h)
    · exact ⟨_, List.mem_cons_self .., rfl⟩
    · exact ⟨_, List.mem_cons_of_mem _ (List.mem_cons_of_mem _ (List.mem_cons_self ..)), h⟩
    · exact ⟨_, List.mem_cons_of_mem _ (List.mem_cons_self ..), h⟩
  · rintro ⟨c, hc, hi⟩
    simp only [lpart, List.mem_cons, List.not_mem_nil, or_false] at hc
    rcases hc with rfl | rfl | rfl
    · exact .inl hi
    · exact .inr (.inr hi)
    · exact .inr (.inl hi)
theorem LX.opn {id : Nat} {s : Md.Lx} {g : Nat × Nat} {R : List Ck} {h : Heap} (hs : Sat h (LX id s g :: R)) : ∃ ti os, os.map Prod.fst = s.out ∧ Sat h (.obj id (lcell s ti g.1 g.2 os) :: .own g.2 1 (s.text.map I32) :: .own g.1 10 (os.map encT) :: R) := by
  unfold LX at hs
  obtain ⟨a, h1, h2⟩ := Sat.opn hs
  exact ⟨a.1, a.2, h1, h2⟩
theorem LX.cls {id to tt ti : Nat} {s : Md.Lx} {os : List (Md.Tok × Nat)} {R : List Ck} {h : Heap} (hs : Sat h (.obj id (lcell s ti to tt os) :: .own tt 1 (s.text.map I32) :: .own to 10 (os.map encT) :: R)) (ho : os.map Prod.fst = s.out) : Sat h (LX id s (to, tt) :: R) := by
  unfold LX
  exact Sat.cls (f := lpart id s (to, tt)) (a := (ti, os)) (R := R) hs ho lfoot_iff
section
variable {D : DProg}
theorem F.lx {id : Nat} {s : Md.Lx} {g : Nat × Nat} {R : List Ck} {f : Nat} {args : List DV} {Q : DV → List Ck → Prop} (hF : ∀ ti os, os.map Prod.fst = s.out → F D f args (.obj id (lcell s ti g.1 g.2 os) :: .own g.2 1 (s.text.map I32) :: .own g.1 10 (os.map encT) :: R) Q) : F D f args (LX id s g :: R) Q := fun h hs =>
  let ⟨ti, os, ho, hs'⟩ := LX.opn hs; hF ti os ho h hs'
theorem LX.cell {id : Nat} {s : Md.Lx} {g : Nat × Nat} {cs : List Ck} (hm : Me (LX id s g) cs) {h : Heap} (hs : Sat h cs) : ∃ ti os, os.map Prod.fst = s.out ∧ h.objs.get id = some (lcell s ti g.1 g.2 os) := by
  obtain ⟨R, h1, _⟩ := hm.upd.rem
  obtain ⟨ti, os, ho, hs'⟩ := LX.opn (hs.perm h1)
  exact ⟨ti, os, ho, hs'.obj .head⟩
theorem cut_one {cs : List DV} {off : Nat} {v : DV} (h : cs[off]? = some v) : (cut cs off 1).bind (mkv none) = some v := (LDv.one h).ok (sh := none)
theorem LX.ldPos {id : Nat} {s : Md.Lx} {g : Nat × Nat} {cs : List Ck} (hm : Me (LX id s g) cs) : LD cs none (.ptr id 1) (.int .i64 (s.pos : Nat)) := .sem fun h hs => by
  obtain ⟨ti, os, _, e⟩ := LX.cell hm hs; simp only [loadD, e]; exact cut_one rfl
theorem LX.ldWay {id : Nat} {s : Md.Lx} {g : Nat × Nat} {cs : List Ck} (hm : Me (LX id s g) cs) : LD cs none (.ptr id 2) (.int .i64 s.way) := .sem fun h hs => by
  obtain ⟨ti, os, _, e⟩ := LX.cell hm hs; simp only [loadD, e]; exact cut_one rfl
theorem LX.ldLast {id : Nat} {s : Md.Lx} {g : Nat × Nat} {cs : List Ck} (hm : Me (LX id s g) cs) : LD cs none (.ptr id 3) (.str s.last) := .sem fun h hs => by
  obtain ⟨ti, os, _, e⟩ := LX.cell hm hs; simp only [loadD, e]; exact cut_one rfl
theorem LX.ldRoom {id : Nat} {s : Md.Lx} {g : Nat × Nat} {cs : List Ck} (hm : Me (LX id s g) cs) : LD cs none (.ptr id 4) (.bool s.room) := .sem fun h hs => by
  obtain ⟨ti, os, _, e⟩ := LX.cell hm hs; simp only [loadD, e]; exact cut_one rfl
theorem LX.ldDone {id : Nat} {s : Md.Lx} {g : Nat × Nat} {cs : List Ck} (hm : Me (LX id s g) cs) : LD cs none (.ptr id 7) (.bool s.done) := .sem fun h hs => by
  obtain ⟨ti, os, _, e⟩ := LX.cell hm hs; simp only [loadD, e]; exact cut_one rfl
theorem LX.st {id off : Nat} {s s' : Md.Lx} {g : Nat × Nat} {cs cs' : List Ck} {v : DV} (hu : Upd1 (LX id s g) (LX id s' g) cs cs') (ht : s'.text = s.text) (ho : s'.out = s.out)
    (hv : v.cells = [v] ∧ v.okv = true) (hlt : off < 8) (hw : ∀ ti os, (lcell s ti g.1 g.2 os, lcell s' ti g.1 g.2 os) = (.cells [.lst ti (zOf ti 1) (s.inp.map I32), .int .i64 (s.pos : Nat), .int .i64 s.way, .str s.last, .bool s.room, .lst g.1 (zOf g.1 10) (os.map encT), .lst g.2 (zOf g.2 1) (s.text.map I32), .bool s.done] none, .cells (overwrite [.lst ti (zOf ti 1) (s.inp.map I32), .int .i64 (s.pos : Nat), .int .i64 s.way, .str s.last, .bool s.room, .lst g.1 (zOf g.1 10) (os.map encT), .lst g.2 (zOf g.2 1) (s.text.map I32), .bool s.done] off [v]) none)) : StS cs 1 id off v cs' := by
  refine ⟨fun h hs => ?_⟩
  obtain ⟨R, h1, h2⟩ := hu.rem
  obtain ⟨ti, os, hos, hs'⟩ := LX.opn (hs.perm h1)
  have e := hs'.obj .head
  obtain ⟨w1, w2⟩ := Prod.mk.inj (hw ti os)
  refine ⟨h.put id (lcell s' ti g.1 g.2 os), ?_, ?_⟩
  · simp only [storeD, e]
    rw [if_pos ⟨by rw [hv.1]; rfl, by simp only [List.length_cons, List.length_nil]; omega, hv.2⟩, hv.1, w2]
  · have hp := hs'.put (o' := lcell s' ti g.1 g.2 os) .head
    rw [← ht] at hp
    exact (LX.cls hp (by rw [ho]; exact hos)).perm h2.symm
theorem LX.stPos {id : Nat} {s : Md.Lx} {g : Nat × Nat} {cs cs' : List Ck} (n : Nat) {x : Int} (hx : x = (s.pos : Int) + (n : Int)) (hu : Upd1 (LX id s g) (LX id (s.adv n) g) cs cs') : StS cs 1 id 1 (.int .i64 x) cs' := by
  subst hx; exact LX.st hu rfl rfl ⟨rfl, rfl⟩ (by omega) (fun _ _ => rfl)
theorem LX.stPos2 {id : Nat} {s : Md.Lx} {g : Nat × Nat} {cs cs' : List Ck} (a b : Nat) (hu : Upd1 (LX id s g) (LX id (s.adv (a + b)) g) cs cs') : StS cs 1 id 1 (.int .i64 ((s.pos : Int) + ((a : Int) + (b : Int)))) cs' := LX.stPos (a + b) (by omega) hu
theorem LX.stWay {id : Nat} {s : Md.Lx} {g : Nat × Nat} {cs cs' : List Ck} {x : Int} (hu : Upd1 (LX id s g) (LX id { s with way := x } g) cs cs') : StS cs 1 id 2 (.int .i64 x) cs' := LX.st hu rfl rfl ⟨rfl, rfl⟩ (by omega) (fun _ _ => rfl)
theorem LX.stLast {id : Nat} {s : Md.Lx} {g : Nat × Nat} {cs cs' : List Ck} {x : Md.Str} (hu : Upd1 (LX id s g) (LX id { s with last := x } g) cs cs') : StS cs 1 id 3 (.str x) cs' := LX.st hu rfl rfl ⟨rfl, rfl⟩ (by omega) (fun _ _ => rfl)
theorem LX.stRoom {id : Nat} {s : Md.Lx} {g : Nat × Nat} {cs cs' : List Ck} {x : Bool} (hu : Upd1 (LX id s g) (LX id { s with room := x } g) cs cs') : StS cs 1 id 4 (.bool x) cs' := LX.st hu rfl rfl ⟨rfl, rfl⟩ (by omega) (fun _ _ => rfl)
theorem LX.stDone {id : Nat} {s : Md.Lx} {g : Nat × Nat} {cs cs' : List Ck} {x : Bool} (hu : Upd1 (LX id s g) (LX id { s with done := x } g) cs cs') : StS cs 1 id 7 (.bool x) cs' := LX.st hu rfl rfl ⟨rfl, rfl⟩ (by omega) (fun _ _ => rfl)
/-- The text is laid aside. -/
theorem LX.stTextNil {id : Nat} {s : Md.Lx} {g : Nat × Nat} {cs cs' : List Ck} (hu : Upd1 (LX id s g) (LX id s.clr (g.1, 0)) cs cs') : StS cs 1 id 6 (.lst 0 0 []) (.own g.2 1 (s.text.map I32) :: cs') := by
  refine ⟨fun h hs => ?_⟩
  obtain ⟨R, h1, h2⟩ := hu.rem
  obtain ⟨ti, os, hos, hs'⟩ := LX.opn (hs.perm h1)
  have e := hs'.obj .head
  refine ⟨h.put id (lcell s.clr ti g.1 0 os), ?_, ?_⟩
  · simp only [storeD, e]
    rw [if_pos ⟨rfl, by simp only [List.length_cons, List.length_nil, DV.cells]; omega, rfl⟩]; rfl
  · have hp := (hs'.put (o' := lcell s.clr ti g.1 0 os) .head).nilOwn 1
    have hp2 := hp.perm (cs' := .obj id (lcell s.clr ti g.1 0 os) :: .own 0 1 [] :: .own g.1 10 (os.map encT) :: .own g.2 1 (s.text.map I32) :: R) ((List.Perm.swap ..).trans ((((List.Perm.swap ..)).cons _).cons _))
    exact (LX.cls (s := s.clr) hp2 hos).perm ((List.Perm.swap ..).trans (h2.symm.cons _))
/-- It is taken up again. -/
theorem LX.stTextBack {id tt : Nat} {s : Md.Lx} {g : Nat × Nat} {text : List Int} {cs c1 cs' : List Ck} (hr : Rem (.own tt 1 (text.map I32)) cs c1) (hu : Upd1 (LX id s g) (LX id { s with text := text } (g.1, tt)) c1 cs') : StS cs 1 id 6 (.lst tt (zOf tt 1) (text.map I32)) cs' := by
  have hrm : ∀ {c : Ck} {a b : List Ck}, Rem c a b → a.Perm (c :: b) := by
    intro c a b hm
    induction hm with
    | head => exact .refl _
    | tail _ ih => exact (ih.cons _).trans (.swap ..)
  refine ⟨fun h hs => ?_⟩
  obtain ⟨R, h1, h2⟩ := hu.rem
  have hs0 := hs.perm ((hrm hr).trans ((h1.cons _).trans (.swap ..)))
  obtain ⟨ti, os, hos, hs'⟩ := LX.opn hs0
  have e := hs'.obj .head
  refine ⟨h.put id (lcell { s with text := text } ti g.1 tt os), ?_, ?_⟩
  · simp only [storeD, e]
    rw [if_pos ⟨rfl, by simp only [List.length_cons, List.length_nil, DV.cells]; omega, rfl⟩]; rfl
  · have hp := (hs'.put (o' := lcell { s with text := text } ti g.1 tt os) .head).sub (cs' := .obj id (lcell { s with text := text } ti g.1 tt os) :: .own g.1 10 (os.map encT) :: .own tt 1 (text.map I32) :: R) ((List.sublist_cons_self ..).cons_cons _)
    exact (LX.cls (s := { s with text := text }) (hp.perm ((List.Perm.swap ..).cons _)) hos).perm h2.symm
/-- A function whose walk sees the lexer's cells. -/
theorem F.lxG {α : Type} {ga : α → Nat × Nat} {id : Nat} {s s' : Md.Lx} {g : Nat × Nat} {f : Nat} {args : List DV} {cs : List Ck} {cs2 : α → List Ck} {P : α → DV → Prop} (hu : Upd (LX id s g) (fun a => LX id s' (ga a)) cs cs2)
    (hF : ∀ R ti os, os.map Prod.fst = s.out → F D f args (.obj id (lcell s ti g.1 g.2 os) :: .own g.2 1 (s.text.map I32) :: .own g.1 10 (os.map encT) :: R) (fun v cs' => Hold (∃ a ti' os', os'.map Prod.fst = s'.out ∧ P a v ∧ (.obj id (lcell s' ti' (ga a).1 (ga a).2 os') :: .own (ga a).2 1 (s'.text.map I32) :: .own (ga a).1 10 (os'.map encT) :: R) = cs'))) :
    F D f args cs (fun v cs' => Hold (∃ a, P a v ∧ cs2 a = cs')) :=
  F.atG hu fun R => F.lx fun ti os ho => F.conv (hF R ti os ho) fun v cs' hq =>
    let ⟨a, ti', os', h1, h2, h3⟩ := hq.out
    ⟨LX id s' (ga a) :: R, fun h hs => LX.cls (s := s') (to := (ga a).1) (tt := (ga a).2) (ti := ti') (by rw [h3]; exact hs) h1, Hold.mk ⟨a, h2, rfl⟩⟩
/-- A call from a walk that sees the cells, of a function that takes the lexer az a whole. -/
theorem F.clG {α : Type} {ga : α → Nat × Nat} {id ti to tt : Nat} {s s' : Md.Lx} {os : List (Md.Tok × Nat)} {f : Nat} {args : List DV} {cs c1 c2 R : List Ck} {P : α → DV → Prop} (ho : os.map Prod.fst = s.out)
    (h1 : Rem (.obj id (lcell s ti to tt os)) cs c1) (h2 : Rem (.own tt 1 (s.text.map I32)) c1 c2) (h3 : Rem (.own to 10 (os.map encT)) c2 R)
    (hF : F D f args (LX id s (to, tt) :: R) (fun v cs' => Hold (∃ a, P a v ∧ LX id s' (ga a) :: R = cs'))) :
    F D f args cs (fun v cs' => Hold (∃ ti a os', os'.map Prod.fst = s'.out ∧ P a v ∧ (.obj id (lcell s' ti (ga a).1 (ga a).2 os') :: .own (ga a).2 1 (s'.text.map I32) :: .own (ga a).1 10 (os'.map encT) :: R) = cs')) := fun h hs => by
  have hr : ∀ {c : Ck} {a b : List Ck}, Rem c a b → a.Perm (c :: b) := by
    intro c a b hm
    induction hm with
    | head => exact .refl _
    | tail _ ih => exact (ih.cons _).trans (.swap ..)
  have hp : cs.Perm (.obj id (lcell s ti to tt os) :: .own tt 1 (s.text.map I32) :: .own to 10 (os.map encT) :: R) :=
    (hr h1).trans (((hr h2).trans ((hr h3).cons _)).cons _)
  obtain ⟨v, h', cs', r1, r2, r3⟩ := hF h (LX.cls (hs.perm hp) ho)
  obtain ⟨a, q1, q2⟩ := r3.out
  subst q2
  obtain ⟨ti', os', o1, o2⟩ := LX.opn r2
  exact ⟨v, h', _, r1, o2, Hold.mk ⟨ti', a, os', o1, q1, rfl⟩⟩
theorem LX.ldText {id : Nat} {s : Md.Lx} {g : Nat × Nat} {cs : List Ck} (hm : Me (LX id s g) cs) : LD cs none (.ptr id 6) (.lst g.2 (zOf g.2 1) (s.text.map I32)) := .sem fun h hs => by
  obtain ⟨ti, os, _, e⟩ := LX.cell hm hs; simp only [loadD, e]; exact cut_one rfl
theorem RR.lxLd {id off : Nat} {d : Nat} {x : Opd} {q : Option (Nat × Bool)} {os : List ROp} {k : List It} {nt : Nat} {es : List En} {ds : List DDef} {ir : Option Nat} {cs : List Ck} {Q : DX → St → List Ck → Prop} {A : List (Nat × Bool)} {p : Bool} {β : Type} (w : β → DV)
    (hg : gate es 12 q = some (A, p)) (hl : lo D es A x = some (.ptr id off)) (hd : Nat.blt d nt = true) (hw : ∀ h, Sat h cs → ∃ b, loadD h none (.ptr id off) = some (w b))
    (hr : ∀ b, RR D (.ops os :: k) ⟨nt, ⟨d, q, w b⟩ :: es, ds, ir⟩ cs Q) : RR D (.ops (⟨some d, .load none x, q, []⟩ :: os) :: k) ⟨nt, es, ds, ir⟩ cs Q := .sem fun fr h ha hs => by
  obtain ⟨b, hb⟩ := hw h hs
  have hgo := gate_ok ha.es hg
  have hdl : d < fr.tmps.length := by rw [ha.len]; exact Nat.le_of_ble_eq_true hd
  cases hwt : wantedG q fr with
  | true =>
    obtain ⟨hp, hA⟩ := hgo.1 hwt
    have e1 := lo_ok (D := D) ha.es hA hl
    have he : evalOp D fr h (.load none x) = some (.val (w b)) := by simp only [evalOp, e1, hb, Option.map_some]
    refine WpOps.op (v := w b) (h1 := h) hwt he rfl rfl ((hr b).sound (fr.put (some d) (w b)) h ⟨?_, ?_, ha.ds, ha.ir⟩ hs)
    · show (fr.tmps.set d (w b)).length = _; rw [List.length_set]; exact ha.len
    · cases q with
      | none => exact ha.es.put hdl rfl
      | some tb => exact ha.es.putG hdl (fun _ => rfl) (fun hne => absurd (wanted_bool.1 hwt) hne)
  | false =>
    refine WpOps.off hwt ((hr b).sound (fr.put (some d) .undef) h ⟨?_, ?_, ha.ds, ha.ir⟩ hs)
    · show (fr.tmps.set d .undef).length = _; rw [List.length_set]; exact ha.len
    · cases q with
      | none => cases hwt
      | some tb => exact ha.es.putG hdl (fun e => by rw [wanted_bool.2 e] at hwt; cases hwt) (fun _ => rfl)
theorem RR.lxIn {id : Nat} {s : Md.Lx} {g : Nat × Nat} {d : Nat} {x : Opd} {q : Option (Nat × Bool)} {os : List ROp} {k : List It} {nt : Nat} {es : List En} {ds : List DDef} {ir : Option Nat} {cs : List Ck} {Q : DX → St → List Ck → Prop} {A : List (Nat × Bool)} {p : Bool}
    (hg : gate es 12 q = some (A, p)) (hl : lo D es A x = some (.ptr id 0)) (hd : Nat.blt d nt = true) (hm : Me (LX id s g) cs)
    (hr : ∀ ti, RR D (.ops os :: k) ⟨nt, ⟨d, q, .lst ti (zOf ti 1) (s.inp.map I32)⟩ :: es, ds, ir⟩ cs Q) : RR D (.ops (⟨some d, .load none x, q, []⟩ :: os) :: k) ⟨nt, es, ds, ir⟩ cs Q :=
  RR.lxLd (fun ti => .lst ti (zOf ti 1) (s.inp.map I32)) hg hl hd (fun h hs => by
    obtain ⟨ti, os, _, e⟩ := LX.cell hm hs
    exact ⟨ti, by simp only [loadD, e]; exact cut_one rfl⟩) hr
theorem RR.lxOut {id : Nat} {s : Md.Lx} {g : Nat × Nat} {d : Nat} {x : Opd} {q : Option (Nat × Bool)} {os : List ROp} {k : List It} {nt : Nat} {es : List En} {ds : List DDef} {ir : Option Nat} {cs : List Ck} {Q : DX → St → List Ck → Prop} {A : List (Nat × Bool)} {p : Bool}
    (hg : gate es 12 q = some (A, p)) (hl : lo D es A x = some (.ptr id 5)) (hd : Nat.blt d nt = true) (hm : Me (LX id s g) cs)
    (hr : ∀ l : { l : List (Md.Tok × Nat) // l.map Prod.fst = s.out }, RR D (.ops os :: k) ⟨nt, ⟨d, q, .lst g.1 (zOf g.1 10) (l.1.map encT)⟩ :: es, ds, ir⟩ cs Q) : RR D (.ops (⟨some d, .load none x, q, []⟩ :: os) :: k) ⟨nt, es, ds, ir⟩ cs Q :=
  RR.lxLd (fun l : { l : List (Md.Tok × Nat) // l.map Prod.fst = s.out } => .lst g.1 (zOf g.1 10) (l.1.map encT)) hg hl hd (fun h hs => by
    obtain ⟨ti, os, ho, e⟩ := LX.cell hm hs
    exact ⟨⟨os, ho⟩, by simp only [loadD, e]; exact cut_one rfl⟩) hr
/-- Tokens are taken off. -/
theorem LX.stOut {id : Nat} {s : Md.Lx} {g : Nat × Nat} {l : List (Md.Tok × Nat)} {cs cs' : List Ck} (hu : Upd1 (LX id s g) (LX id { s with out := l.map Prod.fst } g) cs cs') (hl : l.length ≤ s.out.length) : StS cs 1 id 5 (.lst g.1 (zOf g.1 10) (l.map encT)) cs' := by
  refine ⟨fun h hs => ?_⟩
  obtain ⟨R, h1, h2⟩ := hu.rem
  obtain ⟨ti, os, hos, hs'⟩ := LX.opn (hs.perm h1)
  have e := hs'.obj .head
  refine ⟨h.put id (lcell { s with out := l.map Prod.fst } ti g.1 g.2 l), ?_, ?_⟩
  · simp only [storeD, e]
    rw [if_pos ⟨rfl, by simp only [List.length_cons, List.length_nil, DV.cells]; omega, rfl⟩]; rfl
  · have hp := hs'.put (o' := lcell { s with out := l.map Prod.fst } ti g.1 g.2 l) .head
    have hp2 := hp.upd (h' := h.put id (lcell { s with out := l.map Prod.fst } ti g.1 g.2 l)) (c := .own g.1 10 (os.map encT)) (n := .own g.1 10 (l.map encT)) (.tail (.tail .head)) (Nat.le_refl _) (by
        rcases hp.get (.tail (.tail .head)) with ⟨h0, hx⟩ | hx
        · left
          refine ⟨h0, ?_⟩
          have h3 : os = [] := List.map_eq_nil_iff.1 hx
          have h4 : s.out.length = 0 := by rw [← hos, h3]; rfl
          have h5 : l = [] := List.eq_nil_of_length_eq_zero (by omega)
          rw [h5]; rfl
        · exact .inr hx) (fun i hi => (hp.ok _ (List.mem_cons_of_mem _ (List.mem_cons_of_mem _ (List.mem_cons_self ..)))).2 i hi) (fun i hi => .inl hi) (fun i _ _ => ⟨rfl, rfl⟩)
    exact (LX.cls (s := { s with out := l.map Prod.fst }) hp2 rfl).perm h2.symm
end
end Go.Dm
/- What the lexer's small functions do. -/
namespace Go.Proofs.YticnenofiibpgaaDoor.Code
open Go.Dm Go.Dm.C
set_option linter.unusedSimpArgs false
set_option linter.unusedVariables false
set_option linter.unnecessarySimpa false
set_option maxRecDepth 10000
attribute [local irreducible] Go.Dm.F Go.Dm.RS Go.Dm.Y Go.Dm.FD Go.Dm.FZ1 Go.Dm.Hold
variable {id : Nat} {s : Md.Lx} {g : Nat × Nat} {cs : List Ck}
theorem getD_eof {l : List Int} {n : Nat} (h : n < l.length) : l.getD n default = l.getD n (-1) := by
  simp [List.getD_eq_getElem?_getD, List.getElem?_eq_getElem h]
theorem peek_F {n : Nat} (hm : Me (LX id s g) cs) (hb : s.inp.length ≤ 1000000000 ∧ s.pos ≤ 100000000000) (hn : n ≤ 100000000000) : F D 75 [.ptr id 0, .int .i64 (n : Nat)] cs (fun v cs' => v = .int .i32 (s.pk n) ∧ cs = cs') := by
  refine F.atM hm fun R => F.lx fun ti os ho => F.conv (P := fun v cs' => v = .int .i32 (s.pk n) ∧ (.obj id (lcell s ti g.1 g.2 os) :: .own g.2 1 (s.text.map I32) :: .own g.1 10 (os.map encT) :: R) = cs') ?_ (fun v cs' ⟨h1, h2⟩ => ⟨_, fun h hs => LX.cls (h2 ▸ hs) ho, h1, rfl⟩)
  refine F.of rfl rfl rfl ?_
  repeat' first | exact arI | refine Pst.mk ⟨?_, rfl⟩ kk | constructor | (refine fun _ _ (hq : Hold _) => ?_; replace hq := hq.out; obtain ⟨_, rfl, rfl⟩ := hq) | (refine fun _ _ (hq : Hold _) => ?_; replace hq := hq.out; obtain ⟨_, _, rfl, rfl⟩ := hq) | rintro _ _ ⟨rfl, rfl⟩ | rintro _ _ ⟨_, rfl, rfl⟩ | rintro _ _ ⟨_, _, rfl, rfl⟩ | (refine fun (hc : _ = _) => ?_; (try simp only [BB] at hc)) | refine fun (_ : Nat) => ?_ | refine fun (_ : _ ≤ _) => ?_ | refine fun (_ : _ < _) => ?_
  · rw [Md.Lx.pk, List.getD_eq_getElem?_getD, List.getElem?_eq_none (by omega)]; rfl
  · rw [Md.Lx.pk, ← getD_eof (by omega)]
    rw [show ((s.pos : Int) + (n : Int)).toNat = s.pos + n by omega]
theorem peek0_F (hm : Me (LX id s g) cs) (hb : s.inp.length ≤ 1000000000 ∧ s.pos ≤ 100000000000) : F D 75 [.ptr id 0, .int .i64 0] cs (fun v cs' => v = .int .i32 (s.pk 0) ∧ cs = cs') := peek_F (n := 0) hm hb (by omega)
theorem peek1_F (hm : Me (LX id s g) cs) (hb : s.inp.length ≤ 1000000000 ∧ s.pos ≤ 100000000000) : F D 75 [.ptr id 0, .int .i64 1] cs (fun v cs' => v = .int .i32 (s.pk 1) ∧ cs = cs') := peek_F (n := 1) hm hb (by omega)
theorem peek6_F (hm : Me (LX id s g) cs) (hb : s.inp.length ≤ 1000000000 ∧ s.pos ≤ 100000000000) : F D 75 [.ptr id 0, .int .i64 6] cs (fun v cs' => v = .int .i32 (s.pk 6) ∧ cs = cs') := peek_F (n := 6) hm hb (by omega)
theorem next_F {cs2 : List Ck} (hu : Upd1 (LX id s g) (LX id (s.adv 1) g) cs cs2) (hb : s.inp.length ≤ 1000000000 ∧ s.pos ≤ 100000000000) : F D 68 [.ptr id 0] cs (fun v cs' => v = .int .i32 (s.pk 0) ∧ cs2 = cs') := by
  refine F.at1 hu fun R => F.of rfl rfl rfl ?_
  repeat' first | (show LD _ _ _ _; first | exact LX.ldPos kk | exact LX.ldWay kk | exact LX.ldLast kk | exact LX.ldRoom kk | exact LX.ldDone kk | exact LX.ldText kk) | (apply RR.lxIn; exact rfl; exact rfl; exact rfl; exact kk; refine fun _ => ?_) | (apply RR.lxOut; exact rfl; exact rfl; exact rfl; exact kk; refine fun _ => ?_) | (apply RR.storeS; exact rfl; exact rfl; first | exact LX.stPos 1 rfl kk | exact LX.stPos 2 rfl kk | exact LX.stPos 3 rfl kk | exact LX.stPos 6 rfl kk | exact LX.stPos 7 rfl kk | exact LX.stPos _ rfl kk | exact LX.stPos2 1 _ kk | exact LX.stPos2 2 _ kk | exact LX.stWay kk | exact LX.stLast kk | exact LX.stRoom kk | exact LX.stDone kk; exact rfl) | exact peek0_F kk hb | exact arI | refine Pst.mk ⟨?_, rfl⟩ kk | constructor | (refine fun _ _ (hq : Hold _) => ?_; replace hq := hq.out; obtain ⟨_, rfl, rfl⟩ := hq) | (refine fun _ _ (hq : Hold _) => ?_; replace hq := hq.out; obtain ⟨_, _, rfl, rfl⟩ := hq) | rintro _ _ ⟨rfl, rfl⟩ | rintro _ _ ⟨_, rfl, rfl⟩ | rintro _ _ ⟨_, _, rfl, rfl⟩ | (refine fun (hc : _ = _) => ?_; (try simp only [BB] at hc)) | refine fun (_ : Nat) => ?_ | refine fun (_ : _ ≤ _) => ?_ | refine fun (_ : _ < _) => ?_
theorem back_F {cs2 : List Ck} (hu : Upd1 (LX id (s.adv 1) g) (LX id s g) cs cs2) (hb : s.pos ≤ 100000000000) : F D 90 [.ptr id 0] cs (fun v cs' => v = .tup [] ∧ cs2 = cs') := by
  refine F.at1 hu fun R => F.of rfl rfl rfl ?_
  repeat' first | (show LD _ _ _ _; first | exact LX.ldPos kk | exact LX.ldWay kk | exact LX.ldLast kk | exact LX.ldRoom kk | exact LX.ldDone kk | exact LX.ldText kk) | (apply RR.lxIn; exact rfl; exact rfl; exact rfl; exact kk; refine fun _ => ?_) | (apply RR.lxOut; exact rfl; exact rfl; exact rfl; exact kk; refine fun _ => ?_) | (refine RR.storeS rfl rfl (LX.st (s' := s) (.head) rfl rfl ⟨rfl, rfl⟩ (by omega) (fun _ _ => ?_)) rfl ?_) | exact arI | refine Pst.mk ⟨?_, rfl⟩ kk | constructor | (refine fun _ _ (hq : Hold _) => ?_; replace hq := hq.out; obtain ⟨_, rfl, rfl⟩ := hq) | (refine fun _ _ (hq : Hold _) => ?_; replace hq := hq.out; obtain ⟨_, _, rfl, rfl⟩ := hq) | rintro _ _ ⟨rfl, rfl⟩ | rintro _ _ ⟨_, rfl, rfl⟩ | rintro _ _ ⟨_, _, rfl, rfl⟩ | (refine fun (hc : _ = _) => ?_; (try simp only [BB] at hc)) | refine fun (_ : Nat) => ?_ | refine fun (_ : _ ≤ _) => ?_ | refine fun (_ : _ < _) => ?_
  · exact Arith.mk fun _ => by simp only [Md.Lx.adv]; omega
  · simp [overwrite, Md.Lx.adv]
theorem say_take {rs : List Int} {i : Nat} (h : i < rs.length) : (s.say (rs.take (i + 1))).text = if rs.getD i default = -1 then (s.say (rs.take i)).text else (s.say (rs.take i)).text ++ [rs.getD i default] := by
  have e : rs.getD i default = rs[i] := by simp [List.getD_eq_getElem?_getD, List.getElem?_eq_getElem h]
  simp only [Md.Lx.say, List.take_add_one, List.getElem?_eq_getElem h, Option.toList_some, List.filter_append, e]
  split
  · rename_i h1; simp [h1]
  · rename_i h1
    have : ([rs[i]].filter fun x => x != -1) = [rs[i]] := by simp [h1]
    rw [this, List.append_assoc]
theorem say_F {rs : List Int} {xs : List DV} {t z : Nat} {cs2 : Nat → List Ck} (hz : z = zOf t 1) (hx : MapL I32 xs rs) (hu : Upd (LX id s g) (fun a => LX id (s.say rs) (g.1, a)) cs cs2) (hb : s.text.length ≤ 100000000000 ∧ rs.length ≤ 10000000000) :
    F D 74 [.ptr id 0, .lst t z xs] cs (fun v cs' => Hold (∃ a, v = .tup [] ∧ cs2 a = cs')) := by
  subst hz
  obtain rfl := hx.ok
  refine F.lxG (P := fun _ v => v = .tup []) hu fun R ti os ho => ?_
  refine F.of rfl rfl rfl ?_
  repeat' first | exact arI | refine Pst.mk ⟨?_, rfl⟩ kk | constructor | (refine fun _ _ (hq : Hold _) => ?_; replace hq := hq.out; obtain ⟨_, rfl, rfl⟩ := hq) | (refine fun _ _ (hq : Hold _) => ?_; replace hq := hq.out; obtain ⟨_, _, rfl, rfl⟩ := hq) | rintro _ _ ⟨rfl, rfl⟩ | rintro _ _ ⟨_, rfl, rfl⟩ | rintro _ _ ⟨_, _, rfl, rfl⟩ | (refine fun (hc : _ = _) => ?_; (try simp only [BB] at hc)) | refine fun (_ : Nat) => ?_ | refine fun (_ : _ ≤ _) => ?_ | refine fun (_ : _ < _) => ?_
  refine RS.loopW (α := Nat × Nat) (fun a => [(0, .ptr id 0), (6, .lst t (zOf t 1) (rs.map I32)), (7, .int .i64 rs.length), (8, .int .i64 (a.1 : Nat))]) (fun a => .obj id (lcell (s.say (rs.take a.1)) ti g.1 a.2 os) :: .own a.2 1 ((s.say (rs.take a.1)).text.map I32) :: .own g.1 10 (os.map encT) :: R)
    (fun a => a.1 ≤ rs.length) (fun a => rs.length - a.1) (0, g.2) (Nat.zero_le _) ⟨rfl, rfl, rfl, rfl, trivial⟩ (by simpa [Md.Lx.say] using KK.refl) ?_
  rintro ⟨i, tt⟩ h1 ih
  dsimp only [ents] at *
  have hst := fun h => say_take (s := s) (rs := rs) (i := i) h
  have hlen : (s.say (rs.take i)).text.length ≤ 110000000000 := by
    have h2 : ((rs.take i).filter (· != -1)).length ≤ (rs.take i).length := List.length_filter_le ..
    simp only [Md.Lx.say, List.length_append]
    rw [List.length_take] at h2
    omega
  repeat' first | exact arI | refine Pst.mk ⟨?_, rfl⟩ kk | constructor | (refine fun _ _ (hq : Hold _) => ?_; replace hq := hq.out; obtain ⟨_, rfl, rfl⟩ := hq) | (refine fun _ _ (hq : Hold _) => ?_; replace hq := hq.out; obtain ⟨_, _, rfl, rfl⟩ := hq) | rintro _ _ ⟨rfl, rfl⟩ | rintro _ _ ⟨_, rfl, rfl⟩ | rintro _ _ ⟨_, _, rfl, rfl⟩ | (refine fun (hc : _ = _) => ?_; (try simp only [BB] at hc)) | refine fun (_ : Nat) => ?_ | refine fun (_ : _ ≤ _) => ?_ | refine fun (_ : _ < _) => ?_
  · rename_i t9
    have e := hst (by omega)
    rw [if_neg hc] at e
    exact ih _ _ (i + 1, t9) (by dsimp only; omega) (by dsimp only; omega) ⟨rfl, rfl, rfl, rfl, trivial⟩ (by dsimp only [lcell]; rw [e]; exact kk)
  · have e := hst (by omega)
    rw [if_pos hc] at e
    exact ih _ _ (i + 1, tt) (by dsimp only; omega) (by dsimp only; omega) ⟨rfl, rfl, rfl, rfl, trivial⟩ (by dsimp only [lcell]; rw [e]; exact kk)
  · obtain rfl : i = rs.length := by omega
    rw [List.take_length]
    exact Pst.mk (.mk ⟨tt, ti, os, ho, rfl, rfl⟩) .refl
theorem flush_F {cs2 : Nat × Nat → List Ck} (hu : Upd (LX id s g) (fun a => LX id s.flush a) cs cs2) (hb : s.text.length ≤ 90000000000 ∧ s.out.length ≤ 1000000000) :
    F D 69 [.ptr id 0] cs (fun v cs' => Hold (∃ a, v = .tup [] ∧ cs2 a = cs')) := by
  refine F.lxG (P := fun _ v => v = .tup []) hu fun R ti os ho => ?_
  have hol : os.length ≤ 1000000000 := by rw [← List.length_map (f := Prod.fst), ho]; exact hb.2
  refine F.of rfl rfl rfl ?_
  repeat' first | exact encode_F rfl (by omega) | exact MapL.cons (y := (Md.textTok s.text, 0)) .nil | exact arI | refine Pst.mk ⟨?_, rfl⟩ kk | constructor | (refine fun _ _ (hq : Hold _) => ?_; replace hq := hq.out; obtain ⟨_, rfl, rfl⟩ := hq) | (refine fun _ _ (hq : Hold _) => ?_; replace hq := hq.out; obtain ⟨_, _, rfl, rfl⟩ := hq) | rintro _ _ ⟨rfl, rfl⟩ | rintro _ _ ⟨_, rfl, rfl⟩ | rintro _ _ ⟨_, _, rfl, rfl⟩ | (refine fun (hc : _ = _) => ?_; (try simp only [BB] at hc)) | refine fun (_ : Nat) => ?_ | refine fun (_ : _ ≤ _) => ?_ | refine fun (_ : _ < _) => ?_
  · rename_i t9
    have e : s.flush = { s with out := s.out ++ [Md.textTok s.text], text := [] } := by
      unfold Md.Lx.flush; rw [if_neg]; intro h; rw [h] at hc; simp at hc
    rw [e]
    exact Pst.nil 1 (Pst.mkP (.mk ⟨(t9, 0), ti, os ++ [(Md.textTok s.text, 0)], by simp [ho], rfl, rfl⟩) (.keep (.drop (.drop (.keep (.drop .refl))))) (.swap ..))
  · have e : s.flush = s := by
      unfold Md.Lx.flush; rw [if_pos]; exact List.eq_nil_of_length_eq_zero (by omega)
    rw [e]
    exact Pst.mk (.mk ⟨g, ti, os, ho, rfl, rfl⟩) .refl
theorem flush_inp : s.flush.inp = s.inp := by unfold Md.Lx.flush; split <;> rfl
theorem flush_pos : s.flush.pos = s.pos := by unfold Md.Lx.flush; split <;> rfl
theorem flush_way : s.flush.way = s.way := by unfold Md.Lx.flush; split <;> rfl
theorem flush_room : s.flush.room = s.room := by unfold Md.Lx.flush; split <;> rfl
theorem flush_last : s.flush.last = s.last := by unfold Md.Lx.flush; split <;> rfl
theorem flush_done : s.flush.done = s.done := by unfold Md.Lx.flush; split <;> rfl
theorem flush_text : s.flush.text = [] := by unfold Md.Lx.flush; split <;> simp_all
theorem flush_out : s.flush.out.length ≤ s.out.length + 1 := by unfold Md.Lx.flush; split <;> simp
theorem emit_F {t : Md.Tok} {ta : Nat} {xs : List DV} {cs2 : Nat × Nat → List Ck} (hx : xs = [.int .i64 t.kind, .str t.name, .lst ta (zOf ta 2) (t.attrs.map encA), .bool t.self, .str t.data, .str t.pub, .str t.sys, .bool t.hasPub, .bool t.hasSys, .bool t.quirks])
    (hu : Upd (LX id s g) (fun a => LX id (s.emit t) a) cs cs2) (hb : s.text.length ≤ 90000000000 ∧ s.out.length ≤ 100000000) :
    F D 107 [.ptr id 0, .agg xs] cs (fun v cs' => Hold (∃ a, v = .tup [] ∧ cs2 a = cs')) := by
  subst hx
  refine F.lxG (P := fun _ v => v = .tup []) hu fun R ti os ho => F.of rfl rfl rfl ?_
  have hlast : (s.emit t).last = if t.kind = 2 then t.name else s.last := by simp only [Md.Lx.emit, flush_last]
  have hol : ∀ l : List (Md.Tok × Nat), l.map Prod.fst = s.flush.out → l.length ≤ 200000000 := fun l h => by
    rw [← List.length_map (f := Prod.fst), h]; have := flush_out (s := s); omega
  repeat' first | exact F.clG ho kk kk kk (flush_F .head (by omega)) | (refine fun _ _ (hq : Hold _) => ?_; replace hq := hq.out; obtain ⟨ti2, g2, os2, ho2, rfl, rfl⟩ := hq; have hl2 := hol _ ho2) | exact MapL.cons (y := (t, ta)) .nil | exact arI | refine Pst.mk ⟨?_, rfl⟩ kk | constructor | (refine fun _ _ (hq : Hold _) => ?_; replace hq := hq.out; obtain ⟨_, rfl, rfl⟩ := hq) | (refine fun _ _ (hq : Hold _) => ?_; replace hq := hq.out; obtain ⟨_, _, rfl, rfl⟩ := hq) | rintro _ _ ⟨rfl, rfl⟩ | rintro _ _ ⟨_, rfl, rfl⟩ | rintro _ _ ⟨_, _, rfl, rfl⟩ | (refine fun (hc : _ = _) => ?_; (try simp only [BB] at hc)) | refine fun (_ : Nat) => ?_ | refine fun (_ : _ ≤ _) => ?_ | refine fun (_ : _ < _) => ?_
  · rename_i t9
    have e : s.emit t = { s.flush with last := t.name, out := s.flush.out ++ [t] } := by unfold Md.Lx.emit; rw [if_pos hc]
    rw [e]
    exact Pst.mk (.mk ⟨(t9, g2.2), ti2, os2 ++ [(t, ta)], by simp [ho2], rfl, rfl⟩) kk
  · rename_i t9
    have e : s.emit t = { s.flush with out := s.flush.out ++ [t] } := by unfold Md.Lx.emit; rw [if_neg hc]
    rw [e]
    exact Pst.mk (.mk ⟨(t9, g2.2), ti2, os2 ++ [(t, ta)], by simp [ho2], rfl, rfl⟩) kk
end Go.Proofs.YticnenofiibpgaaDoor.Code
/- What the lexer's looks ahead and small steps do. -/
namespace Go.Proofs.YticnenofiibpgaaDoor.Code
open Go.Dm Go.Dm.C
set_option linter.unusedSimpArgs false
set_option linter.unusedVariables false
set_option linter.unnecessarySimpa false
set_option maxRecDepth 10000
attribute [local irreducible] Go.Dm.F Go.Dm.RS Go.Dm.Y Go.Dm.FD Go.Dm.FZ1 Go.Dm.Hold
variable {id : Nat} {s : Md.Lx} {g : Nat × Nat} {cs : List Ck}
theorem dec_low {w : List UInt8} {i : Nat} (hw : w.all (fun b => decide (b.toNat < 128)) = true) (h : i < w.length) : Utf8.decode ⟨w.toArray⟩ i = ((w.getD i 0).toNat, 1) := by
  have hs : i < (⟨w.toArray⟩ : ByteArray).size := by simpa [ByteArray.size] using h
  have e : (⟨w.toArray⟩ : ByteArray)[i]'hs = w.getD i 0 := by
    show w.toArray[i]'_ = _
    simp [List.getD_eq_getElem?_getD, List.getElem?_eq_getElem h]
  have ha := List.all_eq_true.1 hw (w[i]) (List.getElem_mem h)
  rw [decode_ascii _ _ hs (by rw [e, List.getD_eq_getElem?_getD, List.getElem?_eq_getElem h]; simpa using ha), e]
theorem dec_pos (b : ByteArray) (i : Nat) : 1 ≤ (Utf8.decode b i).2 := by
  unfold Utf8.decode
  dsimp only
  repeat' split
  all_goals simp
theorem pk_rest (n : Nat) : s.pk n = s.rest.getD n (-1) := by
  simp [Md.Lx.pk, Md.Lx.rest, List.getD_eq_getElem?_getD, List.getElem?_drop]
theorem rest_adv (n : Nat) : (s.adv n).rest = s.rest.drop n := by simp [Md.Lx.rest, Md.Lx.adv, List.drop_drop]
theorem adv_adv (i j : Nat) : (s.adv i).adv j = s.adv (i + j) := by simp [Md.Lx.adv, Nat.add_assoc]
theorem adv_zero : s.adv 0 = s := rfl
theorem pk_adv (i n : Nat) : (s.adv i).pk n = s.pk (i + n) := by simp [Md.Lx.pk, Md.Lx.adv, Nat.add_assoc]
theorem rest_len : s.rest.length = s.inp.length - s.pos := by simp [Md.Lx.rest]
theorem rest_cons (h : s.pos < s.inp.length) : s.rest = s.pk 0 :: s.rest.drop 1 := by
  rw [pk_rest]
  unfold Md.Lx.rest
  rw [List.drop_drop, List.drop_eq_getElem_cons h]
  simp [List.getElem?_eq_getElem h]
theorem rest_nil (h : s.inp.length ≤ s.pos) : s.rest = [] := List.drop_eq_nil_of_le h
theorem pk_nil (h : s.inp.length ≤ s.pos) : s.pk 0 = -1 := by rw [pk_rest, rest_nil h]; rfl
theorem pk_nonneg (hn : ∀ r ∈ s.inp, 0 ≤ r) (h : s.pos < s.inp.length) : 0 ≤ s.pk 0 := by
  apply hn
  rw [Md.Lx.pk, Nat.add_zero, List.getD_eq_getElem?_getD, List.getElem?_eq_getElem h]
  exact List.getElem_mem _
theorem getD_head {l : List Int} : l.headD (-1) = l.getD 0 (-1) := by cases l <;> rfl
theorem head_drop (i : Nat) : (s.rest.drop i).headD (-1) = s.pk i := by rw [getD_head, pk_rest, getD_drop]
theorem drop_get {w : List UInt8} {i : Nat} (h : i < w.length) : w.drop i = w.getD i 0 :: w.drop (i + 1) := by
  rw [List.drop_eq_getElem_cons h, List.getD_eq_getElem?_getD, List.getElem?_eq_getElem h]; rfl
theorem stands_F {w : List UInt8} (hm : Me (LX id s g) cs) (hb : s.inp.length ≤ 1000000000 ∧ s.pos ≤ 100000000000) (hw : w.all (fun b => decide (b.toNat < 128)) = true) (hl : w.length ≤ 1000000000) : F D 101 [.ptr id 0, .str w] cs (fun v cs' => v = .bool (Md.stands w s.rest) ∧ cs = cs') := by
  refine F.atM hm fun R => F.of rfl rfl rfl ?_
  repeat' first | exact arI | refine Pst.mk ⟨?_, rfl⟩ kk | constructor | (refine fun _ _ (hq : Hold _) => ?_; replace hq := hq.out; obtain ⟨_, rfl, rfl⟩ := hq) | (refine fun _ _ (hq : Hold _) => ?_; replace hq := hq.out; obtain ⟨_, _, rfl, rfl⟩ := hq) | rintro _ _ ⟨rfl, rfl⟩ | rintro _ _ ⟨_, rfl, rfl⟩ | rintro _ _ ⟨_, _, rfl, rfl⟩ | (refine fun (hc : _ = _) => ?_; (try simp only [BB] at hc)) | refine fun (_ : Nat) => ?_ | refine fun (_ : _ ≤ _) => ?_ | refine fun (_ : _ < _) => ?_
  rename_i q hq
  refine RS.loopW (α := Nat) (fun i => [(0, .ptr id 0), (8, .ptr q 0)]) (fun i => .obj q (.siter w i) :: LX id s g :: R)
    (fun i => i ≤ w.length ∧ Md.stands (w.drop i) (s.rest.drop i) = Md.stands w s.rest) (fun i => w.length - i) 0 ⟨by simp, by simp⟩ ⟨rfl, rfl, trivial⟩ .refl ?_
  rintro i ⟨h1, h2⟩ ih
  dsimp only [ents] at *
  have hdec := fun h => dec_low (i := i) hw h
  have hst : i < w.length → Md.stands (w.drop i) (s.rest.drop i) = (Md.small (s.pk i) == Md.small ((w.getD i 0).toNat : Int) && Md.stands (w.drop (i + 1)) (s.rest.drop (i + 1))) := fun h => by
    rw [drop_get h]; simp only [Md.stands, head_drop, List.tail_drop]
  repeat' first | exact peek_F kk (by omega) (by omega) | exact small_F | exact arI | refine Pst.mk ⟨?_, rfl⟩ kk | constructor | (refine fun _ _ (hq : Hold _) => ?_; replace hq := hq.out; obtain ⟨_, rfl, rfl⟩ := hq) | (refine fun _ _ (hq : Hold _) => ?_; replace hq := hq.out; obtain ⟨_, _, rfl, rfl⟩ := hq) | rintro _ _ ⟨rfl, rfl⟩ | rintro _ _ ⟨_, rfl, rfl⟩ | rintro _ _ ⟨_, _, rfl, rfl⟩ | (refine fun (hc : _ = _) => ?_; (try simp only [BB] at hc)) | refine fun (_ : Nat) => ?_ | refine fun (_ : _ ≤ _) => ?_ | refine fun (_ : _ < _) => ?_
  · rw [hdec (by omega)] at hc
    rw [← h2, hst (by omega), beq_false_of_ne hc]; rfl
  · rw [hdec (by omega)] at hc ⊢
    refine ih _ _ (i + 1) ⟨by omega, ?_⟩ (by omega) ⟨rfl, rfl, trivial⟩ kk
    rw [← h2, hst (by omega)]; simp [hc]
  · cases hc
  · rw [← h2, List.drop_eq_nil_of_le (by omega)]; rfl
theorem exact_F {w : List UInt8} (hm : Me (LX id s g) cs) (hb : s.inp.length ≤ 1000000000 ∧ s.pos ≤ 100000000000) (hw : w.all (fun b => decide (b.toNat < 128)) = true) (hl : w.length ≤ 1000000000) : F D 94 [.ptr id 0, .str w] cs (fun v cs' => v = .bool (Md.exact w s.rest) ∧ cs = cs') := by
  refine F.atM hm fun R => F.of rfl rfl rfl ?_
  repeat' first | exact arI | refine Pst.mk ⟨?_, rfl⟩ kk | constructor | (refine fun _ _ (hq : Hold _) => ?_; replace hq := hq.out; obtain ⟨_, rfl, rfl⟩ := hq) | (refine fun _ _ (hq : Hold _) => ?_; replace hq := hq.out; obtain ⟨_, _, rfl, rfl⟩ := hq) | rintro _ _ ⟨rfl, rfl⟩ | rintro _ _ ⟨_, rfl, rfl⟩ | rintro _ _ ⟨_, _, rfl, rfl⟩ | (refine fun (hc : _ = _) => ?_; (try simp only [BB] at hc)) | refine fun (_ : Nat) => ?_ | refine fun (_ : _ ≤ _) => ?_ | refine fun (_ : _ < _) => ?_
  rename_i q hq
  refine RS.loopW (α := Nat) (fun i => [(0, .ptr id 0), (8, .ptr q 0)]) (fun i => .obj q (.siter w i) :: LX id s g :: R)
    (fun i => i ≤ w.length ∧ Md.exact (w.drop i) (s.rest.drop i) = Md.exact w s.rest) (fun i => w.length - i) 0 ⟨by simp, by simp⟩ ⟨rfl, rfl, trivial⟩ .refl ?_
  rintro i ⟨h1, h2⟩ ih
  dsimp only [ents] at *
  have hdec := fun h => dec_low (i := i) hw h
  have hst : i < w.length → Md.exact (w.drop i) (s.rest.drop i) = (s.pk i == ((w.getD i 0).toNat : Int) && Md.exact (w.drop (i + 1)) (s.rest.drop (i + 1))) := fun h => by
    rw [drop_get h]; simp only [Md.exact, head_drop, List.tail_drop]
  repeat' first | exact peek_F kk (by omega) (by omega) | exact arI | refine Pst.mk ⟨?_, rfl⟩ kk | constructor | (refine fun _ _ (hq : Hold _) => ?_; replace hq := hq.out; obtain ⟨_, rfl, rfl⟩ := hq) | (refine fun _ _ (hq : Hold _) => ?_; replace hq := hq.out; obtain ⟨_, _, rfl, rfl⟩ := hq) | rintro _ _ ⟨rfl, rfl⟩ | rintro _ _ ⟨_, rfl, rfl⟩ | rintro _ _ ⟨_, _, rfl, rfl⟩ | (refine fun (hc : _ = _) => ?_; (try simp only [BB] at hc)) | refine fun (_ : Nat) => ?_ | refine fun (_ : _ ≤ _) => ?_ | refine fun (_ : _ < _) => ?_
  · rw [hdec (by omega)] at hc
    rw [← h2, hst (by omega), beq_false_of_ne hc]; rfl
  · rw [hdec (by omega)] at hc ⊢
    refine ih _ _ (i + 1) ⟨by omega, ?_⟩ (by omega) ⟨rfl, rfl, trivial⟩ kk
    rw [← h2, hst (by omega)]; simp [hc]
  · cases hc
  · rw [← h2, List.drop_eq_nil_of_le (by omega)]; rfl
theorem blanksN_step (h : s.pos < s.inp.length) : Md.blanksN s.rest = if Md.blank (s.pk 0) = true then Md.blanksN (s.adv 1).rest + 1 else 0 := by
  rw [rest_cons h, rest_adv]
  simp only [Md.blanksN, List.takeWhile_cons]
  split <;> simp
theorem blanks_F {cs2 : List Ck} (hu : Upd1 (LX id s g) (LX id s.blanks g) cs cs2) (hb : s.inp.length ≤ 1000000000 ∧ s.pos ≤ 20000000000) : F D 113 [.ptr id 0] cs (fun v cs' => v = .tup [] ∧ cs2 = cs') := by
  refine F.at1 hu fun R => F.of rfl rfl rfl ?_
  repeat' first | exact arI | refine Pst.mk ⟨?_, rfl⟩ kk | constructor | (refine fun _ _ (hq : Hold _) => ?_; replace hq := hq.out; obtain ⟨_, rfl, rfl⟩ := hq) | (refine fun _ _ (hq : Hold _) => ?_; replace hq := hq.out; obtain ⟨_, _, rfl, rfl⟩ := hq) | rintro _ _ ⟨rfl, rfl⟩ | rintro _ _ ⟨_, rfl, rfl⟩ | rintro _ _ ⟨_, _, rfl, rfl⟩ | (refine fun (hc : _ = _) => ?_; (try simp only [BB] at hc)) | refine fun (_ : Nat) => ?_ | refine fun (_ : _ ≤ _) => ?_ | refine fun (_ : _ < _) => ?_
  refine RS.loopW (α := Nat) (fun i => [(0, .ptr id 0)]) (fun i => LX id (s.adv i) g :: R)
    (fun i => i + Md.blanksN (s.adv i).rest = Md.blanksN s.rest ∧ (i = 0 ∨ s.pos + i ≤ s.inp.length)) (fun i => s.inp.length - (s.pos + i)) 0 ⟨by simp [adv_zero], .inl rfl⟩ ⟨rfl, trivial⟩ .refl ?_
  rintro i ⟨h1, h2⟩ ih
  dsimp only [ents] at *
  have hp : (s.adv i).pos = s.pos + i := rfl
  have hq : (s.adv i).inp = s.inp := rfl
  have hst := fun h => blanksN_step (s := s.adv i) h
  have hnil := fun h => rest_nil (s := s.adv i) h
  have hpn := fun h => pk_nil (s := s.adv i) h
  rw [adv_adv] at hst
  rw [hp, hq] at hst hnil hpn
  repeat' first | (show LD _ _ _ _; first | exact LX.ldPos kk | exact LX.ldWay kk | exact LX.ldLast kk | exact LX.ldRoom kk | exact LX.ldDone kk | exact LX.ldText kk) | (apply RR.lxIn; exact rfl; exact rfl; exact rfl; exact kk; refine fun _ => ?_) | (apply RR.lxOut; exact rfl; exact rfl; exact rfl; exact kk; refine fun _ => ?_) | (apply RR.storeS; exact rfl; exact rfl; first | exact LX.stPos 1 rfl kk | exact LX.stPos 2 rfl kk | exact LX.stPos 3 rfl kk | exact LX.stPos 6 rfl kk | exact LX.stPos 7 rfl kk | exact LX.stPos _ rfl kk | exact LX.stPos2 1 _ kk | exact LX.stPos2 2 _ kk | exact LX.stWay kk | exact LX.stLast kk | exact LX.stRoom kk | exact LX.stDone kk; exact rfl) | exact peek0_F kk (by rw [hp, hq]; omega) | exact blank_F | exact arI | refine Pst.mk ⟨?_, rfl⟩ kk | constructor | (refine fun _ _ (hq : Hold _) => ?_; replace hq := hq.out; obtain ⟨_, rfl, rfl⟩ := hq) | (refine fun _ _ (hq : Hold _) => ?_; replace hq := hq.out; obtain ⟨_, _, rfl, rfl⟩ := hq) | rintro _ _ ⟨rfl, rfl⟩ | rintro _ _ ⟨_, rfl, rfl⟩ | rintro _ _ ⟨_, _, rfl, rfl⟩ | (refine fun (hc : _ = _) => ?_; (try simp only [BB] at hc)) | refine fun (_ : Nat) => ?_ | refine fun (_ : _ ≤ _) => ?_ | refine fun (_ : _ < _) => ?_
  · by_cases h : s.inp.length ≤ s.pos + i
    · rw [hpn h] at hc; cases hc
    · rw [hst (by omega), if_pos hc] at h1
      exact ih _ _ (i + 1) ⟨by omega, .inr (by omega)⟩ (by omega) ⟨rfl, trivial⟩ kk
  · have e : s.blanks = s.adv i := by
      by_cases h : s.inp.length ≤ s.pos + i
      · rw [hnil h] at h1; rw [Md.Lx.blanks, ← h1]; rfl
      · rw [hst (by omega), hc] at h1; rw [Md.Lx.blanks, ← h1]; rfl
    rw [e]; exact Pst.mk ⟨rfl, rfl⟩ .refl
end Go.Proofs.YticnenofiibpgaaDoor.Code
