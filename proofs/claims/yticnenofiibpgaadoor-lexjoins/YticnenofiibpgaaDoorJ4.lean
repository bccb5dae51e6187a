/- LexJoins returns true for every input: part 4 of the proof (several texts joined). -/
import Derived.Test.YticnenofiibpgaaDoorChecked
import Derived.KernelRfl
import Derived.Test.YticnenofiibpgaaDoorJ3
/- Functions of the program az code of the D-machine (2): PRINTED BY PROGRAM; each is checked to be what the program's own compiles to. -/
namespace Go.Proofs.YticnenofiibpgaaDoor.Code
set_option linter.unusedSimpArgs false
set_option linter.unusedVariables false
open Go.Dm Go.Dm.C
def cfg2 : Cfg := ⟨fun t => [3, 83].contains t, fun f => [26, 46, 57, 58, 59].contains f⟩
/-- text.Encode -/
def c_text_Encode : DFunc := ⟨17, 
(.seq 
(.region [v 2 (.mv (.c (.lst 0 0 [])))]) 
(.seq 
(.region [v 3 (.mv (.c (.lst 0 0 [])))]) 
(.seq 
(.seq 
(.region [m 6 0, v 7 (.len true (.t 6)), v 8 (.mv (.c (.int .i64 0)))]) 
(.block 0 
(.loop 
(.seq 
(.region [v 9 (.bin .lss .any (.t 8) (.t 7))]) 
(.seq 
(.cond (.t 9) .skip (.exit 0)) 
(.seq 
(.block 1 
(.seq 
(.region [v 10 (.iaddr 1 (.t 6) (.t 8)), v 11 (.load none (.t 10)), m 5 11]) 
(.region [m 12 3, m 13 5, v 14 (.call (.f 38) [(.t 12), (.t 13)] false), m 3 14]))) 
(.region [v 15 (.bin .add .any (.t 8) (.c (.int .i64 1))), m 8 15]))))))) 
(.seq 
(.region [m 16 3, m 2 16]) .ret)))),
 [.tmp 2]⟩
/-- text.Letter -/
def c_text_Letter : DFunc := ⟨17, 
(.seq 
(.region [v 2 (.mv (.c (.bool false)))]) 
(.seq 
(.region [m 3 0, v 4 (.bin .geq .any (.t 3) (.c (.int .i32 97))), m 5 4, w 6 (.mv (.t 0)) 5 true, w 7 (.bin .leq .any (.t 6) (.c (.int .i32 122))) 5 true, v 8 (.pick (.t 5) (.t 7) (.c (.bool false))), m 9 8, w 10 (.mv (.t 0)) 9 false, w 11 (.bin .geq .any (.t 10) (.c (.int .i32 65))) 9 false, w 12 (.mv (.t 11)) 9 false, w 13 (.mv (.t 0)) 12 true, w 14 (.bin .leq .any (.t 13) (.c (.int .i32 90))) 12 true, w 15 (.pick (.t 12) (.t 14) (.c (.bool false))) 9 false, v 16 (.pick (.t 9) (.c (.bool true)) (.t 15)), m 2 16]) .ret)),
 [.tmp 2]⟩
/-- text.Digit -/
def c_text_Digit : DFunc := ⟨9, 
(.seq 
(.region [v 2 (.mv (.c (.bool false)))]) 
(.seq 
(.region [m 3 0, v 4 (.bin .geq .any (.t 3) (.c (.int .i32 48))), m 5 4, w 6 (.mv (.t 0)) 5 true, w 7 (.bin .leq .any (.t 6) (.c (.int .i32 57))) 5 true, v 8 (.pick (.t 5) (.t 7) (.c (.bool false))), m 2 8]) .ret)),
 [.tmp 2]⟩
/-- chars.Numeric -/
def c_chars_Numeric : DFunc := ⟨31, 
(.seq 
(.region [v 2 (.mv (.c (.int .i32 0)))]) 
(.seq 
(.block 0 
(.seq 
(.region [m 4 0, v 5 (.bin .leq .any (.t 4) (.c (.int .i64 0))), m 6 5, w 7 (.mv (.t 0)) 6 false, w 8 (.bin .gtr .any (.t 7) (.c (.int .i64 1114111))) 6 false, v 9 (.pick (.t 6) (.c (.bool true)) (.t 8)), m 10 9, w 11 (.mv (.t 0)) 10 false, w 12 (.bin .geq .any (.t 11) (.c (.int .i64 55296))) 10 false, w 13 (.mv (.t 12)) 10 false, w 14 (.mv (.t 0)) 13 true, w 15 (.bin .leq .any (.t 14) (.c (.int .i64 57343))) 13 true, w 16 (.pick (.t 13) (.t 15) (.c (.bool false))) 10 false, v 17 (.pick (.t 10) (.c (.bool true)) (.t 16)), m 3 17]) 
(.cond (.t 3) 
(.seq 
(.region [v 2 (.mv (.c (.int .i32 65533)))]) .ret) 
(.seq 
(.region [m 19 0, v 20 (.bin .geq .any (.t 19) (.c (.int .i64 128))), m 21 20, w 22 (.mv (.t 0)) 21 true, w 23 (.bin .lss .any (.t 22) (.c (.int .i64 160))) 21 true, v 24 (.pick (.t 21) (.t 23) (.c (.bool false))), m 18 24]) 
(.cond (.t 18) 
(.seq 
(.region [m 25 0, v 26 (.bin .sub .any (.t 25) (.c (.int .i64 128))), v 27 (.iaddrArr 1 32 (.g 0) (.t 26)), v 28 (.load none (.t 27)), m 2 28]) .ret) .skip))))) 
(.seq 
(.region [m 29 0, v 30 (.conv (.int .i32) false (.t 29)), m 2 30]) .ret))),
 [.tmp 2]⟩
/-- woodcutlaw09.clean -/
def c_woodcutlaw09_clean : DFunc := ⟨27, 
(.seq 
(.region [v 2 (.mv (.c (.str [])))]) 
(.seq 
(.region [v 6 (.mks false none (.int .i32 0) 0 []), m 3 6]) 
(.seq 
(.seq 
(.region [m 7 0, v 8 (.conv .strBytes false (.t 7)), v 9 (.call (.f 39) [(.t 8)] false), v 10 (.len true (.t 9)), v 11 (.mv (.c (.int .i64 0)))]) 
(.block 0 
(.loop 
(.seq 
(.region [v 12 (.bin .lss .any (.t 11) (.t 10))]) 
(.seq 
(.cond (.t 12) .skip (.exit 0)) 
(.seq 
(.block 1 
(.seq 
(.region [v 13 (.iaddr 1 (.t 9) (.t 11)), v 14 (.load none (.t 13)), m 5 14]) 
(.seq 
(.seq 
(.region [m 15 5, v 16 (.bin .eql .any (.t 15) (.c (.int .i32 65279)))]) 
(.cond (.t 16) 
(.region [v 5 (.mv (.c (.int .i32 120)))]) .skip)) 
(.seq 
(.region [m 17 5, v 18 (.bin .neq .any (.t 17) (.c (.int .i32 0)))]) 
(.cond (.t 18) 
(.region [m 19 3, m 20 5, v 21 (.mks false none (.int .i32 0) 1 [(0, (.t 20))]), v 22 (.append false none 4 (.t 19) (.t 21)), m 3 22]) .skip))))) 
(.region [v 23 (.bin .add .any (.t 11) (.c (.int .i64 1))), m 11 23]))))))) 
(.seq 
(.region [m 24 3, v 25 (.call (.f 17) [(.t 24)] false), v 26 (.conv .bytesStr false (.t 25)), m 2 26]) .ret)))),
 [.tmp 2]⟩
/-- lex.New -/
def c_lex_New : DFunc := ⟨7, 
(.seq 
(.region [v 2 (.mv (.c .nilp))]) 
(.seq 
(.region [m 3 0, v 4 (.call (.f 39) [(.t 3)] false), v 5 (.build [(.lst 0 0 []), (.int .i64 0), (.int .i64 0), (.str []), (.bool false), (.lst 0 0 []), (.lst 0 0 []), (.bool false)] [(0, 1, (.t 4))]), v 6 (.box (.t 5) 8), m 2 6]) .ret)),
 [.tmp 2]⟩
/-- (*lex.Lexer).Way -/
def c_lex_Lexer_Way : DFunc := ⟨16, 
(.seq 
(.region [m 6 0, v 7 (.bin .neq .ptr (.t 6) (.c .nilp))]) 
(.cond (.t 7) 
(.region [m 8 0, m 9 0, m 10 1, m 11 2, v 12 (.nilc (.t 8)), v 13 (.faddr 2 (.t 12)), u (.store 1 (.t 13) (.t 10)), v 14 (.nilc (.t 9)), v 15 (.faddr 3 (.t 14)), u (.store 1 (.t 15) (.t 11))]) .skip)),
 []⟩
/-- (*lex.Lexer).Tokens -/
def c_lex_Lexer_Tokens : DFunc := ⟨4, 
(.seq 
(.region [v 1 (.box (.t 0) 1), v 2 (.mv (.c .nilfn))]) 
(.seq 
(.region [v 3 (.mkfn (.func 40) [] [(.t 1)]), m 2 3]) .ret)),
 [.tmp 2]⟩
/-- (*lex.Lexer).Sections -/
def c_lex_Lexer_Sections : DFunc := ⟨10, 
(.seq 
(.region [m 4 0, v 5 (.bin .neq .ptr (.t 4) (.c .nilp))]) 
(.cond (.t 5) 
(.region [m 6 0, m 7 1, v 8 (.nilc (.t 6)), v 9 (.faddr 4 (.t 8)), u (.store 1 (.t 9) (.t 7))]) .skip)),
 []⟩
/-- token.Join -/
def c_token_Join : DFunc := ⟨56, 
(.seq 
(.region [v 2 (.mv (.c (.lst 0 0 [])))]) 
(.seq 
(.region [v 3 (.mv (.c (.lst 0 0 [])))]) 
(.seq 
(.seq 
(.region [m 7 0, v 8 (.len true (.t 7)), v 9 (.mv (.c (.int .i64 0)))]) 
(.block 0 
(.loop 
(.seq 
(.region [v 10 (.bin .lss .any (.t 9) (.t 8))]) 
(.seq 
(.cond (.t 10) .skip (.exit 0)) 
(.seq 
(.block 1 
(.seq 
(.region [v 11 (.iaddr 10 (.t 7) (.t 9)), v 12 (.load (some 10) (.t 11)), v 5 (.alloc [(.int .i64 0), (.str []), (.lst 0 0 []), (.bool false), (.str []), (.str []), (.str []), (.bool false), (.bool false), (.bool false)] none), u (.store 10 (.t 5) (.t 12))]) 
(.seq 
(.seq 
(.region [m 13 3, v 14 (.len true (.t 13)), m 6 14]) 
(.seq 
(.region [v 15 (.faddr 0 (.t 5)), v 16 (.load none (.t 15)), v 17 (.bin .eql .any (.t 16) (.c (.int .i64 1))), m 18 17, w 19 (.mv (.t 6)) 18 true, w 20 (.bin .gtr .any (.t 19) (.c (.int .i64 0))) 18 true, v 21 (.pick (.t 18) (.t 20) (.c (.bool false))), m 22 21, w 23 (.mv (.t 3)) 22 true, w 24 (.mv (.t 6)) 22 true, w 25 (.bin .sub .any (.t 24) (.c (.int .i64 1))) 22 true, w 26 (.iaddr 10 (.t 23) (.t 25)) 22 true, w 27 (.faddr 0 (.t 26)) 22 true, w 28 (.load none (.t 27)) 22 true, w 29 (.bin .eql .any (.t 28) (.c (.int .i64 1))) 22 true, v 30 (.pick (.t 22) (.t 29) (.c (.bool false)))]) 
(.cond (.t 30) 
(.seq 
(.region [m 31 3, m 32 6, v 33 (.bin .sub .any (.t 32) (.c (.int .i64 1))), v 34 (.iaddr 10 (.t 31) (.t 33)), v 35 (.faddr 4 (.t 34)), v 36 (.load none (.t 35)), v 37 (.faddr 4 (.t 5)), v 38 (.load none (.t 37)), v 39 (.bin .add .any (.t 36) (.t 38)), v 40 (.iaddr 10 (.t 31) (.t 33)), v 41 (.faddr 4 (.t 40)), u (.store 1 (.t 41) (.t 39))]) (.exit 1)) .skip))) 
(.seq 
(.seq 
(.region [v 42 (.faddr 0 (.t 5)), v 43 (.load none (.t 42)), v 44 (.bin .eql .any (.t 43) (.c (.int .i64 1))), m 45 44, w 46 (.faddr 4 (.t 5)) 45 true, w 47 (.load none (.t 46)) 45 true, w 48 (.bin .eql .any (.t 47) (.c (.str []))) 45 true, v 49 (.pick (.t 45) (.t 48) (.c (.bool false)))]) 
(.cond (.t 49) (.exit 1) .skip)) 
(.region [m 50 3, v 51 (.load (some 10) (.t 5)), v 52 (.mks true (some 10) (.agg [(.int .i64 0), (.str []), (.lst 0 0 []), (.bool false), (.str []), (.str []), (.str []), (.bool false), (.bool false), (.bool false)]) 1 [(0, (.t 51))]), v 53 (.append true (some 10) 112 (.t 50) (.t 52)), m 3 53]))))) 
(.region [v 54 (.bin .add .any (.t 9) (.c (.int .i64 1))), m 9 54]))))))) 
(.seq 
(.region [m 55 3, m 2 55]) .ret)))),
 [.tmp 2]⟩
/-- woodcutlaw09.same -/
def c_woodcutlaw09_same : DFunc := ⟨27, 
(.seq 
(.region [v 4 (.mv (.c (.bool false)))]) 
(.seq 
(.seq 
(.region [m 6 0, v 7 (.len true (.t 6)), m 8 1, v 9 (.len true (.t 8)), v 10 (.bin .neq .any (.t 7) (.t 9))]) 
(.cond (.t 10) 
(.seq 
(.region [v 4 (.mv (.c (.bool false)))]) .ret) .skip)) 
(.seq 
(.seq 
(.region [m 11 0, v 12 (.len true (.t 11)), v 13 (.mv (.c (.int .i64 0)))]) 
(.block 0 
(.loop 
(.seq 
(.region [v 14 (.bin .lss .any (.t 13) (.t 12))]) 
(.seq 
(.cond (.t 14) .skip (.exit 0)) 
(.seq 
(.block 1 
(.seq 
(.region [m 15 13, m 5 15]) 
(.seq 
(.region [m 16 0, m 17 5, v 18 (.iaddr 10 (.t 16) (.t 17)), v 19 (.load (some 10) (.t 18)), m 20 1, m 21 5, v 22 (.iaddr 10 (.t 20) (.t 21)), v 23 (.load (some 10) (.t 22)), v 24 (.call (.f 29) [(.t 19), (.t 23)] false), v 25 (.un .not (.t 24))]) 
(.cond (.t 25) 
(.seq 
(.region [v 4 (.mv (.c (.bool false)))]) .ret) .skip)))) 
(.region [v 26 (.bin .add .any (.t 13) (.c (.int .i64 1))), m 13 26]))))))) 
(.seq 
(.region [v 4 (.mv (.c (.bool true)))]) .ret)))),
 [.tmp 4]⟩
/-- (token.Token).Same -/
def c_token_Token_Same : DFunc := ⟨73, 
(.seq 
(.region [v 2 (.box (.t 0) 10), v 3 (.box (.t 1) 10), v 4 (.mv (.c (.bool false)))]) 
(.seq 
(.region [v 5 (.faddr 2 (.t 2)), v 6 (.load none (.t 5)), v 7 (.faddr 2 (.t 3)), v 8 (.load none (.t 7)), v 9 (.call (.f 42) [(.t 6), (.t 8)] false), m 10 9, w 11 (.faddr 0 (.t 2)) 10 true, w 12 (.load none (.t 11)) 10 true, w 13 (.faddr 0 (.t 3)) 10 true, w 14 (.load none (.t 13)) 10 true, w 15 (.bin .eql .any (.t 12) (.t 14)) 10 true, v 16 (.pick (.t 10) (.t 15) (.c (.bool false))), m 17 16, w 18 (.faddr 1 (.t 2)) 17 true, w 19 (.load none (.t 18)) 17 true, w 20 (.faddr 1 (.t 3)) 17 true, w 21 (.load none (.t 20)) 17 true, w 22 (.bin .eql .any (.t 19) (.t 21)) 17 true, v 23 (.pick (.t 17) (.t 22) (.c (.bool false))), m 24 23, w 25 (.faddr 3 (.t 2)) 24 true, w 26 (.load none (.t 25)) 24 true, w 27 (.faddr 3 (.t 3)) 24 true, w 28 (.load none (.t 27)) 24 true, w 29 (.bin .eql .bool (.t 26) (.t 28)) 24 true, v 30 (.pick (.t 24) (.t 29) (.c (.bool false))), m 31 30, w 32 (.faddr 4 (.t 2)) 31 true, w 33 (.load none (.t 32)) 31 true, w 34 (.faddr 4 (.t 3)) 31 true, w 35 (.load none (.t 34)) 31 true, w 36 (.bin .eql .any (.t 33) (.t 35)) 31 true, v 37 (.pick (.t 31) (.t 36) (.c (.bool false))), m 38 37, w 39 (.faddr 5 (.t 2)) 38 true, w 40 (.load none (.t 39)) 38 true, w 41 (.faddr 5 (.t 3)) 38 true, w 42 (.load none (.t 41)) 38 true, w 43 (.bin .eql .any (.t 40) (.t 42)) 38 true, v 44 (.pick (.t 38) (.t 43) (.c (.bool false))), m 45 44, w 46 (.faddr 6 (.t 2)) 45 true, w 47 (.load none (.t 46)) 45 true, w 48 (.faddr 6 (.t 3)) 45 true, w 49 (.load none (.t 48)) 45 true, w 50 (.bin .eql .any (.t 47) (.t 49)) 45 true, v 51 (.pick (.t 45) (.t 50) (.c (.bool false))), m 52 51, w 53 (.faddr 7 (.t 2)) 52 true, w 54 (.load none (.t 53)) 52 true, w 55 (.faddr 7 (.t 3)) 52 true, w 56 (.load none (.t 55)) 52 true, w 57 (.bin .eql .bool (.t 54) (.t 56)) 52 true, v 58 (.pick (.t 52) (.t 57) (.c (.bool false))), m 59 58, w 60 (.faddr 8 (.t 2)) 59 true, w 61 (.load none (.t 60)) 59 true, w 62 (.faddr 8 (.t 3)) 59 true, w 63 (.load none (.t 62)) 59 true, w 64 (.bin .eql .bool (.t 61) (.t 63)) 59 true, v 65 (.pick (.t 59) (.t 64) (.c (.bool false))), m 66 65, w 67 (.faddr 9 (.t 2)) 66 true, w 68 (.load none (.t 67)) 66 true, w 69 (.faddr 9 (.t 3)) 66 true, w 70 (.load none (.t 69)) 66 true, w 71 (.bin .eql .bool (.t 68) (.t 70)) 66 true, v 72 (.pick (.t 66) (.t 71) (.c (.bool false))), m 4 72]) .ret)),
 [.tmp 4]⟩
/-- (token.Token).Is -/
def c_token_Token_Is : DFunc := ⟨17, 
(.seq 
(.region [v 3 (.box (.t 0) 10), v 6 (.mv (.c (.bool false)))]) 
(.seq 
(.region [v 7 (.faddr 0 (.t 3)), v 8 (.load none (.t 7)), m 9 1, v 10 (.bin .eql .any (.t 8) (.t 9)), m 11 10, w 12 (.mv (.t 2)) 11 true, w 13 (.faddr 1 (.t 3)) 11 true, w 14 (.load none (.t 13)) 11 true, w 15 (.call (.f 43) [(.t 12), (.t 14)] false) 11 true, v 16 (.pick (.t 11) (.t 15) (.c (.bool false))), m 6 16]) .ret)),
 [.tmp 6]⟩
/-- woodcutlaw09.write -/
def c_woodcutlaw09_write : DFunc := ⟨182, 
(.seq 
(.region [v 2 (.box (.t 0) 10), v 4 (.mv (.c (.str []))), v 5 (.alloc [(.int .i64 0), (.str []), (.lst 0 0 []), (.bool false), (.str []), (.str []), (.str []), (.bool false), (.bool false), (.bool false)] none)]) 
(.seq 
(.seq 
(.region [v 16 (.faddr 0 (.t 2)), v 17 (.load none (.t 16))]) 
(.block 0 
(.seq 
(.region [v 19 (.bin .eql .any (.t 17) (.c (.int .i64 2))), m 18 19]) 
(.cond (.t 18) 
(.seq 
(.region [v 20 (.faddr 1 (.t 2)), v 21 (.load none (.t 20)), v 23 (.faddr 3 (.t 2)), v 24 (.load none (.t 23)), v 6 (.alloc [(.int .i64 0), (.str []), (.lst 0 0 []), (.bool false), (.str []), (.str []), (.str []), (.bool false), (.bool false), (.bool false)] none), ⟨(some 22), .call (.f 14) [(.t 21)] false, none, [((.t 23), none, 24, none)]⟩, v 25 (.build [(.int .i64 0), (.str []), (.lst 0 0 []), (.bool false), (.str []), (.str []), (.str []), (.bool false), (.bool false), (.bool false)] [(0, 1, (.c (.int .i64 2))), (1, 1, (.t 22)), (3, 1, (.t 24))]), u (.store 10 (.t 6) (.t 25))]) 
(.seq 
(.region [v 26 (.faddr 1 (.t 6)), v 27 (.load none (.t 26)), v 28 (.bin .add .any (.c (.str [60])) (.t 27)), m 7 28]) 
(.seq 
(.seq 
(.region [m 29 1, v 30 (.bin .and .any (.t 29) (.c (.int .i64 1))), v 31 (.bin .eql .any (.t 30) (.c (.int .i64 1)))]) 
(.cond (.t 31) 
(.region [v 32 (.faddr 1 (.t 6)), v 33 (.load none (.t 32)), v 34 (.sliceStr (.t 33) (some (.c (.int .i64 1))) none), v 35 (.bin .add .any (.c (.str [60, 87])) (.t 34)), m 7 35]) .skip)) 
(.seq 
(.seq 
(.region [v 36 (.faddr 2 (.t 2)), v 37 (.load none (.t 36)), v 38 (.len true (.t 37)), v 39 (.mv (.c (.int .i64 0)))]) 
(.block 1 
(.loop 
(.seq 
(.region [v 40 (.bin .lss .any (.t 39) (.t 38))]) 
(.seq 
(.cond (.t 40) .skip (.exit 1)) 
(.seq 
(.block 2 
(.seq 
(.region [v 41 (.iaddr 2 (.t 37) (.t 39)), v 42 (.load (some 2) (.t 41)), v 9 (.alloc [(.str []), (.str [])] none), u (.store 2 (.t 9) (.t 42))]) 
(.seq 
(.region [v 43 (.faddr 0 (.t 9)), v 44 (.load none (.t 43)), v 46 (.faddr 1 (.t 9)), v 47 (.load none (.t 46)), v 10 (.alloc [(.str []), (.str [])] none), ⟨(some 45), .call (.f 14) [(.t 44)] false, none, [((.t 46), none, 47, none)]⟩, v 48 (.call (.f 21) [(.t 47)] false), v 49 (.build [(.str []), (.str [])] [(0, 1, (.t 45)), (1, 1, (.t 48))]), u (.store 2 (.t 10) (.t 49))]) 
(.seq 
(.region [m 50 7, m 51 1, v 54 (.faddr 0 (.t 10)), v 55 (.load none (.t 54)), ⟨(some 52), .call (.f 44) [(.t 51)] false, none, [((.t 54), none, 55, none)]⟩, v 53 (.bin .add .any (.t 50) (.t 52)), v 56 (.bin .add .any (.t 53) (.t 55)), m 7 56]) 
(.seq 
(.block 3 
(.seq 
(.region [m 73 1, v 74 (.bin .and .any (.t 73) (.c (.int .i64 2))), v 75 (.bin .eql .any (.t 74) (.c (.int .i64 2))), m 76 75, w 77 (.faddr 1 (.t 10)) 76 true, w 78 (.load none (.t 77)) 76 true, w 79 (.bin .eql .any (.t 78) (.c (.str []))) 76 true, v 80 (.pick (.t 76) (.t 79) (.c (.bool false))), m 72 80]) 
(.cond (.t 72) .skip 
(.seq 
(.region [m 82 1, v 83 (.bin .and .any (.t 82) (.c (.int .i64 4))), v 84 (.bin .eql .any (.t 83) (.c (.int .i64 4))), m 81 84]) 
(.cond (.t 81) 
(.region [m 85 7, v 86 (.bin .add .any (.t 85) (.c (.str [61, 39]))), v 87 (.faddr 1 (.t 10)), v 88 (.load none (.t 87)), v 89 (.call (.f 45) [(.t 88)] false), v 90 (.bin .add .any (.t 86) (.t 89)), v 91 (.bin .add .any (.t 90) (.c (.str [39]))), m 7 91]) 
(.region [m 57 7, m 58 1, m 62 1, v 63 (.bin .shr .any (.t 62) (.c (.int .u64 1))), v 67 (.faddr 1 (.t 10)), v 68 (.load none (.t 67)), ⟨(some 59), .call (.f 44) [(.t 58)] false, none, [((.t 67), none, 68, none)]⟩, v 60 (.bin .add .any (.t 57) (.t 59)), v 61 (.bin .add .any (.t 60) (.c (.str [61]))), ⟨(some 64), .call (.f 44) [(.t 63)] false, none, [((.t 67), none, 68, none)]⟩, v 65 (.bin .add .any (.t 61) (.t 64)), v 66 (.bin .add .any (.t 65) (.c (.str [34]))), v 69 (.call (.f 45) [(.t 68)] false), v 70 (.bin .add .any (.t 66) (.t 69)), v 71 (.bin .add .any (.t 70) (.c (.str [34]))), m 7 71])))))) 
(.seq 
(.region [v 92 (.faddr 2 (.t 6)), v 93 (.load none (.t 92)), v 94 (.faddr 0 (.t 10)), v 95 (.load none (.t 94)), v 98 (.faddr 2 (.t 6)), v 99 (.load none (.t 98)), v 100 (.len true (.t 99)), ⟨(some 96), .call (.f 46) [(.t 93), (.t 95)] true, none, [((.t 98), none, 99, none)]⟩, v 97 (.len true (.t 96)), v 101 (.bin .eql .any (.t 97) (.t 100))]) 
(.cond (.t 101) 
(.region [v 102 (.faddr 2 (.t 6)), v 103 (.load none (.t 102)), v 104 (.load (some 2) (.t 10)), v 105 (.mks false (some 2) (.agg [(.str []), (.str [])]) 1 [(0, (.t 104))]), v 106 (.append false (some 2) 32 (.t 103) (.t 105)), v 107 (.faddr 2 (.t 6)), u (.store 1 (.t 107) (.t 106))]) .skip))))))) 
(.region [v 108 (.bin .add .any (.t 39) (.c (.int .i64 1))), m 39 108]))))))) 
(.seq 
(.seq 
(.region [v 109 (.faddr 3 (.t 6)), v 110 (.load none (.t 109))]) 
(.cond (.t 110) 
(.region [m 111 7, v 112 (.bin .add .any (.t 111) (.c (.str [47]))), m 7 112]) .skip)) 
(.seq 
(.region [m 113 7, v 114 (.bin .add .any (.t 113) (.c (.str [62]))), v 115 (.load (some 10) (.t 6)), m 4 114, u (.store 10 (.t 5) (.t 115))]) .ret)))))) 
(.seq 
(.region [v 117 (.bin .eql .any (.t 17) (.c (.int .i64 3))), m 116 117]) 
(.cond (.t 116) 
(.seq 
(.region [v 118 (.faddr 1 (.t 2)), v 119 (.load none (.t 118)), v 120 (.call (.f 14) [(.t 119)] false), v 121 (.build [(.int .i64 0), (.str []), (.lst 0 0 []), (.bool false), (.str []), (.str []), (.str []), (.bool false), (.bool false), (.bool false)] [(0, 1, (.c (.int .i64 3))), (1, 1, (.t 120))]), v 11 (.alloc [(.int .i64 0), (.str []), (.lst 0 0 []), (.bool false), (.str []), (.str []), (.str []), (.bool false), (.bool false), (.bool false)] none), u (.store 10 (.t 11) (.t 121))]) 
(.seq 
(.seq 
(.region [m 122 1, v 123 (.bin .and .any (.t 122) (.c (.int .i64 1))), v 124 (.bin .eql .any (.t 123) (.c (.int .i64 1)))]) 
(.cond (.t 124) 
(.seq 
(.region [v 125 (.faddr 1 (.t 11)), v 126 (.load none (.t 125)), v 127 (.bin .add .any (.c (.str [60, 47])) (.t 126)), m 128 1, v 132 (.load (some 10) (.t 11)), ⟨(some 129), .call (.f 44) [(.t 128)] false, none, [((.t 11), (some 10), 132, none), ((.t 125), none, 126, none)]⟩, v 130 (.bin .add .any (.t 127) (.t 129)), v 131 (.bin .add .any (.t 130) (.c (.str [120, 61, 121, 62]))), m 4 131, u (.store 10 (.t 5) (.t 132))]) .ret) .skip)) 
(.seq 
(.region [v 133 (.faddr 1 (.t 11)), v 134 (.load none (.t 133)), v 135 (.bin .add .any (.c (.str [60, 47])) (.t 134)), v 136 (.bin .add .any (.t 135) (.c (.str [62]))), v 137 (.load (some 10) (.t 11)), m 4 136, u (.store 10 (.t 5) (.t 137))]) .ret))) 
(.seq 
(.region [v 139 (.bin .eql .any (.t 17) (.c (.int .i64 4))), m 138 139]) 
(.cond (.t 138) 
(.seq 
(.region [v 140 (.faddr 4 (.t 2)), v 141 (.load none (.t 140)), v 143 (.faddr 4 (.t 2)), v 144 (.load none (.t 143)), v 12 (.alloc [(.int .i64 0), (.str []), (.lst 0 0 []), (.bool false), (.str []), (.str []), (.str []), (.bool false), (.bool false), (.bool false)] none), ⟨(some 142), .call (.f 14) [(.t 141)] false, none, [((.t 143), none, 144, none)]⟩, v 145 (.call (.f 21) [(.t 144)] false), v 146 (.bin .add .any (.t 142) (.t 145)), v 147 (.build [(.int .i64 0), (.str []), (.lst 0 0 []), (.bool false), (.str []), (.str []), (.str []), (.bool false), (.bool false), (.bool false)] [(0, 1, (.c (.int .i64 4))), (4, 1, (.t 146))]), u (.store 10 (.t 12) (.t 147))]) 
(.seq 
(.region [v 13 (.mv (.c (.str [])))]) 
(.seq 
(.seq 
(.region [v 14 (.mv (.c (.int .i64 0)))]) 
(.block 4 
(.loop 
(.seq 
(.seq 
(.region [m 148 14, v 149 (.faddr 4 (.t 12)), v 150 (.load none (.t 149)), v 151 (.len false (.t 150)), v 152 (.bin .lss .any (.t 148) (.t 151))]) 
(.cond (.t 152) .skip (.exit 4))) 
(.seq 
(.block 5 
(.seq 
(.region [v 155 (.faddr 4 (.t 12)), v 156 (.load none (.t 155)), m 157 14, v 158 (.idxStr (.t 156) (.t 157)), v 159 (.bin .neq .any (.t 158) (.c (.int .u8 45)))]) 
(.cond (.t 159) 
(.region [m 160 13, v 161 (.faddr 4 (.t 12)), v 162 (.load none (.t 161)), m 163 14, m 164 14, v 165 (.bin .add .any (.t 164) (.c (.int .i64 1))), v 166 (.sliceStr (.t 162) (some (.t 163)) (some (.t 165))), v 167 (.bin .add .any (.t 160) (.t 166)), m 13 167]) .skip))) 
(.region [m 153 14, v 154 (.bin .add .any (.t 153) (.c (.int .i64 1))), m 14 154])))))) 
(.seq 
(.region [m 168 13, v 169 (.faddr 4 (.t 12)), u (.store 1 (.t 169) (.t 168))]) 
(.seq 
(.region [m 170 13, v 171 (.bin .add .any (.c (.str [60, 33, 45, 45])) (.t 170)), v 172 (.bin .add .any (.t 171) (.c (.str [45, 45, 62]))), v 173 (.load (some 10) (.t 12)), m 4 172, u (.store 10 (.t 5) (.t 173))]) .ret))))) .skip)))))))) 
(.seq 
(.region [v 174 (.faddr 4 (.t 2)), v 175 (.load none (.t 174)), v 176 (.call (.f 21) [(.t 175)] false), v 177 (.build [(.int .i64 0), (.str []), (.lst 0 0 []), (.bool false), (.str []), (.str []), (.str []), (.bool false), (.bool false), (.bool false)] [(0, 1, (.c (.int .i64 1))), (4, 1, (.t 176))]), v 15 (.alloc [(.int .i64 0), (.str []), (.lst 0 0 []), (.bool false), (.str []), (.str []), (.str []), (.bool false), (.bool false), (.bool false)] none), u (.store 10 (.t 15) (.t 177))]) 
(.seq 
(.region [v 178 (.faddr 4 (.t 15)), v 179 (.load none (.t 178)), v 181 (.load (some 10) (.t 15)), ⟨(some 180), .call (.f 45) [(.t 179)] false, none, [((.t 15), (some 10), 181, none)]⟩, m 4 180, u (.store 10 (.t 5) (.t 181))]) .ret)))),
 [.tmp 4, .cell 5 (some 10)]⟩
/-- woodcutlaw09.LexJoins$1 -/
def c_woodcutlaw09_LexJoins_1 : DFunc := ⟨58, 
(.seq 
(.region [v 3 (.mv (.c (.str [])))]) 
(.seq 
(.region [v 4 (.mv (.c (.str [])))]) 
(.seq 
(.seq 
(.region [m 10 0, v 11 (.len true (.t 10)), v 12 (.mv (.c (.int .i64 0)))]) 
(.block 0 
(.loop 
(.seq 
(.region [v 13 (.bin .lss .any (.t 12) (.t 11))]) 
(.seq 
(.cond (.t 13) .skip (.exit 0)) 
(.seq 
(.block 1 
(.seq 
(.region [m 14 12, v 15 (.iaddr 10 (.t 10) (.t 12)), v 16 (.load (some 10) (.t 15)), v 6 (.alloc [(.int .i64 0), (.str []), (.lst 0 0 []), (.bool false), (.str []), (.str []), (.str []), (.bool false), (.bool false), (.bool false)] none), m 5 14, u (.store 10 (.t 6) (.t 16))]) 
(.seq 
(.seq 
(.region [v 17 (.faddr 4 (.t 6)), v 18 (.load none (.t 17)), v 19 (.len false (.t 18)), v 20 (.bin .gtr .any (.t 19) (.c (.int .i64 100))), m 21 20, w 22 (.faddr 2 (.t 6)) 21 false, w 23 (.load none (.t 22)) 21 false, w 24 (.len true (.t 23)) 21 false, w 25 (.bin .gtr .any (.t 24) (.c (.int .i64 6))) 21 false, v 26 (.pick (.t 21) (.c (.bool true)) (.t 25))]) 
(.cond (.t 26) (.exit 1) .skip)) 
(.seq 
(.seq 
(.region [v 27 (.faddr 2 (.t 6)), v 28 (.load none (.t 27)), v 29 (.len true (.t 28)), v 30 (.mv (.c (.int .i64 0)))]) 
(.block 2 
(.loop 
(.seq 
(.region [v 31 (.bin .lss .any (.t 30) (.t 29))]) 
(.seq 
(.cond (.t 31) .skip (.exit 2)) 
(.seq 
(.block 3 
(.seq 
(.region [m 32 30, m 7 32]) 
(.seq 
(.region [v 33 (.faddr 2 (.t 6)), v 34 (.load none (.t 33)), m 35 7, v 36 (.iaddr 2 (.t 34) (.t 35)), v 37 (.faddr 1 (.t 36)), v 38 (.load none (.t 37)), v 39 (.len false (.t 38)), v 40 (.bin .gtr .any (.t 39) (.c (.int .i64 100)))]) 
(.cond (.t 40) 
(.seq 
(.region [m 41 4, m 3 41]) .ret) .skip)))) 
(.region [v 42 (.bin .add .any (.t 30) (.c (.int .i64 1))), m 30 42]))))))) 
(.seq 
(.region [v 44 (.load (some 10) (.t 6)), v 45 (.load none (.t 1)), m 46 5, v 47 (.bin .and .any (.t 46) (.c (.int .i64 15))), v 48 (.conv (.int .u64) false (.t 47)), v 49 (.bin .shr .any (.t 45) (.t 48)), v 50 (.call (.f 31) [(.t 44), (.t 49)] false), m 43 50, v 51 (.extract (.t 43) 0), v 52 (.extract (.t 43) 1), v 9 (.alloc [(.int .i64 0), (.str []), (.lst 0 0 []), (.bool false), (.str []), (.str []), (.str []), (.bool false), (.bool false), (.bool false)] none), m 8 51, u (.store 10 (.t 9) (.t 52))]) 
(.region [m 53 4, m 54 8, v 55 (.bin .add .any (.t 53) (.t 54)), m 4 55])))))) 
(.region [v 56 (.bin .add .any (.t 12) (.c (.int .i64 1))), m 12 56]))))))) 
(.seq 
(.region [m 57 4, m 3 57]) .ret)))),
 [.tmp 3]⟩
/-- slices.Collect[token.Token] -/
def c_slices_Collect_token_Token : DFunc := ⟨5, 
(.seq 
(.region [v 2 (.mv (.c (.lst 0 0 [])))]) 
(.seq 
(.region [m 3 0, v 4 (.call (.f 53) [(.c (.lst 0 0 [])), (.t 3)] false), m 2 4]) .ret)),
 [.tmp 2]⟩
/-- chars.table -/
def c_chars_table : DFunc := ⟨63, 
(.seq 
(.region [v 0 (.mv (.c (.lst 0 0 [])))]) 
(.seq 
(.region [v 1 (.build [(.str []), (.int .i32 0), (.bool false)] [(0, 1, (.c (.str [97, 109, 112]))), (1, 1, (.c (.int .i32 38))), (2, 1, (.c (.bool true)))]), v 2 (.build [(.str []), (.int .i32 0), (.bool false)] [(0, 1, (.c (.str [108, 116]))), (1, 1, (.c (.int .i32 60))), (2, 1, (.c (.bool true)))]), v 3 (.build [(.str []), (.int .i32 0), (.bool false)] [(0, 1, (.c (.str [103, 116]))), (1, 1, (.c (.int .i32 62))), (2, 1, (.c (.bool true)))]), v 4 (.build [(.str []), (.int .i32 0), (.bool false)] [(0, 1, (.c (.str [113, 117, 111, 116]))), (1, 1, (.c (.int .i32 34))), (2, 1, (.c (.bool true)))]), v 5 (.build [(.str []), (.int .i32 0), (.bool false)] [(0, 1, (.c (.str [65, 77, 80]))), (1, 1, (.c (.int .i32 38))), (2, 1, (.c (.bool true)))]), v 6 (.build [(.str []), (.int .i32 0), (.bool false)] [(0, 1, (.c (.str [76, 84]))), (1, 1, (.c (.int .i32 60))), (2, 1, (.c (.bool true)))]), v 7 (.build [(.str []), (.int .i32 0), (.bool false)] [(0, 1, (.c (.str [71, 84]))), (1, 1, (.c (.int .i32 62))), (2, 1, (.c (.bool true)))]), v 8 (.build [(.str []), (.int .i32 0), (.bool false)] [(0, 1, (.c (.str [110, 98, 115, 112]))), (1, 1, (.c (.int .i32 160))), (2, 1, (.c (.bool true)))]), v 9 (.build [(.str []), (.int .i32 0), (.bool false)] [(0, 1, (.c (.str [105, 101, 120, 99, 108]))), (1, 1, (.c (.int .i32 161))), (2, 1, (.c (.bool true)))]), v 10 (.build [(.str []), (.int .i32 0), (.bool false)] [(0, 1, (.c (.str [99, 101, 110, 116]))), (1, 1, (.c (.int .i32 162))), (2, 1, (.c (.bool true)))]), v 11 (.build [(.str []), (.int .i32 0), (.bool false)] [(0, 1, (.c (.str [112, 111, 117, 110, 100]))), (1, 1, (.c (.int .i32 163))), (2, 1, (.c (.bool true)))]), v 12 (.build [(.str []), (.int .i32 0), (.bool false)] [(0, 1, (.c (.str [121, 101, 110]))), (1, 1, (.c (.int .i32 165))), (2, 1, (.c (.bool true)))]), v 13 (.build [(.str []), (.int .i32 0), (.bool false)] [(0, 1, (.c (.str [115, 101, 99, 116]))), (1, 1, (.c (.int .i32 167))), (2, 1, (.c (.bool true)))]), v 14 (.build [(.str []), (.int .i32 0), (.bool false)] [(0, 1, (.c (.str [99, 111, 112, 121]))), (1, 1, (.c (.int .i32 169))), (2, 1, (.c (.bool true)))]), v 15 (.build [(.str []), (.int .i32 0), (.bool false)] [(0, 1, (.c (.str [108, 97, 113, 117, 111]))), (1, 1, (.c (.int .i32 171))), (2, 1, (.c (.bool true)))]), v 16 (.build [(.str []), (.int .i32 0), (.bool false)] [(0, 1, (.c (.str [110, 111, 116]))), (1, 1, (.c (.int .i32 172))), (2, 1, (.c (.bool true)))]), v 17 (.build [(.str []), (.int .i32 0), (.bool false)] [(0, 1, (.c (.str [115, 104, 121]))), (1, 1, (.c (.int .i32 173))), (2, 1, (.c (.bool true)))]), v 18 (.build [(.str []), (.int .i32 0), (.bool false)] [(0, 1, (.c (.str [114, 101, 103]))), (1, 1, (.c (.int .i32 174))), (2, 1, (.c (.bool true)))]), v 19 (.build [(.str []), (.int .i32 0), (.bool false)] [(0, 1, (.c (.str [100, 101, 103]))), (1, 1, (.c (.int .i32 176))), (2, 1, (.c (.bool true)))]), v 20 (.build [(.str []), (.int .i32 0), (.bool false)] [(0, 1, (.c (.str [112, 108, 117, 115, 109, 110]))), (1, 1, (.c (.int .i32 177))), (2, 1, (.c (.bool true)))]), v 21 (.build [(.str []), (.int .i32 0), (.bool false)] [(0, 1, (.c (.str [115, 117, 112, 50]))), (1, 1, (.c (.int .i32 178))), (2, 1, (.c (.bool true)))]), v 22 (.build [(.str []), (.int .i32 0), (.bool false)] [(0, 1, (.c (.str [109, 105, 99, 114, 111]))), (1, 1, (.c (.int .i32 181))), (2, 1, (.c (.bool true)))]), v 23 (.build [(.str []), (.int .i32 0), (.bool false)] [(0, 1, (.c (.str [112, 97, 114, 97]))), (1, 1, (.c (.int .i32 182))), (2, 1, (.c (.bool true)))]), v 24 (.build [(.str []), (.int .i32 0), (.bool false)] [(0, 1, (.c (.str [109, 105, 100, 100, 111, 116]))), (1, 1, (.c (.int .i32 183))), (2, 1, (.c (.bool true)))]), v 25 (.build [(.str []), (.int .i32 0), (.bool false)] [(0, 1, (.c (.str [114, 97, 113, 117, 111]))), (1, 1, (.c (.int .i32 187))), (2, 1, (.c (.bool true)))]), v 26 (.build [(.str []), (.int .i32 0), (.bool false)] [(0, 1, (.c (.str [102, 114, 97, 99, 49, 50]))), (1, 1, (.c (.int .i32 189))), (2, 1, (.c (.bool true)))]), v 27 (.build [(.str []), (.int .i32 0), (.bool false)] [(0, 1, (.c (.str [105, 113, 117, 101, 115, 116]))), (1, 1, (.c (.int .i32 191))), (2, 1, (.c (.bool true)))]), v 28 (.build [(.str []), (.int .i32 0), (.bool false)] [(0, 1, (.c (.str [65, 117, 109, 108]))), (1, 1, (.c (.int .i32 196))), (2, 1, (.c (.bool true)))]), v 29 (.build [(.str []), (.int .i32 0), (.bool false)] [(0, 1, (.c (.str [69, 97, 99, 117, 116, 101]))), (1, 1, (.c (.int .i32 201))), (2, 1, (.c (.bool true)))]), v 30 (.build [(.str []), (.int .i32 0), (.bool false)] [(0, 1, (.c (.str [79, 117, 109, 108]))), (1, 1, (.c (.int .i32 214))), (2, 1, (.c (.bool true)))]), v 31 (.build [(.str []), (.int .i32 0), (.bool false)] [(0, 1, (.c (.str [116, 105, 109, 101, 115]))), (1, 1, (.c (.int .i32 215))), (2, 1, (.c (.bool true)))]), v 32 (.build [(.str []), (.int .i32 0), (.bool false)] [(0, 1, (.c (.str [85, 117, 109, 108]))), (1, 1, (.c (.int .i32 220))), (2, 1, (.c (.bool true)))]), v 33 (.build [(.str []), (.int .i32 0), (.bool false)] [(0, 1, (.c (.str [115, 122, 108, 105, 103]))), (1, 1, (.c (.int .i32 223))), (2, 1, (.c (.bool true)))]), v 34 (.build [(.str []), (.int .i32 0), (.bool false)] [(0, 1, (.c (.str [97, 103, 114, 97, 118, 101]))), (1, 1, (.c (.int .i32 224))), (2, 1, (.c (.bool true)))]), v 35 (.build [(.str []), (.int .i32 0), (.bool false)] [(0, 1, (.c (.str [97, 117, 109, 108]))), (1, 1, (.c (.int .i32 228))), (2, 1, (.c (.bool true)))]), v 36 (.build [(.str []), (.int .i32 0), (.bool false)] [(0, 1, (.c (.str [99, 99, 101, 100, 105, 108]))), (1, 1, (.c (.int .i32 231))), (2, 1, (.c (.bool true)))]), v 37 (.build [(.str []), (.int .i32 0), (.bool false)] [(0, 1, (.c (.str [101, 97, 99, 117, 116, 101]))), (1, 1, (.c (.int .i32 233))), (2, 1, (.c (.bool true)))]), v 38 (.build [(.str []), (.int .i32 0), (.bool false)] [(0, 1, (.c (.str [110, 116, 105, 108, 100, 101]))), (1, 1, (.c (.int .i32 241))), (2, 1, (.c (.bool true)))]), v 39 (.build [(.str []), (.int .i32 0), (.bool false)] [(0, 1, (.c (.str [111, 117, 109, 108]))), (1, 1, (.c (.int .i32 246))), (2, 1, (.c (.bool true)))]), v 40 (.build [(.str []), (.int .i32 0), (.bool false)] [(0, 1, (.c (.str [100, 105, 118, 105, 100, 101]))), (1, 1, (.c (.int .i32 247))), (2, 1, (.c (.bool true)))]), v 41 (.build [(.str []), (.int .i32 0), (.bool false)] [(0, 1, (.c (.str [117, 117, 109, 108]))), (1, 1, (.c (.int .i32 252))), (2, 1, (.c (.bool true)))]), v 42 (.build [(.str []), (.int .i32 0), (.bool false)] [(0, 1, (.c (.str [97, 112, 111, 115]))), (1, 1, (.c (.int .i32 39))), (2, 1, (.c (.bool false)))]), v 43 (.build [(.str []), (.int .i32 0), (.bool false)] [(0, 1, (.c (.str [104, 101, 108, 108, 105, 112]))), (1, 1, (.c (.int .i32 8230))), (2, 1, (.c (.bool false)))]), v 44 (.build [(.str []), (.int .i32 0), (.bool false)] [(0, 1, (.c (.str [109, 100, 97, 115, 104]))), (1, 1, (.c (.int .i32 8212))), (2, 1, (.c (.bool false)))]), v 45 (.build [(.str []), (.int .i32 0), (.bool false)] [(0, 1, (.c (.str [110, 100, 97, 115, 104]))), (1, 1, (.c (.int .i32 8211))), (2, 1, (.c (.bool false)))]), v 46 (.build [(.str []), (.int .i32 0), (.bool false)] [(0, 1, (.c (.str [101, 117, 114, 111]))), (1, 1, (.c (.int .i32 8364))), (2, 1, (.c (.bool false)))]), v 47 (.build [(.str []), (.int .i32 0), (.bool false)] [(0, 1, (.c (.str [116, 114, 97, 100, 101]))), (1, 1, (.c (.int .i32 8482))), (2, 1, (.c (.bool false)))]), v 48 (.build [(.str []), (.int .i32 0), (.bool false)] [(0, 1, (.c (.str [108, 97, 114, 114]))), (1, 1, (.c (.int .i32 8592))), (2, 1, (.c (.bool false)))]), v 49 (.build [(.str []), (.int .i32 0), (.bool false)] [(0, 1, (.c (.str [114, 97, 114, 114]))), (1, 1, (.c (.int .i32 8594))), (2, 1, (.c (.bool false)))]), v 50 (.build [(.str []), (.int .i32 0), (.bool false)] [(0, 1, (.c (.str [110, 111, 116, 105, 110]))), (1, 1, (.c (.int .i32 8713))), (2, 1, (.c (.bool false)))]), v 51 (.build [(.str []), (.int .i32 0), (.bool false)] [(0, 1, (.c (.str [97, 108, 112, 104, 97]))), (1, 1, (.c (.int .i32 945))), (2, 1, (.c (.bool false)))]), v 52 (.build [(.str []), (.int .i32 0), (.bool false)] [(0, 1, (.c (.str [111, 109, 101, 103, 97]))), (1, 1, (.c (.int .i32 969))), (2, 1, (.c (.bool false)))]), v 53 (.build [(.str []), (.int .i32 0), (.bool false)] [(0, 1, (.c (.str [105, 110, 102, 105, 110]))), (1, 1, (.c (.int .i32 8734))), (2, 1, (.c (.bool false)))]), v 54 (.build [(.str []), (.int .i32 0), (.bool false)] [(0, 1, (.c (.str [98, 117, 108, 108]))), (1, 1, (.c (.int .i32 8226))), (2, 1, (.c (.bool false)))]), v 55 (.build [(.str []), (.int .i32 0), (.bool false)] [(0, 1, (.c (.str [108, 115, 113, 117, 111]))), (1, 1, (.c (.int .i32 8216))), (2, 1, (.c (.bool false)))]), v 56 (.build [(.str []), (.int .i32 0), (.bool false)] [(0, 1, (.c (.str [114, 115, 113, 117, 111]))), (1, 1, (.c (.int .i32 8217))), (2, 1, (.c (.bool false)))]), v 57 (.build [(.str []), (.int .i32 0), (.bool false)] [(0, 1, (.c (.str [108, 100, 113, 117, 111]))), (1, 1, (.c (.int .i32 8220))), (2, 1, (.c (.bool false)))]), v 58 (.build [(.str []), (.int .i32 0), (.bool false)] [(0, 1, (.c (.str [114, 100, 113, 117, 111]))), (1, 1, (.c (.int .i32 8221))), (2, 1, (.c (.bool false)))]), v 59 (.build [(.str []), (.int .i32 0), (.bool false)] [(0, 1, (.c (.str [110, 101]))), (1, 1, (.c (.int .i32 8800))), (2, 1, (.c (.bool false)))]), v 60 (.build [(.str []), (.int .i32 0), (.bool false)] [(0, 1, (.c (.str [108, 101]))), (1, 1, (.c (.int .i32 8804))), (2, 1, (.c (.bool false)))]), v 61 (.build [(.str []), (.int .i32 0), (.bool false)] [(0, 1, (.c (.str [110, 118, 108, 116]))), (1, 1, (.c (.int .i32 60))), (2, 1, (.c (.bool false)))]), v 62 (.mks false (some 3) (.agg [(.str []), (.int .i32 0), (.bool false)]) 61 [(0, (.t 1)), (1, (.t 2)), (2, (.t 3)), (3, (.t 4)), (4, (.t 5)), (5, (.t 6)), (6, (.t 7)), (7, (.t 8)), (8, (.t 9)), (9, (.t 10)), (10, (.t 11)), (11, (.t 12)), (12, (.t 13)), (13, (.t 14)), (14, (.t 15)), (15, (.t 16)), (16, (.t 17)), (17, (.t 18)), (18, (.t 19)), (19, (.t 20)), (20, (.t 21)), (21, (.t 22)), (22, (.t 23)), (23, (.t 24)), (24, (.t 25)), (25, (.t 26)), (26, (.t 27)), (27, (.t 28)), (28, (.t 29)), (29, (.t 30)), (30, (.t 31)), (31, (.t 32)), (32, (.t 33)), (33, (.t 34)), (34, (.t 35)), (35, (.t 36)), (36, (.t 37)), (37, (.t 38)), (38, (.t 39)), (39, (.t 40)), (40, (.t 41)), (41, (.t 42)), (42, (.t 43)), (43, (.t 44)), (44, (.t 45)), (45, (.t 46)), (46, (.t 47)), (47, (.t 48)), (48, (.t 49)), (49, (.t 50)), (50, (.t 51)), (51, (.t 52)), (52, (.t 53)), (53, (.t 54)), (54, (.t 55)), (55, (.t 56)), (56, (.t 57)), (57, (.t 58)), (58, (.t 59)), (59, (.t 60)), (60, (.t 61))]), m 0 62]) .ret)),
 [.tmp 0]⟩
/-- text.Put -/
def c_text_Put : DFunc := ⟨84, 
(.seq 
(.region [v 4 (.mv (.c (.lst 0 0 [])))]) 
(.seq 
(.block 0 
(.seq 
(.region [m 6 1, v 7 (.bin .lss .any (.t 6) (.c (.int .i32 0))), m 8 7, w 9 (.mv (.t 1)) 8 false, w 10 (.bin .gtr .any (.t 9) (.c (.int .i32 1114111))) 8 false, v 11 (.pick (.t 8) (.c (.bool true)) (.t 10)), m 12 11, w 13 (.mv (.t 1)) 12 false, w 14 (.bin .geq .any (.t 13) (.c (.int .i32 55296))) 12 false, w 15 (.mv (.t 14)) 12 false, w 16 (.mv (.t 1)) 15 true, w 17 (.bin .leq .any (.t 16) (.c (.int .i32 57343))) 15 true, w 18 (.pick (.t 15) (.t 17) (.c (.bool false))) 12 false, v 19 (.pick (.t 12) (.c (.bool true)) (.t 18)), m 5 19]) 
(.cond (.t 5) 
(.seq 
(.region [m 20 0, v 21 (.call (.f 38) [(.t 20), (.c (.int .i32 65533))] false), m 4 21]) .ret) 
(.seq 
(.region [m 23 1, v 24 (.bin .lss .any (.t 23) (.c (.int .i32 128))), m 22 24]) 
(.cond (.t 22) 
(.seq 
(.region [m 25 0, m 26 1, v 27 (.conv (.int .u8) false (.t 26)), v 28 (.mks false none (.int .u8 0) 1 [(0, (.t 27))]), v 29 (.append false none 1 (.t 25) (.t 28)), m 4 29]) .ret) 
(.seq 
(.region [m 31 1, v 32 (.bin .lss .any (.t 31) (.c (.int .i32 2048))), m 30 32]) 
(.cond (.t 30) 
(.seq 
(.region [m 33 0, m 34 1, v 35 (.bin .shr .any (.t 34) (.c (.int .u64 6))), v 36 (.conv (.int .u8) false (.t 35)), v 37 (.bin .or .any (.c (.int .u8 192)) (.t 36)), m 38 1, v 39 (.bin .and .any (.t 38) (.c (.int .i32 63))), v 40 (.conv (.int .u8) false (.t 39)), v 41 (.bin .or .any (.c (.int .u8 128)) (.t 40)), v 42 (.mks false none (.int .u8 0) 2 [(0, (.t 37)), (1, (.t 41))]), v 43 (.append false none 1 (.t 33) (.t 42)), m 4 43]) .ret) 
(.seq 
(.region [m 45 1, v 46 (.bin .lss .any (.t 45) (.c (.int .i32 65536))), m 44 46]) 
(.cond (.t 44) 
(.seq 
(.region [m 47 0, m 48 1, v 49 (.bin .shr .any (.t 48) (.c (.int .u64 12))), v 50 (.conv (.int .u8) false (.t 49)), v 51 (.bin .or .any (.c (.int .u8 224)) (.t 50)), m 52 1, v 53 (.bin .shr .any (.t 52) (.c (.int .u64 6))), v 54 (.bin .and .any (.t 53) (.c (.int .i32 63))), v 55 (.conv (.int .u8) false (.t 54)), v 56 (.bin .or .any (.c (.int .u8 128)) (.t 55)), m 57 1, v 58 (.bin .and .any (.t 57) (.c (.int .i32 63))), v 59 (.conv (.int .u8) false (.t 58)), v 60 (.bin .or .any (.c (.int .u8 128)) (.t 59)), v 61 (.mks false none (.int .u8 0) 3 [(0, (.t 51)), (1, (.t 56)), (2, (.t 60))]), v 62 (.append false none 1 (.t 47) (.t 61)), m 4 62]) .ret) .skip))))))))) 
(.seq 
(.region [m 63 0, m 64 1, v 65 (.bin .shr .any (.t 64) (.c (.int .u64 18))), v 66 (.conv (.int .u8) false (.t 65)), v 67 (.bin .or .any (.c (.int .u8 240)) (.t 66)), m 68 1, v 69 (.bin .shr .any (.t 68) (.c (.int .u64 12))), v 70 (.bin .and .any (.t 69) (.c (.int .i32 63))), v 71 (.conv (.int .u8) false (.t 70)), v 72 (.bin .or .any (.c (.int .u8 128)) (.t 71)), m 73 1, v 74 (.bin .shr .any (.t 73) (.c (.int .u64 6))), v 75 (.bin .and .any (.t 74) (.c (.int .i32 63))), v 76 (.conv (.int .u8) false (.t 75)), v 77 (.bin .or .any (.c (.int .u8 128)) (.t 76)), m 78 1, v 79 (.bin .and .any (.t 78) (.c (.int .i32 63))), v 80 (.conv (.int .u8) false (.t 79)), v 81 (.bin .or .any (.c (.int .u8 128)) (.t 80)), v 82 (.mks false none (.int .u8 0) 4 [(0, (.t 67)), (1, (.t 72)), (2, (.t 77)), (3, (.t 81))]), v 83 (.append false none 1 (.t 63) (.t 82)), m 4 83]) .ret))),
 [.tmp 4]⟩
/-- text.Decode -/
def c_text_Decode : DFunc := ⟨53, 
(.seq 
(.region [v 2 (.mv (.c (.lst 0 0 [])))]) 
(.seq 
(.seq 
(.region [m 7 0, v 8 (.len true (.t 7)), v 9 (.bin .geq .any (.t 8) (.c (.int .i64 3))), m 10 9, w 11 (.mv (.t 0)) 10 true, w 12 (.iaddr 1 (.t 11) (.c (.int .i64 0))) 10 true, w 13 (.load none (.t 12)) 10 true, w 14 (.bin .eql .any (.t 13) (.c (.int .u8 239))) 10 true, v 15 (.pick (.t 10) (.t 14) (.c (.bool false))), m 16 15, w 17 (.mv (.t 0)) 16 true, w 18 (.iaddr 1 (.t 17) (.c (.int .i64 1))) 16 true, w 19 (.load none (.t 18)) 16 true, w 20 (.bin .eql .any (.t 19) (.c (.int .u8 187))) 16 true, v 21 (.pick (.t 16) (.t 20) (.c (.bool false))), m 22 21, w 23 (.mv (.t 0)) 22 true, w 24 (.iaddr 1 (.t 23) (.c (.int .i64 2))) 22 true, w 25 (.load none (.t 24)) 22 true, w 26 (.bin .eql .any (.t 25) (.c (.int .u8 191))) 22 true, v 27 (.pick (.t 22) (.t 26) (.c (.bool false)))]) 
(.cond (.t 27) 
(.region [m 28 0, v 29 (.slice 1 (.t 28) (some (.c (.int .i64 3))) none none), m 0 29]) .skip)) 
(.seq 
(.region [v 3 (.alloc [(.lst 0 0 [])] none)]) 
(.seq 
(.region [v 4 (.alloc [(.int .i32 0)] none), u (.store 1 (.t 4) (.c (.int .i32 0)))]) 
(.seq 
(.seq 
(.region [m 30 0, v 31 (.call (.f 54) [(.t 30)] false)]) 
(.block 0 
(.range (.t 31) [32, 33] 
(.region [m 6 33]) 
(.block 1 
(.seq 
(.block 2 
(.seq 
(.region [m 39 6, v 40 (.bin .eql .any (.t 39) (.c (.int .i32 13))), m 38 40]) 
(.cond (.t 38) 
(.region [v 41 (.load none (.t 3)), v 42 (.mks false none (.int .i32 0) 1 [(0, (.c (.int .i32 10)))]), v 43 (.append false none 4 (.t 41) (.t 42)), u (.store 1 (.t 3) (.t 43))]) 
(.seq 
(.region [m 45 6, v 46 (.bin .eql .any (.t 45) (.c (.int .i32 10))), m 47 46, w 48 (.load none (.t 4)) 47 true, w 49 (.bin .eql .any (.t 48) (.c (.int .i32 13))) 47 true, v 50 (.pick (.t 47) (.t 49) (.c (.bool false))), m 44 50]) 
(.cond (.t 44) .skip 
(.region [v 34 (.load none (.t 3)), m 35 6, v 36 (.mks false none (.int .i32 0) 1 [(0, (.t 35))]), v 37 (.append false none 4 (.t 34) (.t 36)), u (.store 1 (.t 3) (.t 37))])))))) 
(.region [m 51 6, u (.store 1 (.t 4) (.t 51))])))))) 
(.seq 
(.region [v 52 (.load none (.t 3)), m 2 52]) .ret)))))),
 [.tmp 2]⟩
/-- (*lex.Lexer).Tokens$1 -/
def c_lex_Lexer_Tokens_1 : DFunc := ⟨18, 
(.block 0 
(.loop 
(.block 1 
(.seq 
(.region [v 6 (.load none (.t 1)), v 7 (.call (.f 41) [(.t 6)] false), m 5 7, v 8 (.extract (.t 5) 0), v 9 (.extract (.t 5) 1), v 3 (.alloc [(.int .i64 0), (.str []), (.lst 0 0 []), (.bool false), (.str []), (.str []), (.str []), (.bool false), (.bool false), (.bool false)] none), u (.store 10 (.t 3) (.t 8)), m 4 9]) 
(.seq 
(.region [m 10 4, v 11 (.un .not (.t 10)), m 12 11, w 13 (.mv (.t 0)) 12 false, w 14 (.load (some 10) (.t 3)) 12 false, w 15 (.call (.t 13) [(.t 14)] false) 12 false, w 16 (.un .not (.t 15)) 12 false, v 17 (.pick (.t 12) (.c (.bool true)) (.t 16))]) 
(.cond (.t 17) .ret .skip)))))),
 []⟩
/-- (*lex.Lexer).Next -/
def c_lex_Lexer_Next : DFunc := ⟨36, 
(.seq 
(.region [v 2 (.alloc [(.int .i64 0), (.str []), (.lst 0 0 []), (.bool false), (.str []), (.str []), (.str []), (.bool false), (.bool false), (.bool false)] none), v 3 (.mv (.c (.bool false)))]) 
(.seq 
(.seq 
(.region [m 5 0, v 6 (.bin .eql .ptr (.t 5) (.c .nilp))]) 
(.cond (.t 6) 
(.seq 
(.region [v 7 (.build [(.int .i64 0), (.str []), (.lst 0 0 []), (.bool false), (.str []), (.str []), (.str []), (.bool false), (.bool false), (.bool false)] []), u (.store 10 (.t 2) (.t 7)), v 3 (.mv (.c (.bool false)))]) .ret) .skip)) 
(.seq 
(.block 0 
(.loop 
(.seq 
(.seq 
(.region [m 8 0, v 9 (.nilc (.t 8)), v 10 (.faddr 5 (.t 9)), v 11 (.load none (.t 10)), v 12 (.len true (.t 11)), v 13 (.bin .eql .any (.t 12) (.c (.int .i64 0)))]) 
(.cond (.t 13) .skip (.exit 0))) 
(.block 1 
(.seq 
(.seq 
(.region [m 14 0, v 15 (.nilc (.t 14)), v 16 (.faddr 7 (.t 15)), v 17 (.load none (.t 16))]) 
(.cond (.t 17) 
(.seq 
(.region [v 18 (.build [(.int .i64 0), (.str []), (.lst 0 0 []), (.bool false), (.str []), (.str []), (.str []), (.bool false), (.bool false), (.bool false)] []), u (.store 10 (.t 2) (.t 18)), v 3 (.mv (.c (.bool false)))]) .ret) .skip)) 
(.region [m 19 0, v 20 (.call (.f 55) [(.t 19)] false)])))))) 
(.seq 
(.region [m 21 0, v 22 (.nilc (.t 21)), v 23 (.faddr 5 (.t 22)), v 24 (.load none (.t 23)), v 25 (.iaddr 10 (.t 24) (.c (.int .i64 0))), v 26 (.load (some 10) (.t 25)), v 4 (.alloc [(.int .i64 0), (.str []), (.lst 0 0 []), (.bool false), (.str []), (.str []), (.str []), (.bool false), (.bool false), (.bool false)] none), u (.store 10 (.t 4) (.t 26))]) 
(.seq 
(.region [m 27 0, m 28 0, v 29 (.nilc (.t 28)), v 30 (.faddr 5 (.t 29)), v 31 (.load none (.t 30)), v 32 (.slice 10 (.t 31) (some (.c (.int .i64 1))) none none), v 33 (.nilc (.t 27)), v 34 (.faddr 5 (.t 33)), u (.store 1 (.t 34) (.t 32))]) 
(.seq 
(.region [v 35 (.load (some 10) (.t 4)), u (.store 10 (.t 2) (.t 35)), v 3 (.mv (.c (.bool true)))]) .ret)))))),
 [.cell 2 (some 10), .tmp 3]⟩
/-- slices.Equal[[]token.Attr,token.Attr] -/
def c_slices_Equal_token_Attr_token_Attr : DFunc := ⟨26, 
(.seq 
(.region [v 4 (.mv (.c (.bool false)))]) 
(.seq 
(.seq 
(.region [m 6 0, v 7 (.len true (.t 6)), m 8 1, v 9 (.len true (.t 8)), v 10 (.bin .neq .any (.t 7) (.t 9))]) 
(.cond (.t 10) 
(.seq 
(.region [v 4 (.mv (.c (.bool false)))]) .ret) .skip)) 
(.seq 
(.seq 
(.region [m 11 0, v 12 (.len true (.t 11)), v 13 (.mv (.c (.int .i64 0)))]) 
(.block 0 
(.loop 
(.seq 
(.region [v 14 (.bin .lss .any (.t 13) (.t 12))]) 
(.seq 
(.cond (.t 14) .skip (.exit 0)) 
(.seq 
(.block 1 
(.seq 
(.region [m 15 13, m 5 15]) 
(.seq 
(.region [m 16 0, m 17 5, v 18 (.iaddr 2 (.t 16) (.t 17)), v 19 (.load (some 2) (.t 18)), m 20 1, m 21 5, v 22 (.iaddr 2 (.t 20) (.t 21)), v 23 (.load (some 2) (.t 22)), v 24 (.bin .neq (.st [.str, .str]) (.t 19) (.t 23))]) 
(.cond (.t 24) 
(.seq 
(.region [v 4 (.mv (.c (.bool false)))]) .ret) .skip)))) 
(.region [v 25 (.bin .add .any (.t 13) (.c (.int .i64 1))), m 13 25]))))))) 
(.seq 
(.region [v 4 (.mv (.c (.bool true)))]) .ret)))),
 [.tmp 4]⟩
/-- slices.Contains[[]string,string] -/
def c_slices_Contains_string_string : DFunc := ⟨9, 
(.seq 
(.region [v 4 (.mv (.c (.bool false)))]) 
(.seq 
(.region [m 5 0, m 6 1, v 7 (.call (.f 56) [(.t 5), (.t 6)] false), v 8 (.bin .geq .any (.t 7) (.c (.int .i64 0))), m 4 8]) .ret)),
 [.tmp 4]⟩
/-- woodcutlaw09.gap -/
def c_woodcutlaw09_gap : DFunc := ⟨8, 
(.seq 
(.region [v 2 (.mv (.c (.str [])))]) 
(.seq 
(.region [v 3 (.mks false none (.str []) 4 [(0, (.c (.str [32]))), (1, (.c (.str [10]))), (2, (.c (.str [9, 32]))), (3, (.c (.str [32, 12])))]), m 4 0, v 5 (.bin .and .any (.t 4) (.c (.int .i64 3))), v 6 (.iaddr 1 (.t 3) (.t 5)), v 7 (.load none (.t 6)), m 2 7]) .ret)),
 [.tmp 2]⟩
/-- woodcutlaw09.escape -/
def c_woodcutlaw09_escape : DFunc := ⟨38, 
(.seq 
(.region [v 2 (.mv (.c (.str [])))]) 
(.seq 
(.region [v 3 (.mv (.c (.str [])))]) 
(.seq 
(.seq 
(.region [v 4 (.mv (.c (.int .i64 0)))]) 
(.block 0 
(.loop 
(.seq 
(.seq 
(.region [m 5 4, m 6 0, v 7 (.len false (.t 6)), v 8 (.bin .lss .any (.t 5) (.t 7))]) 
(.cond (.t 8) .skip (.exit 0))) 
(.seq 
(.block 1 
(.seq 
(.region [m 11 0, m 12 4, v 13 (.idxStr (.t 11) (.t 12))]) 
(.block 2 
(.seq 
(.region [v 22 (.bin .eql .any (.t 13) (.c (.int .u8 38))), m 21 22]) 
(.cond (.t 21) 
(.region [m 23 3, v 24 (.bin .add .any (.t 23) (.c (.str [38, 97, 109, 112, 59]))), m 3 24]) 
(.seq 
(.region [v 26 (.bin .eql .any (.t 13) (.c (.int .u8 60))), m 25 26]) 
(.cond (.t 25) 
(.region [m 27 3, v 28 (.bin .add .any (.t 27) (.c (.str [38, 108, 116, 59]))), m 3 28]) 
(.seq 
(.region [v 30 (.bin .eql .any (.t 13) (.c (.int .u8 34))), m 29 30]) 
(.cond (.t 29) 
(.region [m 31 3, v 32 (.bin .add .any (.t 31) (.c (.str [38, 113, 117, 111, 116, 59]))), m 3 32]) 
(.seq 
(.region [v 34 (.bin .eql .any (.t 13) (.c (.int .u8 39))), m 33 34]) 
(.cond (.t 33) 
(.region [m 35 3, v 36 (.bin .add .any (.t 35) (.c (.str [38, 35, 51, 57, 59]))), m 3 36]) 
(.region [m 14 3, m 15 0, m 16 4, m 17 4, v 18 (.bin .add .any (.t 17) (.c (.int .i64 1))), v 19 (.sliceStr (.t 15) (some (.t 16)) (some (.t 18))), v 20 (.bin .add .any (.t 14) (.t 19)), m 3 20])))))))))))) 
(.region [m 9 4, v 10 (.bin .add .any (.t 9) (.c (.int .i64 1))), m 4 10])))))) 
(.seq 
(.region [m 37 3, m 2 37]) .ret)))),
 [.tmp 2]⟩
/-- token.Without -/
def c_token_Without : DFunc := ⟨9, 
(.seq 
(.region [v 3 (.box (.t 1) 1), v 4 (.mv (.c (.lst 0 0 [])))]) 
(.seq 
(.region [m 5 0, v 6 (.call (.f 58) [(.t 5)] false), v 7 (.mkfn (.func 59) [] [(.t 3)]), v 8 (.call (.f 57) [(.t 6), (.t 7)] false), m 4 8]) .ret)),
 [.tmp 4]⟩
theorem ok_text_Encode : compF Tryd.prog cfg2 17 = some c_text_Encode := by kernel_rfl
theorem ok_text_Letter : compF Tryd.prog cfg2 18 = some c_text_Letter := by kernel_rfl
theorem ok_text_Digit : compF Tryd.prog cfg2 19 = some c_text_Digit := by kernel_rfl
theorem ok_chars_Numeric : compF Tryd.prog cfg2 20 = some c_chars_Numeric := by kernel_rfl
theorem ok_woodcutlaw09_clean : compF Tryd.prog cfg2 21 = some c_woodcutlaw09_clean := by kernel_rfl
theorem ok_lex_New : compF Tryd.prog cfg2 22 = some c_lex_New := by kernel_rfl
theorem ok_lex_Lexer_Way : compF Tryd.prog cfg2 23 = some c_lex_Lexer_Way := by kernel_rfl
theorem ok_lex_Lexer_Tokens : compF Tryd.prog cfg2 24 = some c_lex_Lexer_Tokens := by kernel_rfl
theorem ok_lex_Lexer_Sections : compF Tryd.prog cfg2 25 = some c_lex_Lexer_Sections := by kernel_rfl
theorem ok_token_Join : compF Tryd.prog cfg2 26 = some c_token_Join := by kernel_rfl
theorem ok_woodcutlaw09_same : compF Tryd.prog cfg2 27 = some c_woodcutlaw09_same := by kernel_rfl
theorem ok_token_Token_Same : compF Tryd.prog cfg2 29 = some c_token_Token_Same := by kernel_rfl
theorem ok_token_Token_Is : compF Tryd.prog cfg2 30 = some c_token_Token_Is := by kernel_rfl
theorem ok_woodcutlaw09_write : compF Tryd.prog cfg2 31 = some c_woodcutlaw09_write := by kernel_rfl
theorem ok_woodcutlaw09_LexJoins_1 : compF Tryd.prog cfg2 32 = some c_woodcutlaw09_LexJoins_1 := by kernel_rfl
theorem ok_slices_Collect_token_Token : compF Tryd.prog cfg2 36 = some c_slices_Collect_token_Token := by kernel_rfl
theorem ok_chars_table : compF Tryd.prog cfg2 37 = some c_chars_table := by kernel_rfl
theorem ok_text_Put : compF Tryd.prog cfg2 38 = some c_text_Put := by kernel_rfl
theorem ok_text_Decode : compF Tryd.prog cfg2 39 = some c_text_Decode := by kernel_rfl
theorem ok_lex_Lexer_Tokens_1 : compF Tryd.prog cfg2 40 = some c_lex_Lexer_Tokens_1 := by kernel_rfl
theorem ok_lex_Lexer_Next : compF Tryd.prog cfg2 41 = some c_lex_Lexer_Next := by kernel_rfl
theorem ok_slices_Equal_token_Attr_token_Attr : compF Tryd.prog cfg2 42 = some c_slices_Equal_token_Attr_token_Attr := by kernel_rfl
theorem ok_slices_Contains_string_string : compF Tryd.prog cfg2 43 = some c_slices_Contains_string_string := by kernel_rfl
theorem ok_woodcutlaw09_gap : compF Tryd.prog cfg2 44 = some c_woodcutlaw09_gap := by kernel_rfl
theorem ok_woodcutlaw09_escape : compF Tryd.prog cfg2 45 = some c_woodcutlaw09_escape := by kernel_rfl
theorem ok_token_Without : compF Tryd.prog cfg2 46 = some c_token_Without := by kernel_rfl
end Go.Proofs.YticnenofiibpgaaDoor.Code
/- Functions of the program az code of the D-machine (3): PRINTED BY PROGRAM; each is checked to be what the program's own compiles to. -/
namespace Go.Proofs.YticnenofiibpgaaDoor.Code
set_option linter.unusedSimpArgs false
set_option linter.unusedVariables false
open Go.Dm Go.Dm.C
def cfg3 : Cfg := ⟨fun t => [3, 83].contains t, fun f => [26, 46, 57, 58, 59].contains f⟩
/-- slices.AppendSeq[[]token.Token,token.Token] -/
def c_slices_AppendSeq_token_Token_token_Token : DFunc := ⟨13, 
(.seq 
(.region [v 2 (.box (.t 0) 1), v 4 (.mv (.c (.lst 0 0 [])))]) 
(.seq 
(.seq 
(.region [m 6 1]) 
(.block 0 
(.range (.t 6) [7] 
(.region [v 5 (.alloc [(.int .i64 0), (.str []), (.lst 0 0 []), (.bool false), (.str []), (.str []), (.str []), (.bool false), (.bool false), (.bool false)] none), u (.store 10 (.t 5) (.t 7))]) 
(.block 1 
(.region [v 8 (.load none (.t 2)), v 9 (.load (some 10) (.t 5)), v 10 (.mks false (some 10) (.agg [(.int .i64 0), (.str []), (.lst 0 0 []), (.bool false), (.str []), (.str []), (.str []), (.bool false), (.bool false), (.bool false)]) 1 [(0, (.t 9))]), v 11 (.append false (some 10) 112 (.t 8) (.t 10)), u (.store 1 (.t 2) (.t 11))]))))) 
(.seq 
(.region [v 12 (.load none (.t 2)), m 4 12]) .ret))),
 [.tmp 4]⟩
/-- text.Signs -/
def c_text_Signs : DFunc := ⟨4, 
(.seq 
(.region [v 1 (.box (.t 0) 1), v 2 (.mv (.c .nilfn))]) 
(.seq 
(.region [v 3 (.mkfn (.func 66) [] [(.t 1)]), m 2 3]) .ret)),
 [.tmp 2]⟩
/-- (*lex.Lexer).step -/
def c_lex_Lexer_step : DFunc := ⟨151, 
(.seq 
(.region [m 3 0, v 4 (.call (.f 68) [(.t 3)] false), m 2 4]) 
(.seq 
(.block 0 
(.seq 
(.region [m 31 2, v 32 (.bin .eql .any (.t 31) (.c (.int .i32 (-1)))), m 30 32]) 
(.cond (.t 30) 
(.seq 
(.region [m 33 0, v 34 (.call (.f 69) [(.t 33)] false)]) 
(.region [m 35 0, v 36 (.nilc (.t 35)), v 37 (.faddr 7 (.t 36)), u (.store 1 (.t 37) (.c (.bool true)))])) 
(.seq 
(.region [m 39 2, v 40 (.bin .eql .any (.t 39) (.c (.int .i32 38))), m 41 40, w 42 (.mv (.t 0)) 41 true, w 43 (.nilc (.t 42)) 41 true, w 44 (.faddr 2 (.t 43)) 41 true, w 45 (.load none (.t 44)) 41 true, w 46 (.bin .eql .any (.t 45) (.c (.int .i64 0))) 41 true, w 47 (.mv (.t 46)) 41 true, w 48 (.mv (.t 0)) 47 false, w 49 (.nilc (.t 48)) 47 false, w 50 (.faddr 2 (.t 49)) 47 false, w 51 (.load none (.t 50)) 47 false, w 52 (.bin .eql .any (.t 51) (.c (.int .i64 1))) 47 false, w 53 (.pick (.t 47) (.c (.bool true)) (.t 52)) 41 true, v 54 (.pick (.t 41) (.t 53) (.c (.bool false))), m 38 54]) 
(.cond (.t 38) 
(.region [m 55 0, v 56 (.call (.f 70) [(.t 55), (.c (.bool false))] false)]) 
(.seq 
(.region [m 58 2, v 59 (.bin .eql .any (.t 58) (.c (.int .i32 60))), m 60 59, w 61 (.mv (.t 0)) 60 true, w 62 (.nilc (.t 61)) 60 true, w 63 (.faddr 2 (.t 62)) 60 true, w 64 (.load none (.t 63)) 60 true, w 65 (.bin .eql .any (.t 64) (.c (.int .i64 0))) 60 true, v 66 (.pick (.t 60) (.t 65) (.c (.bool false))), m 57 66]) 
(.cond (.t 57) 
(.seq 
(.region [m 67 0, v 68 (.call (.f 69) [(.t 67)] false)]) 
(.region [m 69 0, v 70 (.call (.f 71) [(.t 69)] false)])) 
(.seq 
(.region [m 72 2, v 73 (.bin .eql .any (.t 72) (.c (.int .i32 60))), m 74 73, w 75 (.mv (.t 0)) 74 true, w 76 (.nilc (.t 75)) 74 true, w 77 (.faddr 2 (.t 76)) 74 true, w 78 (.load none (.t 77)) 74 true, w 79 (.bin .eql .any (.t 78) (.c (.int .i64 1))) 74 true, w 80 (.mv (.t 79)) 74 true, w 81 (.mv (.t 0)) 80 false, w 82 (.nilc (.t 81)) 80 false, w 83 (.faddr 2 (.t 82)) 80 false, w 84 (.load none (.t 83)) 80 false, w 85 (.bin .eql .any (.t 84) (.c (.int .i64 2))) 80 false, w 86 (.pick (.t 80) (.c (.bool true)) (.t 85)) 74 true, v 87 (.pick (.t 74) (.t 86) (.c (.bool false))), m 71 87]) 
(.cond (.t 71) 
(.seq 
(.region [m 88 0, v 89 (.call (.f 69) [(.t 88)] false)]) 
(.region [m 90 0, v 91 (.call (.f 72) [(.t 90)] false)])) 
(.seq 
(.region [m 93 2, v 94 (.bin .eql .any (.t 93) (.c (.int .i32 60))), m 95 94, w 96 (.mv (.t 0)) 95 true, w 97 (.nilc (.t 96)) 95 true, w 98 (.faddr 2 (.t 97)) 95 true, w 99 (.load none (.t 98)) 95 true, w 100 (.bin .eql .any (.t 99) (.c (.int .i64 3))) 95 true, v 101 (.pick (.t 95) (.t 100) (.c (.bool false))), m 92 101]) 
(.cond (.t 92) 
(.seq 
(.region [m 102 0, v 103 (.call (.f 69) [(.t 102)] false)]) 
(.region [m 104 0, v 105 (.call (.f 73) [(.t 104)] false)])) 
(.seq 
(.region [m 107 2, v 108 (.bin .eql .any (.t 107) (.c (.int .i32 0))), m 109 108, w 110 (.mv (.t 0)) 109 true, w 111 (.nilc (.t 110)) 109 true, w 112 (.faddr 2 (.t 111)) 109 true, w 113 (.load none (.t 112)) 109 true, w 114 (.bin .eql .any (.t 113) (.c (.int .i64 0))) 109 true, v 115 (.pick (.t 109) (.t 114) (.c (.bool false))), m 106 115]) 
(.cond (.t 106) 
(.region [m 116 0, v 117 (.mks false none (.int .i32 0) 1 [(0, (.c (.int .i32 0)))]), v 118 (.call (.f 74) [(.t 116), (.t 117)] false)]) 
(.seq 
(.region [m 120 2, v 121 (.bin .eql .any (.t 120) (.c (.int .i32 0))), m 119 121]) 
(.cond (.t 119) 
(.region [m 122 0, v 123 (.mks false none (.int .i32 0) 1 [(0, (.c (.int .i32 65533)))]), v 124 (.call (.f 74) [(.t 122), (.t 123)] false)]) 
(.seq 
(.region [m 5 0, m 6 2, v 7 (.mks false none (.int .i32 0) 1 [(0, (.t 6))]), v 8 (.call (.f 74) [(.t 5), (.t 7)] false)]) 
(.block 1 
(.loop 
(.block 2 
(.seq 
(.seq 
(.region [m 9 0, v 10 (.call (.f 75) [(.t 9), (.c (.int .i64 0))] false), m 2 10]) 
(.seq 
(.region [m 11 2, v 12 (.bin .eql .any (.t 11) (.c (.int .i32 (-1)))), m 13 12, w 14 (.mv (.t 2)) 13 false, w 15 (.bin .eql .any (.t 14) (.c (.int .i32 38))) 13 false, v 16 (.pick (.t 13) (.c (.bool true)) (.t 15)), m 17 16, w 18 (.mv (.t 2)) 17 false, w 19 (.bin .eql .any (.t 18) (.c (.int .i32 60))) 17 false, v 20 (.pick (.t 17) (.c (.bool true)) (.t 19)), m 21 20, w 22 (.mv (.t 2)) 21 false, w 23 (.bin .eql .any (.t 22) (.c (.int .i32 0))) 21 false, v 24 (.pick (.t 21) (.c (.bool true)) (.t 23))]) 
(.cond (.t 24) (.exit 1) .skip))) 
(.region [m 25 0, m 26 0, v 27 (.call (.f 68) [(.t 26)] false), v 28 (.mks false none (.int .i32 0) 1 [(0, (.t 27))]), v 29 (.call (.f 74) [(.t 25), (.t 28)] false)]))))))))))))))))))))) 
(.seq 
(.region [m 125 0, v 126 (.nilc (.t 125)), v 127 (.faddr 5 (.t 126)), v 128 (.load none (.t 127)), v 129 (.len true (.t 128)), v 130 (.bin .eql .any (.t 129) (.c (.int .i64 0))), m 131 130, w 132 (.mv (.t 0)) 131 true, w 133 (.nilc (.t 132)) 131 true, w 134 (.faddr 6 (.t 133)) 131 true, w 135 (.load none (.t 134)) 131 true, w 136 (.len true (.t 135)) 131 true, w 137 (.bin .gtr .any (.t 136) (.c (.int .i64 0))) 131 true, v 138 (.pick (.t 131) (.t 137) (.c (.bool false))), m 139 138, w 140 (.mv (.t 0)) 139 true, w 141 (.call (.f 75) [(.t 140), (.c (.int .i64 0))] false) 139 true, w 142 (.bin .eql .any (.t 141) (.c (.int .i32 60))) 139 true, w 143 (.mv (.t 142)) 139 true, w 144 (.mv (.t 0)) 143 false, w 145 (.call (.f 75) [(.t 144), (.c (.int .i64 0))] false) 143 false, w 146 (.bin .eql .any (.t 145) (.c (.int .i32 (-1)))) 143 false, w 147 (.pick (.t 143) (.c (.bool true)) (.t 146)) 139 true, v 148 (.pick (.t 139) (.t 147) (.c (.bool false)))]) 
(.cond (.t 148) 
(.region [m 149 0, v 150 (.call (.f 69) [(.t 149)] false)]) .skip)))),
 []⟩
/-- slices.Index[[]string,string] -/
def c_slices_Index_string_string : DFunc := ⟨19, 
(.seq 
(.region [v 4 (.mv (.c (.int .i64 0)))]) 
(.seq 
(.seq 
(.region [m 6 0, v 7 (.len true (.t 6)), v 8 (.mv (.c (.int .i64 0)))]) 
(.block 0 
(.loop 
(.seq 
(.region [v 9 (.bin .lss .any (.t 8) (.t 7))]) 
(.seq 
(.cond (.t 9) .skip (.exit 0)) 
(.seq 
(.block 1 
(.seq 
(.region [m 10 8, m 5 10]) 
(.seq 
(.region [m 11 1, m 12 0, m 13 5, v 14 (.iaddr 1 (.t 12) (.t 13)), v 15 (.load none (.t 14)), v 16 (.bin .eql .any (.t 11) (.t 15))]) 
(.cond (.t 16) 
(.seq 
(.region [m 17 5, m 4 17]) .ret) .skip)))) 
(.region [v 18 (.bin .add .any (.t 8) (.c (.int .i64 1))), m 8 18]))))))) 
(.seq 
(.region [v 4 (.mv (.c (.int .i64 (-1))))]) .ret))),
 [.tmp 4]⟩
/-- slices.DeleteFunc[[]token.Attr,token.Attr] -/
def c_slices_DeleteFunc_token_Attr_token_Attr : DFunc := ⟨42, 
(.seq 
(.region [v 4 (.mv (.c (.lst 0 0 [])))]) 
(.seq 
(.region [m 8 0, m 9 1, v 10 (.call (.f 76) [(.t 8), (.t 9)] false), m 5 10]) 
(.seq 
(.seq 
(.region [m 11 5, v 12 (.bin .eql .any (.t 11) (.c (.int .i64 (-1))))]) 
(.cond (.t 12) 
(.seq 
(.region [m 13 0, m 4 13]) .ret) .skip)) 
(.seq 
(.seq 
(.region [m 14 5, v 15 (.bin .add .any (.t 14) (.c (.int .i64 1))), m 6 15]) 
(.block 0 
(.loop 
(.seq 
(.seq 
(.region [m 16 6, m 17 0, v 18 (.len true (.t 17)), v 19 (.bin .lss .any (.t 16) (.t 18))]) 
(.cond (.t 19) .skip (.exit 0))) 
(.seq 
(.block 1 
(.seq 
(.region [m 22 0, m 23 6, v 24 (.iaddr 2 (.t 22) (.t 23)), v 25 (.load (some 2) (.t 24)), v 7 (.alloc [(.str []), (.str [])] none), u (.store 2 (.t 7) (.t 25))]) 
(.seq 
(.region [m 26 1, v 27 (.load (some 2) (.t 7)), v 28 (.call (.t 26) [(.t 27)] false), v 29 (.un .not (.t 28))]) 
(.cond (.t 29) 
(.seq 
(.region [m 30 0, m 31 5, v 32 (.load (some 2) (.t 7)), v 33 (.iaddr 2 (.t 30) (.t 31)), u (.store 2 (.t 33) (.t 32))]) 
(.region [m 34 5, v 35 (.bin .add .any (.t 34) (.c (.int .i64 1))), m 5 35])) .skip)))) 
(.region [m 20 6, v 21 (.bin .add .any (.t 20) (.c (.int .i64 1))), m 6 21])))))) 
(.seq 
(.region [m 36 0, m 37 5, v 38 (.slice 2 (.t 36) (some (.t 37)) none none), u (.clear [(.str []), (.str [])] (.t 38))]) 
(.seq 
(.region [m 39 0, m 40 5, v 41 (.slice 2 (.t 39) none (some (.t 40)) none), m 4 41]) .ret)))))),
 [.tmp 4]⟩
/-- slices.Clone[[]token.Attr,token.Attr] -/
def c_slices_Clone_token_Attr_token_Attr : DFunc := ⟨8, 
(.seq 
(.region [v 2 (.mv (.c (.lst 0 0 [])))]) 
(.seq 
(.seq 
(.region [m 3 0, v 4 (.bin .eql .sl (.t 3) (.c (.lst 0 0 [])))]) 
(.cond (.t 4) 
(.seq 
(.region [v 2 (.mv (.c (.lst 0 0 [])))]) .ret) .skip)) 
(.seq 
(.region [v 5 (.mks true (some 2) (.agg [(.str []), (.str [])]) 0 []), m 6 0, v 7 (.append true (some 2) 32 (.t 5) (.t 6)), m 2 7]) .ret))),
 [.tmp 2]⟩
/-- token.Without$1 -/
def c_token_Without_1 : DFunc := ⟨8, 
(.seq 
(.region [v 2 (.box (.t 0) 2), v 3 (.mv (.c (.bool false)))]) 
(.seq 
(.region [v 4 (.faddr 0 (.t 2)), v 5 (.load none (.t 4)), v 6 (.load none (.t 1)), v 7 (.bin .eql .any (.t 5) (.t 6)), m 3 7]) .ret)),
 [.tmp 3]⟩
/-- text.Signs$1 -/
def c_text_Signs_1 : DFunc := ⟨25, 
(.seq 
(.region [v 3 (.mv (.c (.int .i64 0)))]) 
(.block 0 
(.loop 
(.seq 
(.seq 
(.region [m 6 3, v 7 (.load none (.t 1)), v 8 (.len true (.t 7)), v 9 (.bin .lss .any (.t 6) (.t 8))]) 
(.cond (.t 9) .skip (.exit 0))) 
(.block 1 
(.seq 
(.region [v 11 (.load none (.t 1)), m 12 3, v 13 (.slice 1 (.t 11) (some (.t 12)) none none), v 14 (.call (.f 67) [(.t 13)] false), m 10 14, v 15 (.extract (.t 10) 0), v 16 (.extract (.t 10) 1), m 4 15, m 5 16]) 
(.seq 
(.seq 
(.region [m 17 0, m 18 3, m 19 4, v 20 (.call (.t 17) [(.t 18), (.t 19)] false), v 21 (.un .not (.t 20))]) 
(.cond (.t 21) .ret .skip)) 
(.region [m 22 3, m 23 5, v 24 (.bin .add .any (.t 22) (.t 23)), m 3 24])))))))),
 []⟩
/-- text.one -/
def c_text_one : DFunc := ⟨72, 
(.seq 
(.region [v 2 (.mv (.c (.int .i32 0))), v 3 (.mv (.c (.int .i64 0)))]) 
(.seq 
(.seq 
(.region [m 9 0, v 10 (.iaddr 1 (.t 9) (.c (.int .i64 0))), v 11 (.load none (.t 10)), v 12 (.bin .lss .any (.t 11) (.c (.int .u8 128)))]) 
(.cond (.t 12) 
(.seq 
(.region [m 13 0, v 14 (.iaddr 1 (.t 13) (.c (.int .i64 0))), v 15 (.load none (.t 14)), v 16 (.conv (.int .i32) false (.t 15)), m 2 16, v 3 (.mv (.c (.int .i64 1)))]) .ret) .skip)) 
(.seq 
(.region [m 18 0, v 19 (.iaddr 1 (.t 18) (.c (.int .i64 0))), v 20 (.load none (.t 19)), v 21 (.call (.f 86) [(.t 20)] false), m 17 21, v 22 (.extract (.t 17) 0), v 23 (.extract (.t 17) 1), v 24 (.extract (.t 17) 2), m 4 22, m 5 23, m 6 24]) 
(.seq 
(.seq 
(.region [m 25 4, v 26 (.bin .eql .any (.t 25) (.c (.int .i64 0)))]) 
(.cond (.t 26) 
(.seq 
(.region [v 2 (.mv (.c (.int .i32 65533))), v 3 (.mv (.c (.int .i64 1)))]) .ret) .skip)) 
(.seq 
(.region [m 27 0, v 28 (.iaddr 1 (.t 27) (.c (.int .i64 0))), v 29 (.load none (.t 28)), v 30 (.conv (.int .i32) false (.t 29)), m 31 4, v 32 (.bin .shr .any (.c (.int .i32 63)) (.t 31)), v 33 (.bin .and .any (.t 30) (.t 32)), m 7 33]) 
(.seq 
(.seq 
(.region [v 8 (.mv (.c (.int .i64 1)))]) 
(.block 0 
(.loop 
(.seq 
(.seq 
(.region [m 34 8, m 35 4, v 36 (.bin .leq .any (.t 34) (.t 35))]) 
(.cond (.t 36) .skip (.exit 0))) 
(.seq 
(.block 1 
(.seq 
(.seq 
(.region [m 39 8, m 40 0, v 41 (.len true (.t 40)), v 42 (.bin .geq .any (.t 39) (.t 41)), m 43 42, w 44 (.mv (.t 0)) 43 false, w 45 (.mv (.t 8)) 43 false, w 46 (.iaddr 1 (.t 44) (.t 45)) 43 false, w 47 (.load none (.t 46)) 43 false, w 48 (.mv (.t 5)) 43 false, w 49 (.bin .lss .any (.t 47) (.t 48)) 43 false, v 50 (.pick (.t 43) (.c (.bool true)) (.t 49)), m 51 50, w 52 (.mv (.t 0)) 51 false, w 53 (.mv (.t 8)) 51 false, w 54 (.iaddr 1 (.t 52) (.t 53)) 51 false, w 55 (.load none (.t 54)) 51 false, w 56 (.mv (.t 6)) 51 false, w 57 (.bin .gtr .any (.t 55) (.t 56)) 51 false, v 58 (.pick (.t 51) (.c (.bool true)) (.t 57))]) 
(.cond (.t 58) 
(.seq 
(.region [m 59 8, v 2 (.mv (.c (.int .i32 65533))), m 3 59]) .ret) .skip)) 
(.seq 
(.region [m 60 7, v 61 (.bin .shl .any (.t 60) (.c (.int .u64 6))), m 62 0, m 63 8, v 64 (.iaddr 1 (.t 62) (.t 63)), v 65 (.load none (.t 64)), v 66 (.bin .and .any (.t 65) (.c (.int .u8 63))), v 67 (.conv (.int .i32) false (.t 66)), v 68 (.bin .or .any (.t 61) (.t 67)), m 7 68]) 
(.region [v 5 (.mv (.c (.int .u8 128))), v 6 (.mv (.c (.int .u8 191)))])))) 
(.region [m 37 8, v 38 (.bin .add .any (.t 37) (.c (.int .i64 1))), m 8 38])))))) 
(.seq 
(.region [m 69 7, m 70 4, v 71 (.bin .add .any (.t 70) (.c (.int .i64 1))), m 2 69, m 3 71]) .ret))))))),
 [.tmp 2, .tmp 3]⟩
/-- (*lex.Lexer).next -/
def c_lex_Lexer_next : DFunc := ⟨14, 
(.seq 
(.region [v 2 (.mv (.c (.int .i32 0)))]) 
(.seq 
(.region [m 4 0, v 5 (.call (.f 75) [(.t 4), (.c (.int .i64 0))] false), m 3 5]) 
(.seq 
(.region [m 6 0, v 7 (.nilc (.t 6)), v 8 (.faddr 1 (.t 7)), v 9 (.load none (.t 8)), v 10 (.bin .add .any (.t 9) (.c (.int .i64 1))), v 11 (.nilc (.t 6)), v 12 (.faddr 1 (.t 11)), u (.store 1 (.t 12) (.t 10))]) 
(.seq 
(.region [m 13 3, m 2 13]) .ret)))),
 [.tmp 2]⟩
/-- (*lex.Lexer).flush -/
def c_lex_Lexer_flush : DFunc := ⟨27, 
(.seq 
(.region [m 2 0, v 3 (.nilc (.t 2)), v 4 (.faddr 6 (.t 3)), v 5 (.load none (.t 4)), v 6 (.len true (.t 5)), v 7 (.bin .gtr .any (.t 6) (.c (.int .i64 0)))]) 
(.cond (.t 7) 
(.seq 
(.region [m 8 0, m 9 0, v 10 (.nilc (.t 9)), v 11 (.faddr 5 (.t 10)), v 12 (.load none (.t 11)), m 13 0, v 14 (.nilc (.t 13)), v 15 (.faddr 6 (.t 14)), v 16 (.load none (.t 15)), ⟨(some 17), .call (.f 17) [(.t 16)] false, none, [((.t 11), none, 12, none)]⟩, v 18 (.conv .bytesStr false (.t 17)), v 19 (.build [(.int .i64 0), (.str []), (.lst 0 0 []), (.bool false), (.str []), (.str []), (.str []), (.bool false), (.bool false), (.bool false)] [(0, 1, (.c (.int .i64 1))), (4, 1, (.t 18))]), v 20 (.mks false (some 10) (.agg [(.int .i64 0), (.str []), (.lst 0 0 []), (.bool false), (.str []), (.str []), (.str []), (.bool false), (.bool false), (.bool false)]) 1 [(0, (.t 19))]), v 21 (.append false (some 10) 112 (.t 12) (.t 20)), v 22 (.nilc (.t 8)), v 23 (.faddr 5 (.t 22)), u (.store 1 (.t 23) (.t 21))]) 
(.region [m 24 0, v 25 (.nilc (.t 24)), v 26 (.faddr 6 (.t 25)), u (.store 1 (.t 26) (.c (.lst 0 0 [])))])) .skip)),
 []⟩
/-- (*lex.Lexer).reference -/
def c_lex_Lexer_reference : DFunc := ⟨135, 
(.seq 
(.region [m 13 0, v 14 (.nilc (.t 13)), v 15 (.faddr 0 (.t 14)), v 16 (.load none (.t 15)), m 17 0, v 18 (.nilc (.t 17)), v 19 (.faddr 1 (.t 18)), v 20 (.load none (.t 19)), m 21 0, v 22 (.nilc (.t 21)), v 23 (.faddr 0 (.t 22)), v 24 (.load none (.t 23)), v 25 (.len true (.t 24)), v 26 (.minmax false (.t 20) (.t 25)), v 27 (.slice 1 (.t 16) (some (.t 26)) none none), m 4 27]) 
(.seq 
(.seq 
(.region [m 28 4, v 29 (.len true (.t 28)), v 30 (.bin .gtr .any (.t 29) (.c (.int .i64 0))), m 31 30, w 32 (.mv (.t 4)) 31 true, w 33 (.iaddr 1 (.t 32) (.c (.int .i64 0))) 31 true, w 34 (.load none (.t 33)) 31 true, w 35 (.bin .eql .any (.t 34) (.c (.int .i32 35))) 31 true, v 36 (.pick (.t 31) (.t 35) (.c (.bool false)))]) 
(.cond (.t 36) 
(.seq 
(.region [v 5 (.mv (.c (.int .i64 1))), v 6 (.mv (.c (.int .i64 10)))]) 
(.seq 
(.seq 
(.region [m 37 4, v 38 (.len true (.t 37)), v 39 (.bin .gtr .any (.t 38) (.c (.int .i64 1))), m 40 39, w 41 (.mv (.t 4)) 40 true, w 42 (.iaddr 1 (.t 41) (.c (.int .i64 1))) 40 true, w 43 (.load none (.t 42)) 40 true, w 44 (.bin .eql .any (.t 43) (.c (.int .i32 120))) 40 true, w 45 (.mv (.t 44)) 40 true, w 46 (.mv (.t 4)) 45 false, w 47 (.iaddr 1 (.t 46) (.c (.int .i64 1))) 45 false, w 48 (.load none (.t 47)) 45 false, w 49 (.bin .eql .any (.t 48) (.c (.int .i32 88))) 45 false, w 50 (.pick (.t 45) (.c (.bool true)) (.t 49)) 40 true, v 51 (.pick (.t 40) (.t 50) (.c (.bool false)))]) 
(.cond (.t 51) 
(.region [v 5 (.mv (.c (.int .i64 2))), v 6 (.mv (.c (.int .i64 16)))]) .skip)) 
(.seq 
(.region [m 53 4, m 54 5, v 55 (.slice 1 (.t 53) (some (.t 54)) none none), m 56 6, v 57 (.call (.f 87) [(.t 55), (.t 56)] false), m 52 57, v 58 (.extract (.t 52) 0), v 59 (.extract (.t 52) 1), m 7 58, m 8 59]) 
(.seq 
(.seq 
(.region [m 60 8, v 61 (.bin .eql .any (.t 60) (.c (.int .i64 0)))]) 
(.cond (.t 61) 
(.seq 
(.region [m 62 0, v 63 (.mks false none (.int .i32 0) 1 [(0, (.c (.int .i32 38)))]), v 64 (.call (.f 74) [(.t 62), (.t 63)] false)]) .ret) .skip)) 
(.seq 
(.region [m 65 0, v 66 (.nilc (.t 65)), v 67 (.faddr 1 (.t 66)), v 68 (.load none (.t 67)), m 69 5, m 70 8, v 71 (.bin .add .any (.t 69) (.t 70)), v 72 (.bin .add .any (.t 68) (.t 71)), v 73 (.nilc (.t 65)), v 74 (.faddr 1 (.t 73)), u (.store 1 (.t 74) (.t 72))]) 
(.seq 
(.seq 
(.region [m 75 0, v 76 (.call (.f 75) [(.t 75), (.c (.int .i64 0))] false), v 77 (.bin .eql .any (.t 76) (.c (.int .i32 59)))]) 
(.cond (.t 77) 
(.region [m 78 0, v 79 (.call (.f 68) [(.t 78)] false)]) .skip)) 
(.seq 
(.region [m 80 0, m 81 7, v 82 (.call (.f 20) [(.t 81)] false), v 83 (.mks false none (.int .i32 0) 1 [(0, (.t 82))]), v 84 (.call (.f 74) [(.t 80), (.t 83)] false)]) .ret))))))) .skip)) 
(.seq 
(.region [m 86 4, v 87 (.call (.f 16) [(.t 86)] false), m 85 87, v 88 (.extract (.t 85) 0), v 89 (.extract (.t 85) 1), v 90 (.extract (.t 85) 2), m 9 88, m 10 89, m 11 90]) 
(.seq 
(.seq 
(.region [m 91 10, v 92 (.bin .eql .any (.t 91) (.c (.int .i64 0)))]) 
(.cond (.t 92) 
(.seq 
(.region [m 93 0, v 94 (.mks false none (.int .i32 0) 1 [(0, (.c (.int .i32 38)))]), v 95 (.call (.f 74) [(.t 93), (.t 94)] false)]) .ret) .skip)) 
(.seq 
(.seq 
(.region [m 96 1, m 97 96, w 98 (.mv (.t 11)) 97 true, w 99 (.un .not (.t 98)) 97 true, v 100 (.pick (.t 97) (.t 99) (.c (.bool false))), m 101 100, w 102 (.mv (.t 10)) 101 true, w 103 (.mv (.t 4)) 101 true, w 104 (.len true (.t 103)) 101 true, w 105 (.bin .lss .any (.t 102) (.t 104)) 101 true, v 106 (.pick (.t 101) (.t 105) (.c (.bool false)))]) 
(.cond (.t 106) 
(.seq 
(.region [m 107 4, m 108 10, v 109 (.iaddr 1 (.t 107) (.t 108)), v 110 (.load none (.t 109)), m 12 110]) 
(.seq 
(.region [m 111 12, v 112 (.bin .eql .any (.t 111) (.c (.int .i32 61))), m 113 112, w 114 (.mv (.t 12)) 113 false, w 115 (.call (.f 18) [(.t 114)] false) 113 false, v 116 (.pick (.t 113) (.c (.bool true)) (.t 115)), m 117 116, w 118 (.mv (.t 12)) 117 false, w 119 (.call (.f 19) [(.t 118)] false) 117 false, v 120 (.pick (.t 117) (.c (.bool true)) (.t 119))]) 
(.cond (.t 120) 
(.seq 
(.region [m 121 0, v 122 (.mks false none (.int .i32 0) 1 [(0, (.c (.int .i32 38)))]), v 123 (.call (.f 74) [(.t 121), (.t 122)] false)]) .ret) .skip))) .skip)) 
(.seq 
(.region [m 124 0, v 125 (.nilc (.t 124)), v 126 (.faddr 1 (.t 125)), v 127 (.load none (.t 126)), m 128 10, v 129 (.bin .add .any (.t 127) (.t 128)), v 130 (.nilc (.t 124)), v 131 (.faddr 1 (.t 130)), u (.store 1 (.t 131) (.t 129))]) 
(.region [m 132 0, m 133 9, v 134 (.call (.f 74) [(.t 132), (.t 133)] false)]))))))),
 []⟩
/-- (*lex.Lexer).open -/
def c_lex_Lexer_open : DFunc := ⟨34, 
(.seq 
(.region [m 3 0, v 4 (.call (.f 68) [(.t 3)] false), m 2 4]) 
(.block 0 
(.seq 
(.region [m 11 2, v 12 (.bin .eql .any (.t 11) (.c (.int .i32 33))), m 10 12]) 
(.cond (.t 10) 
(.region [m 13 0, v 14 (.call (.f 88) [(.t 13)] false)]) 
(.seq 
(.region [m 16 2, v 17 (.bin .eql .any (.t 16) (.c (.int .i32 47))), m 15 17]) 
(.cond (.t 15) 
(.region [m 18 0, v 19 (.call (.f 89) [(.t 18)] false)]) 
(.seq 
(.region [m 21 2, v 22 (.call (.f 18) [(.t 21)] false), m 20 22]) 
(.cond (.t 20) 
(.seq 
(.region [m 23 0, v 24 (.call (.f 90) [(.t 23)] false)]) 
(.region [m 25 0, v 26 (.call (.f 91) [(.t 25), (.c (.int .i64 2))] false)])) 
(.seq 
(.region [m 28 2, v 29 (.bin .eql .any (.t 28) (.c (.int .i32 63))), m 27 29]) 
(.cond (.t 27) 
(.seq 
(.region [m 30 0, v 31 (.call (.f 90) [(.t 30)] false)]) 
(.region [m 32 0, v 33 (.call (.f 92) [(.t 32)] false)])) 
(.seq 
(.region [m 5 0, v 6 (.call (.f 90) [(.t 5)] false)]) 
(.region [m 7 0, v 8 (.mks false none (.int .i32 0) 1 [(0, (.c (.int .i32 60)))]), v 9 (.call (.f 74) [(.t 7), (.t 8)] false)])))))))))))),
 []⟩
/-- (*lex.Lexer).close -/
def c_lex_Lexer_close : DFunc := ⟨21, 
(.seq 
(.region [v 2 (.mv (.c (.bool false)))]) 
(.seq 
(.seq 
(.region [m 3 0, v 4 (.call (.f 93) [(.t 3)] false), v 5 (.bin .eql .any (.t 4) (.c (.int .i64 0)))]) 
(.cond (.t 5) 
(.seq 
(.region [m 6 0, v 7 (.mks false none (.int .i32 0) 1 [(0, (.c (.int .i32 60)))]), v 8 (.call (.f 74) [(.t 6), (.t 7)] false)]) 
(.seq 
(.region [v 2 (.mv (.c (.bool false)))]) .ret)) .skip)) 
(.seq 
(.region [m 9 0, v 10 (.nilc (.t 9)), v 11 (.faddr 1 (.t 10)), v 12 (.load none (.t 11)), v 13 (.bin .add .any (.t 12) (.c (.int .i64 1))), v 14 (.nilc (.t 9)), v 15 (.faddr 1 (.t 14)), u (.store 1 (.t 15) (.t 13))]) 
(.seq 
(.region [m 16 0, v 17 (.nilc (.t 16)), v 18 (.faddr 2 (.t 17)), u (.store 1 (.t 18) (.c (.int .i64 0)))]) 
(.seq 
(.region [m 19 0, v 20 (.call (.f 91) [(.t 19), (.c (.int .i64 3))] false)]) 
(.seq 
(.region [v 2 (.mv (.c (.bool true)))]) .ret)))))),
 [.tmp 2]⟩
/-- (*lex.Lexer).script -/
def c_lex_Lexer_script : DFunc := ⟨109, 
(.seq 
(.seq 
(.region [m 7 0, v 8 (.call (.f 94) [(.t 7), (.c (.str [33, 45, 45]))] false), v 9 (.un .not (.t 8))]) 
(.cond (.t 9) 
(.seq 
(.region [m 10 0, v 11 (.call (.f 72) [(.t 10)] false)]) .ret) .skip)) 
(.seq 
(.region [m 12 0, v 13 (.mks false none (.int .i32 0) 4 [(0, (.c (.int .i32 60))), (1, (.c (.int .i32 33))), (2, (.c (.int .i32 45))), (3, (.c (.int .i32 45)))]), v 14 (.call (.f 74) [(.t 12), (.t 13)] false)]) 
(.seq 
(.region [m 15 0, v 16 (.nilc (.t 15)), v 17 (.faddr 1 (.t 16)), v 18 (.load none (.t 17)), v 19 (.bin .add .any (.t 18) (.c (.int .i64 3))), v 20 (.nilc (.t 15)), v 21 (.faddr 1 (.t 20)), u (.store 1 (.t 21) (.t 19))]) 
(.seq 
(.region [v 2 (.mv (.c (.int .i64 2))), v 3 (.mv (.c (.bool false)))]) 
(.block 0 
(.loop 
(.block 1 
(.seq 
(.region [m 22 0, v 23 (.call (.f 68) [(.t 22)] false), m 4 23]) 
(.seq 
(.block 2 
(.seq 
(.region [m 29 4, v 30 (.bin .eql .any (.t 29) (.c (.int .i32 (-1)))), m 28 30]) 
(.cond (.t 28) 
(.seq 
(.region [m 31 0, v 32 (.call (.f 90) [(.t 31)] false)]) .ret) 
(.seq 
(.region [m 34 4, v 35 (.bin .eql .any (.t 34) (.c (.int .i32 45))), m 33 35]) 
(.cond (.t 33) 
(.seq 
(.region [m 36 0, m 37 4, v 38 (.mks false none (.int .i32 0) 1 [(0, (.t 37))]), v 39 (.call (.f 74) [(.t 36), (.t 38)] false)]) 
(.seq 
(.region [m 40 2, v 41 (.bin .add .any (.t 40) (.c (.int .i64 1))), m 2 41]) (.exit 1))) 
(.seq 
(.region [m 43 4, v 44 (.bin .eql .any (.t 43) (.c (.int .i32 62))), m 45 44, w 46 (.mv (.t 2)) 45 true, w 47 (.bin .geq .any (.t 46) (.c (.int .i64 2))) 45 true, v 48 (.pick (.t 45) (.t 47) (.c (.bool false))), m 42 48]) 
(.cond (.t 42) 
(.seq 
(.region [m 49 0, m 50 4, v 51 (.mks false none (.int .i32 0) 1 [(0, (.t 50))]), v 52 (.call (.f 74) [(.t 49), (.t 51)] false)]) .ret) 
(.seq 
(.region [m 54 4, v 55 (.bin .eql .any (.t 54) (.c (.int .i32 60))), m 56 55, w 57 (.mv (.t 3)) 56 true, w 58 (.un .not (.t 57)) 56 true, v 59 (.pick (.t 56) (.t 58) (.c (.bool false))), m 53 59]) 
(.cond (.t 53) 
(.seq 
(.seq 
(.region [m 60 0, v 61 (.call (.f 93) [(.t 60)] false), v 62 (.bin .gtr .any (.t 61) (.c (.int .i64 0)))]) 
(.cond (.t 62) 
(.seq 
(.region [m 63 0, v 64 (.call (.f 69) [(.t 63)] false)]) 
(.seq 
(.region [m 65 0, v 66 (.call (.f 72) [(.t 65)] false)]) .ret)) .skip)) 
(.seq 
(.region [m 67 0, m 68 4, v 69 (.mks false none (.int .i32 0) 1 [(0, (.t 68))]), v 70 (.call (.f 74) [(.t 67), (.t 69)] false)]) 
(.seq 
(.region [m 71 0, v 72 (.call (.f 95) [(.t 71)] false), m 5 72]) 
(.seq 
(.region [m 73 5, v 74 (.bin .gtr .any (.t 73) (.c (.int .i64 0)))]) 
(.cond (.t 74) 
(.seq 
(.region [v 3 (.mv (.c (.bool true)))]) 
(.region [m 75 0, m 76 5, v 77 (.call (.f 96) [(.t 75), (.t 76)] false)])) .skip))))) 
(.seq 
(.region [m 79 4, v 80 (.bin .eql .any (.t 79) (.c (.int .i32 60))), m 81 80, w 82 (.mv (.t 3)) 81 true, v 83 (.pick (.t 81) (.t 82) (.c (.bool false))), m 78 83]) 
(.cond (.t 78) 
(.seq 
(.region [m 84 0, m 85 4, v 86 (.mks false none (.int .i32 0) 1 [(0, (.t 85))]), v 87 (.call (.f 74) [(.t 84), (.t 86)] false)]) 
(.seq 
(.region [m 88 0, v 89 (.call (.f 75) [(.t 88), (.c (.int .i64 0))] false), v 90 (.bin .eql .any (.t 89) (.c (.int .i32 47)))]) 
(.cond (.t 90) 
(.seq 
(.region [m 91 0, m 92 0, v 93 (.call (.f 68) [(.t 92)] false), v 94 (.mks false none (.int .i32 0) 1 [(0, (.t 93))]), v 95 (.call (.f 74) [(.t 91), (.t 94)] false)]) 
(.seq 
(.region [m 96 0, v 97 (.call (.f 95) [(.t 96)] false), m 6 97]) 
(.seq 
(.region [m 98 6, v 99 (.bin .gtr .any (.t 98) (.c (.int .i64 0)))]) 
(.cond (.t 99) 
(.seq 
(.region [v 3 (.mv (.c (.bool false)))]) 
(.region [m 100 0, m 101 6, v 102 (.call (.f 96) [(.t 100), (.t 101)] false)])) .skip)))) .skip))) 
(.seq 
(.region [m 104 4, v 105 (.bin .eql .any (.t 104) (.c (.int .i32 0))), m 103 105]) 
(.cond (.t 103) 
(.region [m 106 0, v 107 (.mks false none (.int .i32 0) 1 [(0, (.c (.int .i32 65533)))]), v 108 (.call (.f 74) [(.t 106), (.t 107)] false)]) 
(.region [m 24 0, m 25 4, v 26 (.mks false none (.int .i32 0) 1 [(0, (.t 25))]), v 27 (.call (.f 74) [(.t 24), (.t 26)] false)])))))))))))))) 
(.region [v 2 (.mv (.c (.int .i64 0)))])))))))))),
 []⟩
/-- (*lex.Lexer).say -/
def c_lex_Lexer_say : DFunc := ⟨25, 
(.seq 
(.region [m 6 1, v 7 (.len true (.t 6)), v 8 (.mv (.c (.int .i64 0)))]) 
(.block 0 
(.loop 
(.seq 
(.region [v 9 (.bin .lss .any (.t 8) (.t 7))]) 
(.seq 
(.cond (.t 9) .skip (.exit 0)) 
(.seq 
(.block 1 
(.seq 
(.region [v 10 (.iaddr 1 (.t 6) (.t 8)), v 11 (.load none (.t 10)), m 5 11]) 
(.seq 
(.region [m 12 5, v 13 (.bin .neq .any (.t 12) (.c (.int .i32 (-1))))]) 
(.cond (.t 13) 
(.region [m 14 0, m 15 0, v 16 (.nilc (.t 15)), v 17 (.faddr 6 (.t 16)), v 18 (.load none (.t 17)), m 19 5, v 20 (.mks false none (.int .i32 0) 1 [(0, (.t 19))]), v 21 (.append false none 4 (.t 18) (.t 20)), v 22 (.nilc (.t 14)), v 23 (.faddr 6 (.t 22)), u (.store 1 (.t 23) (.t 21))]) .skip)))) 
(.region [v 24 (.bin .add .any (.t 8) (.c (.int .i64 1))), m 8 24]))))))),
 []⟩
/-- (*lex.Lexer).peek -/
def c_lex_Lexer_peek : DFunc := ⟨29, 
(.seq 
(.region [v 4 (.mv (.c (.int .i32 0)))]) 
(.seq 
(.seq 
(.region [m 5 0, v 6 (.nilc (.t 5)), v 7 (.faddr 1 (.t 6)), v 8 (.load none (.t 7)), m 9 1, v 10 (.bin .add .any (.t 8) (.t 9)), m 11 0, v 12 (.nilc (.t 11)), v 13 (.faddr 0 (.t 12)), v 14 (.load none (.t 13)), v 15 (.len true (.t 14)), v 16 (.bin .geq .any (.t 10) (.t 15))]) 
(.cond (.t 16) 
(.seq 
(.region [v 4 (.mv (.c (.int .i32 (-1))))]) .ret) .skip)) 
(.seq 
(.region [m 17 0, v 18 (.nilc (.t 17)), v 19 (.faddr 0 (.t 18)), v 20 (.load none (.t 19)), m 21 0, v 22 (.nilc (.t 21)), v 23 (.faddr 1 (.t 22)), v 24 (.load none (.t 23)), m 25 1, v 26 (.bin .add .any (.t 24) (.t 25)), v 27 (.iaddr 1 (.t 20) (.t 26)), v 28 (.load none (.t 27)), m 4 28]) .ret))),
 [.tmp 4]⟩
/-- slices.IndexFunc[[]token.Attr,token.Attr] -/
def c_slices_IndexFunc_token_Attr_token_Attr : DFunc := ⟨19, 
(.seq 
(.region [v 4 (.mv (.c (.int .i64 0)))]) 
(.seq 
(.seq 
(.region [m 6 0, v 7 (.len true (.t 6)), v 8 (.mv (.c (.int .i64 0)))]) 
(.block 0 
(.loop 
(.seq 
(.region [v 9 (.bin .lss .any (.t 8) (.t 7))]) 
(.seq 
(.cond (.t 9) .skip (.exit 0)) 
(.seq 
(.block 1 
(.seq 
(.region [m 10 8, m 5 10]) 
(.seq 
(.region [m 11 1, m 12 0, m 13 5, v 14 (.iaddr 2 (.t 12) (.t 13)), v 15 (.load (some 2) (.t 14)), v 16 (.call (.t 11) [(.t 15)] false)]) 
(.cond (.t 16) 
(.seq 
(.region [m 17 5, m 4 17]) .ret) .skip)))) 
(.region [v 18 (.bin .add .any (.t 8) (.c (.int .i64 1))), m 8 18]))))))) 
(.seq 
(.region [v 4 (.mv (.c (.int .i64 (-1))))]) .ret))),
 [.tmp 4]⟩
theorem ok_slices_AppendSeq_token_Token_token_Token : compF Tryd.prog cfg3 53 = some c_slices_AppendSeq_token_Token_token_Token := by kernel_rfl
theorem ok_text_Signs : compF Tryd.prog cfg3 54 = some c_text_Signs := by kernel_rfl
theorem ok_lex_Lexer_step : compF Tryd.prog cfg3 55 = some c_lex_Lexer_step := by kernel_rfl
theorem ok_slices_Index_string_string : compF Tryd.prog cfg3 56 = some c_slices_Index_string_string := by kernel_rfl
theorem ok_slices_DeleteFunc_token_Attr_token_Attr : compF Tryd.prog cfg3 57 = some c_slices_DeleteFunc_token_Attr_token_Attr := by kernel_rfl
theorem ok_slices_Clone_token_Attr_token_Attr : compF Tryd.prog cfg3 58 = some c_slices_Clone_token_Attr_token_Attr := by kernel_rfl
theorem ok_token_Without_1 : compF Tryd.prog cfg3 59 = some c_token_Without_1 := by kernel_rfl
theorem ok_text_Signs_1 : compF Tryd.prog cfg3 66 = some c_text_Signs_1 := by kernel_rfl
theorem ok_text_one : compF Tryd.prog cfg3 67 = some c_text_one := by kernel_rfl
theorem ok_lex_Lexer_next : compF Tryd.prog cfg3 68 = some c_lex_Lexer_next := by kernel_rfl
theorem ok_lex_Lexer_flush : compF Tryd.prog cfg3 69 = some c_lex_Lexer_flush := by kernel_rfl
theorem ok_lex_Lexer_reference : compF Tryd.prog cfg3 70 = some c_lex_Lexer_reference := by kernel_rfl
theorem ok_lex_Lexer_open : compF Tryd.prog cfg3 71 = some c_lex_Lexer_open := by kernel_rfl
theorem ok_lex_Lexer_close : compF Tryd.prog cfg3 72 = some c_lex_Lexer_close := by kernel_rfl
theorem ok_lex_Lexer_script : compF Tryd.prog cfg3 73 = some c_lex_Lexer_script := by kernel_rfl
theorem ok_lex_Lexer_say : compF Tryd.prog cfg3 74 = some c_lex_Lexer_say := by kernel_rfl
theorem ok_lex_Lexer_peek : compF Tryd.prog cfg3 75 = some c_lex_Lexer_peek := by kernel_rfl
theorem ok_slices_IndexFunc_token_Attr_token_Attr : compF Tryd.prog cfg3 76 = some c_slices_IndexFunc_token_Attr_token_Attr := by kernel_rfl
end Go.Proofs.YticnenofiibpgaaDoor.Code
/- Functions of the program az code of the D-machine (4): PRINTED BY PROGRAM; each is checked to be what the program's own compiles to. -/
namespace Go.Proofs.YticnenofiibpgaaDoor.Code
set_option linter.unusedSimpArgs false
set_option linter.unusedVariables false
open Go.Dm Go.Dm.C
def cfg4 : Cfg := ⟨fun t => [3, 83].contains t, fun f => [26, 46, 57, 58, 59].contains f⟩
/-- text.need -/
def c_text_need : DFunc := ⟨38, 
(.seq 
(.region [v 2 (.mv (.c (.int .i64 0))), v 3 (.mv (.c (.int .u8 0))), v 4 (.mv (.c (.int .u8 0)))]) 
(.seq 
(.block 0 
(.seq 
(.region [m 6 0, v 7 (.bin .geq .any (.t 6) (.c (.int .u8 194))), m 8 7, w 9 (.mv (.t 0)) 8 true, w 10 (.bin .leq .any (.t 9) (.c (.int .u8 223))) 8 true, v 11 (.pick (.t 8) (.t 10) (.c (.bool false))), m 5 11]) 
(.cond (.t 5) 
(.seq 
(.region [v 2 (.mv (.c (.int .i64 1))), v 3 (.mv (.c (.int .u8 128))), v 4 (.mv (.c (.int .u8 191)))]) .ret) 
(.seq 
(.region [m 13 0, v 14 (.bin .eql .any (.t 13) (.c (.int .u8 224))), m 12 14]) 
(.cond (.t 12) 
(.seq 
(.region [v 2 (.mv (.c (.int .i64 2))), v 3 (.mv (.c (.int .u8 160))), v 4 (.mv (.c (.int .u8 191)))]) .ret) 
(.seq 
(.region [m 16 0, v 17 (.bin .eql .any (.t 16) (.c (.int .u8 237))), m 15 17]) 
(.cond (.t 15) 
(.seq 
(.region [v 2 (.mv (.c (.int .i64 2))), v 3 (.mv (.c (.int .u8 128))), v 4 (.mv (.c (.int .u8 159)))]) .ret) 
(.seq 
(.region [m 19 0, v 20 (.bin .geq .any (.t 19) (.c (.int .u8 225))), m 21 20, w 22 (.mv (.t 0)) 21 true, w 23 (.bin .leq .any (.t 22) (.c (.int .u8 239))) 21 true, v 24 (.pick (.t 21) (.t 23) (.c (.bool false))), m 18 24]) 
(.cond (.t 18) 
(.seq 
(.region [v 2 (.mv (.c (.int .i64 2))), v 3 (.mv (.c (.int .u8 128))), v 4 (.mv (.c (.int .u8 191)))]) .ret) 
(.seq 
(.region [m 26 0, v 27 (.bin .eql .any (.t 26) (.c (.int .u8 240))), m 25 27]) 
(.cond (.t 25) 
(.seq 
(.region [v 2 (.mv (.c (.int .i64 3))), v 3 (.mv (.c (.int .u8 144))), v 4 (.mv (.c (.int .u8 191)))]) .ret) 
(.seq 
(.region [m 29 0, v 30 (.bin .geq .any (.t 29) (.c (.int .u8 241))), m 31 30, w 32 (.mv (.t 0)) 31 true, w 33 (.bin .leq .any (.t 32) (.c (.int .u8 243))) 31 true, v 34 (.pick (.t 31) (.t 33) (.c (.bool false))), m 28 34]) 
(.cond (.t 28) 
(.seq 
(.region [v 2 (.mv (.c (.int .i64 3))), v 3 (.mv (.c (.int .u8 128))), v 4 (.mv (.c (.int .u8 191)))]) .ret) 
(.seq 
(.region [m 36 0, v 37 (.bin .eql .any (.t 36) (.c (.int .u8 244))), m 35 37]) 
(.cond (.t 35) 
(.seq 
(.region [v 2 (.mv (.c (.int .i64 3))), v 3 (.mv (.c (.int .u8 128))), v 4 (.mv (.c (.int .u8 143)))]) .ret) .skip))))))))))))))) 
(.seq 
(.region [v 2 (.mv (.c (.int .i64 0))), v 3 (.mv (.c (.int .u8 0))), v 4 (.mv (.c (.int .u8 0)))]) .ret))),
 [.tmp 2, .tmp 3, .tmp 4]⟩
/-- chars.Number -/
def c_chars_Number : DFunc := ⟨35, 
(.seq 
(.region [v 4 (.mv (.c (.int .i64 0))), v 5 (.mv (.c (.int .i64 0)))]) 
(.seq 
(.region [v 6 (.mv (.c (.int .i64 0))), v 7 (.mv (.c (.int .i64 0)))]) 
(.seq 
(.block 0 
(.loop 
(.seq 
(.seq 
(.region [m 9 7, m 10 0, v 11 (.len true (.t 10)), v 12 (.bin .lss .any (.t 9) (.t 11))]) 
(.cond (.t 12) .skip (.exit 0))) 
(.block 1 
(.seq 
(.region [m 13 0, m 14 7, v 15 (.iaddr 1 (.t 13) (.t 14)), v 16 (.load none (.t 15)), v 17 (.call (.f 100) [(.t 16)] false), m 8 17]) 
(.seq 
(.seq 
(.region [m 18 8, v 19 (.bin .lss .any (.t 18) (.c (.int .i64 0))), m 20 19, w 21 (.mv (.t 8)) 20 false, w 22 (.mv (.t 1)) 20 false, w 23 (.bin .geq .any (.t 21) (.t 22)) 20 false, v 24 (.pick (.t 20) (.c (.bool true)) (.t 23))]) 
(.cond (.t 24) (.exit 0) .skip)) 
(.seq 
(.region [m 25 6, m 26 1, v 27 (.bin .mul .any (.t 25) (.t 26)), m 28 8, v 29 (.bin .add .any (.t 27) (.t 28)), v 30 (.minmax false (.t 29) (.c (.int .i64 1114112))), m 6 30]) 
(.region [m 31 7, v 32 (.bin .add .any (.t 31) (.c (.int .i64 1))), m 7 32])))))))) 
(.seq 
(.region [m 33 6, m 34 7, m 4 33, m 5 34]) .ret)))),
 [.tmp 4, .tmp 5]⟩
/-- (*lex.Lexer).declare -/
def c_lex_Lexer_declare : DFunc := ⟨51, 
(.block 0 
(.seq 
(.region [m 5 0, v 6 (.call (.f 101) [(.t 5), (.c (.str [45, 45]))] false), m 4 6]) 
(.cond (.t 4) 
(.seq 
(.region [m 7 0, v 8 (.nilc (.t 7)), v 9 (.faddr 1 (.t 8)), v 10 (.load none (.t 9)), v 11 (.bin .add .any (.t 10) (.c (.int .i64 2))), v 12 (.nilc (.t 7)), v 13 (.faddr 1 (.t 12)), u (.store 1 (.t 13) (.t 11))]) 
(.region [m 14 0, v 15 (.call (.f 102) [(.t 14)] false)])) 
(.seq 
(.region [m 17 0, v 18 (.call (.f 101) [(.t 17), (.c (.str [100, 111, 99, 116, 121, 112, 101]))] false), m 16 18]) 
(.cond (.t 16) 
(.seq 
(.region [m 19 0, v 20 (.nilc (.t 19)), v 21 (.faddr 1 (.t 20)), v 22 (.load none (.t 21)), v 23 (.bin .add .any (.t 22) (.c (.int .i64 7))), v 24 (.nilc (.t 19)), v 25 (.faddr 1 (.t 24)), u (.store 1 (.t 25) (.t 23))]) 
(.region [m 26 0, v 27 (.call (.f 103) [(.t 26)] false)])) 
(.seq 
(.region [m 29 0, v 30 (.nilc (.t 29)), v 31 (.faddr 4 (.t 30)), v 32 (.load none (.t 31)), m 33 32, w 34 (.mv (.t 0)) 33 true, w 35 (.call (.f 75) [(.t 34), (.c (.int .i64 0))] false) 33 true, w 36 (.bin .eql .any (.t 35) (.c (.int .i32 91))) 33 true, v 37 (.pick (.t 33) (.t 36) (.c (.bool false))), m 38 37, w 39 (.mv (.t 0)) 38 true, w 40 (.call (.f 94) [(.t 39), (.c (.str [91, 67, 68, 65, 84, 65, 91]))] false) 38 true, v 41 (.pick (.t 38) (.t 40) (.c (.bool false))), m 28 41]) 
(.cond (.t 28) 
(.seq 
(.region [m 42 0, v 43 (.nilc (.t 42)), v 44 (.faddr 1 (.t 43)), v 45 (.load none (.t 44)), v 46 (.bin .add .any (.t 45) (.c (.int .i64 7))), v 47 (.nilc (.t 42)), v 48 (.faddr 1 (.t 47)), u (.store 1 (.t 48) (.t 46))]) 
(.region [m 49 0, v 50 (.call (.f 104) [(.t 49)] false)])) 
(.region [m 2 0, v 3 (.call (.f 92) [(.t 2)] false)])))))))),
 []⟩
/-- (*lex.Lexer).ending -/
def c_lex_Lexer_ending : DFunc := ⟨27, 
(.seq 
(.region [m 3 0, v 4 (.call (.f 68) [(.t 3)] false), m 2 4]) 
(.block 0 
(.seq 
(.region [m 10 2, v 11 (.call (.f 18) [(.t 10)] false), m 9 11]) 
(.cond (.t 9) 
(.seq 
(.region [m 12 0, v 13 (.call (.f 90) [(.t 12)] false)]) 
(.region [m 14 0, v 15 (.call (.f 91) [(.t 14), (.c (.int .i64 3))] false)])) 
(.seq 
(.region [m 17 2, v 18 (.bin .eql .any (.t 17) (.c (.int .i32 62))), m 16 18]) 
(.cond (.t 16) .skip 
(.seq 
(.region [m 20 2, v 21 (.bin .eql .any (.t 20) (.c (.int .i32 (-1)))), m 19 21]) 
(.cond (.t 19) 
(.seq 
(.region [m 22 0, v 23 (.call (.f 90) [(.t 22)] false)]) 
(.region [m 24 0, v 25 (.mks false none (.int .i32 0) 2 [(0, (.c (.int .i32 60))), (1, (.c (.int .i32 47)))]), v 26 (.call (.f 74) [(.t 24), (.t 25)] false)])) 
(.seq 
(.region [m 5 0, v 6 (.call (.f 90) [(.t 5)] false)]) 
(.region [m 7 0, v 8 (.call (.f 92) [(.t 7)] false)])))))))))),
 []⟩
/-- (*lex.Lexer).back -/
def c_lex_Lexer_back : DFunc := ⟨9, 
(.region [m 2 0, v 3 (.nilc (.t 2)), v 4 (.faddr 1 (.t 3)), v 5 (.load none (.t 4)), v 6 (.bin .sub .any (.t 5) (.c (.int .i64 1))), v 7 (.nilc (.t 2)), v 8 (.faddr 1 (.t 7)), u (.store 1 (.t 8) (.t 6))]),
 []⟩
/-- (*lex.Lexer).tag -/
def c_lex_Lexer_tag : DFunc := ⟨18, 
(.seq 
(.region [m 5 1, m 6 0, v 7 (.call (.f 105) [(.t 6)] false), v 8 (.build [(.int .i64 0), (.str []), (.lst 0 0 []), (.bool false), (.str []), (.str []), (.str []), (.bool false), (.bool false), (.bool false)] [(0, 1, (.t 5)), (1, 1, (.t 7))]), v 4 (.alloc [(.int .i64 0), (.str []), (.lst 0 0 []), (.bool false), (.str []), (.str []), (.str []), (.bool false), (.bool false), (.bool false)] none), u (.store 10 (.t 4) (.t 8))]) 
(.seq 
(.region [m 9 0, v 10 (.call (.f 106) [(.t 9), (.t 4)] false)]) 
(.cond (.t 10) 
(.seq 
(.seq 
(.region [m 11 1, v 12 (.bin .eql .any (.t 11) (.c (.int .i64 3)))]) 
(.cond (.t 12) 
(.region [v 13 (.faddr 2 (.t 4)), u (.store 1 (.t 13) (.c (.lst 0 0 []))), v 14 (.faddr 3 (.t 4)), u (.store 1 (.t 14) (.c (.bool false)))]) .skip)) 
(.region [m 15 0, v 16 (.load (some 10) (.t 4)), v 17 (.call (.f 107) [(.t 15), (.t 16)] false)])) .skip))),
 []⟩
/-- (*lex.Lexer).bogus -/
def c_lex_Lexer_bogus : DFunc := ⟨29, 
(.seq 
(.region [v 2 (.mv (.c (.lst 0 0 [])))]) 
(.block 0 
(.loop 
(.block 1 
(.seq 
(.region [m 4 0, v 5 (.call (.f 68) [(.t 4)] false), m 3 5]) 
(.seq 
(.region [m 6 3]) 
(.block 2 
(.seq 
(.seq 
(.region [v 12 (.bin .eql .any (.t 6) (.c (.int .i32 62))), m 11 12]) 
(.cond (.t 11) .skip 
(.region [v 13 (.bin .eql .any (.t 6) (.c (.int .i32 (-1)))), m 11 13]))) 
(.cond (.t 11) 
(.seq 
(.seq 
(.region [m 14 3, v 15 (.bin .eql .any (.t 14) (.c (.int .i32 (-1))))]) 
(.cond (.t 15) 
(.region [m 16 0, v 17 (.call (.f 90) [(.t 16)] false)]) .skip)) 
(.seq 
(.region [m 18 0, m 19 2, v 20 (.call (.f 17) [(.t 19)] false), v 21 (.conv .bytesStr false (.t 20)), v 22 (.build [(.int .i64 0), (.str []), (.lst 0 0 []), (.bool false), (.str []), (.str []), (.str []), (.bool false), (.bool false), (.bool false)] [(0, 1, (.c (.int .i64 4))), (4, 1, (.t 21))]), v 23 (.call (.f 107) [(.t 18), (.t 22)] false)]) .ret)) 
(.seq 
(.region [v 25 (.bin .eql .any (.t 6) (.c (.int .i32 0))), m 24 25]) 
(.cond (.t 24) 
(.region [m 26 2, v 27 (.mks false none (.int .i32 0) 1 [(0, (.c (.int .i32 65533)))]), v 28 (.append false none 4 (.t 26) (.t 27)), m 2 28]) 
(.region [m 7 2, m 8 3, v 9 (.mks false none (.int .i32 0) 1 [(0, (.t 8))]), v 10 (.append false none 4 (.t 7) (.t 9)), m 2 10])))))))))))),
 []⟩
/-- (*lex.Lexer).closes -/
def c_lex_Lexer_closes : DFunc := ⟨53, 
(.seq 
(.region [v 2 (.mv (.c (.int .i64 0)))]) 
(.seq 
(.seq 
(.region [m 7 0, v 8 (.call (.f 75) [(.t 7), (.c (.int .i64 0))] false), v 9 (.bin .neq .any (.t 8) (.c (.int .i32 47))), m 10 9, w 11 (.mv (.t 0)) 10 false, w 12 (.call (.f 75) [(.t 11), (.c (.int .i64 1))] false) 10 false, w 13 (.call (.f 18) [(.t 12)] false) 10 false, w 14 (.un .not (.t 13)) 10 false, v 15 (.pick (.t 10) (.c (.bool true)) (.t 14)), m 16 15, w 17 (.mv (.t 0)) 16 false, w 18 (.nilc (.t 17)) 16 false, w 19 (.faddr 3 (.t 18)) 16 false, w 20 (.load none (.t 19)) 16 false, w 21 (.bin .eql .any (.t 20) (.c (.str []))) 16 false, v 22 (.pick (.t 16) (.c (.bool true)) (.t 21))]) 
(.cond (.t 22) 
(.seq 
(.region [v 2 (.mv (.c (.int .i64 0)))]) .ret) .skip)) 
(.seq 
(.region [v 3 (.mv (.c (.int .i64 1)))]) 
(.seq 
(.seq 
(.region [m 23 0, v 24 (.nilc (.t 23)), v 25 (.faddr 3 (.t 24)), v 26 (.load none (.t 25)), v 27 
(.range (.t 26))]) 
(.block 0 
(.loop 
(.seq 
(.region [v 28 (.next (.t 27)), v 29 (.extract (.t 28) 0)]) 
(.seq 
(.cond (.t 29) .skip (.exit 0)) 
(.block 1 
(.seq 
(.region [v 30 (.extract (.t 28) 2), m 5 30]) 
(.seq 
(.seq 
(.region [m 31 0, m 32 3, v 33 (.call (.f 75) [(.t 31), (.t 32)] false), v 34 (.call (.f 108) [(.t 33)] false), m 35 5, v 36 (.bin .neq .any (.t 34) (.t 35))]) 
(.cond (.t 36) 
(.seq 
(.region [v 2 (.mv (.c (.int .i64 0)))]) .ret) .skip)) 
(.region [m 37 3, v 38 (.bin .add .any (.t 37) (.c (.int .i64 1))), m 3 38]))))))))) 
(.seq 
(.seq 
(.region [m 39 0, m 40 3, v 41 (.call (.f 75) [(.t 39), (.t 40)] false), m 6 41]) 
(.seq 
(.region [m 42 6, v 43 (.call (.f 109) [(.t 42)] false), m 44 43, w 45 (.mv (.t 6)) 44 false, w 46 (.bin .eql .any (.t 45) (.c (.int .i32 47))) 44 false, v 47 (.pick (.t 44) (.c (.bool true)) (.t 46)), m 48 47, w 49 (.mv (.t 6)) 48 false, w 50 (.bin .eql .any (.t 49) (.c (.int .i32 62))) 48 false, v 51 (.pick (.t 48) (.c (.bool true)) (.t 50))]) 
(.cond (.t 51) 
(.seq 
(.region [m 52 3, m 2 52]) .ret) .skip))) 
(.seq 
(.region [v 2 (.mv (.c (.int .i64 0)))]) .ret)))))),
 [.tmp 2]⟩
/-- (*lex.Lexer).exact -/
def c_lex_Lexer_exact : DFunc := ⟨18, 
(.seq 
(.region [v 4 (.mv (.c (.bool false)))]) 
(.seq 
(.seq 
(.region [m 7 1, v 8 
(.range (.t 7))]) 
(.block 0 
(.loop 
(.seq 
(.region [v 9 (.next (.t 8)), v 10 (.extract (.t 9) 0)]) 
(.seq 
(.cond (.t 10) .skip (.exit 0)) 
(.block 1 
(.seq 
(.region [v 11 (.extract (.t 9) 1), v 12 (.extract (.t 9) 2), m 5 11, m 6 12]) 
(.seq 
(.region [m 13 0, m 14 5, v 15 (.call (.f 75) [(.t 13), (.t 14)] false), m 16 6, v 17 (.bin .neq .any (.t 15) (.t 16))]) 
(.cond (.t 17) 
(.seq 
(.region [v 4 (.mv (.c (.bool false)))]) .ret) .skip))))))))) 
(.seq 
(.region [v 4 (.mv (.c (.bool true)))]) .ret))),
 [.tmp 4]⟩
/-- (*lex.Lexer).word -/
def c_lex_Lexer_word : DFunc := ⟨19, 
(.seq 
(.region [v 2 (.mv (.c (.int .i64 0)))]) 
(.seq 
(.seq 
(.region [m 4 0, v 5 (.call (.f 101) [(.t 4), (.c (.str [115, 99, 114, 105, 112, 116]))] false), v 6 (.un .not (.t 5))]) 
(.cond (.t 6) 
(.seq 
(.region [v 2 (.mv (.c (.int .i64 0)))]) .ret) .skip)) 
(.seq 
(.seq 
(.region [m 7 0, v 8 (.call (.f 75) [(.t 7), (.c (.int .i64 6))] false), m 3 8]) 
(.seq 
(.region [m 9 3, v 10 (.call (.f 109) [(.t 9)] false), m 11 10, w 12 (.mv (.t 3)) 11 false, w 13 (.bin .eql .any (.t 12) (.c (.int .i32 47))) 11 false, v 14 (.pick (.t 11) (.c (.bool true)) (.t 13)), m 15 14, w 16 (.mv (.t 3)) 15 false, w 17 (.bin .eql .any (.t 16) (.c (.int .i32 62))) 15 false, v 18 (.pick (.t 15) (.c (.bool true)) (.t 17))]) 
(.cond (.t 18) 
(.seq 
(.region [v 2 (.mv (.c (.int .i64 7)))]) .ret) .skip))) 
(.seq 
(.region [v 2 (.mv (.c (.int .i64 0)))]) .ret)))),
 [.tmp 2]⟩
/-- (*lex.Lexer).take -/
def c_lex_Lexer_take : DFunc := ⟨13, 
(.seq 
(.region [m 4 1, v 5 (.mv (.c (.int .i64 0)))]) 
(.block 0 
(.loop 
(.seq 
(.region [v 6 (.bin .lss .any (.t 5) (.t 4))]) 
(.seq 
(.cond (.t 6) .skip (.exit 0)) 
(.seq 
(.block 1 
(.region [m 7 0, m 8 0, v 9 (.call (.f 68) [(.t 8)] false), v 10 (.mks false none (.int .i32 0) 1 [(0, (.t 9))]), v 11 (.call (.f 74) [(.t 7), (.t 10)] false)])) 
(.region [v 12 (.bin .add .any (.t 5) (.c (.int .i64 1))), m 5 12]))))))),
 []⟩
/-- text.Hex -/
def c_text_Hex : DFunc := ⟨31, 
(.seq 
(.region [v 2 (.mv (.c (.int .i64 0)))]) 
(.seq 
(.block 0 
(.seq 
(.region [m 4 0, v 5 (.call (.f 19) [(.t 4)] false), m 3 5]) 
(.cond (.t 3) 
(.seq 
(.region [m 6 0, v 7 (.bin .sub .any (.t 6) (.c (.int .i32 48))), v 8 (.conv (.int .i64) false (.t 7)), m 2 8]) .ret) 
(.seq 
(.region [m 10 0, v 11 (.bin .geq .any (.t 10) (.c (.int .i32 97))), m 12 11, w 13 (.mv (.t 0)) 12 true, w 14 (.bin .leq .any (.t 13) (.c (.int .i32 102))) 12 true, v 15 (.pick (.t 12) (.t 14) (.c (.bool false))), m 9 15]) 
(.cond (.t 9) 
(.seq 
(.region [m 16 0, v 17 (.bin .sub .any (.t 16) (.c (.int .i32 97))), v 18 (.conv (.int .i64) false (.t 17)), v 19 (.bin .add .any (.t 18) (.c (.int .i64 10))), m 2 19]) .ret) 
(.seq 
(.region [m 21 0, v 22 (.bin .geq .any (.t 21) (.c (.int .i32 65))), m 23 22, w 24 (.mv (.t 0)) 23 true, w 25 (.bin .leq .any (.t 24) (.c (.int .i32 70))) 23 true, v 26 (.pick (.t 23) (.t 25) (.c (.bool false))), m 20 26]) 
(.cond (.t 20) 
(.seq 
(.region [m 27 0, v 28 (.bin .sub .any (.t 27) (.c (.int .i32 65))), v 29 (.conv (.int .i64) false (.t 28)), v 30 (.bin .add .any (.t 29) (.c (.int .i64 10))), m 2 30]) .ret) .skip))))))) 
(.seq 
(.region [v 2 (.mv (.c (.int .i64 (-1))))]) .ret))),
 [.tmp 2]⟩
/-- (*lex.Lexer).stands -/
def c_lex_Lexer_stands : DFunc := ⟨20, 
(.seq 
(.region [v 4 (.mv (.c (.bool false)))]) 
(.seq 
(.seq 
(.region [m 7 1, v 8 
(.range (.t 7))]) 
(.block 0 
(.loop 
(.seq 
(.region [v 9 (.next (.t 8)), v 10 (.extract (.t 9) 0)]) 
(.seq 
(.cond (.t 10) .skip (.exit 0)) 
(.block 1 
(.seq 
(.region [v 11 (.extract (.t 9) 1), v 12 (.extract (.t 9) 2), m 5 11, m 6 12]) 
(.seq 
(.region [m 13 0, m 14 5, v 15 (.call (.f 75) [(.t 13), (.t 14)] false), v 16 (.call (.f 108) [(.t 15)] false), m 17 6, v 18 (.call (.f 108) [(.t 17)] false), v 19 (.bin .neq .any (.t 16) (.t 18))]) 
(.cond (.t 19) 
(.seq 
(.region [v 4 (.mv (.c (.bool false)))]) .ret) .skip))))))))) 
(.seq 
(.region [v 4 (.mv (.c (.bool true)))]) .ret))),
 [.tmp 4]⟩
/-- (*lex.Lexer).comment -/
def c_lex_Lexer_comment : DFunc := ⟨108, 
(.seq 
(.region [v 1 (.box (.t 0) 1)]) 
(.seq 
(.region [v 2 (.alloc [(.lst 0 0 [])] none)]) 
(.seq 
(.region [v 8 (.mkfn (.func 110) [] [(.t 1), (.t 2)]), m 3 8]) 
(.seq 
(.seq 
(.region [v 9 (.load none (.t 1)), v 10 (.call (.f 75) [(.t 9), (.c (.int .i64 0))] false), v 11 (.bin .eql .any (.t 10) (.c (.int .i32 62)))]) 
(.cond (.t 11) 
(.seq 
(.region [v 12 (.load none (.t 1)), v 13 (.nilc (.t 12)), v 14 (.faddr 1 (.t 13)), v 15 (.load none (.t 14)), v 16 (.bin .add .any (.t 15) (.c (.int .i64 1))), v 17 (.nilc (.t 12)), v 18 (.faddr 1 (.t 17)), u (.store 1 (.t 18) (.t 16))]) 
(.seq 
(.region [m 19 3, v 20 (.call (.t 19) [] false)]) .ret)) .skip)) 
(.seq 
(.seq 
(.region [v 21 (.load none (.t 1)), v 22 (.call (.f 75) [(.t 21), (.c (.int .i64 0))] false), v 23 (.bin .eql .any (.t 22) (.c (.int .i32 45))), m 24 23, w 25 (.load none (.t 1)) 24 true, w 26 (.call (.f 75) [(.t 25), (.c (.int .i64 1))] false) 24 true, w 27 (.bin .eql .any (.t 26) (.c (.int .i32 62))) 24 true, v 28 (.pick (.t 24) (.t 27) (.c (.bool false)))]) 
(.cond (.t 28) 
(.seq 
(.region [v 29 (.load none (.t 1)), v 30 (.nilc (.t 29)), v 31 (.faddr 1 (.t 30)), v 32 (.load none (.t 31)), v 33 (.bin .add .any (.t 32) (.c (.int .i64 2))), v 34 (.nilc (.t 29)), v 35 (.faddr 1 (.t 34)), u (.store 1 (.t 35) (.t 33))]) 
(.seq 
(.region [m 36 3, v 37 (.call (.t 36) [] false)]) .ret)) .skip)) 
(.block 0 
(.loop 
(.block 1 
(.seq 
(.region [v 38 (.load none (.t 1)), v 39 (.call (.f 68) [(.t 38)] false), m 4 39]) 
(.block 2 
(.seq 
(.region [m 45 4, v 46 (.bin .eql .any (.t 45) (.c (.int .i32 (-1)))), m 44 46]) 
(.cond (.t 44) 
(.seq 
(.region [v 47 (.load none (.t 1)), v 48 (.call (.f 90) [(.t 47)] false)]) 
(.seq 
(.seq 
(.region [v 49 (.mks false none (.str []) 3 [(0, (.c (.str [45, 45, 33]))), (1, (.c (.str [45, 45]))), (2, (.c (.str [45])))]), v 50 (.len true (.t 49)), v 51 (.mv (.c (.int .i64 0)))]) 
(.block 3 
(.loop 
(.seq 
(.region [v 52 (.bin .lss .any (.t 51) (.t 50))]) 
(.seq 
(.cond (.t 52) .skip (.exit 3)) 
(.seq 
(.block 4 
(.seq 
(.region [v 53 (.iaddr 1 (.t 49) (.t 51)), v 54 (.load none (.t 53)), m 6 54]) 
(.seq 
(.region [v 55 (.load none (.t 2)), v 56 (.conv .runesStr false (.t 55)), m 7 56]) 
(.seq 
(.region [m 57 7, m 58 6, v 59 (.call (.f 111) [(.t 57), (.t 58)] false)]) 
(.cond (.t 59) 
(.seq 
(.region [v 60 (.load none (.t 2)), v 61 (.load none (.t 2)), v 62 (.len true (.t 61)), m 63 6, v 64 (.len false (.t 63)), v 65 (.bin .sub .any (.t 62) (.t 64)), v 66 (.slice 1 (.t 60) none (some (.t 65)) none), u (.store 1 (.t 2) (.t 66))]) (.exit 3)) .skip))))) 
(.region [v 67 (.bin .add .any (.t 51) (.c (.int .i64 1))), m 51 67]))))))) 
(.seq 
(.region [m 68 3, v 69 (.call (.t 68) [] false)]) .ret))) 
(.seq 
(.region [m 71 4, v 72 (.bin .eql .any (.t 71) (.c (.int .i32 45))), m 73 72, w 74 (.load none (.t 1)) 73 true, w 75 (.call (.f 94) [(.t 74), (.c (.str [45, 62]))] false) 73 true, v 76 (.pick (.t 73) (.t 75) (.c (.bool false))), m 70 76]) 
(.cond (.t 70) 
(.seq 
(.region [v 77 (.load none (.t 1)), v 78 (.nilc (.t 77)), v 79 (.faddr 1 (.t 78)), v 80 (.load none (.t 79)), v 81 (.bin .add .any (.t 80) (.c (.int .i64 2))), v 82 (.nilc (.t 77)), v 83 (.faddr 1 (.t 82)), u (.store 1 (.t 83) (.t 81))]) 
(.seq 
(.region [m 84 3, v 85 (.call (.t 84) [] false)]) .ret)) 
(.seq 
(.region [m 87 4, v 88 (.bin .eql .any (.t 87) (.c (.int .i32 45))), m 89 88, w 90 (.load none (.t 1)) 89 true, w 91 (.call (.f 94) [(.t 90), (.c (.str [45, 33, 62]))] false) 89 true, v 92 (.pick (.t 89) (.t 91) (.c (.bool false))), m 86 92]) 
(.cond (.t 86) 
(.seq 
(.region [v 93 (.load none (.t 1)), v 94 (.nilc (.t 93)), v 95 (.faddr 1 (.t 94)), v 96 (.load none (.t 95)), v 97 (.bin .add .any (.t 96) (.c (.int .i64 3))), v 98 (.nilc (.t 93)), v 99 (.faddr 1 (.t 98)), u (.store 1 (.t 99) (.t 97))]) 
(.seq 
(.region [m 100 3, v 101 (.call (.t 100) [] false)]) .ret)) 
(.seq 
(.region [m 103 4, v 104 (.bin .eql .any (.t 103) (.c (.int .i32 0))), m 102 104]) 
(.cond (.t 102) 
(.region [v 105 (.load none (.t 2)), v 106 (.mks false none (.int .i32 0) 1 [(0, (.c (.int .i32 65533)))]), v 107 (.append false none 4 (.t 105) (.t 106)), u (.store 1 (.t 2) (.t 107))]) 
(.region [v 40 (.load none (.t 2)), m 41 4, v 42 (.mks false none (.int .i32 0) 1 [(0, (.t 41))]), v 43 (.append false none 4 (.t 40) (.t 42)), u (.store 1 (.t 2) (.t 43))]))))))))))))))))))),
 []⟩
/-- (*lex.Lexer).doctype -/
def c_lex_Lexer_doctype : DFunc := ⟨163, 
(.seq 
(.region [v 1 (.box (.t 0) 1)]) 
(.seq 
(.region [v 11 (.build [(.int .i64 0), (.str []), (.lst 0 0 []), (.bool false), (.str []), (.str []), (.str []), (.bool false), (.bool false), (.bool false)] [(0, 1, (.c (.int .i64 5)))]), v 2 (.alloc [(.int .i64 0), (.str []), (.lst 0 0 []), (.bool false), (.str []), (.str []), (.str []), (.bool false), (.bool false), (.bool false)] none), u (.store 10 (.t 2) (.t 11))]) 
(.seq 
(.region [v 12 (.mkfn (.func 112) [] [(.t 2), (.t 1)]), m 3 12]) 
(.seq 
(.region [v 13 (.load none (.t 1)), v 14 (.call (.f 113) [(.t 13)] false)]) 
(.seq 
(.seq 
(.region [v 15 (.load none (.t 1)), v 16 (.call (.f 75) [(.t 15), (.c (.int .i64 0))] false), m 4 16]) 
(.seq 
(.region [m 17 4, v 18 (.bin .eql .any (.t 17) (.c (.int .i32 62))), m 19 18, w 20 (.mv (.t 4)) 19 false, w 21 (.bin .eql .any (.t 20) (.c (.int .i32 (-1)))) 19 false, v 22 (.pick (.t 19) (.c (.bool true)) (.t 21))]) 
(.cond (.t 22) 
(.seq 
(.seq 
(.region [m 23 4, v 24 (.bin .eql .any (.t 23) (.c (.int .i32 62)))]) 
(.cond (.t 24) 
(.region [v 25 (.load none (.t 1)), v 26 (.nilc (.t 25)), v 27 (.faddr 1 (.t 26)), v 28 (.load none (.t 27)), v 29 (.bin .add .any (.t 28) (.c (.int .i64 1))), v 30 (.nilc (.t 25)), v 31 (.faddr 1 (.t 30)), u (.store 1 (.t 31) (.t 29))]) .skip)) 
(.seq 
(.region [m 32 3, v 33 (.call (.t 32) [(.c (.bool true))] false)]) .ret)) .skip))) 
(.seq 
(.region [v 5 (.mv (.c (.lst 0 0 [])))]) 
(.seq 
(.seq 
(.region [v 34 (.load none (.t 1)), v 35 (.call (.f 75) [(.t 34), (.c (.int .i64 0))] false), m 6 35]) 
(.block 0 
(.loop 
(.seq 
(.seq 
(.region [m 36 6, v 37 (.call (.f 109) [(.t 36)] false), v 38 (.un .not (.t 37)), m 39 38, w 40 (.mv (.t 6)) 39 true, w 41 (.bin .neq .any (.t 40) (.c (.int .i32 62))) 39 true, v 42 (.pick (.t 39) (.t 41) (.c (.bool false))), m 43 42, w 44 (.mv (.t 6)) 43 true, w 45 (.bin .neq .any (.t 44) (.c (.int .i32 (-1)))) 43 true, v 46 (.pick (.t 43) (.t 45) (.c (.bool false)))]) 
(.cond (.t 46) .skip (.exit 0))) 
(.seq 
(.block 1 
(.seq 
(.region [v 49 (.load none (.t 1)), v 50 (.nilc (.t 49)), v 51 (.faddr 1 (.t 50)), v 52 (.load none (.t 51)), v 53 (.bin .add .any (.t 52) (.c (.int .i64 1))), v 54 (.nilc (.t 49)), v 55 (.faddr 1 (.t 54)), u (.store 1 (.t 55) (.t 53))]) 
(.seq 
(.seq 
(.region [m 56 6, v 57 (.bin .eql .any (.t 56) (.c (.int .i32 0)))]) 
(.cond (.t 57) 
(.region [v 6 (.mv (.c (.int .i32 65533)))]) .skip)) 
(.region [m 58 5, m 59 6, v 60 (.call (.f 108) [(.t 59)] false), v 61 (.mks false none (.int .i32 0) 1 [(0, (.t 60))]), v 62 (.append false none 4 (.t 58) (.t 61)), m 5 62])))) 
(.region [v 47 (.load none (.t 1)), v 48 (.call (.f 75) [(.t 47), (.c (.int .i64 0))] false), m 6 48])))))) 
(.seq 
(.region [m 63 5, v 64 (.call (.f 17) [(.t 63)] false), v 65 (.conv .bytesStr false (.t 64)), v 66 (.faddr 1 (.t 2)), u (.store 1 (.t 66) (.t 65))]) 
(.seq 
(.region [v 67 (.load none (.t 1)), v 68 (.call (.f 113) [(.t 67)] false)]) 
(.seq 
(.region [v 69 (.load none (.t 1)), v 71 (.load none (.t 1)), ⟨(some 70), .call (.f 101) [(.t 69), (.c (.str [112, 117, 98, 108, 105, 99]))] false, none, [((.t 1), none, 71, none)]⟩, v 72 (.call (.f 101) [(.t 71), (.c (.str [115, 121, 115, 116, 101, 109]))] false), m 7 70, m 8 72]) 
(.seq 
(.seq 
(.region [v 73 (.load none (.t 1)), v 74 (.call (.f 75) [(.t 73), (.c (.int .i64 0))] false), m 9 74]) 
(.block 2 
(.seq 
(.region [m 76 9, v 77 (.bin .eql .any (.t 76) (.c (.int .i32 62))), m 75 77]) 
(.cond (.t 75) 
(.seq 
(.region [v 78 (.load none (.t 1)), v 79 (.nilc (.t 78)), v 80 (.faddr 1 (.t 79)), v 81 (.load none (.t 80)), v 82 (.bin .add .any (.t 81) (.c (.int .i64 1))), v 83 (.nilc (.t 78)), v 84 (.faddr 1 (.t 83)), u (.store 1 (.t 84) (.t 82))]) 
(.seq 
(.region [m 85 3, v 86 (.call (.t 85) [(.c (.bool false))] false)]) .ret)) 
(.seq 
(.region [m 88 9, v 89 (.bin .eql .any (.t 88) (.c (.int .i32 (-1)))), m 87 89]) 
(.cond (.t 87) 
(.seq 
(.region [m 90 3, v 91 (.call (.t 90) [(.c (.bool true))] false)]) .ret) 
(.seq 
(.region [m 93 7, v 94 (.un .not (.t 93)), m 95 94, w 96 (.mv (.t 8)) 95 true, w 97 (.un .not (.t 96)) 95 true, v 98 (.pick (.t 95) (.t 97) (.c (.bool false))), m 92 98]) 
(.cond (.t 92) 
(.seq 
(.region [v 99 (.faddr 9 (.t 2)), u (.store 1 (.t 99) (.c (.bool true)))]) 
(.seq 
(.region [v 100 (.load none (.t 1)), v 101 (.call (.f 114) [(.t 100)] false)]) 
(.seq 
(.region [m 102 3, v 103 (.call (.t 102) [(.c (.bool true))] false)]) .ret))) .skip)))))))) 
(.seq 
(.region [v 104 (.load none (.t 1)), v 105 (.nilc (.t 104)), v 106 (.faddr 1 (.t 105)), v 107 (.load none (.t 106)), v 108 (.bin .add .any (.t 107) (.c (.int .i64 6))), v 109 (.nilc (.t 104)), v 110 (.faddr 1 (.t 109)), u (.store 1 (.t 110) (.t 108))]) 
(.seq 
(.region [v 111 (.load none (.t 1)), v 112 (.call (.f 113) [(.t 111)] false)]) 
(.seq 
(.region [v 10 (.mv (.c (.bool false)))]) 
(.seq 
(.seq 
(.region [m 113 7]) 
(.cond (.t 113) 
(.seq 
(.seq 
(.region [v 115 (.load none (.t 1)), v 116 (.call (.f 115) [(.t 115)] false), m 114 116, v 117 (.extract (.t 114) 0), v 118 (.extract (.t 114) 1), v 119 (.extract (.t 114) 2), v 120 (.faddr 5 (.t 2)), u (.store 1 (.t 120) (.t 117)), v 121 (.faddr 7 (.t 2)), u (.store 1 (.t 121) (.t 118)), m 10 119]) 
(.seq 
(.region [m 122 10, v 123 (.un .not (.t 122))]) 
(.cond (.t 123) 
(.seq 
(.region [m 124 3, v 125 (.call (.t 124) [(.c (.bool true))] false)]) .ret) .skip))) 
(.seq 
(.region [v 126 (.load none (.t 1)), v 127 (.call (.f 113) [(.t 126)] false)]) 
(.seq 
(.region [v 128 (.load none (.t 1)), v 129 (.call (.f 75) [(.t 128), (.c (.int .i64 0))] false), v 130 (.bin .eql .any (.t 129) (.c (.int .i32 62)))]) 
(.cond (.t 130) 
(.seq 
(.region [v 131 (.load none (.t 1)), v 132 (.nilc (.t 131)), v 133 (.faddr 1 (.t 132)), v 134 (.load none (.t 133)), v 135 (.bin .add .any (.t 134) (.c (.int .i64 1))), v 136 (.nilc (.t 131)), v 137 (.faddr 1 (.t 136)), u (.store 1 (.t 137) (.t 135))]) 
(.seq 
(.region [m 138 3, v 139 (.call (.t 138) [(.c (.bool false))] false)]) .ret)) .skip)))) .skip)) 
(.seq 
(.seq 
(.region [v 141 (.load none (.t 1)), v 142 (.call (.f 115) [(.t 141)] false), m 140 142, v 143 (.extract (.t 140) 0), v 144 (.extract (.t 140) 1), v 145 (.extract (.t 140) 2), v 146 (.faddr 6 (.t 2)), u (.store 1 (.t 146) (.t 143)), v 147 (.faddr 8 (.t 2)), u (.store 1 (.t 147) (.t 144)), m 10 145]) 
(.seq 
(.region [m 148 10, v 149 (.un .not (.t 148))]) 
(.cond (.t 149) 
(.seq 
(.region [m 150 3, v 151 (.call (.t 150) [(.c (.bool true))] false)]) .ret) .skip))) 
(.seq 
(.region [v 152 (.load none (.t 1)), v 153 (.call (.f 113) [(.t 152)] false)]) 
(.seq 
(.seq 
(.region [v 154 (.load none (.t 1)), v 155 (.call (.f 75) [(.t 154), (.c (.int .i64 0))] false), v 156 (.bin .eql .any (.t 155) (.c (.int .i32 (-1))))]) 
(.cond (.t 156) 
(.seq 
(.region [m 157 3, v 158 (.call (.t 157) [(.c (.bool true))] false)]) .ret) .skip)) 
(.seq 
(.region [v 159 (.load none (.t 1)), v 160 (.call (.f 114) [(.t 159)] false)]) 
(.region [m 161 3, v 162 (.call (.t 161) [(.c (.bool false))] false)])))))))))))))))))))),
 []⟩
/-- (*lex.Lexer).section -/
def c_lex_Lexer_section : DFunc := ⟨32, 
(.block 0 
(.loop 
(.block 1 
(.seq 
(.region [m 3 0, v 4 (.call (.f 68) [(.t 3)] false), m 2 4]) 
(.seq 
(.seq 
(.region [m 5 2, v 6 (.bin .eql .any (.t 5) (.c (.int .i32 (-1))))]) 
(.cond (.t 6) 
(.seq 
(.region [m 7 0, v 8 (.call (.f 90) [(.t 7)] false)]) .ret) .skip)) 
(.seq 
(.seq 
(.region [m 9 2, v 10 (.bin .eql .any (.t 9) (.c (.int .i32 93))), m 11 10, w 12 (.mv (.t 0)) 11 true, w 13 (.call (.f 75) [(.t 12), (.c (.int .i64 0))] false) 11 true, w 14 (.bin .eql .any (.t 13) (.c (.int .i32 93))) 11 true, v 15 (.pick (.t 11) (.t 14) (.c (.bool false))), m 16 15, w 17 (.mv (.t 0)) 16 true, w 18 (.call (.f 75) [(.t 17), (.c (.int .i64 1))] false) 16 true, w 19 (.bin .eql .any (.t 18) (.c (.int .i32 62))) 16 true, v 20 (.pick (.t 16) (.t 19) (.c (.bool false)))]) 
(.cond (.t 20) 
(.seq 
(.region [m 21 0, v 22 (.nilc (.t 21)), v 23 (.faddr 1 (.t 22)), v 24 (.load none (.t 23)), v 25 (.bin .add .any (.t 24) (.c (.int .i64 2))), v 26 (.nilc (.t 21)), v 27 (.faddr 1 (.t 26)), u (.store 1 (.t 27) (.t 25))]) .ret) .skip)) 
(.region [m 28 0, m 29 2, v 30 (.mks false none (.int .i32 0) 1 [(0, (.t 29))]), v 31 (.call (.f 74) [(.t 28), (.t 30)] false)]))))))),
 []⟩
/-- (*lex.Lexer).name -/
def c_lex_Lexer_name : DFunc := ⟨33, 
(.seq 
(.region [v 2 (.mv (.c (.str [])))]) 
(.seq 
(.region [v 3 (.mv (.c (.lst 0 0 [])))]) 
(.block 0 
(.loop 
(.block 1 
(.seq 
(.region [m 5 0, v 6 (.call (.f 68) [(.t 5)] false), m 4 6]) 
(.seq 
(.seq 
(.region [m 7 4, v 8 (.call (.f 109) [(.t 7)] false), m 9 8, w 10 (.mv (.t 4)) 9 false, w 11 (.bin .eql .any (.t 10) (.c (.int .i32 47))) 9 false, v 12 (.pick (.t 9) (.c (.bool true)) (.t 11)), m 13 12, w 14 (.mv (.t 4)) 13 false, w 15 (.bin .eql .any (.t 14) (.c (.int .i32 62))) 13 false, v 16 (.pick (.t 13) (.c (.bool true)) (.t 15)), m 17 16, w 18 (.mv (.t 4)) 17 false, w 19 (.bin .eql .any (.t 18) (.c (.int .i32 (-1)))) 17 false, v 20 (.pick (.t 17) (.c (.bool true)) (.t 19))]) 
(.cond (.t 20) 
(.seq 
(.region [m 21 0, v 22 (.call (.f 90) [(.t 21)] false)]) 
(.seq 
(.region [m 23 3, v 24 (.call (.f 17) [(.t 23)] false), v 25 (.conv .bytesStr false (.t 24)), m 2 25]) .ret)) .skip)) 
(.seq 
(.seq 
(.region [m 26 4, v 27 (.bin .eql .any (.t 26) (.c (.int .i32 0)))]) 
(.cond (.t 27) 
(.region [v 4 (.mv (.c (.int .i32 65533)))]) .skip)) 
(.region [m 28 3, m 29 4, v 30 (.call (.f 108) [(.t 29)] false), v 31 (.mks false none (.int .i32 0) 1 [(0, (.t 30))]), v 32 (.append false none 4 (.t 28) (.t 31)), m 3 32]))))))))),
 [.tmp 2]⟩
/-- (*lex.Lexer).attrs -/
def c_lex_Lexer_attrs : DFunc := ⟨36, 
(.seq 
(.region [v 4 (.mv (.c (.bool false)))]) 
(.block 0 
(.loop 
(.block 1 
(.seq 
(.region [m 6 0, v 7 (.call (.f 68) [(.t 6)] false), m 5 7]) 
(.block 2 
(.seq 
(.region [m 15 5, v 16 (.bin .eql .any (.t 15) (.c (.int .i32 (-1)))), m 14 16]) 
(.cond (.t 14) 
(.seq 
(.region [m 17 0, v 18 (.call (.f 90) [(.t 17)] false)]) 
(.seq 
(.region [v 4 (.mv (.c (.bool false)))]) .ret)) 
(.seq 
(.region [m 20 5, v 21 (.call (.f 109) [(.t 20)] false), m 19 21]) 
(.cond (.t 19) .skip 
(.seq 
(.region [m 23 5, v 24 (.bin .eql .any (.t 23) (.c (.int .i32 62))), m 22 24]) 
(.cond (.t 22) 
(.seq 
(.region [v 4 (.mv (.c (.bool true)))]) .ret) 
(.seq 
(.region [m 26 5, v 27 (.bin .eql .any (.t 26) (.c (.int .i32 47))), m 25 27]) 
(.cond (.t 25) 
(.seq 
(.region [m 28 0, v 29 (.call (.f 75) [(.t 28), (.c (.int .i64 0))] false), v 30 (.bin .eql .any (.t 29) (.c (.int .i32 62)))]) 
(.cond (.t 30) 
(.seq 
(.region [m 31 0, v 32 (.call (.f 68) [(.t 31)] false)]) 
(.seq 
(.region [m 33 1, v 34 (.nilc (.t 33)), v 35 (.faddr 3 (.t 34)), u (.store 1 (.t 35) (.c (.bool true)))]) 
(.seq 
(.region [v 4 (.mv (.c (.bool true)))]) .ret))) .skip)) 
(.seq 
(.region [m 8 0, v 9 (.call (.f 90) [(.t 8)] false)]) 
(.seq 
(.region [m 10 0, m 11 1, v 12 (.call (.f 116) [(.t 10), (.t 11)] false), v 13 (.un .not (.t 12))]) 
(.cond (.t 13) 
(.seq 
(.region [v 4 (.mv (.c (.bool false)))]) .ret) .skip))))))))))))))))),
 [.tmp 4]⟩
/-- (*lex.Lexer).emit -/
def c_lex_Lexer_emit : DFunc := ⟨24, 
(.seq 
(.region [v 3 (.box (.t 1) 10)]) 
(.seq 
(.region [m 4 0, v 5 (.call (.f 69) [(.t 4)] false)]) 
(.seq 
(.seq 
(.region [v 6 (.faddr 0 (.t 3)), v 7 (.load none (.t 6)), v 8 (.bin .eql .any (.t 7) (.c (.int .i64 2)))]) 
(.cond (.t 8) 
(.region [m 9 0, v 10 (.faddr 1 (.t 3)), v 11 (.load none (.t 10)), v 12 (.nilc (.t 9)), v 13 (.faddr 3 (.t 12)), u (.store 1 (.t 13) (.t 11))]) .skip)) 
(.region [m 14 0, m 15 0, v 16 (.nilc (.t 15)), v 17 (.faddr 5 (.t 16)), v 18 (.load none (.t 17)), v 19 (.load (some 10) (.t 3)), v 20 (.mks false (some 10) (.agg [(.int .i64 0), (.str []), (.lst 0 0 []), (.bool false), (.str []), (.str []), (.str []), (.bool false), (.bool false), (.bool false)]) 1 [(0, (.t 19))]), v 21 (.append false (some 10) 112 (.t 18) (.t 20)), v 22 (.nilc (.t 14)), v 23 (.faddr 5 (.t 22)), u (.store 1 (.t 23) (.t 21))])))),
 []⟩
/-- text.Small -/
def c_text_Small : DFunc := ⟨12, 
(.seq 
(.region [v 2 (.mv (.c (.int .i32 0)))]) 
(.seq 
(.seq 
(.region [m 3 0, v 4 (.bin .geq .any (.t 3) (.c (.int .i32 65))), m 5 4, w 6 (.mv (.t 0)) 5 true, w 7 (.bin .leq .any (.t 6) (.c (.int .i32 90))) 5 true, v 8 (.pick (.t 5) (.t 7) (.c (.bool false)))]) 
(.cond (.t 8) 
(.seq 
(.region [m 9 0, v 10 (.bin .add .any (.t 9) (.c (.int .i32 32))), m 2 10]) .ret) .skip)) 
(.seq 
(.region [m 11 0, m 2 11]) .ret))),
 [.tmp 2]⟩
/-- text.Blank -/
def c_text_Blank : DFunc := ⟨21, 
(.seq 
(.region [v 2 (.mv (.c (.bool false)))]) 
(.seq 
(.region [m 3 0, v 4 (.bin .eql .any (.t 3) (.c (.int .i32 9))), m 5 4, w 6 (.mv (.t 0)) 5 false, w 7 (.bin .eql .any (.t 6) (.c (.int .i32 10))) 5 false, v 8 (.pick (.t 5) (.c (.bool true)) (.t 7)), m 9 8, w 10 (.mv (.t 0)) 9 false, w 11 (.bin .eql .any (.t 10) (.c (.int .i32 12))) 9 false, v 12 (.pick (.t 9) (.c (.bool true)) (.t 11)), m 13 12, w 14 (.mv (.t 0)) 13 false, w 15 (.bin .eql .any (.t 14) (.c (.int .i32 13))) 13 false, v 16 (.pick (.t 13) (.c (.bool true)) (.t 15)), m 17 16, w 18 (.mv (.t 0)) 17 false, w 19 (.bin .eql .any (.t 18) (.c (.int .i32 32))) 17 false, v 20 (.pick (.t 17) (.c (.bool true)) (.t 19)), m 2 20]) .ret)),
 [.tmp 2]⟩
/-- (*lex.Lexer).comment$1 -/
def c_lex_Lexer_comment_1 : DFunc := ⟨8, 
(.region [v 2 (.load none (.t 0)), v 3 (.load none (.t 1)), ⟨(some 4), .call (.f 17) [(.t 3)] false, none, [((.t 0), none, 2, none)]⟩, v 5 (.conv .bytesStr false (.t 4)), v 6 (.build [(.int .i64 0), (.str []), (.lst 0 0 []), (.bool false), (.str []), (.str []), (.str []), (.bool false), (.bool false), (.bool false)] [(0, 1, (.c (.int .i64 4))), (4, 1, (.t 5))]), v 7 (.call (.f 107) [(.t 2), (.t 6)] false)]),
 []⟩
/-- strings.HasSuffix -/
def c_strings_HasSuffix : DFunc := ⟨8, 
(.seq 
(.region [v 4 (.mv (.c (.bool false)))]) 
(.seq 
(.region [m 5 0, m 6 1, v 7 (.call (.f 117) [(.t 5), (.t 6)] false), m 4 7]) .ret)),
 [.tmp 4]⟩
/-- (*lex.Lexer).doctype$1 -/
def c_lex_Lexer_doctype_1 : DFunc := ⟨13, 
(.seq 
(.region [v 4 (.faddr 9 (.t 1)), v 5 (.load none (.t 4)), m 6 5, w 7 (.mv (.t 0)) 6 false, v 8 (.pick (.t 6) (.c (.bool true)) (.t 7)), v 9 (.faddr 9 (.t 1)), u (.store 1 (.t 9) (.t 8))]) 
(.region [v 10 (.load none (.t 2)), v 11 (.load (some 10) (.t 1)), v 12 (.call (.f 107) [(.t 10), (.t 11)] false)])),
 []⟩
/-- (*lex.Lexer).blanks -/
def c_lex_Lexer_blanks : DFunc := ⟨12, 
(.block 0 
(.loop 
(.seq 
(.seq 
(.region [m 2 0, v 3 (.call (.f 75) [(.t 2), (.c (.int .i64 0))] false), v 4 (.call (.f 109) [(.t 3)] false)]) 
(.cond (.t 4) .skip (.exit 0))) 
(.block 1 
(.region [m 5 0, v 6 (.nilc (.t 5)), v 7 (.faddr 1 (.t 6)), v 8 (.load none (.t 7)), v 9 (.bin .add .any (.t 8) (.c (.int .i64 1))), v 10 (.nilc (.t 5)), v 11 (.faddr 1 (.t 10)), u (.store 1 (.t 11) (.t 9))]))))),
 []⟩
/-- (*lex.Lexer).skip -/
def c_lex_Lexer_skip : DFunc := ⟨10, 
(.block 0 
(.loop 
(.block 1 
(.seq 
(.region [m 2 0, v 3 (.call (.f 68) [(.t 2)] false)]) 
(.block 2 
(.seq 
(.region [v 5 (.bin .eql .any (.t 3) (.c (.int .i32 62))), m 4 5]) 
(.cond (.t 4) .ret 
(.seq 
(.region [v 7 (.bin .eql .any (.t 3) (.c (.int .i32 (-1)))), m 6 7]) 
(.cond (.t 6) 
(.seq 
(.region [m 8 0, v 9 (.call (.f 90) [(.t 8)] false)]) .ret) .skip))))))))),
 []⟩
/-- (*lex.Lexer).quoted -/
def c_lex_Lexer_quoted : DFunc := ⟨55, 
(.seq 
(.region [v 2 (.mv (.c (.str []))), v 3 (.mv (.c (.bool false))), v 4 (.mv (.c (.bool false)))]) 
(.seq 
(.region [m 8 0, v 9 (.call (.f 75) [(.t 8), (.c (.int .i64 0))] false), m 5 9]) 
(.seq 
(.seq 
(.region [m 10 5, v 11 (.bin .neq .any (.t 10) (.c (.int .i32 34))), m 12 11, w 13 (.mv (.t 5)) 12 true, w 14 (.bin .neq .any (.t 13) (.c (.int .i32 39))) 12 true, v 15 (.pick (.t 12) (.t 14) (.c (.bool false)))]) 
(.cond (.t 15) 
(.seq 
(.region [m 16 0, v 17 (.call (.f 114) [(.t 16)] false)]) 
(.seq 
(.region [v 2 (.mv (.c (.str []))), v 3 (.mv (.c (.bool false))), v 4 (.mv (.c (.bool false)))]) .ret)) .skip)) 
(.seq 
(.region [m 18 0, v 19 (.nilc (.t 18)), v 20 (.faddr 1 (.t 19)), v 21 (.load none (.t 20)), v 22 (.bin .add .any (.t 21) (.c (.int .i64 1))), v 23 (.nilc (.t 18)), v 24 (.faddr 1 (.t 23)), u (.store 1 (.t 24) (.t 22))]) 
(.seq 
(.region [v 6 (.mv (.c (.lst 0 0 [])))]) 
(.block 0 
(.loop 
(.block 1 
(.seq 
(.region [m 25 0, v 26 (.call (.f 68) [(.t 25)] false), m 7 26]) 
(.seq 
(.region [m 27 7]) 
(.block 2 
(.seq 
(.region [m 33 5, v 34 (.bin .eql .any (.t 27) (.t 33)), m 32 34]) 
(.cond (.t 32) 
(.seq 
(.region [m 35 6, v 36 (.call (.f 17) [(.t 35)] false), v 37 (.conv .bytesStr false (.t 36)), m 2 37, v 3 (.mv (.c (.bool true))), v 4 (.mv (.c (.bool true)))]) .ret) 
(.seq 
(.region [v 39 (.bin .eql .any (.t 27) (.c (.int .i32 62))), m 38 39]) 
(.cond (.t 38) 
(.seq 
(.region [m 40 6, v 41 (.call (.f 17) [(.t 40)] false), v 42 (.conv .bytesStr false (.t 41)), m 2 42, v 3 (.mv (.c (.bool true))), v 4 (.mv (.c (.bool false)))]) .ret) 
(.seq 
(.region [v 44 (.bin .eql .any (.t 27) (.c (.int .i32 (-1)))), m 43 44]) 
(.cond (.t 43) 
(.seq 
(.region [m 45 0, v 46 (.call (.f 90) [(.t 45)] false)]) 
(.seq 
(.region [m 47 6, v 48 (.call (.f 17) [(.t 47)] false), v 49 (.conv .bytesStr false (.t 48)), m 2 49, v 3 (.mv (.c (.bool true))), v 4 (.mv (.c (.bool false)))]) .ret)) 
(.seq 
(.region [v 51 (.bin .eql .any (.t 27) (.c (.int .i32 0))), m 50 51]) 
(.cond (.t 50) 
(.region [m 52 6, v 53 (.mks false none (.int .i32 0) 1 [(0, (.c (.int .i32 65533)))]), v 54 (.append false none 4 (.t 52) (.t 53)), m 6 54]) 
(.region [m 28 6, m 29 7, v 30 (.mks false none (.int .i32 0) 1 [(0, (.t 29))]), v 31 (.append false none 4 (.t 28) (.t 30)), m 6 31])))))))))))))))))))),
 [.tmp 2, .tmp 3, .tmp 4]⟩
/-- (*lex.Lexer).attr -/
def c_lex_Lexer_attr : DFunc := ⟨87, 
(.seq 
(.region [v 4 (.mv (.c (.bool false)))]) 
(.seq 
(.region [v 5 (.mv (.c (.lst 0 0 [])))]) 
(.seq 
(.seq 
(.region [v 6 (.mv (.c (.bool true)))]) 
(.block 0 
(.loop 
(.seq 
(.block 1 
(.seq 
(.region [m 12 0, v 13 (.call (.f 68) [(.t 12)] false), m 7 13]) 
(.seq 
(.seq 
(.region [m 14 7, v 15 (.call (.f 109) [(.t 14)] false), m 16 15, w 17 (.mv (.t 7)) 16 false, w 18 (.bin .eql .any (.t 17) (.c (.int .i32 47))) 16 false, v 19 (.pick (.t 16) (.c (.bool true)) (.t 18)), m 20 19, w 21 (.mv (.t 7)) 20 false, w 22 (.bin .eql .any (.t 21) (.c (.int .i32 62))) 20 false, v 23 (.pick (.t 20) (.c (.bool true)) (.t 22)), m 24 23, w 25 (.mv (.t 7)) 24 false, w 26 (.bin .eql .any (.t 25) (.c (.int .i32 (-1)))) 24 false, v 27 (.pick (.t 24) (.c (.bool true)) (.t 26)), m 28 27, w 29 (.mv (.t 7)) 28 false, w 30 (.bin .eql .any (.t 29) (.c (.int .i32 61))) 28 false, w 31 (.mv (.t 30)) 28 false, w 32 (.mv (.t 6)) 31 true, w 33 (.un .not (.t 32)) 31 true, w 34 (.pick (.t 31) (.t 33) (.c (.bool false))) 28 false, v 35 (.pick (.t 28) (.c (.bool true)) (.t 34))]) 
(.cond (.t 35) 
(.seq 
(.region [m 36 0, v 37 (.call (.f 90) [(.t 36)] false)]) (.exit 0)) .skip)) 
(.seq 
(.seq 
(.region [m 38 7, v 39 (.bin .eql .any (.t 38) (.c (.int .i32 0)))]) 
(.cond (.t 39) 
(.region [v 7 (.mv (.c (.int .i32 65533)))]) .skip)) 
(.region [m 40 5, m 41 7, v 42 (.call (.f 108) [(.t 41)] false), v 43 (.mks false none (.int .i32 0) 1 [(0, (.t 42))]), v 44 (.append false none 4 (.t 40) (.t 43)), m 5 44]))))) 
(.region [v 6 (.mv (.c (.bool false)))]))))) 
(.seq 
(.region [m 45 5, v 46 (.call (.f 17) [(.t 45)] false), v 47 (.conv .bytesStr false (.t 46)), v 48 (.build [(.str []), (.str [])] [(0, 1, (.t 47))]), v 8 (.alloc [(.str []), (.str [])] none), u (.store 2 (.t 8) (.t 48))]) 
(.seq 
(.block 2 
(.loop 
(.seq 
(.seq 
(.region [m 49 0, v 50 (.call (.f 75) [(.t 49), (.c (.int .i64 0))] false), v 51 (.call (.f 109) [(.t 50)] false)]) 
(.cond (.t 51) .skip (.exit 2))) 
(.block 3 
(.region [m 52 0, v 53 (.call (.f 68) [(.t 52)] false)]))))) 
(.seq 
(.region [v 9 (.mv (.c (.bool true)))]) 
(.seq 
(.seq 
(.region [m 54 0, v 55 (.call (.f 75) [(.t 54), (.c (.int .i64 0))] false), v 56 (.bin .eql .any (.t 55) (.c (.int .i32 61)))]) 
(.cond (.t 56) 
(.seq 
(.region [m 57 0, v 58 (.call (.f 68) [(.t 57)] false)]) 
(.region [m 60 0, v 61 (.call (.f 118) [(.t 60)] false), m 59 61, v 62 (.extract (.t 59) 0), v 63 (.extract (.t 59) 1), v 64 (.faddr 1 (.t 8)), u (.store 1 (.t 64) (.t 62)), m 9 63])) .skip)) 
(.seq 
(.seq 
(.region [m 66 1, v 67 (.nilc (.t 66)), v 68 (.load (some 10) (.t 67)), v 69 (.faddr 0 (.t 8)), v 70 (.load none (.t 69)), v 71 (.call (.f 119) [(.t 68), (.t 70)] false), m 65 71, v 72 (.extract (.t 65) 0), v 73 (.extract (.t 65) 1), m 10 72, m 11 73]) 
(.seq 
(.region [m 74 11, v 75 (.un .not (.t 74))]) 
(.cond (.t 75) 
(.region [m 76 1, m 77 1, v 78 (.nilc (.t 77)), v 79 (.faddr 2 (.t 78)), v 80 (.load none (.t 79)), v 81 (.load (some 2) (.t 8)), v 82 (.mks false (some 2) (.agg [(.str []), (.str [])]) 1 [(0, (.t 81))]), v 83 (.append false (some 2) 32 (.t 80) (.t 82)), v 84 (.nilc (.t 76)), v 85 (.faddr 2 (.t 84)), u (.store 1 (.t 85) (.t 83))]) .skip))) 
(.seq 
(.region [m 86 9, m 4 86]) .ret))))))))),
 [.tmp 4]⟩
/-- internal/stringslite.HasSuffix -/
def c_internal_stringslite_HasSuffix : DFunc := ⟨21, 
(.seq 
(.region [v 4 (.mv (.c (.bool false)))]) 
(.seq 
(.region [m 5 0, v 6 (.len false (.t 5)), m 7 1, v 8 (.len false (.t 7)), v 9 (.bin .geq .any (.t 6) (.t 8)), m 10 9, w 11 (.mv (.t 0)) 10 true, w 12 (.mv (.t 0)) 10 true, w 13 (.len false (.t 12)) 10 true, w 14 (.mv (.t 1)) 10 true, w 15 (.len false (.t 14)) 10 true, w 16 (.bin .sub .any (.t 13) (.t 15)) 10 true, w 17 (.sliceStr (.t 11) (some (.t 16)) none) 10 true, w 18 (.mv (.t 1)) 10 true, w 19 (.bin .eql .any (.t 17) (.t 18)) 10 true, v 20 (.pick (.t 10) (.t 19) (.c (.bool false))), m 4 20]) .ret)),
 [.tmp 4]⟩
/-- (*lex.Lexer).value -/
def c_lex_Lexer_value : DFunc := ⟨91, 
(.seq 
(.region [v 1 (.box (.t 0) 1), v 2 (.mv (.c (.str []))), v 3 (.mv (.c (.bool false)))]) 
(.seq 
(.block 0 
(.loop 
(.seq 
(.seq 
(.region [v 7 (.load none (.t 1)), v 8 (.call (.f 75) [(.t 7), (.c (.int .i64 0))] false), v 9 (.call (.f 109) [(.t 8)] false)]) 
(.cond (.t 9) .skip (.exit 0))) 
(.block 1 
(.region [v 10 (.load none (.t 1)), v 11 (.call (.f 68) [(.t 10)] false)]))))) 
(.seq 
(.region [v 12 (.load none (.t 1)), v 13 (.call (.f 75) [(.t 12), (.c (.int .i64 0))] false), m 4 13]) 
(.seq 
(.seq 
(.region [m 14 4]) 
(.block 2 
(.seq 
(.seq 
(.region [v 16 (.bin .eql .any (.t 14) (.c (.int .i32 34))), m 15 16]) 
(.cond (.t 15) .skip 
(.region [v 17 (.bin .eql .any (.t 14) (.c (.int .i32 39))), m 15 17]))) 
(.cond (.t 15) 
(.region [v 18 (.load none (.t 1)), v 19 (.call (.f 68) [(.t 18)] false)]) 
(.seq 
(.region [v 21 (.bin .eql .any (.t 14) (.c (.int .i32 62))), m 20 21]) 
(.cond (.t 20) 
(.seq 
(.region [v 2 (.mv (.c (.str []))), v 3 (.mv (.c (.bool true)))]) .ret) 
(.region [v 4 (.mv (.c (.int .i32 0)))]))))))) 
(.seq 
(.region [v 22 (.load none (.t 1)), v 23 (.nilc (.t 22)), v 24 (.faddr 6 (.t 23)), v 25 (.load none (.t 24)), v 5 (.alloc [(.lst 0 0 [])] none), u (.store 1 (.t 5) (.t 25))]) 
(.seq 
(.region [v 26 (.load none (.t 1)), v 27 (.nilc (.t 26)), v 28 (.faddr 6 (.t 27)), u (.store 1 (.t 28) (.c (.lst 0 0 [])))]) 
(.seq 
(.region [v 29 (.mkfn (.func 120) [] [(.t 5), (.t 1)]), u (.defr (.t 29) [])]) 
(.block 3 
(.loop 
(.block 4 
(.seq 
(.region [v 30 (.load none (.t 1)), v 31 (.call (.f 68) [(.t 30)] false), m 6 31]) 
(.block 5 
(.seq 
(.region [m 37 6, v 38 (.bin .eql .any (.t 37) (.c (.int .i32 (-1)))), m 36 38]) 
(.cond (.t 36) 
(.seq 
(.region [v 39 (.load none (.t 1)), v 40 (.call (.f 90) [(.t 39)] false)]) 
(.seq 
(.region [v 41 (.load none (.t 1)), v 42 (.nilc (.t 41)), v 43 (.faddr 6 (.t 42)), v 44 (.load none (.t 43)), v 45 (.call (.f 17) [(.t 44)] false), v 46 (.conv .bytesStr false (.t 45)), m 2 46, v 3 (.mv (.c (.bool false)))]) .ret)) 
(.seq 
(.region [m 48 4, v 49 (.bin .neq .any (.t 48) (.c (.int .i32 0))), m 50 49, w 51 (.mv (.t 6)) 50 true, w 52 (.mv (.t 4)) 50 true, w 53 (.bin .eql .any (.t 51) (.t 52)) 50 true, v 54 (.pick (.t 50) (.t 53) (.c (.bool false))), m 47 54]) 
(.cond (.t 47) 
(.seq 
(.region [v 55 (.load none (.t 1)), v 56 (.nilc (.t 55)), v 57 (.faddr 6 (.t 56)), v 58 (.load none (.t 57)), v 59 (.call (.f 17) [(.t 58)] false), v 60 (.conv .bytesStr false (.t 59)), m 2 60, v 3 (.mv (.c (.bool true)))]) .ret) 
(.seq 
(.region [m 62 4, v 63 (.bin .eql .any (.t 62) (.c (.int .i32 0))), m 64 63, w 65 (.mv (.t 6)) 64 true, w 66 (.call (.f 109) [(.t 65)] false) 64 true, w 67 (.mv (.t 66)) 64 true, w 68 (.mv (.t 6)) 67 false, w 69 (.bin .eql .any (.t 68) (.c (.int .i32 62))) 67 false, w 70 (.pick (.t 67) (.c (.bool true)) (.t 69)) 64 true, v 71 (.pick (.t 64) (.t 70) (.c (.bool false))), m 61 71]) 
(.cond (.t 61) 
(.seq 
(.region [v 72 (.load none (.t 1)), v 73 (.call (.f 90) [(.t 72)] false)]) 
(.seq 
(.region [v 74 (.load none (.t 1)), v 75 (.nilc (.t 74)), v 76 (.faddr 6 (.t 75)), v 77 (.load none (.t 76)), v 78 (.call (.f 17) [(.t 77)] false), v 79 (.conv .bytesStr false (.t 78)), m 2 79, v 3 (.mv (.c (.bool true)))]) .ret)) 
(.seq 
(.region [m 81 6, v 82 (.bin .eql .any (.t 81) (.c (.int .i32 38))), m 80 82]) 
(.cond (.t 80) 
(.region [v 83 (.load none (.t 1)), v 84 (.call (.f 70) [(.t 83), (.c (.bool true))] false)]) 
(.seq 
(.region [m 86 6, v 87 (.bin .eql .any (.t 86) (.c (.int .i32 0))), m 85 87]) 
(.cond (.t 85) 
(.region [v 88 (.load none (.t 1)), v 89 (.mks false none (.int .i32 0) 1 [(0, (.c (.int .i32 65533)))]), v 90 (.call (.f 74) [(.t 88), (.t 89)] false)]) 
(.region [v 32 (.load none (.t 1)), m 33 6, v 34 (.mks false none (.int .i32 0) 1 [(0, (.t 33))]), v 35 (.call (.f 74) [(.t 32), (.t 34)] false)]))))))))))))))))))))))),
 [.tmp 2, .tmp 3]⟩
/-- (token.Token).Get -/
def c_token_Token_Get : DFunc := ⟨12, 
(.seq 
(.region [v 2 (.box (.t 0) 10), v 4 (.mv (.c (.str []))), v 5 (.mv (.c (.bool false)))]) 
(.seq 
(.region [v 6 (.faddr 2 (.t 2)), v 7 (.load none (.t 6)), m 8 1, v 9 (.call (.f 121) [(.t 7), (.t 8)] false), v 10 (.extract (.t 9) 0), v 11 (.extract (.t 9) 1), m 4 10, m 5 11]) .ret)),
 [.tmp 4, .tmp 5]⟩
/-- (*lex.Lexer).value$1 -/
def c_lex_Lexer_value_1 : DFunc := ⟨6, 
(.region [v 2 (.load none (.t 1)), v 3 (.load none (.t 0)), v 4 (.nilc (.t 2)), v 5 (.faddr 6 (.t 4)), u (.store 1 (.t 5) (.t 3))]),
 []⟩
/-- token.Get -/
def c_token_Get : DFunc := ⟨17, 
(.seq 
(.region [v 3 (.box (.t 1) 1), v 4 (.mv (.c (.str []))), v 5 (.mv (.c (.bool false)))]) 
(.seq 
(.region [m 7 0, v 8 (.mkfn (.func 122) [] [(.t 3)]), v 9 (.call (.f 76) [(.t 7), (.t 8)] false), m 6 9]) 
(.seq 
(.seq 
(.region [m 10 6, v 11 (.bin .lss .any (.t 10) (.c (.int .i64 0)))]) 
(.cond (.t 11) 
(.seq 
(.region [v 4 (.mv (.c (.str []))), v 5 (.mv (.c (.bool false)))]) .ret) .skip)) 
(.seq 
(.region [m 12 0, m 13 6, v 14 (.iaddr 2 (.t 12) (.t 13)), v 15 (.faddr 1 (.t 14)), v 16 (.load none (.t 15)), m 4 16, v 5 (.mv (.c (.bool true)))]) .ret)))),
 [.tmp 4, .tmp 5]⟩
/-- token.Get$1 -/
def c_token_Get_1 : DFunc := ⟨8, 
(.seq 
(.region [v 2 (.box (.t 0) 2), v 3 (.mv (.c (.bool false)))]) 
(.seq 
(.region [v 4 (.faddr 0 (.t 2)), v 5 (.load none (.t 4)), v 6 (.load none (.t 1)), v 7 (.bin .eql .any (.t 5) (.t 6)), m 3 7]) .ret)),
 [.tmp 3]⟩
theorem ok_text_need : compF Tryd.prog cfg4 86 = some c_text_need := by kernel_rfl
theorem ok_chars_Number : compF Tryd.prog cfg4 87 = some c_chars_Number := by kernel_rfl
theorem ok_lex_Lexer_declare : compF Tryd.prog cfg4 88 = some c_lex_Lexer_declare := by kernel_rfl
theorem ok_lex_Lexer_ending : compF Tryd.prog cfg4 89 = some c_lex_Lexer_ending := by kernel_rfl
theorem ok_lex_Lexer_back : compF Tryd.prog cfg4 90 = some c_lex_Lexer_back := by kernel_rfl
theorem ok_lex_Lexer_tag : compF Tryd.prog cfg4 91 = some c_lex_Lexer_tag := by kernel_rfl
theorem ok_lex_Lexer_bogus : compF Tryd.prog cfg4 92 = some c_lex_Lexer_bogus := by kernel_rfl
theorem ok_lex_Lexer_closes : compF Tryd.prog cfg4 93 = some c_lex_Lexer_closes := by kernel_rfl
theorem ok_lex_Lexer_exact : compF Tryd.prog cfg4 94 = some c_lex_Lexer_exact := by kernel_rfl
theorem ok_lex_Lexer_word : compF Tryd.prog cfg4 95 = some c_lex_Lexer_word := by kernel_rfl
theorem ok_lex_Lexer_take : compF Tryd.prog cfg4 96 = some c_lex_Lexer_take := by kernel_rfl
theorem ok_text_Hex : compF Tryd.prog cfg4 100 = some c_text_Hex := by kernel_rfl
theorem ok_lex_Lexer_stands : compF Tryd.prog cfg4 101 = some c_lex_Lexer_stands := by kernel_rfl
theorem ok_lex_Lexer_comment : compF Tryd.prog cfg4 102 = some c_lex_Lexer_comment := by kernel_rfl
theorem ok_lex_Lexer_doctype : compF Tryd.prog cfg4 103 = some c_lex_Lexer_doctype := by kernel_rfl
theorem ok_lex_Lexer_section : compF Tryd.prog cfg4 104 = some c_lex_Lexer_section := by kernel_rfl
theorem ok_lex_Lexer_name : compF Tryd.prog cfg4 105 = some c_lex_Lexer_name := by kernel_rfl
theorem ok_lex_Lexer_attrs : compF Tryd.prog cfg4 106 = some c_lex_Lexer_attrs := by kernel_rfl
theorem ok_lex_Lexer_emit : compF Tryd.prog cfg4 107 = some c_lex_Lexer_emit := by kernel_rfl
theorem ok_text_Small : compF Tryd.prog cfg4 108 = some c_text_Small := by kernel_rfl
theorem ok_text_Blank : compF Tryd.prog cfg4 109 = some c_text_Blank := by kernel_rfl
theorem ok_lex_Lexer_comment_1 : compF Tryd.prog cfg4 110 = some c_lex_Lexer_comment_1 := by kernel_rfl
theorem ok_strings_HasSuffix : compF Tryd.prog cfg4 111 = some c_strings_HasSuffix := by kernel_rfl
theorem ok_lex_Lexer_doctype_1 : compF Tryd.prog cfg4 112 = some c_lex_Lexer_doctype_1 := by kernel_rfl
theorem ok_lex_Lexer_blanks : compF Tryd.prog cfg4 113 = some c_lex_Lexer_blanks := by kernel_rfl
theorem ok_lex_Lexer_skip : compF Tryd.prog cfg4 114 = some c_lex_Lexer_skip := by kernel_rfl
theorem ok_lex_Lexer_quoted : compF Tryd.prog cfg4 115 = some c_lex_Lexer_quoted := by kernel_rfl
theorem ok_lex_Lexer_attr : compF Tryd.prog cfg4 116 = some c_lex_Lexer_attr := by kernel_rfl
theorem ok_internal_stringslite_HasSuffix : compF Tryd.prog cfg4 117 = some c_internal_stringslite_HasSuffix := by kernel_rfl
theorem ok_lex_Lexer_value : compF Tryd.prog cfg4 118 = some c_lex_Lexer_value := by kernel_rfl
theorem ok_token_Token_Get : compF Tryd.prog cfg4 119 = some c_token_Token_Get := by kernel_rfl
theorem ok_lex_Lexer_value_1 : compF Tryd.prog cfg4 120 = some c_lex_Lexer_value_1 := by kernel_rfl
theorem ok_token_Get : compF Tryd.prog cfg4 121 = some c_token_Get := by kernel_rfl
theorem ok_token_Get_1 : compF Tryd.prog cfg4 122 = some c_token_Get_1 := by kernel_rfl
end Go.Proofs.YticnenofiibpgaaDoor.Code
/- The table of the functions. -/
namespace Go.Proofs.YticnenofiibpgaaDoor.Code
set_option linter.unusedSimpArgs false
set_option linter.unusedVariables false
open Go.Dm Go.Dm.C
def cfg : Cfg := ⟨fun t => [3, 83].contains t, fun f => [26, 46, 57, 58, 59].contains f⟩
def tab : BT :=
 (.node (.node (.node (.node (.node (.node (.node .nil 10 c_woodcutlaw09_LexTags .nil) 11 c_woodcutlaw09_LexJoins .nil) 13 c_woodcutlaw09_head (.node (.node .nil 14 c_woodcutlaw09_word .nil) 15 c_lex_All .nil)) 16 c_chars_Match (.node (.node (.node .nil 17 c_text_Encode .nil) 18 c_text_Letter .nil) 19 c_text_Digit (.node .nil 20 c_chars_Numeric .nil))) 21 c_woodcutlaw09_clean (.node (.node (.node (.node .nil 22 c_lex_New .nil) 23 c_lex_Lexer_Way .nil) 24 c_lex_Lexer_Tokens (.node (.node .nil 25 c_lex_Lexer_Sections .nil) 26 c_token_Join .nil)) 27 c_woodcutlaw09_same (.node (.node (.node .nil 29 c_token_Token_Same .nil) 30 c_token_Token_Is .nil) 31 c_woodcutlaw09_write (.node .nil 32 c_woodcutlaw09_LexJoins_1 .nil)))) 36 c_slices_Collect_token_Token (.node (.node (.node (.node (.node .nil 37 c_chars_table .nil) 38 c_text_Put .nil) 39 c_text_Decode (.node (.node .nil 40 c_lex_Lexer_Tokens_1 .nil) 41 c_lex_Lexer_Next .nil)) 42 c_slices_Equal_token_Attr_token_Attr (.node (.node (.node .nil 43 c_slices_Contains_string_string .nil) 44 c_woodcutlaw09_gap .nil) 45 c_woodcutlaw09_escape (.node .nil 46 c_token_Without .nil))) 53 c_slices_AppendSeq_token_Token_token_Token (.node (.node (.node (.node .nil 54 c_text_Signs .nil) 55 c_lex_Lexer_step .nil) 56 c_slices_Index_string_string (.node .nil 57 c_slices_DeleteFunc_token_Attr_token_Attr .nil)) 58 c_slices_Clone_token_Attr_token_Attr (.node (.node (.node .nil 59 c_token_Without_1 .nil) 66 c_text_Signs_1 .nil) 67 c_text_one (.node .nil 68 c_lex_Lexer_next .nil))))) 69 c_lex_Lexer_flush (.node (.node (.node (.node (.node (.node .nil 70 c_lex_Lexer_reference .nil) 71 c_lex_Lexer_open .nil) 72 c_lex_Lexer_close (.node (.node .nil 73 c_lex_Lexer_script .nil) 74 c_lex_Lexer_say .nil)) 75 c_lex_Lexer_peek (.node (.node (.node .nil 76 c_slices_IndexFunc_token_Attr_token_Attr .nil) 86 c_text_need .nil) 87 c_chars_Number (.node .nil 88 c_lex_Lexer_declare .nil))) 89 c_lex_Lexer_ending (.node (.node (.node (.node .nil 90 c_lex_Lexer_back .nil) 91 c_lex_Lexer_tag .nil) 92 c_lex_Lexer_bogus (.node .nil 93 c_lex_Lexer_closes .nil)) 94 c_lex_Lexer_exact (.node (.node (.node .nil 95 c_lex_Lexer_word .nil) 96 c_lex_Lexer_take .nil) 100 c_text_Hex (.node .nil 101 c_lex_Lexer_stands .nil)))) 102 c_lex_Lexer_comment (.node (.node (.node (.node (.node .nil 103 c_lex_Lexer_doctype .nil) 104 c_lex_Lexer_section .nil) 105 c_lex_Lexer_name (.node (.node .nil 106 c_lex_Lexer_attrs .nil) 107 c_lex_Lexer_emit .nil)) 108 c_text_Small (.node (.node (.node .nil 109 c_text_Blank .nil) 110 c_lex_Lexer_comment_1 .nil) 111 c_strings_HasSuffix (.node .nil 112 c_lex_Lexer_doctype_1 .nil))) 113 c_lex_Lexer_blanks (.node (.node (.node (.node .nil 114 c_lex_Lexer_skip .nil) 115 c_lex_Lexer_quoted .nil) 116 c_lex_Lexer_attr (.node .nil 117 c_internal_stringslite_HasSuffix .nil)) 118 c_lex_Lexer_value (.node (.node (.node .nil 119 c_token_Token_Get .nil) 120 c_lex_Lexer_value_1 .nil) 121 c_token_Get (.node .nil 122 c_token_Get_1 .nil))))))
theorem tabOk : BT.All (fun f d => compF Tryd.prog cfg f = some d) tab :=
 (.node (.node (.node (.node (.node (.node (.node .nil ok_woodcutlaw09_LexTags .nil) ok_woodcutlaw09_LexJoins .nil) ok_woodcutlaw09_head (.node (.node .nil ok_woodcutlaw09_word .nil) ok_lex_All .nil)) ok_chars_Match (.node (.node (.node .nil ok_text_Encode .nil) ok_text_Letter .nil) ok_text_Digit (.node .nil ok_chars_Numeric .nil))) ok_woodcutlaw09_clean (.node (.node (.node (.node .nil ok_lex_New .nil) ok_lex_Lexer_Way .nil) ok_lex_Lexer_Tokens (.node (.node .nil ok_lex_Lexer_Sections .nil) ok_token_Join .nil)) ok_woodcutlaw09_same (.node (.node (.node .nil ok_token_Token_Same .nil) ok_token_Token_Is .nil) ok_woodcutlaw09_write (.node .nil ok_woodcutlaw09_LexJoins_1 .nil)))) ok_slices_Collect_token_Token (.node (.node (.node (.node (.node .nil ok_chars_table .nil) ok_text_Put .nil) ok_text_Decode (.node (.node .nil ok_lex_Lexer_Tokens_1 .nil) ok_lex_Lexer_Next .nil)) ok_slices_Equal_token_Attr_token_Attr (.node (.node (.node .nil ok_slices_Contains_string_string .nil) ok_woodcutlaw09_gap .nil) ok_woodcutlaw09_escape (.node .nil ok_token_Without .nil))) ok_slices_AppendSeq_token_Token_token_Token (.node (.node (.node (.node .nil ok_text_Signs .nil) ok_lex_Lexer_step .nil) ok_slices_Index_string_string (.node .nil ok_slices_DeleteFunc_token_Attr_token_Attr .nil)) ok_slices_Clone_token_Attr_token_Attr (.node (.node (.node .nil ok_token_Without_1 .nil) ok_text_Signs_1 .nil) ok_text_one (.node .nil ok_lex_Lexer_next .nil))))) ok_lex_Lexer_flush (.node (.node (.node (.node (.node (.node .nil ok_lex_Lexer_reference .nil) ok_lex_Lexer_open .nil) ok_lex_Lexer_close (.node (.node .nil ok_lex_Lexer_script .nil) ok_lex_Lexer_say .nil)) ok_lex_Lexer_peek (.node (.node (.node .nil ok_slices_IndexFunc_token_Attr_token_Attr .nil) ok_text_need .nil) ok_chars_Number (.node .nil ok_lex_Lexer_declare .nil))) ok_lex_Lexer_ending (.node (.node (.node (.node .nil ok_lex_Lexer_back .nil) ok_lex_Lexer_tag .nil) ok_lex_Lexer_bogus (.node .nil ok_lex_Lexer_closes .nil)) ok_lex_Lexer_exact (.node (.node (.node .nil ok_lex_Lexer_word .nil) ok_lex_Lexer_take .nil) ok_text_Hex (.node .nil ok_lex_Lexer_stands .nil)))) ok_lex_Lexer_comment (.node (.node (.node (.node (.node .nil ok_lex_Lexer_doctype .nil) ok_lex_Lexer_section .nil) ok_lex_Lexer_name (.node (.node .nil ok_lex_Lexer_attrs .nil) ok_lex_Lexer_emit .nil)) ok_text_Small (.node (.node (.node .nil ok_text_Blank .nil) ok_lex_Lexer_comment_1 .nil) ok_strings_HasSuffix (.node .nil ok_lex_Lexer_doctype_1 .nil))) ok_lex_Lexer_blanks (.node (.node (.node (.node .nil ok_lex_Lexer_skip .nil) ok_lex_Lexer_quoted .nil) ok_lex_Lexer_attr (.node .nil ok_internal_stringslite_HasSuffix .nil)) ok_lex_Lexer_value (.node (.node (.node .nil ok_token_Token_Get .nil) ok_lex_Lexer_value_1 .nil) ok_token_Get (.node .nil ok_token_Get_1 .nil))))))
def windows : List Int := [8364, 129, 8218, 402, 8222, 8230, 8224, 8225, 710, 8240, 352, 8249, 338, 141, 381, 143, 144, 8216, 8217, 8220, 8221, 8226, 8211, 8212, 732, 8482, 353, 8250, 339, 157, 382, 376]
def glob (g : Nat) : Option (List DV) := match Nat.beq g 0 with
  | true => some (windows.map (DV.int .i32))
  | false => none
def D : DProg := ⟨tab.get, glob, fun _ => none⟩
theorem hP : PrimOk Tryd.prog cfg D := primOk_none fun _ => rfl

theorem hD : ∀ f df, D.fn f = some df → compF Tryd.prog cfg f = some df := fun _ _ h => tabOk.get h
theorem hm : Tryd.prog.follows .mixedOrders = true := by kernel_rfl
end Go.Proofs.YticnenofiibpgaaDoor.Code
/- What the text, chars, token and lex layers compute, az plain functions (no program in sight). -/
namespace Go.Md
set_option linter.unusedVariables false

/-! ### text -/
def blank (r : Int) : Bool := r == 9 || r == 10 || r == 12 || r == 13 || r == 32
def letter (r : Int) : Bool := (decide (r ≥ 97) && decide (r ≤ 122)) || (decide (r ≥ 65) && decide (r ≤ 90))
def digit (r : Int) : Bool := decide (r ≥ 48) && decide (r ≤ 57)
def hex (r : Int) : Int := if 48 ≤ r ∧ r ≤ 57 then r - 48 else if 97 ≤ r ∧ r ≤ 102 then r - 87 else if 65 ≤ r ∧ r ≤ 70 then r - 55 else -1
def small (r : Int) : Int := if 65 ≤ r ∧ r ≤ 90 then r + 32 else r
def need (b : Nat) : Nat × Nat × Nat :=
  if 0xc2 ≤ b ∧ b ≤ 0xdf then (1, 0x80, 0xbf)
  else if b = 0xe0 then (2, 0xa0, 0xbf)
  else if b = 0xed then (2, 0x80, 0x9f)
  else if 0xe1 ≤ b ∧ b ≤ 0xef then (2, 0x80, 0xbf)
  else if b = 0xf0 then (3, 0x90, 0xbf)
  else if 0xf1 ≤ b ∧ b ≤ 0xf3 then (3, 0x80, 0xbf)
  else if b = 0xf4 then (3, 0x80, 0x8f)
  else (0, 0, 0)
/-- The bytes that follow a first one: 'k' are wanted, the first of them from lo to hi. -/
def oneGo : Nat → List UInt8 → Nat → Int → Nat → Nat → Int × Nat
  | 0, _, i, r, _, _ => (r, i)
  | _ + 1, [], i, _, _, _ => (65533, i)
  | k + 1, c :: rest, i, r, lo, hi => if c.toNat < lo ∨ hi < c.toNat then (65533, i) else oneGo k rest (i + 1) (r * 64 + (c.toNat % 64 : Nat)) 0x80 0xbf
def one : List UInt8 → Int × Nat
  | [] => (0, 0)
  | b :: rest => if b.toNat < 0x80 then (b.toNat, 1) else
    let n := (need b.toNat).1
    if n = 0 then (65533, 1) else oneGo n rest 1 (b.toNat % (64 / 2 ^ n) : Nat) (need b.toNat).2.1 (need b.toNat).2.2
/-- The signs that bytes are; 'fuel' bytes at most. -/
def signs : Nat → List UInt8 → List Int
  | 0, _ => []
  | _ + 1, [] => []
  | f + 1, b => (one b).1 :: signs f (b.drop (one b).2)
/-- Ends of lines az one sign. -/
def lines : Int → List Int → List Int
  | _, [] => []
  | last, r :: rs => if r = 13 then 10 :: lines r rs else if r = 10 ∧ last = 13 then lines r rs else r :: lines r rs
def unmark (b : List UInt8) : List UInt8 := match b with
  | 0xef :: 0xbb :: 0xbf :: r => r
  | _ => b
def decode (b : List UInt8) : List Int := lines 0 (signs (unmark b).length (unmark b))
def byteN (n : Nat) : UInt8 := UInt8.ofNat n
/-- A sign az bytes. -/
def putR (r : Int) : List UInt8 :=
  let n := if r < 0 ∨ r > 0x10ffff ∨ (r ≥ 0xd800 ∧ r ≤ 0xdfff) then 0xfffd else r.toNat
  if n < 0x80 then [byteN n]
  else if n < 0x800 then [byteN (0xc0 + n / 64), byteN (0x80 + n % 64)]
  else if n < 0x10000 then [byteN (0xe0 + n / 4096), byteN (0x80 + n / 64 % 64), byteN (0x80 + n % 64)]
  else [byteN (0xf0 + n / 262144), byteN (0x80 + n / 4096 % 64), byteN (0x80 + n / 64 % 64), byteN (0x80 + n % 64)]
def encode (rs : List Int) : List UInt8 := rs.flatMap putR

/-! ### chars -/
structure Entry where
  name : List UInt8
  sign : Int
  bare : Bool
  deriving Inhabited
/-- All names. -/
def table : List Entry := [
  ⟨[97, 109, 112], 38, true⟩,
  ⟨[108, 116], 60, true⟩,
  ⟨[103, 116], 62, true⟩,
  ⟨[113, 117, 111, 116], 34, true⟩,
  ⟨[65, 77, 80], 38, true⟩,
  ⟨[76, 84], 60, true⟩,
  ⟨[71, 84], 62, true⟩,
  ⟨[110, 98, 115, 112], 160, true⟩,
  ⟨[105, 101, 120, 99, 108], 161, true⟩,
  ⟨[99, 101, 110, 116], 162, true⟩,
  ⟨[112, 111, 117, 110, 100], 163, true⟩,
  ⟨[121, 101, 110], 165, true⟩,
  ⟨[115, 101, 99, 116], 167, true⟩,
  ⟨[99, 111, 112, 121], 169, true⟩,
  ⟨[108, 97, 113, 117, 111], 171, true⟩,
  ⟨[110, 111, 116], 172, true⟩,
  ⟨[115, 104, 121], 173, true⟩,
  ⟨[114, 101, 103], 174, true⟩,
  ⟨[100, 101, 103], 176, true⟩,
  ⟨[112, 108, 117, 115, 109, 110], 177, true⟩,
  ⟨[115, 117, 112, 50], 178, true⟩,
  ⟨[109, 105, 99, 114, 111], 181, true⟩,
  ⟨[112, 97, 114, 97], 182, true⟩,
  ⟨[109, 105, 100, 100, 111, 116], 183, true⟩,
  ⟨[114, 97, 113, 117, 111], 187, true⟩,
  ⟨[102, 114, 97, 99, 49, 50], 189, true⟩,
  ⟨[105, 113, 117, 101, 115, 116], 191, true⟩,
  ⟨[65, 117, 109, 108], 196, true⟩,
  ⟨[69, 97, 99, 117, 116, 101], 201, true⟩,
  ⟨[79, 117, 109, 108], 214, true⟩,
  ⟨[116, 105, 109, 101, 115], 215, true⟩,
  ⟨[85, 117, 109, 108], 220, true⟩,
  ⟨[115, 122, 108, 105, 103], 223, true⟩,
  ⟨[97, 103, 114, 97, 118, 101], 224, true⟩,
  ⟨[97, 117, 109, 108], 228, true⟩,
  ⟨[99, 99, 101, 100, 105, 108], 231, true⟩,
  ⟨[101, 97, 99, 117, 116, 101], 233, true⟩,
  ⟨[110, 116, 105, 108, 100, 101], 241, true⟩,
  ⟨[111, 117, 109, 108], 246, true⟩,
  ⟨[100, 105, 118, 105, 100, 101], 247, true⟩,
  ⟨[117, 117, 109, 108], 252, true⟩,
  ⟨[97, 112, 111, 115], 39, false⟩,
  ⟨[104, 101, 108, 108, 105, 112], 8230, false⟩,
  ⟨[109, 100, 97, 115, 104], 8212, false⟩,
  ⟨[110, 100, 97, 115, 104], 8211, false⟩,
  ⟨[101, 117, 114, 111], 8364, false⟩,
  ⟨[116, 114, 97, 100, 101], 8482, false⟩,
  ⟨[108, 97, 114, 114], 8592, false⟩,
  ⟨[114, 97, 114, 114], 8594, false⟩,
  ⟨[110, 111, 116, 105, 110], 8713, false⟩,
  ⟨[97, 108, 112, 104, 97], 945, false⟩,
  ⟨[111, 109, 101, 103, 97], 969, false⟩,
  ⟨[105, 110, 102, 105, 110], 8734, false⟩,
  ⟨[98, 117, 108, 108], 8226, false⟩,
  ⟨[108, 115, 113, 117, 111], 8216, false⟩,
  ⟨[114, 115, 113, 117, 111], 8217, false⟩,
  ⟨[108, 100, 113, 117, 111], 8220, false⟩,
  ⟨[114, 100, 113, 117, 111], 8221, false⟩,
  ⟨[110, 101], 8800, false⟩,
  ⟨[108, 101], 8804, false⟩,
  ⟨[110, 118, 108, 116], 60, false⟩]
def windows : List Int := [8364, 129, 8218, 402, 8222, 8230, 8224, 8225, 710, 8240, 352, 8249, 338, 141, 381, 143, 144, 8216, 8217, 8220, 8221, 8226, 8211, 8212, 732, 8482, 353, 8250, 339, 157, 382, 376]
def numeric (n : Int) : Int := if n ≤ 0 ∨ n > 1114111 ∨ (n ≥ 55296 ∧ n ≤ 57343) then 65533 else if n ≥ 128 ∧ n < 160 then windows.getD (n - 128).toNat 0 else n
/-- Digits in front: the number, at most 0x110000, and how many they are. -/
def number (base : Int) : List Int → Int → Nat → Int × Nat
  | [], n, k => (n, k)
  | r :: rs, n, k => if hex r < 0 ∨ hex r ≥ base then (n, k) else number base rs (min (n * base + hex r) 0x110000) (k + 1)
/-- A round of the look for the longest name. -/
def matchStep (runeBytes : List Int → List UInt8) (rs : List Int) (a : Int × Nat × Bool) (i : Nat) (e : Entry) : Int × Nat × Bool :=
  if e.name.length > rs.length ∨ runeBytes (rs.take e.name.length) ≠ e.name then a else
  let n := e.name.length
  let fin := decide (n < rs.length) && rs.getD n 0 == 59
  let n' := if fin then n + 1 else n
  if (fin || e.bare) && decide (n' > a.2.1) then (i, n', fin) else a
def matchAll (rb : List Int → List UInt8) (rs : List Int) : Int × Nat × Bool := (table.zipIdx).foldl (fun a p => matchStep rb rs a p.2 p.1) (-1, 0, false)
/-- The longest name with which signs begin: what it means, how many it takes, whether its end is there. -/
def matchT (rb : List Int → List UInt8) (rs : List Int) : List Int × Nat × Bool :=
  let a := matchAll rb rs
  if a.1 < 0 then ([], 0, false) else
  let e := table.getD a.1.toNat default
  (if e.name = [110, 118, 108, 116] then [e.sign, 8402] else [e.sign], a.2.1, a.2.2)
end Go.Md
/- The names of chars in order; two looks for the longest name. -/
namespace Go
/-- The names in order, by their places in the table. -/
def Md.ord : List Nat := [4, 27, 28, 6, 5, 29, 31, 33, 50, 0, 41, 34, 53, 35, 9, 13, 18, 39, 36, 45, 25, 2, 42, 8, 52, 26, 14, 47, 56, 59, 54, 1, 43, 21, 23, 7, 44, 58, 15, 49, 37, 60, 51, 38, 22, 19, 10, 3, 24, 48, 57, 17, 55, 12, 16, 20, 32, 30, 46, 40, 11]
def Md.names : List Md.Entry := Md.ord.map (Md.table.getD · default)
/-- How far a name and signs go together. -/
def Md.cpl : List UInt8 → List Int → Nat
  | b :: bs, r :: rs => if r = (b.toNat : Int) then Md.cpl bs rs + 1 else 0
  | _, _ => 0
theorem Md.cpl_le : ∀ (bs : List UInt8) (rs : List Int), Md.cpl bs rs ≤ bs.length ∧ Md.cpl bs rs ≤ rs.length
  | [], rs => by simp [Md.cpl]
  | b :: bs, [] => by simp [Md.cpl]
  | b :: bs, r :: rs => by
    have := Md.cpl_le bs rs
    simp only [Md.cpl, List.length_cons]
    split <;> omega

/-! ### plain law -/
open Go.Dm (runeBytes)
theorem Md.enc_low {r : Int} (h : 0 ≤ r ∧ r < 128) : (Utf8.encode r).data.toList = [UInt8.ofNat r.toNat] := by
  have hv : Utf8.valid r = true := by simp [Utf8.valid]; omega
  unfold Utf8.encode
  simp only [hv, if_true]
  rw [if_pos (by omega)]
theorem Md.enc_high {r : Int} (h : ¬(0 ≤ r ∧ r < 128)) : ∃ c t, (Utf8.encode r).data.toList = c :: t ∧ 128 ≤ c.toNat := by
  unfold Utf8.encode
  have hc : 128 ≤ (if Utf8.valid r = true then r.toNat else Utf8.runeError) ∧ (if Utf8.valid r = true then r.toNat else Utf8.runeError) < 2097152 := by
    split
    · rename_i hv
      simp [Utf8.valid] at hv
      omega
    · decide
  dsimp only
  generalize (if Utf8.valid r = true then r.toNat else Utf8.runeError) = c at hc
  rw [if_neg (by omega)]
  split
  · exact ⟨_, _, rfl, by rw [UInt8.toNat_ofNat']; omega⟩
  · split
    · exact ⟨_, _, rfl, by rw [UInt8.toNat_ofNat']; omega⟩
    · exact ⟨_, _, rfl, by rw [UInt8.toNat_ofNat']; omega⟩
theorem Md.cpl_bytes : ∀ (bs : List UInt8) (rs : List Int), bs.all (fun b => decide (b.toNat < 128)) = true → bs.length ≤ rs.length → (runeBytes (rs.take bs.length) = bs ↔ Md.cpl bs rs = bs.length)
  | [], rs, _, _ => by simp [runeBytes, Md.cpl]
  | b :: bs, [], _, h => by simp at h
  | b :: bs, r :: rs, ha, hl => by
    simp only [List.all_cons, Bool.and_eq_true, decide_eq_true_eq] at ha
    have ih := Md.cpl_bytes bs rs ha.2 (by simpa using hl)
    simp only [List.length_cons, List.take_succ_cons, Md.cpl]
    have e : runeBytes (r :: rs.take bs.length) = (Utf8.encode r).data.toList ++ runeBytes (rs.take bs.length) := by simp [runeBytes]
    rw [e]
    by_cases hr : 0 ≤ r ∧ r < 128
    · rw [Md.enc_low hr]
      by_cases hb : r = (b.toNat : Int)
      · rw [if_pos hb]
        have : UInt8.ofNat r.toNat = b := by rw [hb]; simp
        rw [this]
        simp [ih]
      · rw [if_neg hb]
        constructor
        · intro h
          simp only [List.cons_append, List.nil_append, List.cons.injEq] at h
          exfalso; apply hb
          rw [← h.1, UInt8.toNat_ofNat']
          omega
        · intro h; omega
    · obtain ⟨c, t, e1, e2⟩ := Md.enc_high hr
      rw [e1]
      constructor
      · intro h
        simp only [List.cons_append, List.cons.injEq] at h
        rw [h.1] at e2; omega
      · intro h
        split at h
        · rename_i hb; exfalso; apply hr; omega
        · omega
theorem Md.cpl_full : ∀ (bs : List UInt8) (rs : List Int), Md.cpl bs rs = bs.length → bs.length ≤ rs.length ∧ ∀ i, i < bs.length → rs.getD i default = ((bs.getD i 0).toNat : Int)
  | [], rs, _ => by simp
  | b :: bs, [], h => by simp [Md.cpl] at h
  | b :: bs, r :: rs, h => by
    simp only [Md.cpl, List.length_cons] at h
    split at h
    · rename_i hb
      obtain ⟨h1, h2⟩ := Md.cpl_full bs rs (by omega)
      refine ⟨by simpa using h1, fun i hi => ?_⟩
      cases i with
      | zero => simpa using hb
      | succ i => simpa using h2 i (by simpa using hi)
    · omega
/-- How much of the signs a name takes. -/
def Md.hitN (rs : List Int) (e : Md.Entry) : Nat :=
  if Md.cpl e.name rs < e.name.length then 0 else
  if e.name.length < rs.length ∧ rs.getD e.name.length default = 59 then e.name.length + 1 else if e.bare = true then e.name.length else 0
def Md.hitE (rs : List Int) (e : Md.Entry) : Bool := decide (e.name.length < rs.length ∧ rs.getD e.name.length default = 59)
theorem Md.matchStep_hit (rs : List Int) (a : Int × Nat × Bool) (i : Nat) (e : Md.Entry) (ha : e.name.all (fun b => decide (b.toNat < 128)) = true) : Md.matchStep runeBytes rs a i e = if Md.hitN rs e > a.2.1 then ((i : Int), Md.hitN rs e, Md.hitE rs e) else a := by
  have hc := Md.cpl_le e.name rs
  have hd : (rs.getD e.name.length 0 == 59) = decide (rs.getD e.name.length default = 59) := rfl
  by_cases h1 : Md.cpl e.name rs < e.name.length
  · have hn : Md.hitN rs e = 0 := by unfold Md.hitN; rw [if_pos h1]
    simp only [hn]
    simp only [Md.matchStep]
    rw [if_pos]
    · simp
    · by_cases hl : e.name.length ≤ rs.length
      · exact .inr fun h => by have := (Md.cpl_bytes e.name rs ha hl).1 h; omega
      · exact .inl (by omega)
  · have h2 : Md.cpl e.name rs = e.name.length := by omega
    have hg : ¬(e.name.length > rs.length ∨ runeBytes (rs.take e.name.length) ≠ e.name) := fun h => h.elim (fun h => by omega) (fun h => h ((Md.cpl_bytes e.name rs ha (by omega)).2 h2))
    by_cases h3 : e.name.length < rs.length ∧ rs.getD e.name.length default = 59
    · have e1 : (decide (e.name.length < rs.length) && decide (rs.getD e.name.length default = 59)) = true := by simp only [Bool.and_eq_true, decide_eq_true_eq]; exact h3
      have hn : Md.hitN rs e = e.name.length + 1 := by unfold Md.hitN; rw [if_neg h1, if_pos h3]
      have he : Md.hitE rs e = true := decide_eq_true h3
      simp only [hn, he]
      simp only [Md.matchStep]
      rw [if_neg hg, hd, e1]
      simp
    · have e1 : (decide (e.name.length < rs.length) && decide (rs.getD e.name.length default = 59)) = false := by
        simp only [Bool.and_eq_false_imp, decide_eq_true_eq, decide_eq_false_iff_not]; exact fun a b => h3 ⟨a, b⟩
      have hn : Md.hitN rs e = if e.bare = true then e.name.length else 0 := by unfold Md.hitN; rw [if_neg h1, if_neg h3]
      have he : Md.hitE rs e = false := decide_eq_false h3
      simp only [hn, he]
      simp only [Md.matchStep]
      rw [if_neg hg, hd, e1]
      by_cases h4 : e.bare = true
      · simp [h4]
      · simp [h4]
theorem Md.hit_unique (rs : List Int) {e e' : Md.Entry} (h : Md.hitN rs e = Md.hitN rs e') (h0 : 0 < Md.hitN rs e) (n1 : e.name.all (· != 59) = true) (n2 : e'.name.all (· != 59) = true) : e.name = e'.name ∧ Md.hitE rs e = Md.hitE rs e' := by
  have key : ∀ e : Md.Entry, 0 < Md.hitN rs e → (∀ i, i < e.name.length → rs.getD i default = ((e.name.getD i 0).toNat : Int)) ∧ Md.hitN rs e = (if Md.hitE rs e = true then e.name.length + 1 else e.name.length) ∧ (Md.hitE rs e = true → rs.getD e.name.length default = 59) := by
    intro e h
    have hc := Md.cpl_le e.name rs
    unfold Md.hitN at h ⊢
    by_cases h1 : Md.cpl e.name rs < e.name.length
    · rw [if_pos h1] at h; omega
    · rw [if_neg h1] at h ⊢
      refine ⟨(Md.cpl_full e.name rs (by omega)).2, ?_, fun h => (of_decide_eq_true h).2⟩
      by_cases h3 : e.name.length < rs.length ∧ rs.getD e.name.length default = 59
      · rw [if_pos h3, Md.hitE, decide_eq_true h3]; rfl
      · rw [if_neg h3] at h ⊢
        rw [Md.hitE, decide_eq_false h3]
        split at h
        · rename_i h4; rw [if_pos h4]; rfl
        · omega
  obtain ⟨a1, a2, a3⟩ := key e h0
  obtain ⟨b1, b2, b3⟩ := key e' (by omega)
  have no59 : ∀ (l : List UInt8), l.all (· != 59) = true → ∀ i, i < l.length → ((l.getD i 0).toNat : Int) ≠ 59 := by
    intro l hl i hi he
    have hm := List.all_eq_true.1 hl (l[i]) (List.getElem_mem hi)
    rw [List.getD_eq_getElem?_getD, List.getElem?_eq_getElem hi] at he
    simp only [Option.getD_some] at he
    have : l[i] = 59 := by apply UInt8.toNat_inj.1; show l[i].toNat = 59; omega
    rw [this] at hm
    exact absurd hm (by decide)
  have hlen : e.name.length = e'.name.length ∧ Md.hitE rs e = Md.hitE rs e' := by
    cases x1 : Md.hitE rs e <;> cases x2 : Md.hitE rs e' <;> rw [x1] at a2 <;> rw [x2] at b2 <;> simp only [Bool.false_eq_true, if_false, if_true] at a2 b2
    · exact ⟨by omega, rfl⟩
    · exfalso
      have q1 := b3 x2
      have q2 := a1 e'.name.length (by omega)
      rw [q1] at q2
      exact no59 e.name n1 e'.name.length (by omega) q2.symm
    · exfalso
      have q1 := a3 x1
      have q2 := b1 e.name.length (by omega)
      rw [q1] at q2
      exact no59 e'.name n2 e.name.length (by omega) q2.symm
    · exact ⟨by omega, rfl⟩
  refine ⟨?_, hlen.2⟩
  apply List.ext_getElem hlen.1
  intro i h1 h2
  have q1 := a1 i h1
  have q2 := b1 i h2
  rw [q1] at q2
  rw [List.getD_eq_getElem?_getD, List.getElem?_eq_getElem h1, List.getD_eq_getElem?_getD, List.getElem?_eq_getElem h2] at q2
  simp only [Option.getD_some] at q2
  apply UInt8.toNat_inj.1
  omega
theorem Md.match_fold (rs : List Int) : ∀ (l : List (Md.Entry × Nat)) (a : Int × Nat × Bool), (∀ p ∈ l, p.1.name.all (fun b => decide (b.toNat < 128)) = true) →
    (∀ p ∈ l, Md.hitN rs p.1 ≤ (l.foldl (fun a p => Md.matchStep runeBytes rs a p.2 p.1) a).2.1) ∧ a.2.1 ≤ (l.foldl (fun a p => Md.matchStep runeBytes rs a p.2 p.1) a).2.1 ∧
      (l.foldl (fun a p => Md.matchStep runeBytes rs a p.2 p.1) a = a ∨ ∃ p ∈ l, l.foldl (fun a p => Md.matchStep runeBytes rs a p.2 p.1) a = ((p.2 : Int), Md.hitN rs p.1, Md.hitE rs p.1) ∧ a.2.1 < Md.hitN rs p.1)
  | [], a, _ => ⟨fun e h => (by cases h), Nat.le_refl _, .inl rfl⟩
  | p :: l, a, ha => by
    simp only [List.foldl_cons]
    obtain ⟨h1, h2, h3⟩ := Md.match_fold rs l (Md.matchStep runeBytes rs a p.2 p.1) (fun q hq => ha q (by simp [hq]))
    have hs := Md.matchStep_hit rs a p.2 p.1 (ha p (by simp))
    have hle : Md.hitN rs p.1 ≤ (Md.matchStep runeBytes rs a p.2 p.1).2.1 ∧ a.2.1 ≤ (Md.matchStep runeBytes rs a p.2 p.1).2.1 := by
      rw [hs]; split <;> exact ⟨by first | omega | (simp only; omega) | (show _ ≤ Md.hitN rs p.1; omega), by first | omega | (simp only; omega) | (show _ ≤ Md.hitN rs p.1; omega)⟩
    refine ⟨fun x hx => ?_, by omega, ?_⟩
    · rcases List.mem_cons.1 hx with rfl | hx
      · omega
      · exact h1 x hx
    · rcases h3 with h3 | ⟨x, hx, h3, h4⟩
      · rw [h3, hs]
        split
        · rename_i h5; exact .inr ⟨p, by simp, rfl, h5⟩
        · exact .inl rfl
      · exact .inr ⟨x, by simp [hx], h3, by omega⟩
theorem Md.table_facts : (∀ e ∈ Md.table, e.name.all (fun b => decide (b.toNat < 128)) = true ∧ e.name.all (· != 59) = true) ∧ (∀ e ∈ Md.table, ∀ e' ∈ Md.table, e.name = e'.name → e.sign = e'.sign) := by decide +kernel
/-- What matchT answers, by the hits. -/
theorem Md.matchT_hit (rs : List Int) : (∀ e ∈ Md.table, Md.hitN rs e ≤ (Md.matchT runeBytes rs).2.1) ∧ (Md.matchT runeBytes rs = ([], 0, false) ∨ ∃ e ∈ Md.table, Md.matchT runeBytes rs = (if e.name = [110, 118, 108, 116] then [e.sign, 8402] else [e.sign], Md.hitN rs e, Md.hitE rs e) ∧ 0 < Md.hitN rs e) := by
  have hzip : ∀ p ∈ Md.table.zipIdx, Md.table[p.2]? = some p.1 := fun p hp => by
    obtain ⟨e, i⟩ := p
    exact List.mem_zipIdx_iff_getElem?.1 hp
  have hmem : ∀ p ∈ Md.table.zipIdx, p.1 ∈ Md.table := fun p hp => List.mem_of_getElem? (hzip p hp)
  obtain ⟨b1, _, b3⟩ := Md.match_fold rs Md.table.zipIdx (-1, 0, false) (fun p hp => (Md.table_facts.1 p.1 (hmem p hp)).1)
  have hB : Md.table.zipIdx.foldl (fun a p => Md.matchStep runeBytes rs a p.2 p.1) (-1, 0, false) = Md.matchAll runeBytes rs := rfl
  rw [hB] at b1 b3
  have b1' : ∀ e ∈ Md.table, Md.hitN rs e ≤ (Md.matchAll runeBytes rs).2.1 := fun e he => by
    obtain ⟨i, hi, rfl⟩ := List.getElem_of_mem he
    exact b1 (Md.table[i], i) (List.mem_zipIdx_iff_getElem?.2 (List.getElem?_eq_getElem hi))
  rcases b3 with b3 | ⟨p, hp, b3, b4⟩
  · have e1 : Md.matchT runeBytes rs = ([], 0, false) := by unfold Md.matchT; rw [b3]; rfl
    rw [e1]
    rw [b3] at b1'
    exact ⟨b1', .inl rfl⟩
  · have hg : Md.table.getD p.2 default = p.1 := by rw [List.getD_eq_getElem?_getD, hzip p hp]; rfl
    have e1 : Md.matchT runeBytes rs = (if p.1.name = [110, 118, 108, 116] then [p.1.sign, 8402] else [p.1.sign], Md.hitN rs p.1, Md.hitE rs p.1) := by
      unfold Md.matchT
      rw [b3]
      dsimp only
      rw [if_neg (by omega), Int.toNat_natCast, hg]
    rw [e1]
    rw [b3] at b1'
    exact ⟨b1', .inr ⟨p.1, hmem p hp, rfl, b4⟩⟩
theorem Md.cpl_self : ∀ (bs : List UInt8) (more : List Int), Md.cpl bs (bs.map (fun b => (b.toNat : Int)) ++ more) = bs.length
  | [], more => by simp [Md.cpl]
  | b :: bs, more => by simp [Md.cpl, Md.cpl_self bs more]
/-- A name with its end, whatever follows, is found. -/
theorem Md.names_found {e : Md.Entry} (he : e ∈ Md.table) (more : List Int) : ∃ r, Md.matchT runeBytes (e.name.map (fun b => (b.toNat : Int)) ++ 59 :: more) = (e.sign :: r, e.name.length + 1, true) ∧ (r ≠ [] → e.name = [110, 118, 108, 116]) := by
  obtain ⟨rs, hrs⟩ : ∃ rs, rs = e.name.map (fun b => (b.toNat : Int)) ++ 59 :: more := ⟨_, rfl⟩
  have hl : rs.length = e.name.length + 1 + more.length := by rw [hrs]; simp; omega
  have h59 : rs.getD e.name.length default = 59 := by rw [hrs, List.getD_eq_getElem?_getD, List.getElem?_append_right (by simp)]; simp
  have hN : Md.hitN rs e = e.name.length + 1 := by
    unfold Md.hitN
    rw [hrs, Md.cpl_self, if_neg (by omega), ← hrs, if_pos ⟨by omega, h59⟩]
  have hE : Md.hitE rs e = true := decide_eq_true ⟨by omega, h59⟩
  rw [← hrs]
  obtain ⟨h1, h2⟩ := Md.matchT_hit rs
  have q1 := h1 e he
  rcases h2 with h2 | ⟨p, hp, h2, h3⟩
  · rw [h2] at q1; dsimp only at q1; omega
  · rw [h2] at q1
    dsimp only at q1
    have hle : Md.hitN rs p ≤ e.name.length + 1 := by
      have hc := Md.cpl_le p.name rs
      by_cases hcp : Md.cpl p.name rs < p.name.length
      · unfold Md.hitN; rw [if_pos hcp]; omega
      · have hf := (Md.cpl_full p.name rs (by omega)).2
        have hpl : p.name.length ≤ e.name.length := by
          by_cases hx : e.name.length < p.name.length
          · exfalso
            have := hf e.name.length hx
            rw [h59] at this
            have hm := List.all_eq_true.1 (Md.table_facts.1 p hp).2 (p.name[e.name.length]) (List.getElem_mem hx)
            rw [List.getD_eq_getElem?_getD, List.getElem?_eq_getElem hx] at this
            simp only [Option.getD_some] at this
            have h5 : p.name[e.name.length] = 59 := by apply UInt8.toNat_inj.1; show p.name[e.name.length].toNat = 59; omega
            rw [h5] at hm
            exact absurd hm (by decide)
          · omega
        unfold Md.hitN
        repeat' split
        all_goals omega
    obtain ⟨u1, u2⟩ := Md.hit_unique rs (e := e) (e' := p) (by omega) (by omega) (Md.table_facts.1 e he).2 (Md.table_facts.1 p hp).2
    have hs := Md.table_facts.2 e he p hp u1
    rw [h2, ← u1, ← u2, hE, ← hs, show Md.hitN rs p = e.name.length + 1 by omega]
    split
    · rename_i hn; exact ⟨_, rfl, fun _ => hn⟩
    · exact ⟨_, rfl, fun h => absurd rfl h⟩
theorem Md.hitN_le (rs : List Int) (e : Md.Entry) : Md.hitN rs e ≤ rs.length := by
  have hc := Md.cpl_le e.name rs
  unfold Md.hitN
  by_cases h : Md.cpl e.name rs < e.name.length
  · rw [if_pos h]; omega
  · rw [if_neg h]
    split
    · omega
    · split <;> omega
theorem Md.matchT_le (rs : List Int) : (Md.matchT runeBytes rs).2.1 ≤ rs.length := by
  rcases (Md.matchT_hit rs).2 with h | ⟨e, _, h, _⟩
  · rw [h]; exact Nat.zero_le _
  · rw [h]; exact Md.hitN_le rs e
theorem Md.matchT_len (rs : List Int) : (Md.matchT runeBytes rs).1.length ≤ 2 := by
  rcases (Md.matchT_hit rs).2 with h | ⟨e, _, h, _⟩
  · rw [h]; simp
  · rw [h]; dsimp only; split <;> simp
theorem Md.sign_facts : ∀ e ∈ Md.table, 0 ≤ e.sign := by decide +kernel
theorem Md.matchT_nn (rs : List Int) : ∀ r ∈ (Md.matchT runeBytes rs).1, 0 ≤ r := by
  rcases (Md.matchT_hit rs).2 with h | ⟨e, he, h, _⟩
  · rw [h]; simp
  · have := Md.sign_facts e he
    rw [h]; dsimp only; split <;> simp <;> omega
end Go
/- The lexer az plain functions: a state, what each function makes of it (no program in sight). -/
namespace Go.Md
set_option linter.unusedVariables false
abbrev Str := List UInt8
structure Tok where
  kind : Int
  name : Str
  attrs : List (Str × Str)
  self : Bool
  data : Str
  pub : Str
  sys : Str
  hasPub : Bool
  hasSys : Bool
  quirks : Bool
  deriving DecidableEq
def Tok.zero : Tok := ⟨0, [], [], false, [], [], [], false, false, false⟩
instance : Inhabited Tok := ⟨Tok.zero⟩
structure Lx where
  inp : List Int
  pos : Nat
  way : Int
  last : Str
  room : Bool
  out : List Tok
  text : List Int
  done : Bool
def Lx.rest (s : Lx) : List Int := s.inp.drop s.pos
def Lx.pk (s : Lx) (n : Nat) : Int := s.inp.getD (s.pos + n) (-1)
def Lx.adv (s : Lx) (n : Nat) : Lx := { s with pos := s.pos + n }
def Lx.say (s : Lx) (rs : List Int) : Lx := { s with text := s.text ++ rs.filter (· != -1) }
/-- Without its text. -/
def Lx.clr (s : Lx) : Lx := { s with text := [] }
def textTok (t : List Int) : Tok := { Tok.zero with kind := 1, data := encode t }
def Lx.flush (s : Lx) : Lx := if s.text = [] then s else { s with out := s.out ++ [textTok s.text], text := [] }
def Lx.emit (s : Lx) (t : Tok) : Lx := { s.flush with last := if t.kind = 2 then t.name else s.flush.last, out := s.flush.out ++ [t] }

/-! ### pieces of what stands next -/
def fixr (r : Int) : Int := if r = 0 then 65533 else r
def blanksN (l : List Int) : Nat := (l.takeWhile blank).length
/-- A text of low signs stands next, in whatever letters. -/
def stands : Str → List Int → Bool
  | [], _ => true
  | c :: w, l => small (l.headD (-1)) == small (c.toNat : Int) && stands w l.tail
def exact : Str → List Int → Bool
  | [], _ => true
  | c :: w, l => l.headD (-1) == (c.toNat : Int) && exact w l.tail
def over (r : Int) : Bool := blank r || r == 47 || r == 62
def bogusGo : List Int → List Int × Nat
  | [] => ([], 0)
  | r :: l => if r = 62 then ([], 1) else (fixr r :: (bogusGo l).1, (bogusGo l).2 + 1)
def nameOf (l : List Int) : List Int := (l.takeWhile fun r => !over r)
def skipN : List Int → Nat
  | [] => 0
  | r :: l => if r = 62 then 1 else skipN l + 1

/-! ### references -/
/-- What stands behind an &: the signs that it means, how many it takes. -/
def refer (value : Bool) (l : List Int) : List Int × Nat :=
  if l.getD 0 (-1) = 35 then
    let n := if l.getD 1 (-1) = 120 ∨ l.getD 1 (-1) = 88 then 2 else 1
    let q := number (if l.getD 1 (-1) = 120 ∨ l.getD 1 (-1) = 88 then 16 else 10) (l.drop n) 0 0
    if q.2 = 0 then ([38], 0) else
    ([numeric q.1], if l.getD (n + q.2) (-1) = 59 then n + q.2 + 1 else n + q.2)
  else
    let m := matchT Go.Dm.runeBytes l
    if m.2.1 = 0 then ([38], 0) else
    if (value = true ∧ m.2.2 = false ∧ m.2.1 < l.length) ∧ (l.getD m.2.1 (-1) = 61 ∨ letter (l.getD m.2.1 (-1)) = true ∨ digit (l.getD m.2.1 (-1)) = true) then ([38], 0) else (m.1, m.2.1)

/-! ### tags -/
/-- A value: its signs, whether it ended, how many signs it takes. -/
def valueGo (quote : Int) (l : List Int) (acc : List Int) : List Int × Bool × Nat :=
  match l with
  | [] => (acc, false, 0)
  | r :: l =>
    if quote ≠ 0 ∧ r = quote then (acc, true, 1)
    else if quote = 0 ∧ (blank r = true ∨ r = 62) then (acc, true, 0)
    else if r = 38 then
      let q := valueGo quote (l.drop (refer true l).2) (acc ++ (refer true l).1)
      (q.1, q.2.1, q.2.2 + (refer true l).2 + 1)
    else
      let q := valueGo quote l (acc ++ [fixr r])
      (q.1, q.2.1, q.2.2 + 1)
  termination_by l.length
  decreasing_by all_goals simp; try omega
def value (l : List Int) : Str × Bool × Nat :=
  let b := blanksN l
  let r := l.getD b (-1)
  if r = 62 then ([], true, b) else
  if r = 34 ∨ r = 39 then
    let q := valueGo r (l.drop (b + 1)) []
    (encode q.1, q.2.1, b + 1 + q.2.2)
  else
    let q := valueGo 0 (l.drop b) []
    (encode q.1, q.2.1, b + q.2.2)
/-- An attribute's name: its first sign whatever it is. -/
def attrName (l : List Int) : List Int :=
  match l with
  | [] => []
  | r :: l => if over r = true then [] else r :: l.takeWhile fun r => !(over r || r == 61)
def hasAttr (al : List (Str × Str)) (n : Str) : Bool := al.any fun a => a.1 == n
def putAttr (al : List (Str × Str)) (a : Str × Str) : List (Str × Str) := if hasAttr al a.1 then al else al ++ [a]
/-- An attribute: it, whether the text goes on, how many signs it takes. -/
def attr1 (l : List Int) : (Str × Str) × Bool × Nat :=
  let nm := attrName l
  let n := nm.length + blanksN (l.drop nm.length)
  let name := encode (nm.map fun r => small (fixr r))
  if l.getD n (-1) = 61 then
    let v := value (l.drop (n + 1))
    ((name, v.1), v.2.1, n + 1 + v.2.2)
  else ((name, []), true, n)
theorem attrName_pos {r : Int} {l : List Int} (h : over r = false) : 0 < (attrName (r :: l)).length := by simp [attrName, h]
/-- Attributes up to a tag's end: they, whether it ends itself, whether there is an end, how many signs. -/
def attrsGo (l : List Int) (acc : List (Str × Str)) : List (Str × Str) × Bool × Bool × Nat :=
  match l with
  | [] => (acc, false, false, 0)
  | r :: l =>
    if hb : blank r = true then
      let q := attrsGo l acc
      (q.1, q.2.1, q.2.2.1, q.2.2.2 + 1)
    else if h1 : r = 62 then (acc, false, true, 1)
    else if h2 : r = 47 then
      if l.headD (-1) = 62 then (acc, true, true, 2) else
      let q := attrsGo l acc
      (q.1, q.2.1, q.2.2.1, q.2.2.2 + 1)
    else
      if (attr1 (r :: l)).2.1 = true then
        let q := attrsGo ((r :: l).drop (attr1 (r :: l)).2.2) (putAttr acc (attr1 (r :: l)).1)
        (q.1, q.2.1, q.2.2.1, q.2.2.2 + (attr1 (r :: l)).2.2)
      else (putAttr acc (attr1 (r :: l)).1, false, false, (attr1 (r :: l)).2.2)
  termination_by l.length
  decreasing_by
    · simp
    · simp
    · have hov : over r = false := by
        simp only [Bool.not_eq_true] at hb
        simp [over, hb, h1, h2]
      have hp : 0 < (attr1 (r :: l)).2.2 := by
        have h3 := attrName_pos (l := l) hov
        unfold attr1
        dsimp only
        split
        · dsimp only; omega
        · dsimp only; omega
      simp only [List.length_drop, List.length_cons]; omega
def Lx.tag (s : Lx) (kind : Int) : Lx :=
  let nm := nameOf s.rest
  let q := attrsGo (s.rest.drop nm.length) []
  let s1 := s.adv (nm.length + q.2.2.2)
  if q.2.2.1 = true then s1.emit { Tok.zero with kind := kind, name := encode (nm.map fun r => small (fixr r)), attrs := if kind = 3 then [] else q.1, self := if kind = 3 then false else q.2.1 } else s1

/-! ### what else there is -/
def Lx.bogus (s : Lx) : Lx := (s.adv (bogusGo s.rest).2).emit { Tok.zero with kind := 4, data := encode (bogusGo s.rest).1 }
def Lx.ending (s : Lx) : Lx :=
  if letter (s.pk 0) = true then s.tag 3
  else if s.pk 0 = 62 then s.adv 1
  else if s.pk 0 = -1 then s.say [60, 47]
  else s.bogus
/-- A marked section: its signs, how many it takes. -/
def sectionGo : List Int → List Int × Nat
  | [] => ([], 0)
  | r :: l => if r = 93 ∧ l.headD (-1) = 93 ∧ l.tail.headD (-1) = 62 then ([], 3) else (r :: (sectionGo l).1, (sectionGo l).2 + 1)
def Lx.section_ (s : Lx) : Lx := (s.adv (sectionGo s.rest).2).say (sectionGo s.rest).1
/-- A comment's signs, how many it takes, whether its end is there. -/
def commentGo : List Int → List Int × Nat × Bool
  | [] => ([], 0, false)
  | r :: l => if r = 45 ∧ exact [45, 62] l = true then ([], 3, true) else if r = 45 ∧ exact [45, 33, 62] l = true then ([], 4, true) else
    (fixr r :: (commentGo l).1, (commentGo l).2.1 + 1, (commentGo l).2.2)
def hasSuffix (s w : Str) : Bool := decide (w.length ≤ s.length) && s.drop (s.length - w.length) == w
def stripTail (d : List Int) : List Int :=
  if hasSuffix (Go.Dm.runeBytes d) [45, 45, 33] then d.take (d.length - 3) else
  if hasSuffix (Go.Dm.runeBytes d) [45, 45] then d.take (d.length - 2) else
  if hasSuffix (Go.Dm.runeBytes d) [45] then d.take (d.length - 1) else d
def commentTok (d : List Int) : Tok := { Tok.zero with kind := 4, data := encode d }
def Lx.comment (s : Lx) : Lx :=
  if s.pk 0 = 62 then (s.adv 1).emit (commentTok [])
  else if s.pk 0 = 45 ∧ s.pk 1 = 62 then (s.adv 2).emit (commentTok [])
  else
    let q := commentGo s.rest
    (s.adv q.2.1).emit (commentTok (if q.2.2 = true then q.1 else stripTail q.1))
/-- A text in quotes: it, whether there is one, whether it ended, how many signs it takes. -/
def quotedGo (quote : Int) : List Int → List Int × Bool × Nat
  | [] => ([], false, 0)
  | r :: l => if r = quote then ([], true, 1) else if r = 62 then ([], false, 1) else (fixr r :: (quotedGo quote l).1, (quotedGo quote l).2.1, (quotedGo quote l).2.2 + 1)
def quoted (l : List Int) : Str × Bool × Bool × Nat :=
  let r := l.headD (-1)
  if r = 34 ∨ r = 39 then (encode (quotedGo r l.tail).1, true, (quotedGo r l.tail).2.1, (quotedGo r l.tail).2.2 + 1) else ([], false, false, skipN l)
def doctypeName (l : List Int) : List Int := l.takeWhile fun r => !(blank r || r == 62)
def Lx.blanks (s : Lx) : Lx := s.adv (blanksN s.rest)
def Lx.skip (s : Lx) : Lx := s.adv (skipN s.rest)
def dtok : Tok := { Tok.zero with kind := 5 }
/-- A doctype's end, from its second text on. -/
def Lx.doctypeSys (s : Lx) (t : Tok) : Lx :=
  let y := quoted s.rest
  let t1 := { t with sys := y.1, hasSys := y.2.1 }
  let s1 := s.adv y.2.2.2
  if y.2.2.1 = false then s1.emit { t1 with quirks := true } else
  if s1.blanks.pk 0 = -1 then s1.blanks.emit { t1 with quirks := true } else
  s1.blanks.skip.emit t1
def Lx.doctypePub (s : Lx) (t : Tok) : Lx :=
  let p := quoted s.rest
  let t1 := { t with pub := p.1, hasPub := p.2.1 }
  let s1 := s.adv p.2.2.2
  if p.2.2.1 = false then s1.emit { t1 with quirks := true } else
  if s1.blanks.pk 0 = 62 then (s1.blanks.adv 1).emit t1 else s1.blanks.doctypeSys t1
def Lx.doctypeRest (s : Lx) (t : Tok) : Lx :=
  if s.pk 0 = 62 then (s.adv 1).emit t
  else if s.pk 0 = -1 then s.emit { t with quirks := true }
  else if stands [112, 117, 98, 108, 105, 99] s.rest = true then (s.adv 6).blanks.doctypePub t
  else if stands [115, 121, 115, 116, 101, 109] s.rest = true then (s.adv 6).blanks.doctypeSys t
  else s.skip.emit { t with quirks := true }
def Lx.doctype (s : Lx) : Lx :=
  let s := s.blanks
  if s.pk 0 = 62 then (s.adv 1).emit { dtok with quirks := true }
  else if s.pk 0 = -1 then s.emit { dtok with quirks := true }
  else
    let nm := doctypeName s.rest
    (s.adv nm.length).blanks.doctypeRest { dtok with name := encode (nm.map fun r => small (fixr r)) }
def Lx.declare (s : Lx) : Lx :=
  if stands [45, 45] s.rest = true then (s.adv 2).comment
  else if stands [100, 111, 99, 116, 121, 112, 101] s.rest = true then (s.adv 7).doctype
  else if s.room = true ∧ s.pk 0 = 91 ∧ exact [91, 67, 68, 65, 84, 65, 91] s.rest = true then (s.adv 7).section_
  else s.bogus
def Lx.open_ (s : Lx) : Lx :=
  if s.pk 0 = 33 then (s.adv 1).declare
  else if s.pk 0 = 47 then (s.adv 1).ending
  else if letter (s.pk 0) = true then s.tag 2
  else if s.pk 0 = 63 then s.bogus
  else s.say [60]
/-- The signs of a text az a program goes through them. -/
def runesGo : Nat → Str → Nat → List Int
  | 0, _, _ => []
  | f + 1, s, i => if i < s.length then (Utf8.decode ⟨s.toArray⟩ i).1 :: runesGo f s (i + (Utf8.decode ⟨s.toArray⟩ i).2) else []
def runes (s : Str) : List Int := runesGo s.length s 0
/-- How many signs the end of an element takes up to its name's end, behind <; 0: it doesn't stand there. -/
def goesOn : List Int → List Int → Bool
  | [], _ => true
  | c :: w, l => small (l.headD (-1)) == c && goesOn w l.tail
def closes (last : Str) (l : List Int) : Nat :=
  if l.getD 0 (-1) ≠ 47 ∨ letter (l.getD 1 (-1)) = false ∨ last = [] then 0 else
  if goesOn (runes last) l.tail = true ∧ over (l.getD (1 + (runes last).length) (-1)) = true then 1 + (runes last).length else 0
def Lx.close (s : Lx) : Lx := if closes s.last s.rest = 0 then s.say [60] else ({ s.adv 1 with way := 0 }).tag 3
def word (l : List Int) : Nat := if stands [115, 99, 114, 105, 112, 116] l = true ∧ over (l.getD 6 (-1)) = true then 7 else 0
/-- A script's signs behind what began a comment; how many they take; whether the element's end stands there. -/
def scriptGo (last : Str) (l : List Int) (dashes : Nat) (hidden : Bool) : List Int × Nat × Bool :=
  match l with
  | [] => ([], 0, false)
  | r :: l =>
    if r = 45 then
      let q := scriptGo last l (dashes + 1) hidden
      (r :: q.1, q.2.1 + 1, q.2.2)
    else if r = 62 ∧ 2 ≤ dashes then ([62], 1, false)
    else if r = 60 ∧ hidden = false then
      if 0 < closes last l then ([], 1, true) else
      let q := scriptGo last (l.drop (word l)) 0 (decide (0 < word l))
      (r :: (l.take (word l) ++ q.1), q.2.1 + word l + 1, q.2.2)
    else if r = 60 then
      if l.headD (-1) = 47 then
        let q := scriptGo last (l.tail.drop (word l.tail)) 0 (decide (word l.tail = 0))
        (r :: 47 :: (l.tail.take (word l.tail) ++ q.1), q.2.1 + word l.tail + 2, q.2.2)
      else
        let q := scriptGo last l 0 hidden
        (r :: q.1, q.2.1 + 1, q.2.2)
    else
      let q := scriptGo last l 0 hidden
      (fixr r :: q.1, q.2.1 + 1, q.2.2)
  termination_by l.length
  decreasing_by all_goals simp; try omega
def Lx.script (s : Lx) : Lx :=
  if exact [33, 45, 45] s.rest = false then s.close else
  let s1 := (s.say [60, 33, 45, 45]).adv 3
  let q := scriptGo s.last s1.rest 2 false
  let s2 := (s1.say q.1).adv q.2.1
  if q.2.2 = true then s2.flush.close else s2
def plainSign (r : Int) : Bool := !(r == 38 || r == 60 || r == 0)
def Lx.step (s : Lx) : Lx :=
  let r := s.pk 0
  let s1 := s.adv 1
  let s2 :=
    if r = -1 then { s1.flush with done := true }
    else if r = 38 ∧ (s.way = 0 ∨ s.way = 1) then (s1.adv (refer false s1.rest).2).say (refer false s1.rest).1
    else if r = 60 ∧ s.way = 0 then s1.flush.open_
    else if r = 60 ∧ (s.way = 1 ∨ s.way = 2) then s1.flush.close
    else if r = 60 ∧ s.way = 3 then s1.flush.script
    else if r = 0 ∧ s.way = 0 then s1.say [0]
    else if r = 0 then s1.say [65533]
    else (s1.adv (s1.rest.takeWhile plainSign).length).say (r :: s1.rest.takeWhile plainSign)
  if s2.out = [] ∧ s2.text ≠ [] ∧ (s2.pk 0 = 60 ∨ s2.pk 0 = -1) then s2.flush else s2
def Lx.new (b : Str) : Lx := ⟨decode b, 0, 0, [], false, [], [], false⟩
/-- How much is left to do. -/
def Lx.left (s : Lx) : Nat := s.inp.length + 1 - s.pos
/-- All tokens that come. -/
def Lx.toks (s : Lx) : List Tok :=
  s.out ++ (if s.done = true then [] else if h : Lx.left (Lx.step { s with out := [] }) < s.left then Lx.toks (Lx.step { s with out := [] }) else [])
  termination_by s.left
  decreasing_by exact h
/-- Texts that follow each other az one. -/
def joinStep (out : List Tok) (t : Tok) : List Tok :=
  match out.getLast? with
  | some u => if t.kind = 1 ∧ u.kind = 1 then out.dropLast ++ [{ u with data := u.data ++ t.data }] else if t.kind = 1 ∧ t.data = [] then out else out ++ [t]
  | none => if t.kind = 1 ∧ t.data = [] then out else out ++ [t]
def join (l : List Tok) : List Tok := l.foldl joinStep []
def all (b : Str) : List Tok := join (Lx.new b).toks
end Go.Md
/- What the text layer's functions do. -/
namespace Go.Proofs.YticnenofiibpgaaDoor.Code
open Go.Dm Go.Dm.C
set_option linter.unusedSimpArgs false
set_option linter.unusedVariables false
set_option linter.unnecessarySimpa false
set_option maxRecDepth 10000
attribute [local irreducible] Go.Dm.F Go.Dm.RS Go.Dm.Y Go.Dm.FD Go.Dm.FZ1 Go.Dm.Hold
variable {R : List Ck}
theorem blank_F {r : Int} : F D 109 [.int .i32 r] R (fun v cs' => v = .bool (Md.blank r) ∧ R = cs') := by
  refine F.of rfl rfl rfl ?_
  repeat' first | exact arI | refine Pst.mk ⟨?_, rfl⟩ kk | constructor | (refine fun _ _ (hq : Hold _) => ?_; replace hq := hq.out; obtain ⟨_, rfl, rfl⟩ := hq) | (refine fun _ _ (hq : Hold _) => ?_; replace hq := hq.out; obtain ⟨_, _, rfl, rfl⟩ := hq) | rintro _ _ ⟨rfl, rfl⟩ | rintro _ _ ⟨_, rfl, rfl⟩ | rintro _ _ ⟨_, _, rfl, rfl⟩ | (refine fun (hc : _ = _) => ?_; (try simp only [BB] at hc)) | refine fun (_ : Nat) => ?_ | refine fun (_ : _ ≤ _) => ?_ | refine fun (_ : _ < _) => ?_
theorem digit_F {r : Int} : F D 19 [.int .i32 r] R (fun v cs' => v = .bool (Md.digit r) ∧ R = cs') := by
  refine F.of rfl rfl rfl ?_
  repeat' first | exact arI | refine Pst.mk ⟨?_, rfl⟩ kk | constructor | (refine fun _ _ (hq : Hold _) => ?_; replace hq := hq.out; obtain ⟨_, rfl, rfl⟩ := hq) | (refine fun _ _ (hq : Hold _) => ?_; replace hq := hq.out; obtain ⟨_, _, rfl, rfl⟩ := hq) | rintro _ _ ⟨rfl, rfl⟩ | rintro _ _ ⟨_, rfl, rfl⟩ | rintro _ _ ⟨_, _, rfl, rfl⟩ | (refine fun (hc : _ = _) => ?_; (try simp only [BB] at hc)) | refine fun (_ : Nat) => ?_ | refine fun (_ : _ ≤ _) => ?_ | refine fun (_ : _ < _) => ?_
theorem letter_F {r : Int} : F D 18 [.int .i32 r] R (fun v cs' => v = .bool (Md.letter r) ∧ R = cs') := by
  refine F.of rfl rfl rfl ?_
  repeat' first | exact arI | refine Pst.mk ⟨?_, rfl⟩ kk | constructor | (refine fun _ _ (hq : Hold _) => ?_; replace hq := hq.out; obtain ⟨_, rfl, rfl⟩ := hq) | (refine fun _ _ (hq : Hold _) => ?_; replace hq := hq.out; obtain ⟨_, _, rfl, rfl⟩ := hq) | rintro _ _ ⟨rfl, rfl⟩ | rintro _ _ ⟨_, rfl, rfl⟩ | rintro _ _ ⟨_, _, rfl, rfl⟩ | (refine fun (hc : _ = _) => ?_; (try simp only [BB] at hc)) | refine fun (_ : Nat) => ?_ | refine fun (_ : _ ≤ _) => ?_ | refine fun (_ : _ < _) => ?_
theorem small_F {r : Int} : F D 108 [.int .i32 r] R (fun v cs' => v = .int .i32 (Md.small r) ∧ R = cs') := by
  refine F.of rfl rfl rfl ?_
  repeat' first | exact arI | refine Pst.mk ⟨?_, rfl⟩ kk | constructor | (refine fun _ _ (hq : Hold _) => ?_; replace hq := hq.out; obtain ⟨_, rfl, rfl⟩ := hq) | (refine fun _ _ (hq : Hold _) => ?_; replace hq := hq.out; obtain ⟨_, _, rfl, rfl⟩ := hq) | rintro _ _ ⟨rfl, rfl⟩ | rintro _ _ ⟨_, rfl, rfl⟩ | rintro _ _ ⟨_, _, rfl, rfl⟩ | (refine fun (hc : _ = _) => ?_; (try simp only [BB] at hc)) | refine fun (_ : Nat) => ?_ | refine fun (_ : _ ≤ _) => ?_ | refine fun (_ : _ < _) => ?_
  all_goals (congr 1; unfold Md.small; split <;> omega)
theorem digit_t {r : Int} : (Md.digit r = true) = (48 ≤ r ∧ r ≤ 57) := by simp [Md.digit]
theorem digit_f {r : Int} : (Md.digit r = false) = ¬(48 ≤ r ∧ r ≤ 57) := by simp [Md.digit]
theorem hex_F {r : Int} : F D 100 [.int .i32 r] R (fun v cs' => v = .int .i64 (Md.hex r) ∧ R = cs') := by
  refine F.of rfl rfl rfl ?_
  repeat' first | exact digit_F | exact arI | refine Pst.mk ⟨?_, rfl⟩ kk | constructor | (refine fun _ _ (hq : Hold _) => ?_; replace hq := hq.out; obtain ⟨_, rfl, rfl⟩ := hq) | (refine fun _ _ (hq : Hold _) => ?_; replace hq := hq.out; obtain ⟨_, _, rfl, rfl⟩ := hq) | rintro _ _ ⟨rfl, rfl⟩ | rintro _ _ ⟨_, rfl, rfl⟩ | rintro _ _ ⟨_, _, rfl, rfl⟩ | (refine fun (hc : _ = _) => ?_; (try simp only [BB] at hc)) | refine fun (_ : Nat) => ?_ | refine fun (_ : _ ≤ _) => ?_ | refine fun (_ : _ < _) => ?_
  all_goals (simp only [digit_t, digit_f] at *)
  all_goals first | (refine Arith.mk fun _ => ?_; omega) | (congr 1; unfold Md.hex; split <;> omega)

theorem need_F {c : UInt8} : F D 86 [.int .u8 (c.toNat : Int)] R (fun v cs' => v = .tup [.int .i64 ((Md.need c.toNat).1 : Nat), .int .u8 ((Md.need c.toNat).2.1 : Nat), .int .u8 ((Md.need c.toNat).2.2 : Nat)] ∧ R = cs') := by
  refine F.of rfl rfl rfl ?_
  repeat' first | exact arI | refine Pst.mk ⟨?_, rfl⟩ kk | constructor | (refine fun _ _ (hq : Hold _) => ?_; replace hq := hq.out; obtain ⟨_, rfl, rfl⟩ := hq) | (refine fun _ _ (hq : Hold _) => ?_; replace hq := hq.out; obtain ⟨_, _, rfl, rfl⟩ := hq) | rintro _ _ ⟨rfl, rfl⟩ | rintro _ _ ⟨_, rfl, rfl⟩ | rintro _ _ ⟨_, _, rfl, rfl⟩ | (refine fun (hc : _ = _) => ?_; (try simp only [BB] at hc)) | refine fun (_ : Nat) => ?_ | refine fun (_ : _ ≤ _) => ?_ | refine fun (_ : _ < _) => ?_
  all_goals ((unfold Md.need; repeat' split) <;> first | omega | rfl)
theorem need_le (n : Nat) : (Md.need n).1 ≤ 3 ∧ (Md.need n).2.1 < 256 ∧ (Md.need n).2.2 < 256 ∧ ((Md.need n).1 ≠ 0 → n ≥ 194 ∧ n ≤ 244) := by
  unfold Md.need; repeat' split
  all_goals simp
  all_goals omega
theorem and_pow (x n : Nat) (h : n ≤ 3) : x &&& ((63 : Int) / 2 ^ n).toNat = x % (64 / 2 ^ n) := by
  rcases (by omega : n = 0 ∨ n = 1 ∨ n = 2 ∨ n = 3) with rfl | rfl | rfl | rfl
  · exact Nat.and_two_pow_sub_one_eq_mod x 6
  · exact Nat.and_two_pow_sub_one_eq_mod x 5
  · exact Nat.and_two_pow_sub_one_eq_mod x 4
  · exact Nat.and_two_pow_sub_one_eq_mod x 3
theorem or_next (r : Int) (c : Nat) (h0 : 0 ≤ r) : (((r * 2 ^ (6 : Int).toNat).toNat ||| (((c : Int).toNat &&& (63 : Int).toNat : Nat) : Int).toNat : Nat) : Int) = r * 64 + (c % 64 : Nat) := by
  obtain ⟨a, rfl⟩ := Int.eq_ofNat_of_zero_le h0
  have e1 : ((a : Int) * 2 ^ (6 : Int).toNat).toNat = a * 2 ^ 6 := by simp; omega
  have e2 : (((c : Int).toNat &&& (63 : Int).toNat : Nat) : Int).toNat = c % 64 := by simp only [Int.toNat_natCast]; exact and_63 c
  rw [e1, e2, or_shl a (c % 64) 6 (Nat.mod_lt _ (by omega))]
  simp
theorem oneGo_stop {k : Nat} {l : List UInt8} {i : Nat} {r : Int} {lo hi : Nat} (hk : 1 ≤ k) (hs : l.length = 0 ∨ (l.getD 0 default).toNat < lo ∨ hi < (l.getD 0 default).toNat) : Md.oneGo k l i r lo hi = (65533, i) := by
  cases k with
  | zero => omega
  | succ k =>
    cases l with
    | nil => rfl
    | cons c l =>
      simp only [List.length_cons, List.getD_cons_zero] at hs
      simp only [Md.oneGo]
      rw [if_pos (by omega)]
theorem oneGo_go {k : Nat} {l : List UInt8} {i : Nat} {r : Int} {lo hi : Nat} (hk : 1 ≤ k) (h0 : l.length ≠ 0) (h1 : lo ≤ (l.getD 0 default).toNat) (h2 : (l.getD 0 default).toNat ≤ hi) :
    Md.oneGo k l i r lo hi = Md.oneGo (k - 1) (l.drop 1) (i + 1) (r * 64 + ((l.getD 0 default).toNat % 64 : Nat)) 128 191 := by
  cases k with
  | zero => omega
  | succ k =>
    cases l with
    | nil => simp at h0
    | cons c l =>
      simp only [List.getD_cons_zero] at h1 h2 ⊢
      simp only [Md.oneGo]
      rw [if_neg (by omega)]
      rfl
theorem getD_drop {α : Type} (l : List α) (j : Nat) (d : α) : (l.drop j).getD 0 d = l.getD j d := by
  simp [List.getD_eq_getElem?_getD]
theorem pow64 : ∀ i, i ≤ 3 → (64 : Int) ^ i ≤ 262144 := by decide
theorem one_F {b : UInt8} {rest : List UInt8} {t z : Nat} (hz : z = zOf t 1) (hl : rest.length < 1000000000000) : F D 67 [.lst t z (bytesV (b :: rest))] R (fun v cs' => v = .tup [.int .i32 (Md.one (b :: rest)).1, .int .i64 ((Md.one (b :: rest)).2 : Nat)] ∧ R = cs') := by
  subst hz
  have hb := b.toNat_lt
  have hnl := need_le b.toNat
  have hp3 : ∀ n, n ≤ 3 → (0 : Int) ≤ 63 / 2 ^ n ∧ (63 : Int) / 2 ^ n ≤ 2147483647 := by decide
  have hp := hp3 _ hnl.1
  refine F.of rfl rfl rfl ?_
  repeat' first | exact need_F | exact arI | refine Pst.mk ⟨?_, rfl⟩ kk | constructor | (refine fun _ _ (hq : Hold _) => ?_; replace hq := hq.out; obtain ⟨_, rfl, rfl⟩ := hq) | (refine fun _ _ (hq : Hold _) => ?_; replace hq := hq.out; obtain ⟨_, _, rfl, rfl⟩ := hq) | rintro _ _ ⟨rfl, rfl⟩ | rintro _ _ ⟨_, rfl, rfl⟩ | rintro _ _ ⟨_, _, rfl, rfl⟩ | (refine fun (hc : _ = _) => ?_; (try simp only [BB] at hc)) | refine fun (_ : Nat) => ?_ | refine fun (_ : _ ≤ _) => ?_ | refine fun (_ : _ < _) => ?_
  · simp [Md.one, show b.toNat < 128 by omega]
  · simp [Md.one, show ¬ b.toNat < 128 by omega, show (Md.need b.toNat).1 = 0 by omega]
  · have hn0 : (Md.need b.toNat).1 ≠ 0 := by omega
    have hone : Md.one (b :: rest) = Md.oneGo (Md.need b.toNat).1 rest 1 (b.toNat % (64 / 2 ^ (Md.need b.toNat).1) : Nat) (Md.need b.toNat).2.1 (Md.need b.toNat).2.2 := by
      simp [Md.one, show ¬ b.toNat < 128 by omega, hn0]
    refine RS.loopW (α := Nat × Int × Nat × Nat) (fun a => [(0, .lst t (zOf t 1) (bytesV (b :: rest))), (4, .int .i64 ((Md.need b.toNat).1 : Nat)), (5, .int .u8 (a.2.2.1 : Nat)), (6, .int .u8 (a.2.2.2 : Nat)), (7, .int .i32 a.2.1), (8, .int .i64 (a.1 : Nat))])
      (fun _ => R) (fun a => 1 ≤ a.1 ∧ a.1 ≤ (Md.need b.toNat).1 + 1 ∧ 0 ≤ a.2.1 ∧ a.2.1 < 64 ^ a.1 ∧ Md.oneGo ((Md.need b.toNat).1 + 1 - a.1) (rest.drop (a.1 - 1)) a.1 a.2.1 a.2.2.1 a.2.2.2 = Md.one (b :: rest)) (fun a => (Md.need b.toNat).1 + 1 - a.1) (1, (b.toNat % (64 / 2 ^ (Md.need b.toNat).1) : Nat), (Md.need b.toNat).2.1, (Md.need b.toNat).2.2) ?_ ?_ .refl ?_
    · rw [hone]
      have h64 : b.toNat % (64 / 2 ^ (Md.need b.toNat).1) < 64 := Nat.lt_of_lt_of_le (Nat.mod_lt _ (Nat.div_pos (Nat.le_trans (Nat.pow_le_pow_right (by omega) hnl.1) (by omega)) (Nat.pow_pos (by omega)))) (Nat.div_le_self _ _)
      refine ⟨?_, ?_, ?_, ?_, ?_⟩ <;> dsimp only
      · omega
      · omega
      · exact Int.natCast_nonneg _
      · exact Int.ofNat_lt.2 h64
      · simp
    · rw [← and_pow _ _ hnl.1]; exact ⟨rfl, rfl, rfl, rfl, rfl, rfl, trivial⟩
    · rintro ⟨i, r, lo, hi⟩ ⟨h1, h2, h3, h4, h5⟩ ih
      dsimp only [ents] at *
      have hx : ((b :: rest).getD i default).toNat < 256 := UInt8.toNat_lt _
      have hand : ((b :: rest).getD i default).toNat &&& 63 ≤ 63 := Nat.and_le_right
      have hr : i ≤ 3 → r < 262144 := fun h => Int.lt_of_lt_of_le h4 (pow64 i h)
      have hg : (b :: rest).getD i default = (rest.drop (i - 1)).getD 0 default := by
        rw [getD_drop]; cases i with
        | zero => omega
        | succ i => simp
      have hld : (rest.drop (i - 1)).length = rest.length - (i - 1) := List.length_drop
      repeat' first | exact arI | refine Pst.mk ⟨?_, rfl⟩ kk | constructor | (refine fun _ _ (hq : Hold _) => ?_; replace hq := hq.out; obtain ⟨_, rfl, rfl⟩ := hq) | (refine fun _ _ (hq : Hold _) => ?_; replace hq := hq.out; obtain ⟨_, _, rfl, rfl⟩ := hq) | rintro _ _ ⟨rfl, rfl⟩ | rintro _ _ ⟨_, rfl, rfl⟩ | rintro _ _ ⟨_, _, rfl, rfl⟩ | (refine fun (hc : _ = _) => ?_; (try simp only [BB] at hc)) | refine fun (_ : Nat) => ?_ | refine fun (_ : _ ≤ _) => ?_ | refine fun (_ : _ < _) => ?_
      · simp only [Int.toNat_natCast, hg, List.length_cons] at hc
        rw [oneGo_stop (by omega) (by omega)] at h5
        rw [← h5]
      · simp only [Int.toNat_natCast, hg, List.length_cons] at hc
        rw [oneGo_go (by omega) (by omega) (by omega) (by omega)] at h5
        refine ih _ _ (i + 1, r * 64 + (((b :: rest).getD i default).toNat % 64 : Nat), 128, 191) ?_ (by dsimp only; omega) ?_ .refl
        · refine ⟨by dsimp only; omega, by dsimp only; omega, by dsimp only; omega, ?_, ?_⟩
          · dsimp only
            rw [Int.pow_succ]; omega
          · dsimp only
            rw [← h5, hg, List.drop_drop]
            congr 1 <;> congr 1 <;> omega
        · refine ⟨rfl, rfl, rfl, rfl, ?_, rfl, trivial⟩
          dsimp only
          rw [← or_next _ _ h3]
          rfl
      · have : (Md.need b.toNat).1 + 1 - i = 0 := by omega
        rw [this] at h5
        simp only [Md.oneGo] at h5
        rw [← h5, show i = (Md.need b.toNat).1 + 1 by omega]
        simp
end Go.Proofs.YticnenofiibpgaaDoor.Code
/- What the text layer's functions do (2): signs out of bytes, bytes out of signs. -/
namespace Go.Proofs.YticnenofiibpgaaDoor.Code
open Go.Dm Go.Dm.C
set_option linter.unusedSimpArgs false
set_option linter.unusedVariables false
set_option linter.unnecessarySimpa false
set_option maxRecDepth 10000
attribute [local irreducible] Go.Dm.F Go.Dm.RS Go.Dm.Y Go.Dm.FD Go.Dm.FZ1 Go.Dm.Hold
variable {R : List Ck}
theorem oneGo_pos : ∀ (k : Nat) (l : List UInt8) (i : Nat) (r : Int) (lo hi : Nat), i ≤ (Md.oneGo k l i r lo hi).2 ∧ (Md.oneGo k l i r lo hi).2 ≤ i + l.length
  | 0, l, i, r, lo, hi => by simp [Md.oneGo]
  | k + 1, [], i, r, lo, hi => by simp [Md.oneGo]
  | k + 1, c :: l, i, r, lo, hi => by
    simp only [Md.oneGo]
    split
    · simp
    · have := oneGo_pos k l (i + 1) (r * 64 + (c.toNat % 64 : Nat)) 0x80 0xbf
      simp only [List.length_cons]; omega
theorem one_pos {b : List UInt8} (h : b ≠ []) : 1 ≤ (Md.one b).2 ∧ (Md.one b).2 ≤ b.length := by
  cases b with
  | nil => exact absurd rfl h
  | cons c l =>
    simp only [Md.one]
    split
    · simp
    · split
      · simp
      · have := oneGo_pos (Md.need c.toNat).1 l 1 (c.toNat % (64 / 2 ^ (Md.need c.toNat).1) : Nat) (Md.need c.toNat).2.1 (Md.need c.toNat).2.2
        simp only [List.length_cons]; omega
theorem one_F' {b : List UInt8} {t z : Nat} (hb : b ≠ []) (hz : z = zOf t 1) (hl : b.length < 1000000000000) : F D 67 [.lst t z (bytesV b)] R (fun v cs' => v = .tup [.int .i32 (Md.one b).1, .int .i64 ((Md.one b).2 : Nat)] ∧ R = cs') := by
  cases b with
  | nil => exact absurd rfl hb
  | cons c l => exact one_F hz (by simp at hl; omega)
/-- The signs of bytes, gone through. -/
theorem signs_it {l q t z : Nat} {b : List UInt8} (hz : z = zOf t 1) (hl : b.length < 1000000000000) (I : Nat → List Ck → Prop) (E : List Ck → Prop)
    (hy : ∀ i cs, i < b.length → I i cs → Y D l [.int .i64 i, .int .i32 (Md.one (b.drop i)).1] (.obj q (.cells [.lst t z (bytesV b)] none) :: cs) (fun c cs' => Hold (∃ cs1, .obj q (.cells [.lst t z (bytesV b)] none) :: cs1 = cs' ∧ ((c = true ∧ I (i + (Md.one (b.drop i)).2) cs1) ∨ (c = false ∧ E cs1)))))
    {cs : List Ck} (h0 : I 0 cs) :
    F D 66 [.fn (.yield l) [] [], .ptr q 0] (.obj q (.cells [.lst t z (bytesV b)] none) :: cs) (fun v cs' => Hold (∃ cs1, .obj q (.cells [.lst t z (bytesV b)] none) :: cs1 = cs' ∧ (I b.length cs1 ∨ E cs1))) := by
  subst hz
  refine F.of rfl rfl rfl ?_
  repeat' first | exact arI | refine Pst.mk ⟨?_, rfl⟩ kk | constructor | (refine fun _ _ (hq : Hold _) => ?_; replace hq := hq.out; obtain ⟨_, rfl, rfl⟩ := hq) | (refine fun _ _ (hq : Hold _) => ?_; replace hq := hq.out; obtain ⟨_, _, rfl, rfl⟩ := hq) | rintro _ _ ⟨rfl, rfl⟩ | rintro _ _ ⟨_, rfl, rfl⟩ | rintro _ _ ⟨_, _, rfl, rfl⟩ | (refine fun (hc : _ = _) => ?_; (try simp only [BB] at hc)) | refine fun (_ : Nat) => ?_ | refine fun (_ : _ ≤ _) => ?_ | refine fun (_ : _ < _) => ?_
  refine RS.loopW (α := Nat × List Ck) (fun a => [(0, .fn (.yield l) [] []), (1, .ptr q 0), (3, .int .i64 (a.1 : Nat))]) (fun a => .obj q (.cells [.lst t (zOf t 1) (bytesV b)] none) :: a.2)
    (fun a => a.1 ≤ b.length ∧ I a.1 a.2) (fun a => b.length - a.1) (0, cs) ⟨Nat.zero_le _, h0⟩ ⟨rfl, rfl, rfl, trivial⟩ .refl ?_
  rintro ⟨i, cs0⟩ ⟨h1, h2⟩ ih
  dsimp only [ents] at *
  have hp : i < b.length → 1 ≤ (Md.one (b.drop i)).2 ∧ (Md.one (b.drop i)).2 ≤ b.length - i := fun h => by
    have := one_pos (b := b.drop i) (by simp; omega)
    rwa [List.length_drop] at this
  repeat' first | exact one_F' (by simp; omega) rfl (by simp; omega) | exact FC.yield (hy i _ (by omega) h2) | (refine fun _ _ (hq : YPost _ _ _) => ?_; obtain ⟨hq⟩ := hq; replace hq := hq.out; obtain ⟨cs1, rfl, hq⟩ := hq) | exact arI | refine Pst.mk ⟨?_, rfl⟩ kk | constructor | (refine fun _ _ (hq : Hold _) => ?_; replace hq := hq.out; obtain ⟨_, rfl, rfl⟩ := hq) | (refine fun _ _ (hq : Hold _) => ?_; replace hq := hq.out; obtain ⟨_, _, rfl, rfl⟩ := hq) | rintro _ _ ⟨rfl, rfl⟩ | rintro _ _ ⟨_, rfl, rfl⟩ | rintro _ _ ⟨_, _, rfl, rfl⟩ | (refine fun (hc : _ = _) => ?_; (try simp only [BB] at hc)) | refine fun (_ : Nat) => ?_ | refine fun (_ : _ ≤ _) => ?_ | refine fun (_ : _ < _) => ?_
  all_goals first
    | (have hq' := hq.resolve_right (fun h => by rw [h.1] at hc; cases hc)
       exact ih _ _ (i + (Md.one (b.drop i)).2, cs1) ⟨by dsimp only; omega, hq'.2⟩ (by dsimp only; omega) ⟨rfl, rfl, rfl, trivial⟩ .refl)
    | (have hq' := hq.resolve_left (fun h => by rw [h.1] at hc; cases hc)
       exact Pst.mk (.mk ⟨cs1, rfl, .inr hq'.2⟩) .refl)
    | (obtain rfl : i = b.length := by omega
       exact Pst.mk (.mk ⟨cs0, rfl, .inl h2⟩) .refl)
theorem signs_F {t z : Nat} {b : List UInt8} : F D 54 [.lst t z (bytesV b)] R (fun v cs' => Hold (∃ q, v = .fn (.func 66) [] [.ptr q 0] ∧ .obj q (.cells [.lst t z (bytesV b)] none) :: R = cs')) := by
  refine F.of rfl rfl rfl ?_
  repeat' first | exact arI | refine Pst.mk ⟨?_, rfl⟩ kk | constructor | (refine fun _ _ (hq : Hold _) => ?_; replace hq := hq.out; obtain ⟨_, rfl, rfl⟩ := hq) | (refine fun _ _ (hq : Hold _) => ?_; replace hq := hq.out; obtain ⟨_, _, rfl, rfl⟩ := hq) | rintro _ _ ⟨rfl, rfl⟩ | rintro _ _ ⟨_, rfl, rfl⟩ | rintro _ _ ⟨_, _, rfl, rfl⟩ | (refine fun (hc : _ = _) => ?_; (try simp only [BB] at hc)) | refine fun (_ : Nat) => ?_ | refine fun (_ : _ ≤ _) => ?_ | refine fun (_ : _ < _) => ?_
  exact Pst.mk (.mk ⟨_, rfl, rfl⟩) kk
theorem signs_fuel : ∀ (n f g : Nat) (b : List UInt8), b.length ≤ n → b.length ≤ f → b.length ≤ g → Md.signs f b = Md.signs g b := by
  intro n
  induction n with
  | zero => intro f g b h _ _; have : b = [] := List.eq_nil_of_length_eq_zero (by omega); subst this; cases f <;> cases g <;> rfl
  | succ n ih =>
    intro f g b h hf hg
    cases b with
    | nil => cases f <;> cases g <;> rfl
    | cons c l =>
      have hp := one_pos (b := c :: l) (by simp)
      simp only [List.length_cons] at h hf hg
      obtain ⟨f, rfl⟩ : ∃ f', f = f' + 1 := ⟨f - 1, by omega⟩
      obtain ⟨g, rfl⟩ : ∃ g', g = g' + 1 := ⟨g - 1, by omega⟩
      simp only [Md.signs]
      congr 1
      have hm : ((c :: l).drop (Md.one (c :: l)).2).length ≤ l.length := by simp; omega
      exact ih f g _ (by omega) (by omega) (by omega)
theorem signs_cons {b : List UInt8} (h : b ≠ []) : Md.signs b.length b = (Md.one b).1 :: Md.signs (b.drop (Md.one b).2).length (b.drop (Md.one b).2) := by
  cases b with
  | nil => exact absurd rfl h
  | cons c l =>
    have hp := one_pos (b := c :: l) (by simp)
    simp only [List.length_cons, Md.signs]
    congr 1
    have hm : ((c :: l).drop (Md.one (c :: l)).2).length ≤ l.length := by simp; omega
    exact signs_fuel l.length _ _ _ hm hm (Nat.le_refl _)
theorem lines_len : ∀ (l : List Int) (last : Int), (Md.lines last l).length ≤ l.length
  | [], _ => by simp [Md.lines]
  | r :: rs, last => by
    have h1 := lines_len rs r
    simp only [Md.lines]
    split
    · simp only [List.length_cons]; omega
    · split
      · simp only [List.length_cons]; omega
      · simp only [List.length_cons]; omega
theorem unmark_drop {b : List UInt8} (h : (3 ≤ b.length ∧ (b.getD 0 default).toNat = 239) ∧ (b.getD 1 default).toNat = 187 ∧ (b.getD 2 default).toNat = 191) : Md.unmark b = b.drop 3 := by
  rcases b with _ | ⟨x, _ | ⟨y, _ | ⟨z, r⟩⟩⟩
  · simp at h
  · simp at h
  · simp at h
  · simp only [List.getD_cons_zero, List.getD_cons_succ] at h
    obtain rfl : x = 0xef := UInt8.toNat_inj.1 h.1.2
    obtain rfl : y = 0xbb := UInt8.toNat_inj.1 h.2.1
    obtain rfl : z = 0xbf := UInt8.toNat_inj.1 h.2.2
    rfl
theorem unmark_same {b : List UInt8} (h : ¬((3 ≤ b.length ∧ (b.getD 0 default).toNat = 239) ∧ (b.getD 1 default).toNat = 187 ∧ (b.getD 2 default).toNat = 191)) : Md.unmark b = b := by
  unfold Md.unmark
  split
  · exact absurd ⟨⟨by simp, rfl⟩, rfl, rfl⟩ h
  · rfl
theorem decode_F {t z : Nat} {b : List UInt8} (hz : z = zOf t 1) (hl : b.length < 1000000000000) : F D 39 [.lst t z (bytesV b)] R (fun v cs' => Hold (∃ t', v = .lst t' (zOf t' 1) ((Md.decode b).map I32) ∧ .own t' 1 ((Md.decode b).map I32) :: R = cs')) := by
  subst hz
  refine F.of rfl rfl rfl ?_
  repeat' first | exact signs_F | exact arI | refine Pst.mk ⟨?_, rfl⟩ kk | constructor | (refine fun _ _ (hq : Hold _) => ?_; replace hq := hq.out; obtain ⟨_, rfl, rfl⟩ := hq) | (refine fun _ _ (hq : Hold _) => ?_; replace hq := hq.out; obtain ⟨_, _, rfl, rfl⟩ := hq) | rintro _ _ ⟨rfl, rfl⟩ | rintro _ _ ⟨_, rfl, rfl⟩ | rintro _ _ ⟨_, _, rfl, rfl⟩ | (refine fun (hc : _ = _) => ?_; (try simp only [BB] at hc)) | refine fun (_ : Nat) => ?_ | refine fun (_ : _ ≤ _) => ?_ | refine fun (_ : _ < _) => ?_
  · rename_i qo _ ql _ q
    have hd : Md.lines 0 (Md.signs (b.drop (Int.toNat 3)).length (b.drop (Int.toNat 3))) = Md.decode b := by
      unfold Md.decode
      rw [unmark_drop (b := b) (by simp only [Int.reduceToNat] at hc; omega)]
      rfl
    generalize Md.decode b = dec at *
    have hl' : (b.drop (Int.toNat 3)).length < 1000000000000 := by simp; omega
    clear hc
    generalize b.drop (Int.toNat 3) = X at *
    refine RS.nilOwn 1 (RS.rangeO rfl rfl fun m l Lr Lb Ld hL => ?_)
    refine F.perm (List.perm_middle (l₁ := [_, _, _])) (F.mono (signs_it (l := l) rfl hl'
      (fun i cs => ∃ t' last acc, Lr :: .obj m .mark :: .own t' 1 (acc.map I32) :: .obj ql (.cells [.int .i32 last] none) :: .obj qo (.cells [.lst t' (zOf t' 1) (acc.map I32)] none) :: R = cs ∧ acc.length ≤ i ∧ acc ++ Md.lines last (Md.signs (X.drop i).length (X.drop i)) = dec) (fun _ => False) ?_ ⟨0, 0, [], rfl, by simp, by simpa using hd⟩) ?_)
    · rintro i _ hi ⟨t', last, acc, rfl, ha, hdec⟩
      refine hL.y (.tail .head) rfl ?_
      have hne : X.drop i ≠ [] := by simp; omega
      have hp := one_pos hne
      rw [signs_cons hne, List.drop_drop] at hdec
      repeat' first | exact arI | refine Pst.mk ⟨?_, rfl⟩ kk | constructor | (refine fun _ _ (hq : Hold _) => ?_; replace hq := hq.out; obtain ⟨_, rfl, rfl⟩ := hq) | (refine fun _ _ (hq : Hold _) => ?_; replace hq := hq.out; obtain ⟨_, _, rfl, rfl⟩ := hq) | rintro _ _ ⟨rfl, rfl⟩ | rintro _ _ ⟨_, rfl, rfl⟩ | rintro _ _ ⟨_, _, rfl, rfl⟩ | (refine fun (hc : _ = _) => ?_; (try simp only [BB] at hc)) | refine fun (_ : Nat) => ?_ | refine fun (_ : _ ≤ _) => ?_ | refine fun (_ : _ < _) => ?_
      · refine Pst.mk (.mk ⟨_, rfl, .inl ⟨rfl, _, _, acc ++ [10], rfl, by simp; omega, ?_⟩⟩) kk
        rw [← hdec]; simp [Md.lines, hc]
      · refine Pst.mk (.mk ⟨_, rfl, .inl ⟨rfl, _, _, acc, rfl, by omega, ?_⟩⟩) kk
        rw [← hdec]; simp [Md.lines, hc]
      · refine Pst.mk (.mk ⟨_, rfl, .inl ⟨rfl, _, _, acc ++ [_], rfl, by simp; omega, ?_⟩⟩) kk
        rw [← hdec]; simp only [Md.lines]
        rw [if_neg (by omega), if_neg (by omega)]; simp
    · intro v cs' hv
      obtain ⟨cs1, rfl, ⟨t', last, acc, rfl, ha, hdec⟩ | hf⟩ := hv.out
      · have hd2 : acc = dec := by rw [← hdec, List.drop_eq_nil_of_le (Nat.le_refl _)]; simp [Md.signs, Md.lines]
        subst hd2
        refine .ready (.tail .head) ?_
        repeat' first | exact arI | refine Pst.mk ⟨?_, rfl⟩ kk | constructor | (refine fun _ _ (hq : Hold _) => ?_; replace hq := hq.out; obtain ⟨_, rfl, rfl⟩ := hq) | (refine fun _ _ (hq : Hold _) => ?_; replace hq := hq.out; obtain ⟨_, _, rfl, rfl⟩ := hq) | rintro _ _ ⟨rfl, rfl⟩ | rintro _ _ ⟨_, rfl, rfl⟩ | rintro _ _ ⟨_, _, rfl, rfl⟩ | (refine fun (hc : _ = _) => ?_; (try simp only [BB] at hc)) | refine fun (_ : Nat) => ?_ | refine fun (_ : _ ≤ _) => ?_ | refine fun (_ : _ < _) => ?_
        exact Pst.mk (.mk ⟨_, rfl, rfl⟩) kk
      · exact hf.elim
  · rename_i qo _ ql _ q
    have hd : Md.lines 0 (Md.signs b.length b) = Md.decode b := by
      unfold Md.decode
      rw [unmark_same (b := b) (by simp only [Int.reduceToNat] at hc; omega)]
    have hl' := hl
    generalize Md.decode b = dec at *
    obtain ⟨X, hX⟩ : ∃ X, X = b := ⟨b, rfl⟩
    subst hX
    refine RS.nilOwn 1 (RS.rangeO rfl rfl fun m l Lr Lb Ld hL => ?_)
    refine F.perm (List.perm_middle (l₁ := [_, _, _])) (F.mono (signs_it (l := l) rfl hl'
      (fun i cs => ∃ t' last acc, Lr :: .obj m .mark :: .own t' 1 (acc.map I32) :: .obj ql (.cells [.int .i32 last] none) :: .obj qo (.cells [.lst t' (zOf t' 1) (acc.map I32)] none) :: R = cs ∧ acc.length ≤ i ∧ acc ++ Md.lines last (Md.signs (X.drop i).length (X.drop i)) = dec) (fun _ => False) ?_ ⟨0, 0, [], rfl, by simp, by simpa using hd⟩) ?_)
    · rintro i _ hi ⟨t', last, acc, rfl, ha, hdec⟩
      refine hL.y (.tail .head) rfl ?_
      have hne : X.drop i ≠ [] := by simp; omega
      have hp := one_pos hne
      rw [signs_cons hne, List.drop_drop] at hdec
      repeat' first | exact arI | refine Pst.mk ⟨?_, rfl⟩ kk | constructor | (refine fun _ _ (hq : Hold _) => ?_; replace hq := hq.out; obtain ⟨_, rfl, rfl⟩ := hq) | (refine fun _ _ (hq : Hold _) => ?_; replace hq := hq.out; obtain ⟨_, _, rfl, rfl⟩ := hq) | rintro _ _ ⟨rfl, rfl⟩ | rintro _ _ ⟨_, rfl, rfl⟩ | rintro _ _ ⟨_, _, rfl, rfl⟩ | (refine fun (hc : _ = _) => ?_; (try simp only [BB] at hc)) | refine fun (_ : Nat) => ?_ | refine fun (_ : _ ≤ _) => ?_ | refine fun (_ : _ < _) => ?_
      · refine Pst.mk (.mk ⟨_, rfl, .inl ⟨rfl, _, _, acc ++ [10], rfl, by simp; omega, ?_⟩⟩) kk
        rw [← hdec]; simp [Md.lines, hc]
      · refine Pst.mk (.mk ⟨_, rfl, .inl ⟨rfl, _, _, acc, rfl, by omega, ?_⟩⟩) kk
        rw [← hdec]; simp [Md.lines, hc]
      · refine Pst.mk (.mk ⟨_, rfl, .inl ⟨rfl, _, _, acc ++ [_], rfl, by simp; omega, ?_⟩⟩) kk
        rw [← hdec]; simp only [Md.lines]
        rw [if_neg (by omega), if_neg (by omega)]; simp
    · intro v cs' hv
      obtain ⟨cs1, rfl, ⟨t', last, acc, rfl, ha, hdec⟩ | hf⟩ := hv.out
      · have hd2 : acc = dec := by rw [← hdec, List.drop_eq_nil_of_le (Nat.le_refl _)]; simp [Md.signs, Md.lines]
        subst hd2
        refine .ready (.tail .head) ?_
        repeat' first | exact arI | refine Pst.mk ⟨?_, rfl⟩ kk | constructor | (refine fun _ _ (hq : Hold _) => ?_; replace hq := hq.out; obtain ⟨_, rfl, rfl⟩ := hq) | (refine fun _ _ (hq : Hold _) => ?_; replace hq := hq.out; obtain ⟨_, _, rfl, rfl⟩ := hq) | rintro _ _ ⟨rfl, rfl⟩ | rintro _ _ ⟨_, rfl, rfl⟩ | rintro _ _ ⟨_, _, rfl, rfl⟩ | (refine fun (hc : _ = _) => ?_; (try simp only [BB] at hc)) | refine fun (_ : Nat) => ?_ | refine fun (_ : _ ≤ _) => ?_ | refine fun (_ : _ < _) => ?_
        exact Pst.mk (.mk ⟨_, rfl, rfl⟩) kk
      · exact hf.elim
theorem c128 (x : Nat) : Int.toNat 128 ||| (IntKind.u8.wrap ((x &&& Int.toNat 63 : Nat) : Int)).toNat = 128 + x % 64 := by
  have h1 : x &&& Int.toNat 63 = x % 64 := and_63 x
  have h2 := Nat.mod_lt x (show 0 < 64 by omega)
  rw [h1, wrap_u8, show (((x % 64 : Nat) : Int) % 256).toNat = x % 64 by omega]
  exact or_128 _ (by omega)
theorem c192 {x : Int} (h : 0 ≤ x ∧ x < 64) : Int.toNat 192 ||| (IntKind.u8.wrap x).toNat = 192 + x.toNat := by
  rw [wrap_u8, show (x % 256).toNat = x.toNat by omega]
  exact or_192 _ (by omega)
theorem c224 {x : Int} (h : 0 ≤ x ∧ x < 32) : Int.toNat 224 ||| (IntKind.u8.wrap x).toNat = 224 + x.toNat := by
  rw [wrap_u8, show (x % 256).toNat = x.toNat by omega]
  exact or_224 _ (by omega)
theorem c240 {x : Int} (h : 0 ≤ x ∧ x < 16) : Int.toNat 240 ||| (IntKind.u8.wrap x).toNat = 240 + x.toNat := by
  rw [wrap_u8, show (x % 256).toNat = x.toNat by omega]
  exact or_240 _ (by omega)
theorem putR_nat {n : Nat} (h : n ≤ 1114111 ∧ ¬(55296 ≤ n ∧ n ≤ 57343)) : Md.putR (n : Int) =
    if n < 0x80 then [Md.byteN n]
    else if n < 0x800 then [Md.byteN (0xc0 + n / 64), Md.byteN (0x80 + n % 64)]
    else if n < 0x10000 then [Md.byteN (0xe0 + n / 4096), Md.byteN (0x80 + n / 64 % 64), Md.byteN (0x80 + n % 64)]
    else [Md.byteN (0xf0 + n / 262144), Md.byteN (0x80 + n / 4096 % 64), Md.byteN (0x80 + n / 64 % 64), Md.byteN (0x80 + n % 64)] := by
  unfold Md.putR
  have e1 : (if (n : Int) < 0 ∨ (n : Int) > 0x10ffff ∨ ((n : Int) ≥ 0xd800 ∧ (n : Int) ≤ 0xdfff) then 0xfffd else (n : Int).toNat) = n := by rw [if_neg (by omega)]; omega
  rw [e1]
theorem putPst {b l : List UInt8} {r : Int} {x : Nat} {cs : List Ck} (h : Md.putR r = l) (hk : KK cs (.own x 1 (bytesV (b ++ l)) :: R)) : Pst (fun cs' => Hold (∃ t', DV.lst x (zOf x 1) (bytesV (b ++ l)) = .lst t' (zOf t' 1) (bytesV (b ++ Md.putR r)) ∧ .own t' 1 (bytesV (b ++ Md.putR r)) :: R = cs')) cs := by
  subst h; exact Pst.mk (.mk ⟨_, rfl, rfl⟩) hk
theorem put_ok {t z : Nat} {b : List UInt8} {r : Int} (hz : z = zOf t 1) (hl : b.length < 1000000000000) (h0 : 0 ≤ r ∧ r ≤ 1114111 ∧ ¬(55296 ≤ r ∧ r ≤ 57343)) : F D 38 [.lst t z (bytesV b), .int .i32 r] (.own t 1 (bytesV b) :: R) (fun v cs' => Hold (∃ t', v = .lst t' (zOf t' 1) (bytesV (b ++ Md.putR r)) ∧ .own t' 1 (bytesV (b ++ Md.putR r)) :: R = cs')) := by
  subst hz
  obtain ⟨n, rfl⟩ := Int.eq_ofNat_of_zero_le h0.1
  refine F.of rfl rfl rfl ?_
  repeat' first | exact absurd hc (by omega) | (refine Arith.mk ?_; rw [c128]; omega) | (refine Arith.mk ?_; rw [c192 (by simp only [List.length_cons, List.length_map, List.length_append, List.length_nil, List.length_take, List.length_drop, Go.Dm.bytesV, Go.Dm.wid, Go.Dm.top, List.getD_cons_zero, Int.toNat_zero, Int.toNat_natCast, Int.reduceToNat, Int.reducePow, Nat.reducePow, Go.Dm.wrap_u8]; omega)]; simp only [List.length_cons, List.length_map, List.length_append, List.length_nil, List.length_take, List.length_drop, Go.Dm.bytesV, Go.Dm.wid, Go.Dm.top, List.getD_cons_zero, Int.toNat_zero, Int.toNat_natCast, Int.reduceToNat, Int.reducePow, Nat.reducePow, Go.Dm.wrap_u8]; omega) | (refine Arith.mk ?_; rw [c224 (by simp only [List.length_cons, List.length_map, List.length_append, List.length_nil, List.length_take, List.length_drop, Go.Dm.bytesV, Go.Dm.wid, Go.Dm.top, List.getD_cons_zero, Int.toNat_zero, Int.toNat_natCast, Int.reduceToNat, Int.reducePow, Nat.reducePow, Go.Dm.wrap_u8]; omega)]; simp only [List.length_cons, List.length_map, List.length_append, List.length_nil, List.length_take, List.length_drop, Go.Dm.bytesV, Go.Dm.wid, Go.Dm.top, List.getD_cons_zero, Int.toNat_zero, Int.toNat_natCast, Int.reduceToNat, Int.reducePow, Nat.reducePow, Go.Dm.wrap_u8]; omega) | (refine Arith.mk ?_; rw [c240 (by simp only [List.length_cons, List.length_map, List.length_append, List.length_nil, List.length_take, List.length_drop, Go.Dm.bytesV, Go.Dm.wid, Go.Dm.top, List.getD_cons_zero, Int.toNat_zero, Int.toNat_natCast, Int.reduceToNat, Int.reducePow, Nat.reducePow, Go.Dm.wrap_u8]; omega)]; simp only [List.length_cons, List.length_map, List.length_append, List.length_nil, List.length_take, List.length_drop, Go.Dm.bytesV, Go.Dm.wid, Go.Dm.top, List.getD_cons_zero, Int.toNat_zero, Int.toNat_natCast, Int.reduceToNat, Int.reducePow, Nat.reducePow, Go.Dm.wrap_u8]; omega) | exact arI | refine Pst.mk ⟨?_, rfl⟩ kk | constructor | (refine fun _ _ (hq : Hold _) => ?_; replace hq := hq.out; obtain ⟨_, rfl, rfl⟩ := hq) | (refine fun _ _ (hq : Hold _) => ?_; replace hq := hq.out; obtain ⟨_, _, rfl, rfl⟩ := hq) | rintro _ _ ⟨rfl, rfl⟩ | rintro _ _ ⟨_, rfl, rfl⟩ | rintro _ _ ⟨_, _, rfl, rfl⟩ | (refine fun (hc : _ = _) => ?_; (try simp only [BB] at hc)) | refine fun (_ : Nat) => ?_ | refine fun (_ : _ ≤ _) => ?_ | refine fun (_ : _ < _) => ?_
  all_goals refine putPst ?_ (.drop .refl)
  all_goals rw [putR_nat (by omega)]
  all_goals (try simp only [Int.toNat_natCast])
  · rw [if_pos (by omega), wrap_u8, show ((n : Int) % 256).toNat = n by omega]; rfl
  · rw [if_neg (by omega), if_pos (by omega), c128, c192 (by simp only [List.length_cons, List.length_map, List.length_append, List.length_nil, List.length_take, List.length_drop, Go.Dm.bytesV, Go.Dm.wid, Go.Dm.top, List.getD_cons_zero, Int.toNat_zero, Int.toNat_natCast, Int.reduceToNat, Int.reducePow, Nat.reducePow, Go.Dm.wrap_u8]; omega)]
    simp only [Md.byteN, List.length_cons, List.length_map, List.length_append, List.length_nil, List.length_take, List.length_drop, Go.Dm.bytesV, Go.Dm.wid, Go.Dm.top, List.getD_cons_zero, Int.toNat_zero, Int.toNat_natCast, Int.reduceToNat, Int.reducePow, Nat.reducePow, Go.Dm.wrap_u8]
    rw [show ((n : Int) / 64).toNat = n / 64 by omega]
  · rw [if_neg (by omega), if_neg (by omega), if_pos (by omega), c128, c128, c224 (by simp only [List.length_cons, List.length_map, List.length_append, List.length_nil, List.length_take, List.length_drop, Go.Dm.bytesV, Go.Dm.wid, Go.Dm.top, List.getD_cons_zero, Int.toNat_zero, Int.toNat_natCast, Int.reduceToNat, Int.reducePow, Nat.reducePow, Go.Dm.wrap_u8]; omega)]
    simp only [Md.byteN, List.length_cons, List.length_map, List.length_append, List.length_nil, List.length_take, List.length_drop, Go.Dm.bytesV, Go.Dm.wid, Go.Dm.top, List.getD_cons_zero, Int.toNat_zero, Int.toNat_natCast, Int.reduceToNat, Int.reducePow, Nat.reducePow, Go.Dm.wrap_u8]
    rw [show ((n : Int) / 64).toNat = n / 64 by omega, show ((n : Int) / 4096).toNat = n / 4096 by omega]
  · rw [if_neg (by omega), if_neg (by omega), if_neg (by omega), c128, c128, c128, c240 (by simp only [List.length_cons, List.length_map, List.length_append, List.length_nil, List.length_take, List.length_drop, Go.Dm.bytesV, Go.Dm.wid, Go.Dm.top, List.getD_cons_zero, Int.toNat_zero, Int.toNat_natCast, Int.reduceToNat, Int.reducePow, Nat.reducePow, Go.Dm.wrap_u8]; omega)]
    simp only [Md.byteN, List.length_cons, List.length_map, List.length_append, List.length_nil, List.length_take, List.length_drop, Go.Dm.bytesV, Go.Dm.wid, Go.Dm.top, List.getD_cons_zero, Int.toNat_zero, Int.toNat_natCast, Int.reduceToNat, Int.reducePow, Nat.reducePow, Go.Dm.wrap_u8]
    rw [show ((n : Int) / 64).toNat = n / 64 by omega, show ((n : Int) / 4096).toNat = n / 4096 by omega, show ((n : Int) / 262144).toNat = n / 262144 by omega]
theorem put_F {t z : Nat} {b : List UInt8} {r : Int} (hz : z = zOf t 1) (hl : b.length < 1000000000000) : F D 38 [.lst t z (bytesV b), .int .i32 r] (.own t 1 (bytesV b) :: R) (fun v cs' => Hold (∃ t', v = .lst t' (zOf t' 1) (bytesV (b ++ Md.putR r)) ∧ .own t' 1 (bytesV (b ++ Md.putR r)) :: R = cs')) := by
  by_cases h0 : 0 ≤ r ∧ r ≤ 1114111 ∧ ¬(55296 ≤ r ∧ r ≤ 57343)
  · exact put_ok hz hl h0
  · have e : Md.putR r = Md.putR 65533 := by
      unfold Md.putR
      have e1 : (if r < 0 ∨ r > 0x10ffff ∨ (r ≥ 0xd800 ∧ r ≤ 0xdfff) then 0xfffd else r.toNat) = 0xfffd := if_pos (by omega)
      rw [e1]; rfl
    rw [e]
    subst hz
    refine F.of rfl rfl rfl ?_
    repeat' first | exact put_ok rfl hl (by omega) | exact absurd hc (by omega) | exact arI | refine Pst.mk ⟨?_, rfl⟩ kk | constructor | (refine fun _ _ (hq : Hold _) => ?_; replace hq := hq.out; obtain ⟨_, rfl, rfl⟩ := hq) | (refine fun _ _ (hq : Hold _) => ?_; replace hq := hq.out; obtain ⟨_, _, rfl, rfl⟩ := hq) | rintro _ _ ⟨rfl, rfl⟩ | rintro _ _ ⟨_, rfl, rfl⟩ | rintro _ _ ⟨_, _, rfl, rfl⟩ | (refine fun (hc : _ = _) => ?_; (try simp only [BB] at hc)) | refine fun (_ : Nat) => ?_ | refine fun (_ : _ ≤ _) => ?_ | refine fun (_ : _ < _) => ?_
    all_goals exact Pst.mk (.mk ⟨_, rfl, rfl⟩) .refl
theorem putR_len (r : Int) : (Md.putR r).length ≤ 4 := by
  unfold Md.putR
  dsimp only
  split <;> (repeat' split) <;> simp
theorem encode_F {t z : Nat} {rs : List Int} (hz : z = zOf t 1) (hl : rs.length < 100000000000) : F D 17 [.lst t z (rs.map I32)] R (fun v cs' => Hold (∃ t', v = .lst t' (zOf t' 1) (bytesV (Md.encode rs)) ∧ .own t' 1 (bytesV (Md.encode rs)) :: R = cs')) := by
  subst hz
  refine F.of rfl rfl rfl ?_
  repeat' first | exact arI | refine Pst.mk ⟨?_, rfl⟩ kk | constructor | (refine fun _ _ (hq : Hold _) => ?_; replace hq := hq.out; obtain ⟨_, rfl, rfl⟩ := hq) | (refine fun _ _ (hq : Hold _) => ?_; replace hq := hq.out; obtain ⟨_, _, rfl, rfl⟩ := hq) | rintro _ _ ⟨rfl, rfl⟩ | rintro _ _ ⟨_, rfl, rfl⟩ | rintro _ _ ⟨_, _, rfl, rfl⟩ | (refine fun (hc : _ = _) => ?_; (try simp only [BB] at hc)) | refine fun (_ : Nat) => ?_ | refine fun (_ : _ ≤ _) => ?_ | refine fun (_ : _ < _) => ?_
  refine RS.nilOwn 1 (RS.loopW (α := Nat × Nat × List UInt8) (fun a => [(6, .lst t (zOf t 1) (rs.map I32)), (7, .int .i64 rs.length), (8, .int .i64 (a.1 : Nat)), (3, .lst a.2.1 (zOf a.2.1 1) (bytesV a.2.2))]) (fun a => .own a.2.1 1 (bytesV a.2.2) :: R)
    (fun a => a.1 ≤ rs.length ∧ a.2.2.length ≤ 4 * a.1 ∧ a.2.2 ++ Md.encode (rs.drop a.1) = Md.encode rs) (fun a => rs.length - a.1) (0, 0, []) ⟨by simp, by simp, by simp⟩ ⟨rfl, rfl, rfl, rfl, trivial⟩ .refl ?_)
  rintro ⟨i, t', acc⟩ ⟨h1, h2, h3⟩ ih
  dsimp only [ents] at *
  repeat' first | exact put_F rfl (by omega) | exact arI | refine Pst.mk ⟨?_, rfl⟩ kk | constructor | (refine fun _ _ (hq : Hold _) => ?_; replace hq := hq.out; obtain ⟨_, rfl, rfl⟩ := hq) | (refine fun _ _ (hq : Hold _) => ?_; replace hq := hq.out; obtain ⟨_, _, rfl, rfl⟩ := hq) | rintro _ _ ⟨rfl, rfl⟩ | rintro _ _ ⟨_, rfl, rfl⟩ | rintro _ _ ⟨_, _, rfl, rfl⟩ | (refine fun (hc : _ = _) => ?_; (try simp only [BB] at hc)) | refine fun (_ : Nat) => ?_ | refine fun (_ : _ ≤ _) => ?_ | refine fun (_ : _ < _) => ?_
  · refine ih _ _ (i + 1, _, _) ?_ (by dsimp only; omega) ⟨rfl, rfl, rfl, rfl, trivial⟩ .refl
    have hlt : i < rs.length := by omega
    have := putR_len (rs.getD i default)
    refine ⟨by dsimp only; omega, by simp only [Int.toNat_natCast, List.length_append]; omega, ?_⟩
    rw [← h3]
    dsimp only
    have hd : rs.drop i = rs.getD i default :: rs.drop (i + 1) := by
      rw [List.drop_eq_getElem_cons hlt, List.getD_eq_getElem?_getD, List.getElem?_eq_getElem hlt]; rfl
    rw [hd]
    simp [Md.encode]
  · obtain rfl : i = rs.length := by omega
    have e : acc = Md.encode rs := by rw [← h3]; simp [Md.encode]
    rw [e]
    exact Pst.mk (.mk ⟨_, rfl, rfl⟩) .refl
end Go.Proofs.YticnenofiibpgaaDoor.Code
/- What the chars layer's functions do. -/
namespace Go.Proofs.YticnenofiibpgaaDoor.Code
open Go.Dm Go.Dm.C
set_option linter.unusedSimpArgs false
set_option linter.unusedVariables false
set_option linter.unnecessarySimpa false
set_option maxRecDepth 10000
attribute [local irreducible] Go.Dm.F Go.Dm.RS Go.Dm.Y Go.Dm.FD Go.Dm.FZ1 Go.Dm.Hold
variable {R : List Ck}
theorem win_get {k : Nat} (h : k < 32) : (Md.windows.map (DV.int .i32))[k]? = some (.int .i32 (Md.windows.getD k 0)) := by
  rw [List.getElem?_map]
  have : Md.windows[k]? = some Md.windows[k] := List.getElem?_eq_getElem (by simpa [Md.windows] using h)
  rw [this, List.getD_eq_getElem?_getD, this]; rfl
theorem numeric_F {n : Int} (hn : n ≤ 9223372036854775807) : F D 20 [.int .i64 n] R (fun v cs' => v = .int .i32 (Md.numeric n) ∧ R = cs') := by
  refine F.of rfl rfl rfl ?_
  repeat' first | exact arI | refine Pst.mk ⟨?_, rfl⟩ kk | constructor | (refine fun _ _ (hq : Hold _) => ?_; replace hq := hq.out; obtain ⟨_, rfl, rfl⟩ := hq) | (refine fun _ _ (hq : Hold _) => ?_; replace hq := hq.out; obtain ⟨_, _, rfl, rfl⟩ := hq) | rintro _ _ ⟨rfl, rfl⟩ | rintro _ _ ⟨_, rfl, rfl⟩ | rintro _ _ ⟨_, _, rfl, rfl⟩ | (refine fun (hc : _ = _) => ?_; (try simp only [BB] at hc)) | refine fun (_ : Nat) => ?_ | refine fun (_ : _ ≤ _) => ?_ | refine fun (_ : _ < _) => ?_
  · congr 1; unfold Md.numeric; rw [if_pos (by omega)]
  · have := win_get (k := (n - 128).toNat) (by omega)
    rw [List.getElem?_drop, Nat.mul_one, Nat.add_zero]
    refine this.trans ?_
    unfold Md.numeric; rw [if_neg (by omega), if_pos (by omega)]
  · unfold Md.numeric; rw [if_neg (by omega), if_neg (by omega), wrap_i32_in (by omega)]
theorem hex_le (r : Int) : -1 ≤ Md.hex r ∧ Md.hex r ≤ 15 := by unfold Md.hex; repeat' split <;> omega
theorem number_F {rs : List Int} {base : Int} {t z : Nat} (hz : z = zOf t 1) (hb : 2 ≤ base ∧ base ≤ 16) (hl : rs.length < 100000000000) : F D 87 [.lst t z (rs.map I32), .int .i64 base] R (fun v cs' => v = .tup [.int .i64 (Md.number base rs 0 0).1, .int .i64 ((Md.number base rs 0 0).2 : Nat)] ∧ R = cs') := by
  subst hz
  refine F.of rfl rfl rfl ?_
  repeat' first | exact arI | refine Pst.mk ⟨?_, rfl⟩ kk | constructor | (refine fun _ _ (hq : Hold _) => ?_; replace hq := hq.out; obtain ⟨_, rfl, rfl⟩ := hq) | (refine fun _ _ (hq : Hold _) => ?_; replace hq := hq.out; obtain ⟨_, _, rfl, rfl⟩ := hq) | rintro _ _ ⟨rfl, rfl⟩ | rintro _ _ ⟨_, rfl, rfl⟩ | rintro _ _ ⟨_, _, rfl, rfl⟩ | (refine fun (hc : _ = _) => ?_; (try simp only [BB] at hc)) | refine fun (_ : Nat) => ?_ | refine fun (_ : _ ≤ _) => ?_ | refine fun (_ : _ < _) => ?_
  refine RS.loopW (α := Nat × Int) (fun a => [(0, .lst t (zOf t 1) (rs.map I32)), (1, .int .i64 base), (6, .int .i64 a.2), (7, .int .i64 (a.1 : Nat))]) (fun _ => R)
    (fun a => a.1 ≤ rs.length ∧ 0 ≤ a.2 ∧ a.2 ≤ 1114112 ∧ Md.number base (rs.drop a.1) a.2 a.1 = Md.number base rs 0 0) (fun a => rs.length - a.1) (0, 0) ⟨by simp, by simp, by simp, by simp⟩ ⟨rfl, rfl, rfl, rfl, trivial⟩ .refl ?_
  rintro ⟨i, n⟩ ⟨h1, h2, h3, h4⟩ ih
  dsimp only [ents] at *
  have hh := hex_le (rs.getD i default)
  have hm : 0 ≤ n * base ∧ n * base ≤ 1114112 * 16 := ⟨Int.mul_nonneg h2 (by omega), Int.mul_le_mul h3 hb.2 (by omega) (by omega)⟩
  have hd : i < rs.length → rs.drop i = rs.getD i default :: rs.drop (i + 1) := fun hlt => by
    rw [List.drop_eq_getElem_cons hlt, List.getD_eq_getElem?_getD, List.getElem?_eq_getElem hlt]; rfl
  repeat' first | exact hex_F | exact arI | refine Pst.mk ⟨?_, rfl⟩ kk | constructor | (refine fun _ _ (hq : Hold _) => ?_; replace hq := hq.out; obtain ⟨_, rfl, rfl⟩ := hq) | (refine fun _ _ (hq : Hold _) => ?_; replace hq := hq.out; obtain ⟨_, _, rfl, rfl⟩ := hq) | rintro _ _ ⟨rfl, rfl⟩ | rintro _ _ ⟨_, rfl, rfl⟩ | rintro _ _ ⟨_, _, rfl, rfl⟩ | (refine fun (hc : _ = _) => ?_; (try simp only [BB] at hc)) | refine fun (_ : Nat) => ?_ | refine fun (_ : _ ≤ _) => ?_ | refine fun (_ : _ < _) => ?_
  · rw [hd (by omega)] at h4
    simp only [Md.number] at h4
    rw [if_pos (by omega)] at h4
    rw [← h4]
  · rw [hd (by omega)] at h4
    simp only [Md.number] at h4
    rw [if_neg (by omega)] at h4
    exact ih _ _ (i + 1, min (n * base + Md.hex (rs.getD i default)) 1114112) ⟨by dsimp only; omega, by dsimp only; omega, by dsimp only; omega, h4⟩ (by dsimp only; omega) ⟨rfl, rfl, rfl, rfl, trivial⟩ .refl
  · rw [List.drop_eq_nil_of_le (by omega)] at h4
    simp only [Md.number] at h4
    rw [← h4]
def encE (e : Md.Entry) : DV := .agg [.str e.name, .int .i32 e.sign, .bool e.bare]
theorem table_F : F D 37 [] R (fun v cs' => Hold (∃ t, v = .lst t (zOf t 3) (Md.table.map encE) ∧ R = cs')) := by
  refine F.of rfl rfl rfl ?_
  repeat' first | exact arI | refine Pst.mk ⟨?_, rfl⟩ kk | constructor | (refine fun _ _ (hq : Hold _) => ?_; replace hq := hq.out; obtain ⟨_, rfl, rfl⟩ := hq) | (refine fun _ _ (hq : Hold _) => ?_; replace hq := hq.out; obtain ⟨_, _, rfl, rfl⟩ := hq) | rintro _ _ ⟨rfl, rfl⟩ | rintro _ _ ⟨_, rfl, rfl⟩ | rintro _ _ ⟨_, _, rfl, rfl⟩ | (refine fun (hc : _ = _) => ?_; (try simp only [BB] at hc)) | refine fun (_ : Nat) => ?_ | refine fun (_ : _ ≤ _) => ?_ | refine fun (_ : _ < _) => ?_
  exact Pst.mk (.mk ⟨_, rfl, rfl⟩) (.drop .refl)
def mAt (rs : List Int) (i : Nat) : Int × Nat × Bool := ((Md.table.zipIdx).take i).foldl (fun a p => Md.matchStep runeBytes rs a p.2 p.1) (-1, 0, false)
theorem mAt_succ {rs : List Int} {i : Nat} (h : i < Md.table.length) : mAt rs (i + 1) = Md.matchStep runeBytes rs (mAt rs i) i (Md.table.getD i default) := by
  unfold mAt
  rw [List.take_add_one, List.getElem?_eq_getElem (by simpa using h), List.foldl_append]
  simp [List.getD_eq_getElem?_getD, List.getElem?_eq_getElem h]
theorem match_F {rs : List Int} {t z : Nat} (hz : z = zOf t 1) (hl : rs.length < 100000000000) : F D 16 [.lst t z (rs.map I32)] R (fun v cs' => Hold (∃ t', v = .tup [.lst t' (zOf t' 1) ((Md.matchT runeBytes rs).1.map I32), .int .i64 ((Md.matchT runeBytes rs).2.1 : Nat), .bool (Md.matchT runeBytes rs).2.2] ∧ R = cs')) := by
  subst hz
  refine F.of rfl rfl rfl ?_
  repeat' first | exact table_F | exact arI | refine Pst.mk ⟨?_, rfl⟩ kk | constructor | (refine fun _ _ (hq : Hold _) => ?_; replace hq := hq.out; obtain ⟨_, rfl, rfl⟩ := hq) | (refine fun _ _ (hq : Hold _) => ?_; replace hq := hq.out; obtain ⟨_, _, rfl, rfl⟩ := hq) | rintro _ _ ⟨rfl, rfl⟩ | rintro _ _ ⟨_, rfl, rfl⟩ | rintro _ _ ⟨_, _, rfl, rfl⟩ | (refine fun (hc : _ = _) => ?_; (try simp only [BB] at hc)) | refine fun (_ : Nat) => ?_ | refine fun (_ : _ ≤ _) => ?_ | refine fun (_ : _ < _) => ?_
  rename_i t1
  refine RS.loopW (α := Nat × Int × Nat × Bool) (fun a => [(0, .lst t (zOf t 1) (rs.map I32)), (5, .int .i64 a.2.1), (6, .int .i64 (a.2.2.1 : Nat)), (7, .bool a.2.2.2), (13, .lst t1 (zOf t1 3) (Md.table.map encE)), (14, .int .i64 Md.table.length), (15, .int .i64 (a.1 : Nat))]) (fun _ => R)
    (fun a => a.1 ≤ Md.table.length ∧ a.2 = mAt rs a.1 ∧ -1 ≤ a.2.1 ∧ a.2.1 < 61) (fun a => Md.table.length - a.1) (0, -1, 0, false) ⟨by simp, rfl, by simp, by simp⟩ ⟨rfl, rfl, rfl, rfl, rfl, rfl, rfl, trivial⟩ .refl ?_
  rintro ⟨i, b, n, f⟩ ⟨h1, h2, h3, h4⟩ ih
  dsimp only [ents] at *
  have h61 : Md.table.length = 61 := rfl
  have hstep := fun h : i < Md.table.length => mAt_succ (rs := rs) h
  rw [← h2] at hstep
  generalize he : Md.table.getD i default = e at hstep
  have hX : (decide ((e.name.length : Int) < (rs.length : Int)) && rs.getD (e.name.length : Int).toNat default == 59) = (decide (e.name.length < rs.length) && rs.getD e.name.length 0 == 59) := by
    simp only [Int.toNat_natCast, Int.ofNat_lt]; rfl
  generalize hfin : (decide (e.name.length < rs.length) && rs.getD e.name.length 0 == 59) = fin at hX
  simp only [Md.matchStep, hfin] at hstep
  repeat' first | exact table_F | exact arI | refine Pst.mk ⟨?_, rfl⟩ kk | constructor | (refine fun _ _ (hq : Hold _) => ?_; replace hq := hq.out; obtain ⟨_, rfl, rfl⟩ := hq) | (refine fun _ _ (hq : Hold _) => ?_; replace hq := hq.out; obtain ⟨_, _, rfl, rfl⟩ := hq) | rintro _ _ ⟨rfl, rfl⟩ | rintro _ _ ⟨_, rfl, rfl⟩ | rintro _ _ ⟨_, _, rfl, rfl⟩ | (refine fun (hc : _ = _) => ?_; (try simp only [BB] at hc)) | refine fun (_ : Nat) => ?_ | refine fun (_ : _ ≤ _) => ?_ | refine fun (_ : _ < _) => ?_
  · rw [he] at hc
    refine ih _ _ (i + 1, b, n, f) ⟨by dsimp only; omega, ?_, h3, h4⟩ (by dsimp only; omega) ⟨rfl, rfl, rfl, rfl, rfl, rfl, rfl, trivial⟩ kk
    rw [hstep (by omega), if_pos (hc.imp (fun h => by omega) id)]
  · rename_i hA hB
    rw [he] at hc hA hB
    have hf : fin = true := by rw [← hfin]; simp only [Bool.and_eq_true, decide_eq_true_eq, beq_iff_eq]; exact ⟨by omega, hB.2⟩
    refine ih _ _ (i + 1, i, e.name.length + 1, fin) ⟨by dsimp only; omega, ?_, by dsimp only; omega, by dsimp only; omega⟩ (by dsimp only; omega) ⟨rfl, rfl, ?_, ?_, rfl, rfl, rfl, trivial⟩ kk
    · rw [hstep (by omega), if_neg (fun h => h.elim (fun h => by omega) (fun h => h hA.2))]
      simp only [hf, if_true, Bool.true_or, Bool.true_and]
      rw [if_pos (by simp only [decide_eq_true_eq]; omega)]
    · rw [← he]; rfl
    · rw [← hX, ← he]; rfl
  · rename_i hA hB
    rw [he] at hc hA hB
    have hf : fin = true := by rw [← hfin]; simp only [Bool.and_eq_true, decide_eq_true_eq, beq_iff_eq]; exact ⟨by omega, hB.2⟩
    refine ih _ _ (i + 1, b, n, f) ⟨by dsimp only; omega, ?_, h3, h4⟩ (by dsimp only; omega) ⟨rfl, rfl, rfl, rfl, rfl, rfl, rfl, trivial⟩ kk
    rw [hstep (by omega), if_neg (fun h => h.elim (fun h => by omega) (fun h => h hA.2))]
    simp only [hf, if_true, Bool.true_or, Bool.true_and]
    rw [if_neg (by have := hc (.inl ⟨by omega, hB.2⟩); simp only [decide_eq_true_eq]; omega)]
  · rename_i hA hB
    rw [he] at hc hA hB
    have hf : fin = false := by
      rw [← hfin]; simp only [Bool.and_eq_false_imp, decide_eq_true_eq, beq_eq_false_iff_ne]
      exact fun h => hB (by omega)
    refine ih _ _ (i + 1, i, e.name.length, fin) ⟨by dsimp only; omega, ?_, by dsimp only; omega, by dsimp only; omega⟩ (by dsimp only; omega) ⟨rfl, rfl, ?_, ?_, rfl, rfl, rfl, trivial⟩ kk
    · rw [hstep (by omega), if_neg (fun h => h.elim (fun h => by omega) (fun h => h hA.2))]
      have hbare : e.bare = true := hc.1.resolve_left (fun h => hB h.1 h.2)
      simp only [hf, Bool.false_eq_true, if_false, Bool.false_or, hbare, Bool.true_and]
      rw [if_pos (by simp only [decide_eq_true_eq]; omega)]
    · rw [← he]; rfl
    · rw [← hX, ← he]; rfl
  · rename_i hA hB
    rw [he] at hc hA hB
    have hf : fin = false := by
      rw [← hfin]; simp only [Bool.and_eq_false_imp, decide_eq_true_eq, beq_eq_false_iff_ne]
      exact fun h => hB (by omega)
    refine ih _ _ (i + 1, b, n, f) ⟨by dsimp only; omega, ?_, h3, h4⟩ (by dsimp only; omega) ⟨rfl, rfl, rfl, rfl, rfl, rfl, rfl, trivial⟩ kk
    rw [hstep (by omega), if_neg (fun h => h.elim (fun h => by omega) (fun h => h hA.2))]
    simp only [hf, Bool.false_eq_true, if_false, Bool.false_or]
    rw [if_neg (fun h => by
      simp only [Bool.and_eq_true, decide_eq_true_eq] at h
      have := hc (.inr h.1)
      omega)]
  all_goals
    have hall : Md.matchAll runeBytes rs = (b, n, f) := by
      obtain rfl : i = Md.table.length := by omega
      rw [h2]; unfold mAt Md.matchAll
      rw [List.take_of_length_le (by simp)]
  · have e1 : Md.matchT runeBytes rs = ([], 0, false) := by unfold Md.matchT; rw [hall]; dsimp only; rw [if_pos hc]
    rw [e1]
    exact Pst.mk (.mk ⟨0, rfl, rfl⟩) .refl
  · have hb : ¬ b < 0 := by assumption
    have e1 : Md.matchT runeBytes rs = ([(Md.table.getD b.toNat default).sign, 8402], n, f) := by unfold Md.matchT; rw [hall]; dsimp only; rw [if_neg hb, if_pos hc]
    rw [e1]
    exact Pst.mk (.mk ⟨_, rfl, rfl⟩) (.drop (.drop .refl))
  · have hb : ¬ b < 0 := by assumption
    have e1 : Md.matchT runeBytes rs = ([(Md.table.getD b.toNat default).sign], n, f) := by unfold Md.matchT; rw [hall]; dsimp only; rw [if_neg hb, if_neg hc]
    rw [e1]
    exact Pst.mk (.mk ⟨_, rfl, rfl⟩) (.drop .refl)
end Go.Proofs.YticnenofiibpgaaDoor.Code
