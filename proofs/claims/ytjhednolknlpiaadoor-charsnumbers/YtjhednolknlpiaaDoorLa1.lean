/- Functions of the program as code of the D-machine (1): PRINTED BY PROGRAM; each is checked to be what the program's own compiles to. -/
import Derived.Test.YtjhednolknlpiaaDoorChecked
import Derived.Test.YtjhednolknlpiaaDoorDmRf
import Derived.KernelRfl
namespace Go.Proofs.YtjhednolknlpiaaDoor.Code
set_option linter.unusedSimpArgs false
set_option linter.unusedVariables false
open Go.Dm Go.Dm.C
def cfg1 : Cfg := ⟨fun t => [].contains t, fun f => [].contains f⟩
/-- woodcutlaw02.CharsNumeric -/
def c_woodcutlaw02_CharsNumeric : DFunc := ⟨76, 
(.seq 
(.region [v 2 (.mv (.c (.bool false)))]) 
(.seq 
(.seq 
(.region [v 6 (.call (.f 5) [] false), v 7 (.un .not (.t 6))]) 
(.cond (.t 7) 
(.seq 
(.region [v 2 (.mv (.c (.bool false)))]) .ret) .skip)) 
(.seq 
(.region [m 8 0, v 9 (.call (.f 6) [(.t 8)] false), m 3 9]) 
(.seq 
(.seq 
(.region [m 10 0, v 11 (.bin .leq .any (.t 10) (.c (.int .i64 0))), m 12 11, w 13 (.mv (.t 0)) 12 false, w 14 (.bin .gtr .any (.t 13) (.c (.int .i64 1114111))) 12 false, v 15 (.pick (.t 12) (.c (.bool true)) (.t 14)), m 16 15, w 17 (.mv (.t 0)) 16 false, w 18 (.bin .geq .any (.t 17) (.c (.int .i64 55296))) 16 false, w 19 (.mv (.t 18)) 16 false, w 20 (.mv (.t 0)) 19 true, w 21 (.bin .leq .any (.t 20) (.c (.int .i64 57343))) 19 true, w 22 (.pick (.t 19) (.t 21) (.c (.bool false))) 16 false, v 23 (.pick (.t 16) (.c (.bool true)) (.t 22))]) 
(.cond (.t 23) 
(.seq 
(.region [m 24 3, v 25 (.bin .eql .any (.t 24) (.c (.int .i32 65533))), m 2 25]) .ret) .skip)) 
(.seq 
(.seq 
(.region [m 26 0, v 27 (.bin .lss .any (.t 26) (.c (.int .i64 128))), m 28 27, w 29 (.mv (.t 0)) 28 false, w 30 (.bin .gtr .any (.t 29) (.c (.int .i64 159))) 28 false, v 31 (.pick (.t 28) (.c (.bool true)) (.t 30))]) 
(.cond (.t 31) 
(.seq 
(.region [m 32 3, v 33 (.conv (.int .i64) false (.t 32)), m 34 0, v 35 (.bin .eql .any (.t 33) (.t 34)), m 2 35]) .ret) .skip)) 
(.seq 
(.seq 
(.region [v 36 (.mks false none (.int .i64 0) 5 [(0, (.c (.int .i64 129))), (1, (.c (.int .i64 141))), (2, (.c (.int .i64 143))), (3, (.c (.int .i64 144))), (4, (.c (.int .i64 157)))]), v 37 (.len true (.t 36)), v 38 (.mv (.c (.int .i64 0)))]) 
(.block 0 
(.loop 
(.seq 
(.region [v 39 (.bin .lss .any (.t 38) (.t 37))]) 
(.seq 
(.cond (.t 39) .skip (.exit 0)) 
(.seq 
(.block 1 
(.seq 
(.region [v 40 (.iaddr 1 (.t 36) (.t 38)), v 41 (.load none (.t 40)), m 5 41]) 
(.seq 
(.region [m 42 0, m 43 5, v 44 (.bin .eql .any (.t 42) (.t 43))]) 
(.cond (.t 44) 
(.seq 
(.region [m 45 3, v 46 (.conv (.int .i64) false (.t 45)), m 47 0, v 48 (.bin .eql .any (.t 46) (.t 47)), m 2 48]) .ret) .skip)))) 
(.region [v 49 (.bin .add .any (.t 38) (.c (.int .i64 1))), m 38 49]))))))) 
(.seq 
(.region [m 50 3, v 51 (.bin .gtr .any (.t 50) (.c (.int .i32 255))), m 52 51, w 53 (.mv (.t 0)) 52 true, w 54 (.bin .neq .any (.t 53) (.c (.int .i64 128))) 52 true, w 55 (.mv (.t 54)) 52 true, w 56 (.mv (.t 3)) 55 false, w 57 (.bin .eql .any (.t 56) (.c (.int .i32 8364))) 55 false, w 58 (.pick (.t 55) (.c (.bool true)) (.t 57)) 52 true, v 59 (.pick (.t 52) (.t 58) (.c (.bool false))), m 60 59, w 61 (.mv (.t 0)) 60 true, w 62 (.bin .neq .any (.t 61) (.c (.int .i64 159))) 60 true, w 63 (.mv (.t 62)) 60 true, w 64 (.mv (.t 3)) 63 false, w 65 (.bin .eql .any (.t 64) (.c (.int .i32 376))) 63 false, w 66 (.pick (.t 63) (.c (.bool true)) (.t 65)) 60 true, v 67 (.pick (.t 60) (.t 66) (.c (.bool false))), m 68 67, w 69 (.mv (.t 0)) 68 true, w 70 (.bin .neq .any (.t 69) (.c (.int .i64 146))) 68 true, w 71 (.mv (.t 70)) 68 true, w 72 (.mv (.t 3)) 71 false, w 73 (.bin .eql .any (.t 72) (.c (.int .i32 8217))) 71 false, w 74 (.pick (.t 71) (.c (.bool true)) (.t 73)) 68 true, v 75 (.pick (.t 68) (.t 74) (.c (.bool false))), m 2 75]) .ret))))))),
 [.tmp 2]⟩
/-- woodcutlaw02.CharsNumbers -/
def c_woodcutlaw02_CharsNumbers : DFunc := ⟨84, 
(.seq 
(.region [v 4 (.mv (.c (.bool false)))]) 
(.seq 
(.seq 
(.region [v 11 (.call (.f 5) [] false), v 12 (.un .not (.t 11))]) 
(.cond (.t 12) 
(.seq 
(.region [v 4 (.mv (.c (.bool false)))]) .ret) .skip)) 
(.seq 
(.seq 
(.region [m 13 0, v 14 (.len true (.t 13)), v 15 (.bin .gtr .any (.t 14) (.c (.int .i64 60)))]) 
(.cond (.t 15) 
(.seq 
(.region [v 4 (.mv (.c (.bool true)))]) .ret) .skip)) 
(.seq 
(.region [v 5 (.mv (.c (.int .i64 10)))]) 
(.seq 
(.seq 
(.region [m 16 1]) 
(.cond (.t 16) 
(.region [v 5 (.mv (.c (.int .i64 16)))]) .skip)) 
(.seq 
(.region [v 6 (.mv (.c (.int .i64 0)))]) 
(.seq 
(.region [v 7 (.mv (.c (.int .i64 0)))]) 
(.seq 
(.block 0 
(.loop 
(.seq 
(.seq 
(.region [m 17 7, m 18 0, v 19 (.len true (.t 18)), v 20 (.bin .lss .any (.t 17) (.t 19)), m 21 20, w 22 (.mv (.t 0)) 21 true, w 23 (.mv (.t 7)) 21 true, w 24 (.iaddr 1 (.t 22) (.t 23)) 21 true, w 25 (.load none (.t 24)) 21 true, w 26 (.call (.f 7) [(.t 25)] false) 21 true, w 27 (.bin .geq .any (.t 26) (.c (.int .i64 0))) 21 true, v 28 (.pick (.t 21) (.t 27) (.c (.bool false))), m 29 28, w 30 (.mv (.t 0)) 29 true, w 31 (.mv (.t 7)) 29 true, w 32 (.iaddr 1 (.t 30) (.t 31)) 29 true, w 33 (.load none (.t 32)) 29 true, w 34 (.call (.f 7) [(.t 33)] false) 29 true, w 35 (.mv (.t 5)) 29 true, w 36 (.bin .lss .any (.t 34) (.t 35)) 29 true, v 37 (.pick (.t 29) (.t 36) (.c (.bool false)))]) 
(.cond (.t 37) .skip (.exit 0))) 
(.block 1 
(.seq 
(.region [m 38 6, m 39 5, v 40 (.bin .mul .any (.t 38) (.t 39)), m 41 0, m 42 7, v 43 (.iaddr 1 (.t 41) (.t 42)), v 44 (.load none (.t 43)), v 45 (.call (.f 7) [(.t 44)] false), v 46 (.bin .add .any (.t 40) (.t 45)), m 6 46]) 
(.seq 
(.seq 
(.region [m 47 6, v 48 (.bin .gtr .any (.t 47) (.c (.int .i64 1114112)))]) 
(.cond (.t 48) 
(.region [v 6 (.mv (.c (.int .i64 1114112)))]) .skip)) 
(.region [m 49 7, v 50 (.bin .add .any (.t 49) (.c (.int .i64 1))), m 7 50]))))))) 
(.seq 
(.region [m 52 0, m 53 5, v 54 (.call (.f 8) [(.t 52), (.t 53)] false), m 51 54, v 55 (.extract (.t 51) 0), v 56 (.extract (.t 51) 1), m 8 55, m 9 56]) 
(.seq 
(.region [m 57 8, v 58 (.call (.f 6) [(.t 57)] false), m 10 58]) 
(.seq 
(.region [m 59 8, m 60 6, v 61 (.bin .eql .any (.t 59) (.t 60)), m 62 61, w 63 (.mv (.t 9)) 62 true, w 64 (.mv (.t 7)) 62 true, w 65 (.bin .eql .any (.t 63) (.t 64)) 62 true, v 66 (.pick (.t 62) (.t 65) (.c (.bool false))), m 67 66, w 68 (.mv (.t 10)) 67 true, w 69 (.bin .geq .any (.t 68) (.c (.int .i32 0))) 67 true, v 70 (.pick (.t 67) (.t 69) (.c (.bool false))), m 71 70, w 72 (.mv (.t 10)) 71 true, w 73 (.bin .leq .any (.t 72) (.c (.int .i32 1114111))) 71 true, v 74 (.pick (.t 71) (.t 73) (.c (.bool false))), m 75 74, w 76 (.mv (.t 10)) 75 true, w 77 (.bin .geq .any (.t 76) (.c (.int .i32 55296))) 75 true, w 78 (.mv (.t 77)) 75 true, w 79 (.mv (.t 10)) 78 true, w 80 (.bin .leq .any (.t 79) (.c (.int .i32 57343))) 78 true, w 81 (.pick (.t 78) (.t 80) (.c (.bool false))) 75 true, w 82 (.un .not (.t 81)) 75 true, v 83 (.pick (.t 75) (.t 82) (.c (.bool false))), m 4 83]) .ret))))))))))),
 [.tmp 4]⟩
/-- woodcutlaw02.head -/
def c_woodcutlaw02_head : DFunc := ⟨43, 
(.seq 
(.region [v 0 (.mv (.c (.bool false)))]) 
(.seq 
(.region [v 8 (.mks false none (.int .i32 0) 6 [(0, (.c (.int .i32 110))), (1, (.c (.int .i32 111))), (2, (.c (.int .i32 116))), (3, (.c (.int .i32 105))), (4, (.c (.int .i32 110))), (5, (.c (.int .i32 59)))]), v 9 (.call (.f 9) [(.t 8)] false), m 7 9, v 10 (.extract (.t 7) 0), v 11 (.extract (.t 7) 1), v 12 (.extract (.t 7) 2), m 1 10, m 2 11, m 3 12]) 
(.seq 
(.region [v 14 (.mks false none (.int .i32 0) 5 [(0, (.c (.int .i32 110))), (1, (.c (.int .i32 111))), (2, (.c (.int .i32 116))), (3, (.c (.int .i32 105))), (4, (.c (.int .i32 116)))]), v 15 (.call (.f 9) [(.t 14)] false), m 13 15, v 16 (.extract (.t 13) 0), v 17 (.extract (.t 13) 1), v 18 (.extract (.t 13) 2), m 4 16, m 5 17, m 6 18]) 
(.seq 
(.region [m 19 2, v 20 (.bin .eql .any (.t 19) (.c (.int .i64 6))), m 21 20, w 22 (.mv (.t 3)) 21 true, v 23 (.pick (.t 21) (.t 22) (.c (.bool false))), m 24 23, w 25 (.mv (.t 5)) 24 true, w 26 (.bin .eql .any (.t 25) (.c (.int .i64 3))) 24 true, v 27 (.pick (.t 24) (.t 26) (.c (.bool false))), m 28 27, w 29 (.mv (.t 6)) 28 true, w 30 (.un .not (.t 29)) 28 true, v 31 (.pick (.t 28) (.t 30) (.c (.bool false))), m 32 31, w 33 (.mv (.t 4)) 32 true, w 34 (.len true (.t 33)) 32 true, w 35 (.bin .eql .any (.t 34) (.c (.int .i64 1))) 32 true, v 36 (.pick (.t 32) (.t 35) (.c (.bool false))), m 37 36, w 38 (.mv (.t 4)) 37 true, w 39 (.iaddr 1 (.t 38) (.c (.int .i64 0))) 37 true, w 40 (.load none (.t 39)) 37 true, w 41 (.bin .eql .any (.t 40) (.c (.int .i32 172))) 37 true, v 42 (.pick (.t 37) (.t 41) (.c (.bool false))), m 0 42]) .ret)))),
 [.tmp 0]⟩
/-- chars.Numeric -/
def c_chars_Numeric : DFunc := ⟨31, 
(.seq 
(.region [v 2 (.mv (.c (.int .i32 0)))]) 
(.seq 
(.block 0 
(.seq 
(.region [m 4 0, v 5 (.bin .leq .any (.t 4) (.c (.int .i64 0))), m 6 5, w 7 (.mv (.t 0)) 6 false, w 8 (.bin .gtr .any (.t 7) (.c (.int .i64 1114111))) 6 false, v 9 (.pick (.t 6) (.c (.bool true)) (.t 8)), m 10 9, w 11 (.mv (.t 0)) 10 false, w 12 (.bin .geq .any (.t 11) (.c (.int .i64 55296))) 10 false, w 13 (.mv (.t 12)) 10 false, w 14 (.mv (.t 0)) 13 true, w 15 (.bin .leq .any (.t 14) (.c (.int .i64 57343))) 13 true, w 16 (.pick (.t 13) (.t 15) (.c (.bool false))) 10 false, v 17 (.pick (.t 10) (.c (.bool true)) (.t 16)), m 3 17]) 
(.cond (.t 3) 
(.seq 
(.region [v 2 (.mv (.c (.int .i32 65533)))]) .ret) 
(.seq 
(.region [m 19 0, v 20 (.bin .geq .any (.t 19) (.c (.int .i64 128))), m 21 20, w 22 (.mv (.t 0)) 21 true, w 23 (.bin .lss .any (.t 22) (.c (.int .i64 160))) 21 true, v 24 (.pick (.t 21) (.t 23) (.c (.bool false))), m 18 24]) 
(.cond (.t 18) 
(.seq 
(.region [m 25 0, v 26 (.bin .sub .any (.t 25) (.c (.int .i64 128))), v 27 (.iaddrArr 1 32 (.g 0) (.t 26)), v 28 (.load none (.t 27)), m 2 28]) .ret) .skip))))) 
(.seq 
(.region [m 29 0, v 30 (.conv (.int .i32) false (.t 29)), m 2 30]) .ret))),
 [.tmp 2]⟩
/-- text.Hex -/
def c_text_Hex : DFunc := ⟨31, 
(.seq 
(.region [v 2 (.mv (.c (.int .i64 0)))]) 
(.seq 
(.block 0 
(.seq 
(.region [m 4 0, v 5 (.call (.f 10) [(.t 4)] false), m 3 5]) 
(.cond (.t 3) 
(.seq 
(.region [m 6 0, v 7 (.bin .sub .any (.t 6) (.c (.int .i32 48))), v 8 (.conv (.int .i64) false (.t 7)), m 2 8]) .ret) 
(.seq 
(.region [m 10 0, v 11 (.bin .geq .any (.t 10) (.c (.int .i32 97))), m 12 11, w 13 (.mv (.t 0)) 12 true, w 14 (.bin .leq .any (.t 13) (.c (.int .i32 102))) 12 true, v 15 (.pick (.t 12) (.t 14) (.c (.bool false))), m 9 15]) 
(.cond (.t 9) 
(.seq 
(.region [m 16 0, v 17 (.bin .sub .any (.t 16) (.c (.int .i32 97))), v 18 (.conv (.int .i64) false (.t 17)), v 19 (.bin .add .any (.t 18) (.c (.int .i64 10))), m 2 19]) .ret) 
(.seq 
(.region [m 21 0, v 22 (.bin .geq .any (.t 21) (.c (.int .i32 65))), m 23 22, w 24 (.mv (.t 0)) 23 true, w 25 (.bin .leq .any (.t 24) (.c (.int .i32 70))) 23 true, v 26 (.pick (.t 23) (.t 25) (.c (.bool false))), m 20 26]) 
(.cond (.t 20) 
(.seq 
(.region [m 27 0, v 28 (.bin .sub .any (.t 27) (.c (.int .i32 65))), v 29 (.conv (.int .i64) false (.t 28)), v 30 (.bin .add .any (.t 29) (.c (.int .i64 10))), m 2 30]) .ret) .skip))))))) 
(.seq 
(.region [v 2 (.mv (.c (.int .i64 (-1))))]) .ret))),
 [.tmp 2]⟩
/-- chars.Number -/
def c_chars_Number : DFunc := ⟨35, 
(.seq 
(.region [v 4 (.mv (.c (.int .i64 0))), v 5 (.mv (.c (.int .i64 0)))]) 
(.seq 
(.region [v 6 (.mv (.c (.int .i64 0))), v 7 (.mv (.c (.int .i64 0)))]) 
(.seq 
(.block 0 
(.loop 
(.seq 
(.seq 
(.region [m 9 7, m 10 0, v 11 (.len true (.t 10)), v 12 (.bin .lss .any (.t 9) (.t 11))]) 
(.cond (.t 12) .skip (.exit 0))) 
(.block 1 
(.seq 
(.region [m 13 0, m 14 7, v 15 (.iaddr 1 (.t 13) (.t 14)), v 16 (.load none (.t 15)), v 17 (.call (.f 7) [(.t 16)] false), m 8 17]) 
(.seq 
(.seq 
(.region [m 18 8, v 19 (.bin .lss .any (.t 18) (.c (.int .i64 0))), m 20 19, w 21 (.mv (.t 8)) 20 false, w 22 (.mv (.t 1)) 20 false, w 23 (.bin .geq .any (.t 21) (.t 22)) 20 false, v 24 (.pick (.t 20) (.c (.bool true)) (.t 23))]) 
(.cond (.t 24) (.exit 0) .skip)) 
(.seq 
(.region [m 25 6, m 26 1, v 27 (.bin .mul .any (.t 25) (.t 26)), m 28 8, v 29 (.bin .add .any (.t 27) (.t 28)), v 30 (.minmax false (.t 29) (.c (.int .i64 1114112))), m 6 30]) 
(.region [m 31 7, v 32 (.bin .add .any (.t 31) (.c (.int .i64 1))), m 7 32])))))))) 
(.seq 
(.region [m 33 6, m 34 7, m 4 33, m 5 34]) .ret)))),
 [.tmp 4, .tmp 5]⟩
/-- chars.Match -/
def c_chars_Match : DFunc := ⟨84, 
(.seq 
(.region [v 2 (.mv (.c (.lst 0 0 []))), v 3 (.mv (.c (.int .i64 0))), v 4 (.mv (.c (.bool false)))]) 
(.seq 
(.region [v 5 (.mv (.c (.int .i64 (-1)))), v 6 (.mv (.c (.int .i64 0))), v 7 (.mv (.c (.bool false)))]) 
(.seq 
(.seq 
(.region [v 13 (.call (.f 11) [] false), v 14 (.len true (.t 13)), v 15 (.mv (.c (.int .i64 0)))]) 
(.block 0 
(.loop 
(.seq 
(.region [v 16 (.bin .lss .any (.t 15) (.t 14))]) 
(.seq 
(.cond (.t 16) .skip (.exit 0)) 
(.seq 
(.block 1 
(.seq 
(.region [m 17 15, v 18 (.iaddr 3 (.t 13) (.t 15)), v 19 (.load (some 3) (.t 18)), v 9 (.alloc [(.str []), (.int .i32 0), (.bool false)] none), m 8 17, u (.store 3 (.t 9) (.t 19))]) 
(.seq 
(.region [v 20 (.faddr 0 (.t 9)), v 21 (.load none (.t 20)), v 22 (.len false (.t 21)), m 10 22]) 
(.seq 
(.seq 
(.region [m 23 10, m 24 0, v 25 (.len true (.t 24)), v 26 (.bin .gtr .any (.t 23) (.t 25)), m 27 26, w 28 (.mv (.t 0)) 27 false, w 29 (.mv (.t 10)) 27 false, w 30 (.slice 1 (.t 28) none (some (.t 29)) none) 27 false, w 31 (.conv .runesStr false (.t 30)) 27 false, w 32 (.faddr 0 (.t 9)) 27 false, w 33 (.load none (.t 32)) 27 false, w 34 (.bin .neq .any (.t 31) (.t 33)) 27 false, v 35 (.pick (.t 27) (.c (.bool true)) (.t 34))]) 
(.cond (.t 35) (.exit 1) .skip)) 
(.seq 
(.region [m 36 10, m 37 0, v 38 (.len true (.t 37)), v 39 (.bin .lss .any (.t 36) (.t 38)), m 40 39, w 41 (.mv (.t 0)) 40 true, w 42 (.mv (.t 10)) 40 true, w 43 (.iaddr 1 (.t 41) (.t 42)) 40 true, w 44 (.load none (.t 43)) 40 true, w 45 (.bin .eql .any (.t 44) (.c (.int .i32 59))) 40 true, v 46 (.pick (.t 40) (.t 45) (.c (.bool false))), m 11 46]) 
(.seq 
(.seq 
(.region [m 47 11]) 
(.cond (.t 47) 
(.region [m 48 10, v 49 (.bin .add .any (.t 48) (.c (.int .i64 1))), m 10 49]) .skip)) 
(.seq 
(.region [m 50 11, m 51 50, w 52 (.faddr 2 (.t 9)) 51 false, w 53 (.load none (.t 52)) 51 false, v 54 (.pick (.t 51) (.c (.bool true)) (.t 53)), m 55 54, w 56 (.mv (.t 10)) 55 true, w 57 (.mv (.t 6)) 55 true, w 58 (.bin .gtr .any (.t 56) (.t 57)) 55 true, v 59 (.pick (.t 55) (.t 58) (.c (.bool false)))]) 
(.cond (.t 59) 
(.region [m 60 8, m 61 10, m 62 11, m 5 60, m 6 61, m 7 62]) .skip)))))))) 
(.region [v 63 (.bin .add .any (.t 15) (.c (.int .i64 1))), m 15 63]))))))) 
(.seq 
(.seq 
(.region [m 64 5, v 65 (.bin .lss .any (.t 64) (.c (.int .i64 0)))]) 
(.cond (.t 65) 
(.seq 
(.region [v 2 (.mv (.c (.lst 0 0 []))), v 3 (.mv (.c (.int .i64 0))), v 4 (.mv (.c (.bool false)))]) .ret) .skip)) 
(.seq 
(.region [v 66 (.call (.f 11) [] false), m 67 5, v 68 (.iaddr 3 (.t 66) (.t 67)), v 69 (.faddr 1 (.t 68)), v 70 (.load none (.t 69)), v 71 (.mks false none (.int .i32 0) 1 [(0, (.t 70))]), m 12 71]) 
(.seq 
(.seq 
(.region [v 72 (.call (.f 11) [] false), m 73 5, v 74 (.iaddr 3 (.t 72) (.t 73)), v 75 (.faddr 0 (.t 74)), v 76 (.load none (.t 75)), v 77 (.bin .eql .any (.t 76) (.c (.str [110, 118, 108, 116])))]) 
(.cond (.t 77) 
(.region [m 78 12, v 79 (.mks false none (.int .i32 0) 1 [(0, (.c (.int .i32 8402)))]), v 80 (.append false none 4 (.t 78) (.t 79)), m 12 80]) .skip)) 
(.seq 
(.region [m 81 12, m 82 6, m 83 7, m 2 81, m 3 82, m 4 83]) .ret))))))),
 [.tmp 2, .tmp 3, .tmp 4]⟩
/-- text.Digit -/
def c_text_Digit : DFunc := ⟨9, 
(.seq 
(.region [v 2 (.mv (.c (.bool false)))]) 
(.seq 
(.region [m 3 0, v 4 (.bin .geq .any (.t 3) (.c (.int .i32 48))), m 5 4, w 6 (.mv (.t 0)) 5 true, w 7 (.bin .leq .any (.t 6) (.c (.int .i32 57))) 5 true, v 8 (.pick (.t 5) (.t 7) (.c (.bool false))), m 2 8]) .ret)),
 [.tmp 2]⟩
/-- chars.table -/
def c_chars_table : DFunc := ⟨63, 
(.seq 
(.region [v 0 (.mv (.c (.lst 0 0 [])))]) 
(.seq 
(.region [v 1 (.build [(.str []), (.int .i32 0), (.bool false)] [(0, 1, (.c (.str [97, 109, 112]))), (1, 1, (.c (.int .i32 38))), (2, 1, (.c (.bool true)))]), v 2 (.build [(.str []), (.int .i32 0), (.bool false)] [(0, 1, (.c (.str [108, 116]))), (1, 1, (.c (.int .i32 60))), (2, 1, (.c (.bool true)))]), v 3 (.build [(.str []), (.int .i32 0), (.bool false)] [(0, 1, (.c (.str [103, 116]))), (1, 1, (.c (.int .i32 62))), (2, 1, (.c (.bool true)))]), v 4 (.build [(.str []), (.int .i32 0), (.bool false)] [(0, 1, (.c (.str [113, 117, 111, 116]))), (1, 1, (.c (.int .i32 34))), (2, 1, (.c (.bool true)))]), v 5 (.build [(.str []), (.int .i32 0), (.bool false)] [(0, 1, (.c (.str [65, 77, 80]))), (1, 1, (.c (.int .i32 38))), (2, 1, (.c (.bool true)))]), v 6 (.build [(.str []), (.int .i32 0), (.bool false)] [(0, 1, (.c (.str [76, 84]))), (1, 1, (.c (.int .i32 60))), (2, 1, (.c (.bool true)))]), v 7 (.build [(.str []), (.int .i32 0), (.bool false)] [(0, 1, (.c (.str [71, 84]))), (1, 1, (.c (.int .i32 62))), (2, 1, (.c (.bool true)))]), v 8 (.build [(.str []), (.int .i32 0), (.bool false)] [(0, 1, (.c (.str [110, 98, 115, 112]))), (1, 1, (.c (.int .i32 160))), (2, 1, (.c (.bool true)))]), v 9 (.build [(.str []), (.int .i32 0), (.bool false)] [(0, 1, (.c (.str [105, 101, 120, 99, 108]))), (1, 1, (.c (.int .i32 161))), (2, 1, (.c (.bool true)))]), v 10 (.build [(.str []), (.int .i32 0), (.bool false)] [(0, 1, (.c (.str [99, 101, 110, 116]))), (1, 1, (.c (.int .i32 162))), (2, 1, (.c (.bool true)))]), v 11 (.build [(.str []), (.int .i32 0), (.bool false)] [(0, 1, (.c (.str [112, 111, 117, 110, 100]))), (1, 1, (.c (.int .i32 163))), (2, 1, (.c (.bool true)))]), v 12 (.build [(.str []), (.int .i32 0), (.bool false)] [(0, 1, (.c (.str [121, 101, 110]))), (1, 1, (.c (.int .i32 165))), (2, 1, (.c (.bool true)))]), v 13 (.build [(.str []), (.int .i32 0), (.bool false)] [(0, 1, (.c (.str [115, 101, 99, 116]))), (1, 1, (.c (.int .i32 167))), (2, 1, (.c (.bool true)))]), v 14 (.build [(.str []), (.int .i32 0), (.bool false)] [(0, 1, (.c (.str [99, 111, 112, 121]))), (1, 1, (.c (.int .i32 169))), (2, 1, (.c (.bool true)))]), v 15 (.build [(.str []), (.int .i32 0), (.bool false)] [(0, 1, (.c (.str [108, 97, 113, 117, 111]))), (1, 1, (.c (.int .i32 171))), (2, 1, (.c (.bool true)))]), v 16 (.build [(.str []), (.int .i32 0), (.bool false)] [(0, 1, (.c (.str [110, 111, 116]))), (1, 1, (.c (.int .i32 172))), (2, 1, (.c (.bool true)))]), v 17 (.build [(.str []), (.int .i32 0), (.bool false)] [(0, 1, (.c (.str [115, 104, 121]))), (1, 1, (.c (.int .i32 173))), (2, 1, (.c (.bool true)))]), v 18 (.build [(.str []), (.int .i32 0), (.bool false)] [(0, 1, (.c (.str [114, 101, 103]))), (1, 1, (.c (.int .i32 174))), (2, 1, (.c (.bool true)))]), v 19 (.build [(.str []), (.int .i32 0), (.bool false)] [(0, 1, (.c (.str [100, 101, 103]))), (1, 1, (.c (.int .i32 176))), (2, 1, (.c (.bool true)))]), v 20 (.build [(.str []), (.int .i32 0), (.bool false)] [(0, 1, (.c (.str [112, 108, 117, 115, 109, 110]))), (1, 1, (.c (.int .i32 177))), (2, 1, (.c (.bool true)))]), v 21 (.build [(.str []), (.int .i32 0), (.bool false)] [(0, 1, (.c (.str [115, 117, 112, 50]))), (1, 1, (.c (.int .i32 178))), (2, 1, (.c (.bool true)))]), v 22 (.build [(.str []), (.int .i32 0), (.bool false)] [(0, 1, (.c (.str [109, 105, 99, 114, 111]))), (1, 1, (.c (.int .i32 181))), (2, 1, (.c (.bool true)))]), v 23 (.build [(.str []), (.int .i32 0), (.bool false)] [(0, 1, (.c (.str [112, 97, 114, 97]))), (1, 1, (.c (.int .i32 182))), (2, 1, (.c (.bool true)))]), v 24 (.build [(.str []), (.int .i32 0), (.bool false)] [(0, 1, (.c (.str [109, 105, 100, 100, 111, 116]))), (1, 1, (.c (.int .i32 183))), (2, 1, (.c (.bool true)))]), v 25 (.build [(.str []), (.int .i32 0), (.bool false)] [(0, 1, (.c (.str [114, 97, 113, 117, 111]))), (1, 1, (.c (.int .i32 187))), (2, 1, (.c (.bool true)))]), v 26 (.build [(.str []), (.int .i32 0), (.bool false)] [(0, 1, (.c (.str [102, 114, 97, 99, 49, 50]))), (1, 1, (.c (.int .i32 189))), (2, 1, (.c (.bool true)))]), v 27 (.build [(.str []), (.int .i32 0), (.bool false)] [(0, 1, (.c (.str [105, 113, 117, 101, 115, 116]))), (1, 1, (.c (.int .i32 191))), (2, 1, (.c (.bool true)))]), v 28 (.build [(.str []), (.int .i32 0), (.bool false)] [(0, 1, (.c (.str [65, 117, 109, 108]))), (1, 1, (.c (.int .i32 196))), (2, 1, (.c (.bool true)))]), v 29 (.build [(.str []), (.int .i32 0), (.bool false)] [(0, 1, (.c (.str [69, 97, 99, 117, 116, 101]))), (1, 1, (.c (.int .i32 201))), (2, 1, (.c (.bool true)))]), v 30 (.build [(.str []), (.int .i32 0), (.bool false)] [(0, 1, (.c (.str [79, 117, 109, 108]))), (1, 1, (.c (.int .i32 214))), (2, 1, (.c (.bool true)))]), v 31 (.build [(.str []), (.int .i32 0), (.bool false)] [(0, 1, (.c (.str [116, 105, 109, 101, 115]))), (1, 1, (.c (.int .i32 215))), (2, 1, (.c (.bool true)))]), v 32 (.build [(.str []), (.int .i32 0), (.bool false)] [(0, 1, (.c (.str [85, 117, 109, 108]))), (1, 1, (.c (.int .i32 220))), (2, 1, (.c (.bool true)))]), v 33 (.build [(.str []), (.int .i32 0), (.bool false)] [(0, 1, (.c (.str [115, 122, 108, 105, 103]))), (1, 1, (.c (.int .i32 223))), (2, 1, (.c (.bool true)))]), v 34 (.build [(.str []), (.int .i32 0), (.bool false)] [(0, 1, (.c (.str [97, 103, 114, 97, 118, 101]))), (1, 1, (.c (.int .i32 224))), (2, 1, (.c (.bool true)))]), v 35 (.build [(.str []), (.int .i32 0), (.bool false)] [(0, 1, (.c (.str [97, 117, 109, 108]))), (1, 1, (.c (.int .i32 228))), (2, 1, (.c (.bool true)))]), v 36 (.build [(.str []), (.int .i32 0), (.bool false)] [(0, 1, (.c (.str [99, 99, 101, 100, 105, 108]))), (1, 1, (.c (.int .i32 231))), (2, 1, (.c (.bool true)))]), v 37 (.build [(.str []), (.int .i32 0), (.bool false)] [(0, 1, (.c (.str [101, 97, 99, 117, 116, 101]))), (1, 1, (.c (.int .i32 233))), (2, 1, (.c (.bool true)))]), v 38 (.build [(.str []), (.int .i32 0), (.bool false)] [(0, 1, (.c (.str [110, 116, 105, 108, 100, 101]))), (1, 1, (.c (.int .i32 241))), (2, 1, (.c (.bool true)))]), v 39 (.build [(.str []), (.int .i32 0), (.bool false)] [(0, 1, (.c (.str [111, 117, 109, 108]))), (1, 1, (.c (.int .i32 246))), (2, 1, (.c (.bool true)))]), v 40 (.build [(.str []), (.int .i32 0), (.bool false)] [(0, 1, (.c (.str [100, 105, 118, 105, 100, 101]))), (1, 1, (.c (.int .i32 247))), (2, 1, (.c (.bool true)))]), v 41 (.build [(.str []), (.int .i32 0), (.bool false)] [(0, 1, (.c (.str [117, 117, 109, 108]))), (1, 1, (.c (.int .i32 252))), (2, 1, (.c (.bool true)))]), v 42 (.build [(.str []), (.int .i32 0), (.bool false)] [(0, 1, (.c (.str [97, 112, 111, 115]))), (1, 1, (.c (.int .i32 39))), (2, 1, (.c (.bool false)))]), v 43 (.build [(.str []), (.int .i32 0), (.bool false)] [(0, 1, (.c (.str [104, 101, 108, 108, 105, 112]))), (1, 1, (.c (.int .i32 8230))), (2, 1, (.c (.bool false)))]), v 44 (.build [(.str []), (.int .i32 0), (.bool false)] [(0, 1, (.c (.str [109, 100, 97, 115, 104]))), (1, 1, (.c (.int .i32 8212))), (2, 1, (.c (.bool false)))]), v 45 (.build [(.str []), (.int .i32 0), (.bool false)] [(0, 1, (.c (.str [110, 100, 97, 115, 104]))), (1, 1, (.c (.int .i32 8211))), (2, 1, (.c (.bool false)))]), v 46 (.build [(.str []), (.int .i32 0), (.bool false)] [(0, 1, (.c (.str [101, 117, 114, 111]))), (1, 1, (.c (.int .i32 8364))), (2, 1, (.c (.bool false)))]), v 47 (.build [(.str []), (.int .i32 0), (.bool false)] [(0, 1, (.c (.str [116, 114, 97, 100, 101]))), (1, 1, (.c (.int .i32 8482))), (2, 1, (.c (.bool false)))]), v 48 (.build [(.str []), (.int .i32 0), (.bool false)] [(0, 1, (.c (.str [108, 97, 114, 114]))), (1, 1, (.c (.int .i32 8592))), (2, 1, (.c (.bool false)))]), v 49 (.build [(.str []), (.int .i32 0), (.bool false)] [(0, 1, (.c (.str [114, 97, 114, 114]))), (1, 1, (.c (.int .i32 8594))), (2, 1, (.c (.bool false)))]), v 50 (.build [(.str []), (.int .i32 0), (.bool false)] [(0, 1, (.c (.str [110, 111, 116, 105, 110]))), (1, 1, (.c (.int .i32 8713))), (2, 1, (.c (.bool false)))]), v 51 (.build [(.str []), (.int .i32 0), (.bool false)] [(0, 1, (.c (.str [97, 108, 112, 104, 97]))), (1, 1, (.c (.int .i32 945))), (2, 1, (.c (.bool false)))]), v 52 (.build [(.str []), (.int .i32 0), (.bool false)] [(0, 1, (.c (.str [111, 109, 101, 103, 97]))), (1, 1, (.c (.int .i32 969))), (2, 1, (.c (.bool false)))]), v 53 (.build [(.str []), (.int .i32 0), (.bool false)] [(0, 1, (.c (.str [105, 110, 102, 105, 110]))), (1, 1, (.c (.int .i32 8734))), (2, 1, (.c (.bool false)))]), v 54 (.build [(.str []), (.int .i32 0), (.bool false)] [(0, 1, (.c (.str [98, 117, 108, 108]))), (1, 1, (.c (.int .i32 8226))), (2, 1, (.c (.bool false)))]), v 55 (.build [(.str []), (.int .i32 0), (.bool false)] [(0, 1, (.c (.str [108, 115, 113, 117, 111]))), (1, 1, (.c (.int .i32 8216))), (2, 1, (.c (.bool false)))]), v 56 (.build [(.str []), (.int .i32 0), (.bool false)] [(0, 1, (.c (.str [114, 115, 113, 117, 111]))), (1, 1, (.c (.int .i32 8217))), (2, 1, (.c (.bool false)))]), v 57 (.build [(.str []), (.int .i32 0), (.bool false)] [(0, 1, (.c (.str [108, 100, 113, 117, 111]))), (1, 1, (.c (.int .i32 8220))), (2, 1, (.c (.bool false)))]), v 58 (.build [(.str []), (.int .i32 0), (.bool false)] [(0, 1, (.c (.str [114, 100, 113, 117, 111]))), (1, 1, (.c (.int .i32 8221))), (2, 1, (.c (.bool false)))]), v 59 (.build [(.str []), (.int .i32 0), (.bool false)] [(0, 1, (.c (.str [110, 101]))), (1, 1, (.c (.int .i32 8800))), (2, 1, (.c (.bool false)))]), v 60 (.build [(.str []), (.int .i32 0), (.bool false)] [(0, 1, (.c (.str [108, 101]))), (1, 1, (.c (.int .i32 8804))), (2, 1, (.c (.bool false)))]), v 61 (.build [(.str []), (.int .i32 0), (.bool false)] [(0, 1, (.c (.str [110, 118, 108, 116]))), (1, 1, (.c (.int .i32 60))), (2, 1, (.c (.bool false)))]), v 62 (.mks false (some 3) (.agg [(.str []), (.int .i32 0), (.bool false)]) 61 [(0, (.t 1)), (1, (.t 2)), (2, (.t 3)), (3, (.t 4)), (4, (.t 5)), (5, (.t 6)), (6, (.t 7)), (7, (.t 8)), (8, (.t 9)), (9, (.t 10)), (10, (.t 11)), (11, (.t 12)), (12, (.t 13)), (13, (.t 14)), (14, (.t 15)), (15, (.t 16)), (16, (.t 17)), (17, (.t 18)), (18, (.t 19)), (19, (.t 20)), (20, (.t 21)), (21, (.t 22)), (22, (.t 23)), (23, (.t 24)), (24, (.t 25)), (25, (.t 26)), (26, (.t 27)), (27, (.t 28)), (28, (.t 29)), (29, (.t 30)), (30, (.t 31)), (31, (.t 32)), (32, (.t 33)), (33, (.t 34)), (34, (.t 35)), (35, (.t 36)), (36, (.t 37)), (37, (.t 38)), (38, (.t 39)), (39, (.t 40)), (40, (.t 41)), (41, (.t 42)), (42, (.t 43)), (43, (.t 44)), (44, (.t 45)), (45, (.t 46)), (46, (.t 47)), (47, (.t 48)), (48, (.t 49)), (49, (.t 50)), (50, (.t 51)), (51, (.t 52)), (52, (.t 53)), (53, (.t 54)), (54, (.t 55)), (55, (.t 56)), (56, (.t 57)), (57, (.t 58)), (58, (.t 59)), (59, (.t 60)), (60, (.t 61))]), m 0 62]) .ret)),
 [.tmp 0]⟩
theorem ok_woodcutlaw02_CharsNumeric : compF Tryd.prog cfg1 3 = some c_woodcutlaw02_CharsNumeric := by kernel_rfl
theorem ok_woodcutlaw02_CharsNumbers : compF Tryd.prog cfg1 4 = some c_woodcutlaw02_CharsNumbers := by kernel_rfl
theorem ok_woodcutlaw02_head : compF Tryd.prog cfg1 5 = some c_woodcutlaw02_head := by kernel_rfl
theorem ok_chars_Numeric : compF Tryd.prog cfg1 6 = some c_chars_Numeric := by kernel_rfl
theorem ok_text_Hex : compF Tryd.prog cfg1 7 = some c_text_Hex := by kernel_rfl
theorem ok_chars_Number : compF Tryd.prog cfg1 8 = some c_chars_Number := by kernel_rfl
theorem ok_chars_Match : compF Tryd.prog cfg1 9 = some c_chars_Match := by kernel_rfl
theorem ok_text_Digit : compF Tryd.prog cfg1 10 = some c_text_Digit := by kernel_rfl
theorem ok_chars_table : compF Tryd.prog cfg1 11 = some c_chars_table := by kernel_rfl
end Go.Proofs.YtjhednolknlpiaaDoor.Code
