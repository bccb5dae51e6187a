/- Functions of the program as code of the D-machine (1): PRINTED BY PROGRAM; each is checked to be what the program's own compiles to. -/
import Derived.Test.YtjhednolknlpiaaChecked
import Derived.Test.YtjhednolknlpiaaDmRf
import Derived.KernelRfl
namespace Go.Proofs.Ytjhednolknlpiaa.Code
set_option linter.unusedSimpArgs false
set_option linter.unusedVariables false
open Go.Dm Go.Dm.C
def cfg1 : Cfg := ⟨fun t => [].contains t, fun f => [6, 8, 11].contains f⟩
/-- woodcutlaw02.CharsNames -/
def c_woodcutlaw02_CharsNames : DFunc := ⟨142, 
(.seq 
(.region [v 2 (.mv (.c (.bool false)))]) 
(.seq 
(.seq 
(.region [v 12 (.call (.f 5) [] false), v 13 (.un .not (.t 12))]) 
(.cond (.t 13) 
(.seq 
(.region [v 2 (.mv (.c (.bool false)))]) .ret) .skip)) 
(.seq 
(.seq 
(.region [m 14 0, v 15 (.len true (.t 14)), v 16 (.bin .gtr .any (.t 15) (.c (.int .i64 20)))]) 
(.cond (.t 16) 
(.seq 
(.region [v 2 (.mv (.c (.bool true)))]) .ret) .skip)) 
(.seq 
(.region [v 17 (.call (.f 6) [] true), m 3 17]) 
(.seq 
(.seq 
(.region [m 18 3, v 19 (.len true (.t 18)), v 20 (.bin .neq .any (.t 19) (.c (.int .i64 61))), m 21 20, w 22 (.mv (.t 3)) 21 false, w 23 (.iaddr 3 (.t 22) (.c (.int .i64 0))) 21 false, w 24 (.faddr 0 (.t 23)) 21 false, w 25 (.load none (.t 24)) 21 false, w 26 (.bin .neq .any (.t 25) (.c (.str [65, 77, 80]))) 21 false, v 27 (.pick (.t 21) (.c (.bool true)) (.t 26))]) 
(.cond (.t 27) 
(.seq 
(.region [v 2 (.mv (.c (.bool false)))]) .ret) .skip)) 
(.seq 
(.seq 
(.region [m 28 3, v 29 (.len true (.t 28)), v 30 (.mv (.c (.int .i64 0)))]) 
(.block 0 
(.loop 
(.seq 
(.region [v 31 (.bin .lss .any (.t 30) (.t 29))]) 
(.seq 
(.cond (.t 31) .skip (.exit 0)) 
(.seq 
(.block 1 
(.seq 
(.region [m 32 30, v 33 (.iaddr 3 (.t 28) (.t 30)), v 34 (.load (some 3) (.t 33)), v 5 (.alloc [(.str []), (.int .i32 0), (.bool false)] none), m 4 32, u (.store 3 (.t 5) (.t 34))]) 
(.seq 
(.seq 
(.region [m 35 4, v 36 (.bin .gtr .any (.t 35) (.c (.int .i64 0))), m 37 36, w 38 (.mv (.t 3)) 37 true, w 39 (.mv (.t 4)) 37 true, w 40 (.bin .sub .any (.t 39) (.c (.int .i64 1))) 37 true, w 41 (.iaddr 3 (.t 38) (.t 40)) 37 true, w 42 (.faddr 0 (.t 41)) 37 true, w 43 (.load none (.t 42)) 37 true, w 44 (.faddr 0 (.t 5)) 37 true, w 45 (.load none (.t 44)) 37 true, w 46 (.bin .geq .any (.t 43) (.t 45)) 37 true, v 47 (.pick (.t 37) (.t 46) (.c (.bool false)))]) 
(.cond (.t 47) 
(.seq 
(.region [v 2 (.mv (.c (.bool false)))]) .ret) .skip)) 
(.seq 
(.region [v 48 (.mks false none (.int .i32 0) 0 []), m 6 48]) 
(.seq 
(.seq 
(.region [v 49 (.faddr 0 (.t 5)), v 50 (.load none (.t 49)), v 51 (.conv .strBytes false (.t 50)), v 52 (.len true (.t 51)), v 53 (.mv (.c (.int .i64 0)))]) 
(.block 2 
(.loop 
(.seq 
(.region [v 54 (.bin .lss .any (.t 53) (.t 52))]) 
(.seq 
(.cond (.t 54) .skip (.exit 2)) 
(.seq 
(.block 3 
(.seq 
(.region [v 55 (.iaddr 1 (.t 51) (.t 53)), v 56 (.load none (.t 55)), m 8 56]) 
(.region [m 57 6, m 58 8, v 59 (.conv (.int .i32) false (.t 58)), v 60 (.mks false none (.int .i32 0) 1 [(0, (.t 59))]), v 61 (.append false none 4 (.t 57) (.t 60)), m 6 61]))) 
(.region [v 62 (.bin .add .any (.t 53) (.c (.int .i64 1))), m 53 62]))))))) 
(.seq 
(.region [m 63 6, v 64 (.mks false none (.int .i32 0) 1 [(0, (.c (.int .i32 59)))]), v 65 (.append false none 4 (.t 63) (.t 64)), m 6 65]) 
(.seq 
(.region [v 67 (.mks false none (.int .i32 0) 0 []), m 68 6, v 69 (.append false none 4 (.t 67) (.t 68)), m 70 0, v 71 (.append false none 4 (.t 69) (.t 70)), v 72 (.call (.f 7) [(.t 71)] false), m 66 72, v 73 (.extract (.t 66) 0), v 74 (.extract (.t 66) 1), v 75 (.extract (.t 66) 2), m 9 73, m 10 74, m 11 75]) 
(.seq 
(.seq 
(.region [m 76 10, m 77 6, v 78 (.len true (.t 77)), v 79 (.bin .neq .any (.t 76) (.t 78)), m 80 79, w 81 (.mv (.t 11)) 80 false, w 82 (.un .not (.t 81)) 80 false, v 83 (.pick (.t 80) (.c (.bool true)) (.t 82)), m 84 83, w 85 (.mv (.t 9)) 84 false, w 86 (.len true (.t 85)) 84 false, w 87 (.bin .lss .any (.t 86) (.c (.int .i64 1))) 84 false, v 88 (.pick (.t 84) (.c (.bool true)) (.t 87)), m 89 88, w 90 (.mv (.t 9)) 89 false, w 91 (.iaddr 1 (.t 90) (.c (.int .i64 0))) 89 false, w 92 (.load none (.t 91)) 89 false, w 93 (.faddr 1 (.t 5)) 89 false, w 94 (.load none (.t 93)) 89 false, w 95 (.bin .neq .any (.t 92) (.t 94)) 89 false, v 96 (.pick (.t 89) (.c (.bool true)) (.t 95)), m 97 96, w 98 (.mv (.t 9)) 97 false, w 99 (.len true (.t 98)) 97 false, w 100 (.bin .neq .any (.t 99) (.c (.int .i64 1))) 97 false, w 101 (.mv (.t 100)) 97 false, w 102 (.faddr 0 (.t 5)) 101 true, w 103 (.load none (.t 102)) 101 true, w 104 (.bin .neq .any (.t 103) (.c (.str [110, 118, 108, 116]))) 101 true, w 105 (.pick (.t 101) (.t 104) (.c (.bool false))) 97 false, v 106 (.pick (.t 97) (.c (.bool true)) (.t 105))]) 
(.cond (.t 106) 
(.seq 
(.region [v 2 (.mv (.c (.bool false)))]) .ret) .skip)) 
(.seq 
(.region [m 108 6, m 109 6, v 110 (.len true (.t 109)), v 111 (.bin .sub .any (.t 110) (.c (.int .i64 1))), v 112 (.slice 1 (.t 108) none (some (.t 111)) none), v 113 (.call (.f 7) [(.t 112)] false), m 107 113, v 114 (.extract (.t 107) 0), v 115 (.extract (.t 107) 1), v 116 (.extract (.t 107) 2), m 10 115, m 11 116]) 
(.seq 
(.region [m 117 11, m 118 117, w 119 (.faddr 2 (.t 5)) 118 false, w 120 (.load none (.t 119)) 118 false, w 121 (.mv (.t 120)) 118 false, w 122 (.mv (.t 10)) 121 true, w 123 (.mv (.t 6)) 121 true, w 124 (.len true (.t 123)) 121 true, w 125 (.bin .sub .any (.t 124) (.c (.int .i64 1))) 121 true, w 126 (.bin .neq .any (.t 122) (.t 125)) 121 true, w 127 (.pick (.t 121) (.t 126) (.c (.bool false))) 118 false, v 128 (.pick (.t 118) (.c (.bool true)) (.t 127)), m 129 128, w 130 (.faddr 2 (.t 5)) 129 false, w 131 (.load none (.t 130)) 129 false, w 132 (.un .not (.t 131)) 129 false, w 133 (.mv (.t 132)) 129 false, w 134 (.mv (.t 10)) 133 true, w 135 (.mv (.t 6)) 133 true, w 136 (.len true (.t 135)) 133 true, w 137 (.bin .sub .any (.t 136) (.c (.int .i64 1))) 133 true, w 138 (.bin .eql .any (.t 134) (.t 137)) 133 true, w 139 (.pick (.t 133) (.t 138) (.c (.bool false))) 129 false, v 140 (.pick (.t 129) (.c (.bool true)) (.t 139))]) 
(.cond (.t 140) 
(.seq 
(.region [v 2 (.mv (.c (.bool false)))]) .ret) .skip))))))))))) 
(.region [v 141 (.bin .add .any (.t 30) (.c (.int .i64 1))), m 30 141]))))))) 
(.seq 
(.region [v 2 (.mv (.c (.bool true)))]) .ret))))))),
 [.tmp 2]⟩
/-- woodcutlaw02.CharsMatches -/
def c_woodcutlaw02_CharsMatches : DFunc := ⟨122, 
(.seq 
(.region [v 2 (.mv (.c (.bool false)))]) 
(.seq 
(.seq 
(.region [v 12 (.call (.f 5) [] false), v 13 (.un .not (.t 12))]) 
(.cond (.t 13) 
(.seq 
(.region [v 2 (.mv (.c (.bool false)))]) .ret) .skip)) 
(.seq 
(.seq 
(.region [m 14 0, v 15 (.len true (.t 14)), v 16 (.bin .gtr .any (.t 15) (.c (.int .i64 40)))]) 
(.cond (.t 16) 
(.seq 
(.region [v 2 (.mv (.c (.bool true)))]) .ret) .skip)) 
(.seq 
(.region [v 3 (.mv (.c (.int .i64 0)))]) 
(.seq 
(.region [v 4 (.mv (.c (.int .i32 0)))]) 
(.seq 
(.region [v 5 (.mv (.c (.bool false)))]) 
(.seq 
(.seq 
(.region [v 17 (.call (.f 6) [] true), v 18 (.len true (.t 17)), v 19 (.mv (.c (.int .i64 0)))]) 
(.block 0 
(.loop 
(.seq 
(.region [v 20 (.bin .lss .any (.t 19) (.t 18))]) 
(.seq 
(.cond (.t 20) .skip (.exit 0)) 
(.seq 
(.block 1 
(.seq 
(.region [v 21 (.iaddr 3 (.t 17) (.t 19)), v 22 (.load (some 3) (.t 21)), v 7 (.alloc [(.str []), (.int .i32 0), (.bool false)] none), u (.store 3 (.t 7) (.t 22))]) 
(.seq 
(.region [v 8 (.mv (.c (.int .i64 0)))]) 
(.seq 
(.block 2 
(.loop 
(.seq 
(.seq 
(.region [m 23 8, v 24 (.faddr 0 (.t 7)), v 25 (.load none (.t 24)), v 26 (.len false (.t 25)), v 27 (.bin .lss .any (.t 23) (.t 26)), m 28 27, w 29 (.mv (.t 8)) 28 true, w 30 (.mv (.t 0)) 28 true, w 31 (.len true (.t 30)) 28 true, w 32 (.bin .lss .any (.t 29) (.t 31)) 28 true, v 33 (.pick (.t 28) (.t 32) (.c (.bool false))), m 34 33, w 35 (.mv (.t 0)) 34 true, w 36 (.mv (.t 8)) 34 true, w 37 (.iaddr 1 (.t 35) (.t 36)) 34 true, w 38 (.load none (.t 37)) 34 true, w 39 (.faddr 0 (.t 7)) 34 true, w 40 (.load none (.t 39)) 34 true, w 41 (.mv (.t 8)) 34 true, w 42 (.idxStr (.t 40) (.t 41)) 34 true, w 43 (.conv (.int .i32) false (.t 42)) 34 true, w 44 (.bin .eql .any (.t 38) (.t 43)) 34 true, v 45 (.pick (.t 34) (.t 44) (.c (.bool false)))]) 
(.cond (.t 45) .skip (.exit 2))) 
(.block 3 
(.region [m 46 8, v 47 (.bin .add .any (.t 46) (.c (.int .i64 1))), m 8 47]))))) 
(.seq 
(.seq 
(.region [m 48 8, v 49 (.faddr 0 (.t 7)), v 50 (.load none (.t 49)), v 51 (.len false (.t 50)), v 52 (.bin .lss .any (.t 48) (.t 51))]) 
(.cond (.t 52) (.exit 1) .skip)) 
(.seq 
(.region [m 53 8, m 54 0, v 55 (.len true (.t 54)), v 56 (.bin .lss .any (.t 53) (.t 55)), m 57 56, w 58 (.mv (.t 0)) 57 true, w 59 (.mv (.t 8)) 57 true, w 60 (.iaddr 1 (.t 58) (.t 59)) 57 true, w 61 (.load none (.t 60)) 57 true, w 62 (.bin .eql .any (.t 61) (.c (.int .i32 59))) 57 true, v 63 (.pick (.t 57) (.t 62) (.c (.bool false)))]) 
(.cond (.t 63) 
(.seq 
(.region [m 64 8, v 65 (.bin .add .any (.t 64) (.c (.int .i64 1))), m 66 3, v 67 (.bin .gtr .any (.t 65) (.t 66))]) 
(.cond (.t 67) 
(.seq 
(.region [m 68 8, v 69 (.bin .add .any (.t 68) (.c (.int .i64 1))), m 3 69]) 
(.seq 
(.region [v 70 (.faddr 1 (.t 7)), v 71 (.load none (.t 70)), m 4 71]) 
(.region [v 5 (.mv (.c (.bool true)))]))) .skip)) 
(.seq 
(.region [v 72 (.faddr 2 (.t 7)), v 73 (.load none (.t 72)), m 74 73, w 75 (.mv (.t 8)) 74 true, w 76 (.mv (.t 3)) 74 true, w 77 (.bin .gtr .any (.t 75) (.t 76)) 74 true, v 78 (.pick (.t 74) (.t 77) (.c (.bool false)))]) 
(.cond (.t 78) 
(.seq 
(.region [m 79 8, m 3 79]) 
(.seq 
(.region [v 80 (.faddr 1 (.t 7)), v 81 (.load none (.t 80)), m 4 81]) 
(.region [v 5 (.mv (.c (.bool false)))]))) .skip))))))))) 
(.region [v 82 (.bin .add .any (.t 19) (.c (.int .i64 1))), m 19 82]))))))) 
(.seq 
(.region [m 84 0, v 85 (.call (.f 7) [(.t 84)] false), m 83 85, v 86 (.extract (.t 83) 0), v 87 (.extract (.t 83) 1), v 88 (.extract (.t 83) 2), m 9 86, m 10 87, m 11 88]) 
(.seq 
(.seq 
(.region [m 89 3, v 90 (.bin .eql .any (.t 89) (.c (.int .i64 0)))]) 
(.cond (.t 90) 
(.seq 
(.region [m 91 10, v 92 (.bin .eql .any (.t 91) (.c (.int .i64 0))), m 93 92, w 94 (.mv (.t 9)) 93 true, w 95 (.len true (.t 94)) 93 true, w 96 (.bin .eql .any (.t 95) (.c (.int .i64 0))) 93 true, v 97 (.pick (.t 93) (.t 96) (.c (.bool false))), m 98 97, w 99 (.mv (.t 11)) 98 true, w 100 (.un .not (.t 99)) 98 true, v 101 (.pick (.t 98) (.t 100) (.c (.bool false))), m 2 101]) .ret) .skip)) 
(.seq 
(.region [m 102 10, m 103 3, v 104 (.bin .eql .any (.t 102) (.t 103)), m 105 104, w 106 (.mv (.t 11)) 105 true, w 107 (.mv (.t 5)) 105 true, w 108 (.bin .eql .bool (.t 106) (.t 107)) 105 true, v 109 (.pick (.t 105) (.t 108) (.c (.bool false))), m 110 109, w 111 (.mv (.t 9)) 110 true, w 112 (.len true (.t 111)) 110 true, w 113 (.bin .geq .any (.t 112) (.c (.int .i64 1))) 110 true, v 114 (.pick (.t 110) (.t 113) (.c (.bool false))), m 115 114, w 116 (.mv (.t 9)) 115 true, w 117 (.iaddr 1 (.t 116) (.c (.int .i64 0))) 115 true, w 118 (.load none (.t 117)) 115 true, w 119 (.mv (.t 4)) 115 true, w 120 (.bin .eql .any (.t 118) (.t 119)) 115 true, v 121 (.pick (.t 115) (.t 120) (.c (.bool false))), m 2 121]) .ret)))))))))),
 [.tmp 2]⟩
/-- woodcutlaw02.head -/
def c_woodcutlaw02_head : DFunc := ⟨43, 
(.seq 
(.region [v 0 (.mv (.c (.bool false)))]) 
(.seq 
(.region [v 8 (.mks false none (.int .i32 0) 6 [(0, (.c (.int .i32 110))), (1, (.c (.int .i32 111))), (2, (.c (.int .i32 116))), (3, (.c (.int .i32 105))), (4, (.c (.int .i32 110))), (5, (.c (.int .i32 59)))]), v 9 (.call (.f 7) [(.t 8)] false), m 7 9, v 10 (.extract (.t 7) 0), v 11 (.extract (.t 7) 1), v 12 (.extract (.t 7) 2), m 1 10, m 2 11, m 3 12]) 
(.seq 
(.region [v 14 (.mks false none (.int .i32 0) 5 [(0, (.c (.int .i32 110))), (1, (.c (.int .i32 111))), (2, (.c (.int .i32 116))), (3, (.c (.int .i32 105))), (4, (.c (.int .i32 116)))]), v 15 (.call (.f 7) [(.t 14)] false), m 13 15, v 16 (.extract (.t 13) 0), v 17 (.extract (.t 13) 1), v 18 (.extract (.t 13) 2), m 4 16, m 5 17, m 6 18]) 
(.seq 
(.region [m 19 2, v 20 (.bin .eql .any (.t 19) (.c (.int .i64 6))), m 21 20, w 22 (.mv (.t 3)) 21 true, v 23 (.pick (.t 21) (.t 22) (.c (.bool false))), m 24 23, w 25 (.mv (.t 5)) 24 true, w 26 (.bin .eql .any (.t 25) (.c (.int .i64 3))) 24 true, v 27 (.pick (.t 24) (.t 26) (.c (.bool false))), m 28 27, w 29 (.mv (.t 6)) 28 true, w 30 (.un .not (.t 29)) 28 true, v 31 (.pick (.t 28) (.t 30) (.c (.bool false))), m 32 31, w 33 (.mv (.t 4)) 32 true, w 34 (.len true (.t 33)) 32 true, w 35 (.bin .eql .any (.t 34) (.c (.int .i64 1))) 32 true, v 36 (.pick (.t 32) (.t 35) (.c (.bool false))), m 37 36, w 38 (.mv (.t 4)) 37 true, w 39 (.iaddr 1 (.t 38) (.c (.int .i64 0))) 37 true, w 40 (.load none (.t 39)) 37 true, w 41 (.bin .eql .any (.t 40) (.c (.int .i32 172))) 37 true, v 42 (.pick (.t 37) (.t 41) (.c (.bool false))), m 0 42]) .ret)))),
 [.tmp 0]⟩
/-- chars.Names -/
def c_chars_Names : DFunc := ⟨7, 
(.seq 
(.region [v 0 (.mv (.c (.lst 0 0 [])))]) 
(.seq 
(.region [v 2 (.call (.f 9) [] false), v 3 (.call (.f 8) [(.t 2)] false), m 1 3]) 
(.seq 
(.region [m 4 1, v 5 (.call (.f 10) [(.t 4), (.f 11)] false)]) 
(.seq 
(.region [m 6 1, m 0 6]) .ret)))),
 [.tmp 0]⟩
/-- chars.Match -/
def c_chars_Match : DFunc := ⟨84, 
(.seq 
(.region [v 2 (.mv (.c (.lst 0 0 []))), v 3 (.mv (.c (.int .i64 0))), v 4 (.mv (.c (.bool false)))]) 
(.seq 
(.region [v 5 (.mv (.c (.int .i64 (-1)))), v 6 (.mv (.c (.int .i64 0))), v 7 (.mv (.c (.bool false)))]) 
(.seq 
(.seq 
(.region [v 13 (.call (.f 9) [] false), v 14 (.len true (.t 13)), v 15 (.mv (.c (.int .i64 0)))]) 
(.block 0 
(.loop 
(.seq 
(.region [v 16 (.bin .lss .any (.t 15) (.t 14))]) 
(.seq 
(.cond (.t 16) .skip (.exit 0)) 
(.seq 
(.block 1 
(.seq 
(.region [m 17 15, v 18 (.iaddr 3 (.t 13) (.t 15)), v 19 (.load (some 3) (.t 18)), v 9 (.alloc [(.str []), (.int .i32 0), (.bool false)] none), m 8 17, u (.store 3 (.t 9) (.t 19))]) 
(.seq 
(.region [v 20 (.faddr 0 (.t 9)), v 21 (.load none (.t 20)), v 22 (.len false (.t 21)), m 10 22]) 
(.seq 
(.seq 
(.region [m 23 10, m 24 0, v 25 (.len true (.t 24)), v 26 (.bin .gtr .any (.t 23) (.t 25)), m 27 26, w 28 (.mv (.t 0)) 27 false, w 29 (.mv (.t 10)) 27 false, w 30 (.slice 1 (.t 28) none (some (.t 29)) none) 27 false, w 31 (.conv .runesStr false (.t 30)) 27 false, w 32 (.faddr 0 (.t 9)) 27 false, w 33 (.load none (.t 32)) 27 false, w 34 (.bin .neq .any (.t 31) (.t 33)) 27 false, v 35 (.pick (.t 27) (.c (.bool true)) (.t 34))]) 
(.cond (.t 35) (.exit 1) .skip)) 
(.seq 
(.region [m 36 10, m 37 0, v 38 (.len true (.t 37)), v 39 (.bin .lss .any (.t 36) (.t 38)), m 40 39, w 41 (.mv (.t 0)) 40 true, w 42 (.mv (.t 10)) 40 true, w 43 (.iaddr 1 (.t 41) (.t 42)) 40 true, w 44 (.load none (.t 43)) 40 true, w 45 (.bin .eql .any (.t 44) (.c (.int .i32 59))) 40 true, v 46 (.pick (.t 40) (.t 45) (.c (.bool false))), m 11 46]) 
(.seq 
(.seq 
(.region [m 47 11]) 
(.cond (.t 47) 
(.region [m 48 10, v 49 (.bin .add .any (.t 48) (.c (.int .i64 1))), m 10 49]) .skip)) 
(.seq 
(.region [m 50 11, m 51 50, w 52 (.faddr 2 (.t 9)) 51 false, w 53 (.load none (.t 52)) 51 false, v 54 (.pick (.t 51) (.c (.bool true)) (.t 53)), m 55 54, w 56 (.mv (.t 10)) 55 true, w 57 (.mv (.t 6)) 55 true, w 58 (.bin .gtr .any (.t 56) (.t 57)) 55 true, v 59 (.pick (.t 55) (.t 58) (.c (.bool false)))]) 
(.cond (.t 59) 
(.region [m 60 8, m 61 10, m 62 11, m 5 60, m 6 61, m 7 62]) .skip)))))))) 
(.region [v 63 (.bin .add .any (.t 15) (.c (.int .i64 1))), m 15 63]))))))) 
(.seq 
(.seq 
(.region [m 64 5, v 65 (.bin .lss .any (.t 64) (.c (.int .i64 0)))]) 
(.cond (.t 65) 
(.seq 
(.region [v 2 (.mv (.c (.lst 0 0 []))), v 3 (.mv (.c (.int .i64 0))), v 4 (.mv (.c (.bool false)))]) .ret) .skip)) 
(.seq 
(.region [v 66 (.call (.f 9) [] false), m 67 5, v 68 (.iaddr 3 (.t 66) (.t 67)), v 69 (.faddr 1 (.t 68)), v 70 (.load none (.t 69)), v 71 (.mks false none (.int .i32 0) 1 [(0, (.t 70))]), m 12 71]) 
(.seq 
(.seq 
(.region [v 72 (.call (.f 9) [] false), m 73 5, v 74 (.iaddr 3 (.t 72) (.t 73)), v 75 (.faddr 0 (.t 74)), v 76 (.load none (.t 75)), v 77 (.bin .eql .any (.t 76) (.c (.str [110, 118, 108, 116])))]) 
(.cond (.t 77) 
(.region [m 78 12, v 79 (.mks false none (.int .i32 0) 1 [(0, (.c (.int .i32 8402)))]), v 80 (.append false none 4 (.t 78) (.t 79)), m 12 80]) .skip)) 
(.seq 
(.region [m 81 12, m 82 6, m 83 7, m 2 81, m 3 82, m 4 83]) .ret))))))),
 [.tmp 2, .tmp 3, .tmp 4]⟩
/-- slices.Clone[[]chars.Entry,chars.Entry] -/
def c_slices_Clone_chars_Entry_chars_Entry : DFunc := ⟨8, 
(.seq 
(.region [v 2 (.mv (.c (.lst 0 0 [])))]) 
(.seq 
(.seq 
(.region [m 3 0, v 4 (.bin .eql .sl (.t 3) (.c (.lst 0 0 [])))]) 
(.cond (.t 4) 
(.seq 
(.region [v 2 (.mv (.c (.lst 0 0 [])))]) .ret) .skip)) 
(.seq 
(.region [v 5 (.mks true (some 3) (.agg [(.str []), (.int .i32 0), (.bool false)]) 0 []), m 6 0, v 7 (.append true (some 3) 24 (.t 5) (.t 6)), m 2 7]) .ret))),
 [.tmp 2]⟩
/-- chars.table -/
def c_chars_table : DFunc := ⟨63, 
(.seq 
(.region [v 0 (.mv (.c (.lst 0 0 [])))]) 
(.seq 
(.region [v 1 (.build [(.str []), (.int .i32 0), (.bool false)] [(0, 1, (.c (.str [97, 109, 112]))), (1, 1, (.c (.int .i32 38))), (2, 1, (.c (.bool true)))]), v 2 (.build [(.str []), (.int .i32 0), (.bool false)] [(0, 1, (.c (.str [108, 116]))), (1, 1, (.c (.int .i32 60))), (2, 1, (.c (.bool true)))]), v 3 (.build [(.str []), (.int .i32 0), (.bool false)] [(0, 1, (.c (.str [103, 116]))), (1, 1, (.c (.int .i32 62))), (2, 1, (.c (.bool true)))]), v 4 (.build [(.str []), (.int .i32 0), (.bool false)] [(0, 1, (.c (.str [113, 117, 111, 116]))), (1, 1, (.c (.int .i32 34))), (2, 1, (.c (.bool true)))]), v 5 (.build [(.str []), (.int .i32 0), (.bool false)] [(0, 1, (.c (.str [65, 77, 80]))), (1, 1, (.c (.int .i32 38))), (2, 1, (.c (.bool true)))]), v 6 (.build [(.str []), (.int .i32 0), (.bool false)] [(0, 1, (.c (.str [76, 84]))), (1, 1, (.c (.int .i32 60))), (2, 1, (.c (.bool true)))]), v 7 (.build [(.str []), (.int .i32 0), (.bool false)] [(0, 1, (.c (.str [71, 84]))), (1, 1, (.c (.int .i32 62))), (2, 1, (.c (.bool true)))]), v 8 (.build [(.str []), (.int .i32 0), (.bool false)] [(0, 1, (.c (.str [110, 98, 115, 112]))), (1, 1, (.c (.int .i32 160))), (2, 1, (.c (.bool true)))]), v 9 (.build [(.str []), (.int .i32 0), (.bool false)] [(0, 1, (.c (.str [105, 101, 120, 99, 108]))), (1, 1, (.c (.int .i32 161))), (2, 1, (.c (.bool true)))]), v 10 (.build [(.str []), (.int .i32 0), (.bool false)] [(0, 1, (.c (.str [99, 101, 110, 116]))), (1, 1, (.c (.int .i32 162))), (2, 1, (.c (.bool true)))]), v 11 (.build [(.str []), (.int .i32 0), (.bool false)] [(0, 1, (.c (.str [112, 111, 117, 110, 100]))), (1, 1, (.c (.int .i32 163))), (2, 1, (.c (.bool true)))]), v 12 (.build [(.str []), (.int .i32 0), (.bool false)] [(0, 1, (.c (.str [121, 101, 110]))), (1, 1, (.c (.int .i32 165))), (2, 1, (.c (.bool true)))]), v 13 (.build [(.str []), (.int .i32 0), (.bool false)] [(0, 1, (.c (.str [115, 101, 99, 116]))), (1, 1, (.c (.int .i32 167))), (2, 1, (.c (.bool true)))]), v 14 (.build [(.str []), (.int .i32 0), (.bool false)] [(0, 1, (.c (.str [99, 111, 112, 121]))), (1, 1, (.c (.int .i32 169))), (2, 1, (.c (.bool true)))]), v 15 (.build [(.str []), (.int .i32 0), (.bool false)] [(0, 1, (.c (.str [108, 97, 113, 117, 111]))), (1, 1, (.c (.int .i32 171))), (2, 1, (.c (.bool true)))]), v 16 (.build [(.str []), (.int .i32 0), (.bool false)] [(0, 1, (.c (.str [110, 111, 116]))), (1, 1, (.c (.int .i32 172))), (2, 1, (.c (.bool true)))]), v 17 (.build [(.str []), (.int .i32 0), (.bool false)] [(0, 1, (.c (.str [115, 104, 121]))), (1, 1, (.c (.int .i32 173))), (2, 1, (.c (.bool true)))]), v 18 (.build [(.str []), (.int .i32 0), (.bool false)] [(0, 1, (.c (.str [114, 101, 103]))), (1, 1, (.c (.int .i32 174))), (2, 1, (.c (.bool true)))]), v 19 (.build [(.str []), (.int .i32 0), (.bool false)] [(0, 1, (.c (.str [100, 101, 103]))), (1, 1, (.c (.int .i32 176))), (2, 1, (.c (.bool true)))]), v 20 (.build [(.str []), (.int .i32 0), (.bool false)] [(0, 1, (.c (.str [112, 108, 117, 115, 109, 110]))), (1, 1, (.c (.int .i32 177))), (2, 1, (.c (.bool true)))]), v 21 (.build [(.str []), (.int .i32 0), (.bool false)] [(0, 1, (.c (.str [115, 117, 112, 50]))), (1, 1, (.c (.int .i32 178))), (2, 1, (.c (.bool true)))]), v 22 (.build [(.str []), (.int .i32 0), (.bool false)] [(0, 1, (.c (.str [109, 105, 99, 114, 111]))), (1, 1, (.c (.int .i32 181))), (2, 1, (.c (.bool true)))]), v 23 (.build [(.str []), (.int .i32 0), (.bool false)] [(0, 1, (.c (.str [112, 97, 114, 97]))), (1, 1, (.c (.int .i32 182))), (2, 1, (.c (.bool true)))]), v 24 (.build [(.str []), (.int .i32 0), (.bool false)] [(0, 1, (.c (.str [109, 105, 100, 100, 111, 116]))), (1, 1, (.c (.int .i32 183))), (2, 1, (.c (.bool true)))]), v 25 (.build [(.str []), (.int .i32 0), (.bool false)] [(0, 1, (.c (.str [114, 97, 113, 117, 111]))), (1, 1, (.c (.int .i32 187))), (2, 1, (.c (.bool true)))]), v 26 (.build [(.str []), (.int .i32 0), (.bool false)] [(0, 1, (.c (.str [102, 114, 97, 99, 49, 50]))), (1, 1, (.c (.int .i32 189))), (2, 1, (.c (.bool true)))]), v 27 (.build [(.str []), (.int .i32 0), (.bool false)] [(0, 1, (.c (.str [105, 113, 117, 101, 115, 116]))), (1, 1, (.c (.int .i32 191))), (2, 1, (.c (.bool true)))]), v 28 (.build [(.str []), (.int .i32 0), (.bool false)] [(0, 1, (.c (.str [65, 117, 109, 108]))), (1, 1, (.c (.int .i32 196))), (2, 1, (.c (.bool true)))]), v 29 (.build [(.str []), (.int .i32 0), (.bool false)] [(0, 1, (.c (.str [69, 97, 99, 117, 116, 101]))), (1, 1, (.c (.int .i32 201))), (2, 1, (.c (.bool true)))]), v 30 (.build [(.str []), (.int .i32 0), (.bool false)] [(0, 1, (.c (.str [79, 117, 109, 108]))), (1, 1, (.c (.int .i32 214))), (2, 1, (.c (.bool true)))]), v 31 (.build [(.str []), (.int .i32 0), (.bool false)] [(0, 1, (.c (.str [116, 105, 109, 101, 115]))), (1, 1, (.c (.int .i32 215))), (2, 1, (.c (.bool true)))]), v 32 (.build [(.str []), (.int .i32 0), (.bool false)] [(0, 1, (.c (.str [85, 117, 109, 108]))), (1, 1, (.c (.int .i32 220))), (2, 1, (.c (.bool true)))]), v 33 (.build [(.str []), (.int .i32 0), (.bool false)] [(0, 1, (.c (.str [115, 122, 108, 105, 103]))), (1, 1, (.c (.int .i32 223))), (2, 1, (.c (.bool true)))]), v 34 (.build [(.str []), (.int .i32 0), (.bool false)] [(0, 1, (.c (.str [97, 103, 114, 97, 118, 101]))), (1, 1, (.c (.int .i32 224))), (2, 1, (.c (.bool true)))]), v 35 (.build [(.str []), (.int .i32 0), (.bool false)] [(0, 1, (.c (.str [97, 117, 109, 108]))), (1, 1, (.c (.int .i32 228))), (2, 1, (.c (.bool true)))]), v 36 (.build [(.str []), (.int .i32 0), (.bool false)] [(0, 1, (.c (.str [99, 99, 101, 100, 105, 108]))), (1, 1, (.c (.int .i32 231))), (2, 1, (.c (.bool true)))]), v 37 (.build [(.str []), (.int .i32 0), (.bool false)] [(0, 1, (.c (.str [101, 97, 99, 117, 116, 101]))), (1, 1, (.c (.int .i32 233))), (2, 1, (.c (.bool true)))]), v 38 (.build [(.str []), (.int .i32 0), (.bool false)] [(0, 1, (.c (.str [110, 116, 105, 108, 100, 101]))), (1, 1, (.c (.int .i32 241))), (2, 1, (.c (.bool true)))]), v 39 (.build [(.str []), (.int .i32 0), (.bool false)] [(0, 1, (.c (.str [111, 117, 109, 108]))), (1, 1, (.c (.int .i32 246))), (2, 1, (.c (.bool true)))]), v 40 (.build [(.str []), (.int .i32 0), (.bool false)] [(0, 1, (.c (.str [100, 105, 118, 105, 100, 101]))), (1, 1, (.c (.int .i32 247))), (2, 1, (.c (.bool true)))]), v 41 (.build [(.str []), (.int .i32 0), (.bool false)] [(0, 1, (.c (.str [117, 117, 109, 108]))), (1, 1, (.c (.int .i32 252))), (2, 1, (.c (.bool true)))]), v 42 (.build [(.str []), (.int .i32 0), (.bool false)] [(0, 1, (.c (.str [97, 112, 111, 115]))), (1, 1, (.c (.int .i32 39))), (2, 1, (.c (.bool false)))]), v 43 (.build [(.str []), (.int .i32 0), (.bool false)] [(0, 1, (.c (.str [104, 101, 108, 108, 105, 112]))), (1, 1, (.c (.int .i32 8230))), (2, 1, (.c (.bool false)))]), v 44 (.build [(.str []), (.int .i32 0), (.bool false)] [(0, 1, (.c (.str [109, 100, 97, 115, 104]))), (1, 1, (.c (.int .i32 8212))), (2, 1, (.c (.bool false)))]), v 45 (.build [(.str []), (.int .i32 0), (.bool false)] [(0, 1, (.c (.str [110, 100, 97, 115, 104]))), (1, 1, (.c (.int .i32 8211))), (2, 1, (.c (.bool false)))]), v 46 (.build [(.str []), (.int .i32 0), (.bool false)] [(0, 1, (.c (.str [101, 117, 114, 111]))), (1, 1, (.c (.int .i32 8364))), (2, 1, (.c (.bool false)))]), v 47 (.build [(.str []), (.int .i32 0), (.bool false)] [(0, 1, (.c (.str [116, 114, 97, 100, 101]))), (1, 1, (.c (.int .i32 8482))), (2, 1, (.c (.bool false)))]), v 48 (.build [(.str []), (.int .i32 0), (.bool false)] [(0, 1, (.c (.str [108, 97, 114, 114]))), (1, 1, (.c (.int .i32 8592))), (2, 1, (.c (.bool false)))]), v 49 (.build [(.str []), (.int .i32 0), (.bool false)] [(0, 1, (.c (.str [114, 97, 114, 114]))), (1, 1, (.c (.int .i32 8594))), (2, 1, (.c (.bool false)))]), v 50 (.build [(.str []), (.int .i32 0), (.bool false)] [(0, 1, (.c (.str [110, 111, 116, 105, 110]))), (1, 1, (.c (.int .i32 8713))), (2, 1, (.c (.bool false)))]), v 51 (.build [(.str []), (.int .i32 0), (.bool false)] [(0, 1, (.c (.str [97, 108, 112, 104, 97]))), (1, 1, (.c (.int .i32 945))), (2, 1, (.c (.bool false)))]), v 52 (.build [(.str []), (.int .i32 0), (.bool false)] [(0, 1, (.c (.str [111, 109, 101, 103, 97]))), (1, 1, (.c (.int .i32 969))), (2, 1, (.c (.bool false)))]), v 53 (.build [(.str []), (.int .i32 0), (.bool false)] [(0, 1, (.c (.str [105, 110, 102, 105, 110]))), (1, 1, (.c (.int .i32 8734))), (2, 1, (.c (.bool false)))]), v 54 (.build [(.str []), (.int .i32 0), (.bool false)] [(0, 1, (.c (.str [98, 117, 108, 108]))), (1, 1, (.c (.int .i32 8226))), (2, 1, (.c (.bool false)))]), v 55 (.build [(.str []), (.int .i32 0), (.bool false)] [(0, 1, (.c (.str [108, 115, 113, 117, 111]))), (1, 1, (.c (.int .i32 8216))), (2, 1, (.c (.bool false)))]), v 56 (.build [(.str []), (.int .i32 0), (.bool false)] [(0, 1, (.c (.str [114, 115, 113, 117, 111]))), (1, 1, (.c (.int .i32 8217))), (2, 1, (.c (.bool false)))]), v 57 (.build [(.str []), (.int .i32 0), (.bool false)] [(0, 1, (.c (.str [108, 100, 113, 117, 111]))), (1, 1, (.c (.int .i32 8220))), (2, 1, (.c (.bool false)))]), v 58 (.build [(.str []), (.int .i32 0), (.bool false)] [(0, 1, (.c (.str [114, 100, 113, 117, 111]))), (1, 1, (.c (.int .i32 8221))), (2, 1, (.c (.bool false)))]), v 59 (.build [(.str []), (.int .i32 0), (.bool false)] [(0, 1, (.c (.str [110, 101]))), (1, 1, (.c (.int .i32 8800))), (2, 1, (.c (.bool false)))]), v 60 (.build [(.str []), (.int .i32 0), (.bool false)] [(0, 1, (.c (.str [108, 101]))), (1, 1, (.c (.int .i32 8804))), (2, 1, (.c (.bool false)))]), v 61 (.build [(.str []), (.int .i32 0), (.bool false)] [(0, 1, (.c (.str [110, 118, 108, 116]))), (1, 1, (.c (.int .i32 60))), (2, 1, (.c (.bool false)))]), v 62 (.mks false (some 3) (.agg [(.str []), (.int .i32 0), (.bool false)]) 61 [(0, (.t 1)), (1, (.t 2)), (2, (.t 3)), (3, (.t 4)), (4, (.t 5)), (5, (.t 6)), (6, (.t 7)), (7, (.t 8)), (8, (.t 9)), (9, (.t 10)), (10, (.t 11)), (11, (.t 12)), (12, (.t 13)), (13, (.t 14)), (14, (.t 15)), (15, (.t 16)), (16, (.t 17)), (17, (.t 18)), (18, (.t 19)), (19, (.t 20)), (20, (.t 21)), (21, (.t 22)), (22, (.t 23)), (23, (.t 24)), (24, (.t 25)), (25, (.t 26)), (26, (.t 27)), (27, (.t 28)), (28, (.t 29)), (29, (.t 30)), (30, (.t 31)), (31, (.t 32)), (32, (.t 33)), (33, (.t 34)), (34, (.t 35)), (35, (.t 36)), (36, (.t 37)), (37, (.t 38)), (38, (.t 39)), (39, (.t 40)), (40, (.t 41)), (41, (.t 42)), (42, (.t 43)), (43, (.t 44)), (44, (.t 45)), (45, (.t 46)), (46, (.t 47)), (47, (.t 48)), (48, (.t 49)), (49, (.t 50)), (50, (.t 51)), (51, (.t 52)), (52, (.t 53)), (53, (.t 54)), (54, (.t 55)), (55, (.t 56)), (56, (.t 57)), (57, (.t 58)), (58, (.t 59)), (59, (.t 60)), (60, (.t 61))]), m 0 62]) .ret)),
 [.tmp 0]⟩
/-- slices.SortFunc[[]chars.Entry,chars.Entry] -/
def c_slices_SortFunc_chars_Entry_chars_Entry : DFunc := ⟨14, 
(.seq 
(.region [m 5 0, v 6 (.len true (.t 5)), m 4 6]) 
(.region [m 7 0, m 8 4, m 9 4, v 10 (.conv (.int .u64) false (.t 9)), v 11 (.call (.f 14) [(.t 10)] false), m 12 1, v 13 (.call (.f 13) [(.t 7), (.c (.int .i64 0)), (.t 8), (.t 11), (.t 12)] false)])),
 []⟩
/-- chars.Names$1 -/
def c_chars_Names_1 : DFunc := ⟨10, 
(.seq 
(.region [v 2 (.box (.t 0) 3), v 3 (.box (.t 1) 3), v 4 (.mv (.c (.int .i64 0)))]) 
(.seq 
(.region [v 5 (.faddr 0 (.t 2)), v 6 (.load none (.t 5)), v 7 (.faddr 0 (.t 3)), v 8 (.load none (.t 7)), v 9 (.call (.f 12) [(.t 6), (.t 8)] false), m 4 9]) .ret)),
 [.tmp 4]⟩
/-- strings.Compare -/
def c_strings_Compare : DFunc := ⟨8, 
(.seq 
(.region [v 4 (.mv (.c (.int .i64 0)))]) 
(.seq 
(.region [m 5 0, m 6 1, v 7 (.call (.f 15) [(.t 5), (.t 6)] false), m 4 7]) .ret)),
 [.tmp 4]⟩
/-- slices.pdqsortCmpFunc[chars.Entry] -/
def c_slices_pdqsortCmpFunc_chars_Entry : DFunc := ⟨148, 
(.seq 
(.region [v 10 (.mv (.c (.bool true)))]) 
(.seq 
(.region [v 11 (.mv (.c (.bool true)))]) 
(.block 0 
(.loop 
(.block 1 
(.seq 
(.region [m 21 2, m 22 1, v 23 (.bin .sub .any (.t 21) (.t 22)), m 12 23]) 
(.seq 
(.seq 
(.region [m 24 12, v 25 (.bin .leq .any (.t 24) (.c (.int .i64 12)))]) 
(.cond (.t 25) 
(.seq 
(.region [m 26 0, m 27 1, m 28 2, m 29 4, v 30 (.call (.f 16) [(.t 26), (.t 27), (.t 28), (.t 29)] false)]) .ret) .skip)) 
(.seq 
(.seq 
(.region [m 31 3, v 32 (.bin .eql .any (.t 31) (.c (.int .i64 0)))]) 
(.cond (.t 32) 
(.seq 
(.region [m 33 0, m 34 1, m 35 2, m 36 4, v 37 (.call (.f 17) [(.t 33), (.t 34), (.t 35), (.t 36)] false)]) .ret) .skip)) 
(.seq 
(.seq 
(.region [m 38 10, v 39 (.un .not (.t 38))]) 
(.cond (.t 39) 
(.seq 
(.region [m 40 0, m 41 1, m 42 2, m 43 4, v 44 (.call (.f 18) [(.t 40), (.t 41), (.t 42), (.t 43)] false)]) 
(.region [m 45 3, v 46 (.bin .sub .any (.t 45) (.c (.int .i64 1))), m 3 46])) .skip)) 
(.seq 
(.region [m 48 0, m 49 1, m 50 2, m 51 4, v 52 (.call (.f 19) [(.t 48), (.t 49), (.t 50), (.t 51)] false), m 47 52, v 53 (.extract (.t 47) 0), v 54 (.extract (.t 47) 1), m 13 53, m 14 54]) 
(.seq 
(.seq 
(.region [m 55 14, v 56 (.bin .eql .any (.t 55) (.c (.int .i64 2)))]) 
(.cond (.t 56) 
(.seq 
(.region [m 57 0, m 58 1, m 59 2, m 60 4, v 61 (.call (.f 20) [(.t 57), (.t 58), (.t 59), (.t 60)] false)]) 
(.seq 
(.region [m 62 2, v 63 (.bin .sub .any (.t 62) (.c (.int .i64 1))), m 64 13, m 65 1, v 66 (.bin .sub .any (.t 64) (.t 65)), v 67 (.bin .sub .any (.t 63) (.t 66)), m 13 67]) 
(.region [v 14 (.mv (.c (.int .i64 1)))]))) .skip)) 
(.seq 
(.seq 
(.region [m 68 10, m 69 68, w 70 (.mv (.t 11)) 69 true, v 71 (.pick (.t 69) (.t 70) (.c (.bool false))), m 72 71, w 73 (.mv (.t 14)) 72 true, w 74 (.bin .eql .any (.t 73) (.c (.int .i64 1))) 72 true, v 75 (.pick (.t 72) (.t 74) (.c (.bool false)))]) 
(.cond (.t 75) 
(.seq 
(.region [m 76 0, m 77 1, m 78 2, m 79 4, v 80 (.call (.f 21) [(.t 76), (.t 77), (.t 78), (.t 79)] false)]) 
(.cond (.t 80) .ret .skip)) .skip)) 
(.seq 
(.seq 
(.region [m 81 1, v 82 (.bin .gtr .any (.t 81) (.c (.int .i64 0))), m 83 82, w 84 (.mv (.t 4)) 83 true, w 85 (.mv (.t 0)) 83 true, w 86 (.mv (.t 1)) 83 true, w 87 (.bin .sub .any (.t 86) (.c (.int .i64 1))) 83 true, w 88 (.iaddr 3 (.t 85) (.t 87)) 83 true, w 89 (.load (some 3) (.t 88)) 83 true, w 90 (.mv (.t 0)) 83 true, w 91 (.mv (.t 13)) 83 true, w 92 (.iaddr 3 (.t 90) (.t 91)) 83 true, w 93 (.load (some 3) (.t 92)) 83 true, w 94 (.call (.t 84) [(.t 89), (.t 93)] false) 83 true, w 95 (.bin .lss .any (.t 94) (.c (.int .i64 0))) 83 true, w 96 (.un .not (.t 95)) 83 true, v 97 (.pick (.t 83) (.t 96) (.c (.bool false)))]) 
(.cond (.t 97) 
(.seq 
(.region [m 98 0, m 99 1, m 100 2, m 101 13, m 102 4, v 103 (.call (.f 22) [(.t 98), (.t 99), (.t 100), (.t 101), (.t 102)] false), m 15 103]) 
(.seq 
(.region [m 104 15, m 1 104]) (.exit 1))) .skip)) 
(.seq 
(.region [m 106 0, m 107 1, m 108 2, m 109 13, m 110 4, v 111 (.call (.f 23) [(.t 106), (.t 107), (.t 108), (.t 109), (.t 110)] false), m 105 111, v 112 (.extract (.t 105) 0), v 113 (.extract (.t 105) 1), m 16 112, m 17 113]) 
(.seq 
(.region [m 114 17, m 11 114]) 
(.seq 
(.region [m 115 16, m 116 1, v 117 (.bin .sub .any (.t 115) (.t 116)), m 118 2, m 119 16, v 120 (.bin .sub .any (.t 118) (.t 119)), m 18 117, m 19 120]) 
(.seq 
(.region [m 121 12, v 122 (.bin .quo .any (.t 121) (.c (.int .i64 8))), m 20 122]) 
(.seq 
(.region [m 123 18, m 124 19, v 125 (.bin .lss .any (.t 123) (.t 124))]) 
(.cond (.t 125) 
(.seq 
(.region [m 126 18, m 127 20, v 128 (.bin .geq .any (.t 126) (.t 127)), m 10 128]) 
(.seq 
(.region [m 129 0, m 130 1, m 131 16, m 132 3, m 133 4, v 134 (.call (.f 13) [(.t 129), (.t 130), (.t 131), (.t 132), (.t 133)] false)]) 
(.region [m 135 16, v 136 (.bin .add .any (.t 135) (.c (.int .i64 1))), m 1 136]))) 
(.seq 
(.region [m 137 19, m 138 20, v 139 (.bin .geq .any (.t 137) (.t 138)), m 10 139]) 
(.seq 
(.region [m 140 0, m 141 16, v 142 (.bin .add .any (.t 141) (.c (.int .i64 1))), m 143 2, m 144 3, m 145 4, v 146 (.call (.f 13) [(.t 140), (.t 142), (.t 143), (.t 144), (.t 145)] false)]) 
(.region [m 147 16, m 2 147])))))))))))))))))))))),
 []⟩
theorem ok_woodcutlaw02_CharsNames : compF Try.prog cfg1 3 = some c_woodcutlaw02_CharsNames := by kernel_rfl
theorem ok_woodcutlaw02_CharsMatches : compF Try.prog cfg1 4 = some c_woodcutlaw02_CharsMatches := by kernel_rfl
theorem ok_woodcutlaw02_head : compF Try.prog cfg1 5 = some c_woodcutlaw02_head := by kernel_rfl
theorem ok_chars_Names : compF Try.prog cfg1 6 = some c_chars_Names := by kernel_rfl
theorem ok_chars_Match : compF Try.prog cfg1 7 = some c_chars_Match := by kernel_rfl
theorem ok_slices_Clone_chars_Entry_chars_Entry : compF Try.prog cfg1 8 = some c_slices_Clone_chars_Entry_chars_Entry := by kernel_rfl
theorem ok_chars_table : compF Try.prog cfg1 9 = some c_chars_table := by kernel_rfl
theorem ok_slices_SortFunc_chars_Entry_chars_Entry : compF Try.prog cfg1 10 = some c_slices_SortFunc_chars_Entry_chars_Entry := by kernel_rfl
theorem ok_chars_Names_1 : compF Try.prog cfg1 11 = some c_chars_Names_1 := by kernel_rfl
theorem ok_strings_Compare : compF Try.prog cfg1 12 = some c_strings_Compare := by kernel_rfl
theorem ok_slices_pdqsortCmpFunc_chars_Entry : compF Try.prog cfg1 13 = some c_slices_pdqsortCmpFunc_chars_Entry := by kernel_rfl
end Go.Proofs.Ytjhednolknlpiaa.Code
