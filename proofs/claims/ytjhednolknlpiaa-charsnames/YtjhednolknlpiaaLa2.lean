/- Functions of the program as code of the D-machine (2): PRINTED BY PROGRAM; each is checked to be what the program's own compiles to. -/
import Derived.Test.YtjhednolknlpiaaChecked
import Derived.Test.YtjhednolknlpiaaDmRf
import Derived.KernelRfl
namespace Go.Proofs.Ytjhednolknlpiaa.Code
set_option linter.unusedSimpArgs false
set_option linter.unusedVariables false
open Go.Dm Go.Dm.C
def cfg2 : Cfg := ⟨fun t => [].contains t, fun f => [6, 8, 11].contains f⟩
/-- math/bits.Len -/
def c_math_bits_Len : DFunc := ⟨8, 
(.seq 
(.region [v 2 (.mv (.c (.int .i64 0)))]) 
(.seq 
(.cond (.c (.bool false)) 
(.seq 
(.region [m 3 0, v 4 (.conv (.int .u32) false (.t 3)), v 5 (.call (.f 24) [(.t 4)] false), m 2 5]) .ret) .skip) 
(.seq 
(.region [m 6 0, v 7 (.call (.f 25) [(.t 6)] false), m 2 7]) .ret))),
 [.tmp 2]⟩
/-- slices.insertionSortCmpFunc[chars.Entry] -/
def c_slices_insertionSortCmpFunc_chars_Entry : DFunc := ⟨53, 
(.seq 
(.region [m 10 1, v 11 (.bin .add .any (.t 10) (.c (.int .i64 1))), m 8 11]) 
(.block 0 
(.loop 
(.seq 
(.seq 
(.region [m 12 8, m 13 2, v 14 (.bin .lss .any (.t 12) (.t 13))]) 
(.cond (.t 14) .skip (.exit 0))) 
(.seq 
(.block 1 
(.seq 
(.region [m 17 8, m 9 17]) 
(.block 2 
(.loop 
(.seq 
(.seq 
(.region [m 18 9, m 19 1, v 20 (.bin .gtr .any (.t 18) (.t 19)), m 21 20, w 22 (.mv (.t 3)) 21 true, w 23 (.mv (.t 0)) 21 true, w 24 (.mv (.t 9)) 21 true, w 25 (.iaddr 3 (.t 23) (.t 24)) 21 true, w 26 (.load (some 3) (.t 25)) 21 true, w 27 (.mv (.t 0)) 21 true, w 28 (.mv (.t 9)) 21 true, w 29 (.bin .sub .any (.t 28) (.c (.int .i64 1))) 21 true, w 30 (.iaddr 3 (.t 27) (.t 29)) 21 true, w 31 (.load (some 3) (.t 30)) 21 true, w 32 (.call (.t 22) [(.t 26), (.t 31)] false) 21 true, w 33 (.bin .lss .any (.t 32) (.c (.int .i64 0))) 21 true, v 34 (.pick (.t 21) (.t 33) (.c (.bool false)))]) 
(.cond (.t 34) .skip (.exit 2))) 
(.seq 
(.block 3 
(.region [m 37 0, m 38 9, m 39 0, m 40 9, v 41 (.bin .sub .any (.t 40) (.c (.int .i64 1))), m 42 0, m 43 9, v 44 (.bin .sub .any (.t 43) (.c (.int .i64 1))), v 45 (.iaddr 3 (.t 42) (.t 44)), v 46 (.load (some 3) (.t 45)), m 47 0, m 48 9, v 49 (.iaddr 3 (.t 47) (.t 48)), v 50 (.load (some 3) (.t 49)), v 51 (.iaddr 3 (.t 37) (.t 38)), u (.store 3 (.t 51) (.t 46)), v 52 (.iaddr 3 (.t 39) (.t 41)), u (.store 3 (.t 52) (.t 50))])) 
(.region [m 35 9, v 36 (.bin .sub .any (.t 35) (.c (.int .i64 1))), m 9 36]))))))) 
(.region [m 15 8, v 16 (.bin .add .any (.t 15) (.c (.int .i64 1))), m 8 16])))))),
 []⟩
/-- slices.heapSortCmpFunc[chars.Entry] -/
def c_slices_heapSortCmpFunc_chars_Entry : DFunc := ⟨60, 
(.seq 
(.region [m 13 1, m 8 13]) 
(.seq 
(.region [v 9 (.mv (.c (.int .i64 0)))]) 
(.seq 
(.region [m 14 2, m 15 1, v 16 (.bin .sub .any (.t 14) (.t 15)), m 10 16]) 
(.seq 
(.seq 
(.region [m 17 10, v 18 (.bin .sub .any (.t 17) (.c (.int .i64 1))), v 19 (.bin .quo .any (.t 18) (.c (.int .i64 2))), m 11 19]) 
(.block 0 
(.loop 
(.seq 
(.seq 
(.region [m 20 11, v 21 (.bin .geq .any (.t 20) (.c (.int .i64 0)))]) 
(.cond (.t 21) .skip (.exit 0))) 
(.seq 
(.block 1 
(.region [m 24 0, m 25 11, m 26 10, m 27 8, m 28 3, v 29 (.call (.f 27) [(.t 24), (.t 25), (.t 26), (.t 27), (.t 28)] false)])) 
(.region [m 22 11, v 23 (.bin .sub .any (.t 22) (.c (.int .i64 1))), m 11 23])))))) 
(.seq 
(.region [m 30 10, v 31 (.bin .sub .any (.t 30) (.c (.int .i64 1))), m 12 31]) 
(.block 2 
(.loop 
(.seq 
(.seq 
(.region [m 32 12, v 33 (.bin .geq .any (.t 32) (.c (.int .i64 0)))]) 
(.cond (.t 33) .skip (.exit 2))) 
(.seq 
(.block 3 
(.seq 
(.region [m 36 0, m 37 8, m 38 0, m 39 8, m 40 12, v 41 (.bin .add .any (.t 39) (.t 40)), m 42 0, m 43 8, m 44 12, v 45 (.bin .add .any (.t 43) (.t 44)), v 46 (.iaddr 3 (.t 42) (.t 45)), v 47 (.load (some 3) (.t 46)), m 48 0, m 49 8, v 50 (.iaddr 3 (.t 48) (.t 49)), v 51 (.load (some 3) (.t 50)), v 52 (.iaddr 3 (.t 36) (.t 37)), u (.store 3 (.t 52) (.t 47)), v 53 (.iaddr 3 (.t 38) (.t 41)), u (.store 3 (.t 53) (.t 51))]) 
(.region [m 54 0, m 55 9, m 56 12, m 57 8, m 58 3, v 59 (.call (.f 27) [(.t 54), (.t 55), (.t 56), (.t 57), (.t 58)] false)]))) 
(.region [m 34 12, v 35 (.bin .sub .any (.t 34) (.c (.int .i64 1))), m 12 35])))))))))),
 []⟩
/-- slices.breakPatternsCmpFunc[chars.Entry] -/
def c_slices_breakPatternsCmpFunc_chars_Entry : DFunc := ⟨67, 
(.seq 
(.region [m 13 2, m 14 1, v 15 (.bin .sub .any (.t 13) (.t 14)), m 8 15]) 
(.seq 
(.region [m 16 8, v 17 (.bin .geq .any (.t 16) (.c (.int .i64 8)))]) 
(.cond (.t 17) 
(.seq 
(.region [m 18 8, v 19 (.conv (.int .u64) false (.t 18)), v 9 (.alloc [(.int .u64 0)] none), u (.store 1 (.t 9) (.t 19))]) 
(.seq 
(.region [m 20 8, v 21 (.call (.f 28) [(.t 20)] false), m 10 21]) 
(.seq 
(.region [m 22 1, m 23 8, v 24 (.bin .quo .any (.t 23) (.c (.int .i64 4))), v 25 (.bin .mul .any (.t 24) (.c (.int .i64 2))), v 26 (.bin .add .any (.t 22) (.t 25)), v 27 (.bin .sub .any (.t 26) (.c (.int .i64 1))), m 11 27]) 
(.block 0 
(.loop 
(.seq 
(.seq 
(.region [m 28 11, m 29 1, m 30 8, v 31 (.bin .quo .any (.t 30) (.c (.int .i64 4))), v 32 (.bin .mul .any (.t 31) (.c (.int .i64 2))), v 33 (.bin .add .any (.t 29) (.t 32)), v 34 (.bin .add .any (.t 33) (.c (.int .i64 1))), v 35 (.bin .leq .any (.t 28) (.t 34))]) 
(.cond (.t 35) .skip (.exit 0))) 
(.seq 
(.block 1 
(.seq 
(.region [v 38 (.call (.f 29) [(.t 9)] false), m 39 10, v 40 (.bin .sub .any (.t 39) (.c (.int .u64 1))), v 41 (.bin .and .any (.t 38) (.t 40)), v 42 (.conv (.int .i64) false (.t 41)), m 12 42]) 
(.seq 
(.seq 
(.region [m 43 12, m 44 8, v 45 (.bin .geq .any (.t 43) (.t 44))]) 
(.cond (.t 45) 
(.region [m 46 12, m 47 8, v 48 (.bin .sub .any (.t 46) (.t 47)), m 12 48]) .skip)) 
(.region [m 49 0, m 50 11, m 51 0, m 52 1, m 53 12, v 54 (.bin .add .any (.t 52) (.t 53)), m 55 0, m 56 1, m 57 12, v 58 (.bin .add .any (.t 56) (.t 57)), v 59 (.iaddr 3 (.t 55) (.t 58)), v 60 (.load (some 3) (.t 59)), m 61 0, m 62 11, v 63 (.iaddr 3 (.t 61) (.t 62)), v 64 (.load (some 3) (.t 63)), v 65 (.iaddr 3 (.t 49) (.t 50)), u (.store 3 (.t 65) (.t 60)), v 66 (.iaddr 3 (.t 51) (.t 54)), u (.store 3 (.t 66) (.t 64))])))) 
(.region [m 36 11, v 37 (.bin .add .any (.t 36) (.c (.int .i64 1))), m 11 37])))))))) .skip))),
 []⟩
/-- slices.choosePivotCmpFunc[chars.Entry] -/
def c_slices_choosePivotCmpFunc_chars_Entry : DFunc := ⟨63, 
(.seq 
(.region [v 8 (.mv (.c (.int .i64 0))), v 9 (.mv (.c (.int .i64 0)))]) 
(.seq 
(.region [m 15 2, m 16 1, v 17 (.bin .sub .any (.t 15) (.t 16)), m 10 17]) 
(.seq 
(.region [v 11 (.alloc [(.int .i64 0)] none)]) 
(.seq 
(.region [m 18 1, m 19 10, v 20 (.bin .quo .any (.t 19) (.c (.int .i64 4))), v 21 (.bin .mul .any (.t 20) (.c (.int .i64 1))), v 22 (.bin .add .any (.t 18) (.t 21)), m 12 22]) 
(.seq 
(.region [m 23 1, m 24 10, v 25 (.bin .quo .any (.t 24) (.c (.int .i64 4))), v 26 (.bin .mul .any (.t 25) (.c (.int .i64 2))), v 27 (.bin .add .any (.t 23) (.t 26)), m 13 27]) 
(.seq 
(.region [m 28 1, m 29 10, v 30 (.bin .quo .any (.t 29) (.c (.int .i64 4))), v 31 (.bin .mul .any (.t 30) (.c (.int .i64 3))), v 32 (.bin .add .any (.t 28) (.t 31)), m 14 32]) 
(.seq 
(.seq 
(.region [m 33 10, v 34 (.bin .geq .any (.t 33) (.c (.int .i64 8)))]) 
(.cond (.t 34) 
(.seq 
(.seq 
(.region [m 35 10, v 36 (.bin .geq .any (.t 35) (.c (.int .i64 50)))]) 
(.cond (.t 36) 
(.seq 
(.region [m 37 0, m 38 12, m 39 3, v 40 (.call (.f 30) [(.t 37), (.t 38), (.t 11), (.t 39)] false), m 12 40]) 
(.seq 
(.region [m 41 0, m 42 13, m 43 3, v 44 (.call (.f 30) [(.t 41), (.t 42), (.t 11), (.t 43)] false), m 13 44]) 
(.region [m 45 0, m 46 14, m 47 3, v 48 (.call (.f 30) [(.t 45), (.t 46), (.t 11), (.t 47)] false), m 14 48]))) .skip)) 
(.region [m 49 0, m 50 12, m 51 13, m 52 14, m 53 3, v 54 (.call (.f 31) [(.t 49), (.t 50), (.t 51), (.t 52), (.t 11), (.t 53)] false), m 13 54])) .skip)) 
(.seq 
(.region [v 55 (.load none (.t 11))]) 
(.block 0 
(.seq 
(.region [v 58 (.bin .eql .any (.t 55) (.c (.int .i64 0))), m 57 58]) 
(.cond (.t 57) 
(.seq 
(.region [m 59 13, m 8 59, v 9 (.mv (.c (.int .i64 1)))]) .ret) 
(.seq 
(.region [v 61 (.bin .eql .any (.t 55) (.c (.int .i64 12))), m 60 61]) 
(.cond (.t 60) 
(.seq 
(.region [m 62 13, m 8 62, v 9 (.mv (.c (.int .i64 2)))]) .ret) 
(.seq 
(.region [m 56 13, m 8 56, v 9 (.mv (.c (.int .i64 0)))]) .ret)))))))))))))),
 [.tmp 8, .tmp 9]⟩
/-- slices.reverseRangeCmpFunc[chars.Entry] -/
def c_slices_reverseRangeCmpFunc_chars_Entry : DFunc := ⟨34, 
(.seq 
(.region [m 10 1, m 8 10]) 
(.seq 
(.region [m 11 2, v 12 (.bin .sub .any (.t 11) (.c (.int .i64 1))), m 9 12]) 
(.block 0 
(.loop 
(.seq 
(.seq 
(.region [m 13 8, m 14 9, v 15 (.bin .lss .any (.t 13) (.t 14))]) 
(.cond (.t 15) .skip (.exit 0))) 
(.block 1 
(.seq 
(.region [m 16 0, m 17 8, m 18 0, m 19 9, m 20 0, m 21 9, v 22 (.iaddr 3 (.t 20) (.t 21)), v 23 (.load (some 3) (.t 22)), m 24 0, m 25 8, v 26 (.iaddr 3 (.t 24) (.t 25)), v 27 (.load (some 3) (.t 26)), v 28 (.iaddr 3 (.t 16) (.t 17)), u (.store 3 (.t 28) (.t 23)), v 29 (.iaddr 3 (.t 18) (.t 19)), u (.store 3 (.t 29) (.t 27))]) 
(.seq 
(.region [m 30 8, v 31 (.bin .add .any (.t 30) (.c (.int .i64 1))), m 8 31]) 
(.region [m 32 9, v 33 (.bin .sub .any (.t 32) (.c (.int .i64 1))), m 9 33]))))))))),
 []⟩
/-- slices.partialInsertionSortCmpFunc[chars.Entry] -/
def c_slices_partialInsertionSortCmpFunc_chars_Entry : DFunc := ⟨141, 
(.seq 
(.region [v 8 (.mv (.c (.bool false)))]) 
(.seq 
(.region [m 13 1, v 14 (.bin .add .any (.t 13) (.c (.int .i64 1))), m 9 14]) 
(.seq 
(.seq 
(.region [v 10 (.mv (.c (.int .i64 0)))]) 
(.block 0 
(.loop 
(.seq 
(.seq 
(.region [m 15 10, v 16 (.bin .lss .any (.t 15) (.c (.int .i64 5)))]) 
(.cond (.t 16) .skip (.exit 0))) 
(.seq 
(.block 1 
(.seq 
(.block 2 
(.loop 
(.seq 
(.seq 
(.region [m 19 9, m 20 2, v 21 (.bin .lss .any (.t 19) (.t 20)), m 22 21, w 23 (.mv (.t 3)) 22 true, w 24 (.mv (.t 0)) 22 true, w 25 (.mv (.t 9)) 22 true, w 26 (.iaddr 3 (.t 24) (.t 25)) 22 true, w 27 (.load (some 3) (.t 26)) 22 true, w 28 (.mv (.t 0)) 22 true, w 29 (.mv (.t 9)) 22 true, w 30 (.bin .sub .any (.t 29) (.c (.int .i64 1))) 22 true, w 31 (.iaddr 3 (.t 28) (.t 30)) 22 true, w 32 (.load (some 3) (.t 31)) 22 true, w 33 (.call (.t 23) [(.t 27), (.t 32)] false) 22 true, w 34 (.bin .lss .any (.t 33) (.c (.int .i64 0))) 22 true, w 35 (.un .not (.t 34)) 22 true, v 36 (.pick (.t 22) (.t 35) (.c (.bool false)))]) 
(.cond (.t 36) .skip (.exit 2))) 
(.block 3 
(.region [m 37 9, v 38 (.bin .add .any (.t 37) (.c (.int .i64 1))), m 9 38]))))) 
(.seq 
(.seq 
(.region [m 39 9, m 40 2, v 41 (.bin .eql .any (.t 39) (.t 40))]) 
(.cond (.t 41) 
(.seq 
(.region [v 8 (.mv (.c (.bool true)))]) .ret) .skip)) 
(.seq 
(.seq 
(.region [m 42 2, m 43 1, v 44 (.bin .sub .any (.t 42) (.t 43)), v 45 (.bin .lss .any (.t 44) (.c (.int .i64 50)))]) 
(.cond (.t 45) 
(.seq 
(.region [v 8 (.mv (.c (.bool false)))]) .ret) .skip)) 
(.seq 
(.region [m 46 0, m 47 9, m 48 0, m 49 9, v 50 (.bin .sub .any (.t 49) (.c (.int .i64 1))), m 51 0, m 52 9, v 53 (.bin .sub .any (.t 52) (.c (.int .i64 1))), v 54 (.iaddr 3 (.t 51) (.t 53)), v 55 (.load (some 3) (.t 54)), m 56 0, m 57 9, v 58 (.iaddr 3 (.t 56) (.t 57)), v 59 (.load (some 3) (.t 58)), v 60 (.iaddr 3 (.t 46) (.t 47)), u (.store 3 (.t 60) (.t 55)), v 61 (.iaddr 3 (.t 48) (.t 50)), u (.store 3 (.t 61) (.t 59))]) 
(.seq 
(.seq 
(.region [m 62 9, m 63 1, v 64 (.bin .sub .any (.t 62) (.t 63)), v 65 (.bin .geq .any (.t 64) (.c (.int .i64 2)))]) 
(.cond (.t 65) 
(.seq 
(.region [m 66 9, v 67 (.bin .sub .any (.t 66) (.c (.int .i64 1))), m 11 67]) 
(.block 4 
(.loop 
(.seq 
(.seq 
(.region [m 68 11, v 69 (.bin .geq .any (.t 68) (.c (.int .i64 1)))]) 
(.cond (.t 69) .skip (.exit 4))) 
(.seq 
(.block 5 
(.seq 
(.seq 
(.region [m 72 3, m 73 0, m 74 11, v 75 (.iaddr 3 (.t 73) (.t 74)), v 76 (.load (some 3) (.t 75)), m 77 0, m 78 11, v 79 (.bin .sub .any (.t 78) (.c (.int .i64 1))), v 80 (.iaddr 3 (.t 77) (.t 79)), v 81 (.load (some 3) (.t 80)), v 82 (.call (.t 72) [(.t 76), (.t 81)] false), v 83 (.bin .lss .any (.t 82) (.c (.int .i64 0))), v 84 (.un .not (.t 83))]) 
(.cond (.t 84) (.exit 4) .skip)) 
(.region [m 85 0, m 86 11, m 87 0, m 88 11, v 89 (.bin .sub .any (.t 88) (.c (.int .i64 1))), m 90 0, m 91 11, v 92 (.bin .sub .any (.t 91) (.c (.int .i64 1))), v 93 (.iaddr 3 (.t 90) (.t 92)), v 94 (.load (some 3) (.t 93)), m 95 0, m 96 11, v 97 (.iaddr 3 (.t 95) (.t 96)), v 98 (.load (some 3) (.t 97)), v 99 (.iaddr 3 (.t 85) (.t 86)), u (.store 3 (.t 99) (.t 94)), v 100 (.iaddr 3 (.t 87) (.t 89)), u (.store 3 (.t 100) (.t 98))]))) 
(.region [m 70 11, v 71 (.bin .sub .any (.t 70) (.c (.int .i64 1))), m 11 71])))))) .skip)) 
(.seq 
(.region [m 101 2, m 102 9, v 103 (.bin .sub .any (.t 101) (.t 102)), v 104 (.bin .geq .any (.t 103) (.c (.int .i64 2)))]) 
(.cond (.t 104) 
(.seq 
(.region [m 105 9, v 106 (.bin .add .any (.t 105) (.c (.int .i64 1))), m 12 106]) 
(.block 6 
(.loop 
(.seq 
(.seq 
(.region [m 107 12, m 108 2, v 109 (.bin .lss .any (.t 107) (.t 108))]) 
(.cond (.t 109) .skip (.exit 6))) 
(.seq 
(.block 7 
(.seq 
(.seq 
(.region [m 112 3, m 113 0, m 114 12, v 115 (.iaddr 3 (.t 113) (.t 114)), v 116 (.load (some 3) (.t 115)), m 117 0, m 118 12, v 119 (.bin .sub .any (.t 118) (.c (.int .i64 1))), v 120 (.iaddr 3 (.t 117) (.t 119)), v 121 (.load (some 3) (.t 120)), v 122 (.call (.t 112) [(.t 116), (.t 121)] false), v 123 (.bin .lss .any (.t 122) (.c (.int .i64 0))), v 124 (.un .not (.t 123))]) 
(.cond (.t 124) (.exit 6) .skip)) 
(.region [m 125 0, m 126 12, m 127 0, m 128 12, v 129 (.bin .sub .any (.t 128) (.c (.int .i64 1))), m 130 0, m 131 12, v 132 (.bin .sub .any (.t 131) (.c (.int .i64 1))), v 133 (.iaddr 3 (.t 130) (.t 132)), v 134 (.load (some 3) (.t 133)), m 135 0, m 136 12, v 137 (.iaddr 3 (.t 135) (.t 136)), v 138 (.load (some 3) (.t 137)), v 139 (.iaddr 3 (.t 125) (.t 126)), u (.store 3 (.t 139) (.t 134)), v 140 (.iaddr 3 (.t 127) (.t 129)), u (.store 3 (.t 140) (.t 138))]))) 
(.region [m 110 12, v 111 (.bin .add .any (.t 110) (.c (.int .i64 1))), m 12 111])))))) .skip)))))))) 
(.region [m 17 10, v 18 (.bin .add .any (.t 17) (.c (.int .i64 1))), m 10 18])))))) 
(.seq 
(.region [v 8 (.mv (.c (.bool false)))]) .ret)))),
 [.tmp 8]⟩
/-- slices.partitionEqualCmpFunc[chars.Entry] -/
def c_slices_partitionEqualCmpFunc_chars_Entry : DFunc := ⟨90, 
(.seq 
(.region [v 10 (.mv (.c (.int .i64 0)))]) 
(.seq 
(.region [m 13 0, m 14 1, m 15 0, m 16 3, m 17 0, m 18 3, v 19 (.iaddr 3 (.t 17) (.t 18)), v 20 (.load (some 3) (.t 19)), m 21 0, m 22 1, v 23 (.iaddr 3 (.t 21) (.t 22)), v 24 (.load (some 3) (.t 23)), v 25 (.iaddr 3 (.t 13) (.t 14)), u (.store 3 (.t 25) (.t 20)), v 26 (.iaddr 3 (.t 15) (.t 16)), u (.store 3 (.t 26) (.t 24))]) 
(.seq 
(.region [m 27 1, v 28 (.bin .add .any (.t 27) (.c (.int .i64 1))), m 29 2, v 30 (.bin .sub .any (.t 29) (.c (.int .i64 1))), m 11 28, m 12 30]) 
(.seq 
(.block 0 
(.loop 
(.block 1 
(.seq 
(.block 2 
(.loop 
(.seq 
(.seq 
(.region [m 31 11, m 32 12, v 33 (.bin .leq .any (.t 31) (.t 32)), m 34 33, w 35 (.mv (.t 4)) 34 true, w 36 (.mv (.t 0)) 34 true, w 37 (.mv (.t 1)) 34 true, w 38 (.iaddr 3 (.t 36) (.t 37)) 34 true, w 39 (.load (some 3) (.t 38)) 34 true, w 40 (.mv (.t 0)) 34 true, w 41 (.mv (.t 11)) 34 true, w 42 (.iaddr 3 (.t 40) (.t 41)) 34 true, w 43 (.load (some 3) (.t 42)) 34 true, w 44 (.call (.t 35) [(.t 39), (.t 43)] false) 34 true, w 45 (.bin .lss .any (.t 44) (.c (.int .i64 0))) 34 true, w 46 (.un .not (.t 45)) 34 true, v 47 (.pick (.t 34) (.t 46) (.c (.bool false)))]) 
(.cond (.t 47) .skip (.exit 2))) 
(.block 3 
(.region [m 48 11, v 49 (.bin .add .any (.t 48) (.c (.int .i64 1))), m 11 49]))))) 
(.seq 
(.block 4 
(.loop 
(.seq 
(.seq 
(.region [m 50 11, m 51 12, v 52 (.bin .leq .any (.t 50) (.t 51)), m 53 52, w 54 (.mv (.t 4)) 53 true, w 55 (.mv (.t 0)) 53 true, w 56 (.mv (.t 1)) 53 true, w 57 (.iaddr 3 (.t 55) (.t 56)) 53 true, w 58 (.load (some 3) (.t 57)) 53 true, w 59 (.mv (.t 0)) 53 true, w 60 (.mv (.t 12)) 53 true, w 61 (.iaddr 3 (.t 59) (.t 60)) 53 true, w 62 (.load (some 3) (.t 61)) 53 true, w 63 (.call (.t 54) [(.t 58), (.t 62)] false) 53 true, w 64 (.bin .lss .any (.t 63) (.c (.int .i64 0))) 53 true, v 65 (.pick (.t 53) (.t 64) (.c (.bool false)))]) 
(.cond (.t 65) .skip (.exit 4))) 
(.block 5 
(.region [m 66 12, v 67 (.bin .sub .any (.t 66) (.c (.int .i64 1))), m 12 67]))))) 
(.seq 
(.seq 
(.region [m 68 11, m 69 12, v 70 (.bin .gtr .any (.t 68) (.t 69))]) 
(.cond (.t 70) (.exit 0) .skip)) 
(.seq 
(.region [m 71 0, m 72 11, m 73 0, m 74 12, m 75 0, m 76 12, v 77 (.iaddr 3 (.t 75) (.t 76)), v 78 (.load (some 3) (.t 77)), m 79 0, m 80 11, v 81 (.iaddr 3 (.t 79) (.t 80)), v 82 (.load (some 3) (.t 81)), v 83 (.iaddr 3 (.t 71) (.t 72)), u (.store 3 (.t 83) (.t 78)), v 84 (.iaddr 3 (.t 73) (.t 74)), u (.store 3 (.t 84) (.t 82))]) 
(.seq 
(.region [m 85 11, v 86 (.bin .add .any (.t 85) (.c (.int .i64 1))), m 11 86]) 
(.region [m 87 12, v 88 (.bin .sub .any (.t 87) (.c (.int .i64 1))), m 12 88]))))))))) 
(.seq 
(.region [m 89 11, m 10 89]) .ret))))),
 [.tmp 10]⟩
/-- slices.partitionCmpFunc[chars.Entry] -/
def c_slices_partitionCmpFunc_chars_Entry : DFunc := ⟨178, 
(.seq 
(.region [v 10 (.mv (.c (.int .i64 0))), v 11 (.mv (.c (.bool false)))]) 
(.seq 
(.region [m 14 0, m 15 1, m 16 0, m 17 3, m 18 0, m 19 3, v 20 (.iaddr 3 (.t 18) (.t 19)), v 21 (.load (some 3) (.t 20)), m 22 0, m 23 1, v 24 (.iaddr 3 (.t 22) (.t 23)), v 25 (.load (some 3) (.t 24)), v 26 (.iaddr 3 (.t 14) (.t 15)), u (.store 3 (.t 26) (.t 21)), v 27 (.iaddr 3 (.t 16) (.t 17)), u (.store 3 (.t 27) (.t 25))]) 
(.seq 
(.region [m 28 1, v 29 (.bin .add .any (.t 28) (.c (.int .i64 1))), m 30 2, v 31 (.bin .sub .any (.t 30) (.c (.int .i64 1))), m 12 29, m 13 31]) 
(.seq 
(.block 0 
(.loop 
(.seq 
(.seq 
(.region [m 32 12, m 33 13, v 34 (.bin .leq .any (.t 32) (.t 33)), m 35 34, w 36 (.mv (.t 4)) 35 true, w 37 (.mv (.t 0)) 35 true, w 38 (.mv (.t 12)) 35 true, w 39 (.iaddr 3 (.t 37) (.t 38)) 35 true, w 40 (.load (some 3) (.t 39)) 35 true, w 41 (.mv (.t 0)) 35 true, w 42 (.mv (.t 1)) 35 true, w 43 (.iaddr 3 (.t 41) (.t 42)) 35 true, w 44 (.load (some 3) (.t 43)) 35 true, w 45 (.call (.t 36) [(.t 40), (.t 44)] false) 35 true, w 46 (.bin .lss .any (.t 45) (.c (.int .i64 0))) 35 true, v 47 (.pick (.t 35) (.t 46) (.c (.bool false)))]) 
(.cond (.t 47) .skip (.exit 0))) 
(.block 1 
(.region [m 48 12, v 49 (.bin .add .any (.t 48) (.c (.int .i64 1))), m 12 49]))))) 
(.seq 
(.block 2 
(.loop 
(.seq 
(.seq 
(.region [m 50 12, m 51 13, v 52 (.bin .leq .any (.t 50) (.t 51)), m 53 52, w 54 (.mv (.t 4)) 53 true, w 55 (.mv (.t 0)) 53 true, w 56 (.mv (.t 13)) 53 true, w 57 (.iaddr 3 (.t 55) (.t 56)) 53 true, w 58 (.load (some 3) (.t 57)) 53 true, w 59 (.mv (.t 0)) 53 true, w 60 (.mv (.t 1)) 53 true, w 61 (.iaddr 3 (.t 59) (.t 60)) 53 true, w 62 (.load (some 3) (.t 61)) 53 true, w 63 (.call (.t 54) [(.t 58), (.t 62)] false) 53 true, w 64 (.bin .lss .any (.t 63) (.c (.int .i64 0))) 53 true, w 65 (.un .not (.t 64)) 53 true, v 66 (.pick (.t 53) (.t 65) (.c (.bool false)))]) 
(.cond (.t 66) .skip (.exit 2))) 
(.block 3 
(.region [m 67 13, v 68 (.bin .sub .any (.t 67) (.c (.int .i64 1))), m 13 68]))))) 
(.seq 
(.seq 
(.region [m 69 12, m 70 13, v 71 (.bin .gtr .any (.t 69) (.t 70))]) 
(.cond (.t 71) 
(.seq 
(.region [m 72 0, m 73 13, m 74 0, m 75 1, m 76 0, m 77 1, v 78 (.iaddr 3 (.t 76) (.t 77)), v 79 (.load (some 3) (.t 78)), m 80 0, m 81 13, v 82 (.iaddr 3 (.t 80) (.t 81)), v 83 (.load (some 3) (.t 82)), v 84 (.iaddr 3 (.t 72) (.t 73)), u (.store 3 (.t 84) (.t 79)), v 85 (.iaddr 3 (.t 74) (.t 75)), u (.store 3 (.t 85) (.t 83))]) 
(.seq 
(.region [m 86 13, m 10 86, v 11 (.mv (.c (.bool true)))]) .ret)) .skip)) 
(.seq 
(.region [m 87 0, m 88 12, m 89 0, m 90 13, m 91 0, m 92 13, v 93 (.iaddr 3 (.t 91) (.t 92)), v 94 (.load (some 3) (.t 93)), m 95 0, m 96 12, v 97 (.iaddr 3 (.t 95) (.t 96)), v 98 (.load (some 3) (.t 97)), v 99 (.iaddr 3 (.t 87) (.t 88)), u (.store 3 (.t 99) (.t 94)), v 100 (.iaddr 3 (.t 89) (.t 90)), u (.store 3 (.t 100) (.t 98))]) 
(.seq 
(.region [m 101 12, v 102 (.bin .add .any (.t 101) (.c (.int .i64 1))), m 12 102]) 
(.seq 
(.region [m 103 13, v 104 (.bin .sub .any (.t 103) (.c (.int .i64 1))), m 13 104]) 
(.seq 
(.block 4 
(.loop 
(.block 5 
(.seq 
(.block 6 
(.loop 
(.seq 
(.seq 
(.region [m 105 12, m 106 13, v 107 (.bin .leq .any (.t 105) (.t 106)), m 108 107, w 109 (.mv (.t 4)) 108 true, w 110 (.mv (.t 0)) 108 true, w 111 (.mv (.t 12)) 108 true, w 112 (.iaddr 3 (.t 110) (.t 111)) 108 true, w 113 (.load (some 3) (.t 112)) 108 true, w 114 (.mv (.t 0)) 108 true, w 115 (.mv (.t 1)) 108 true, w 116 (.iaddr 3 (.t 114) (.t 115)) 108 true, w 117 (.load (some 3) (.t 116)) 108 true, w 118 (.call (.t 109) [(.t 113), (.t 117)] false) 108 true, w 119 (.bin .lss .any (.t 118) (.c (.int .i64 0))) 108 true, v 120 (.pick (.t 108) (.t 119) (.c (.bool false)))]) 
(.cond (.t 120) .skip (.exit 6))) 
(.block 7 
(.region [m 121 12, v 122 (.bin .add .any (.t 121) (.c (.int .i64 1))), m 12 122]))))) 
(.seq 
(.block 8 
(.loop 
(.seq 
(.seq 
(.region [m 123 12, m 124 13, v 125 (.bin .leq .any (.t 123) (.t 124)), m 126 125, w 127 (.mv (.t 4)) 126 true, w 128 (.mv (.t 0)) 126 true, w 129 (.mv (.t 13)) 126 true, w 130 (.iaddr 3 (.t 128) (.t 129)) 126 true, w 131 (.load (some 3) (.t 130)) 126 true, w 132 (.mv (.t 0)) 126 true, w 133 (.mv (.t 1)) 126 true, w 134 (.iaddr 3 (.t 132) (.t 133)) 126 true, w 135 (.load (some 3) (.t 134)) 126 true, w 136 (.call (.t 127) [(.t 131), (.t 135)] false) 126 true, w 137 (.bin .lss .any (.t 136) (.c (.int .i64 0))) 126 true, w 138 (.un .not (.t 137)) 126 true, v 139 (.pick (.t 126) (.t 138) (.c (.bool false)))]) 
(.cond (.t 139) .skip (.exit 8))) 
(.block 9 
(.region [m 140 13, v 141 (.bin .sub .any (.t 140) (.c (.int .i64 1))), m 13 141]))))) 
(.seq 
(.seq 
(.region [m 142 12, m 143 13, v 144 (.bin .gtr .any (.t 142) (.t 143))]) 
(.cond (.t 144) (.exit 4) .skip)) 
(.seq 
(.region [m 145 0, m 146 12, m 147 0, m 148 13, m 149 0, m 150 13, v 151 (.iaddr 3 (.t 149) (.t 150)), v 152 (.load (some 3) (.t 151)), m 153 0, m 154 12, v 155 (.iaddr 3 (.t 153) (.t 154)), v 156 (.load (some 3) (.t 155)), v 157 (.iaddr 3 (.t 145) (.t 146)), u (.store 3 (.t 157) (.t 152)), v 158 (.iaddr 3 (.t 147) (.t 148)), u (.store 3 (.t 158) (.t 156))]) 
(.seq 
(.region [m 159 12, v 160 (.bin .add .any (.t 159) (.c (.int .i64 1))), m 12 160]) 
(.region [m 161 13, v 162 (.bin .sub .any (.t 161) (.c (.int .i64 1))), m 13 162]))))))))) 
(.seq 
(.region [m 163 0, m 164 13, m 165 0, m 166 1, m 167 0, m 168 1, v 169 (.iaddr 3 (.t 167) (.t 168)), v 170 (.load (some 3) (.t 169)), m 171 0, m 172 13, v 173 (.iaddr 3 (.t 171) (.t 172)), v 174 (.load (some 3) (.t 173)), v 175 (.iaddr 3 (.t 163) (.t 164)), u (.store 3 (.t 175) (.t 170)), v 176 (.iaddr 3 (.t 165) (.t 166)), u (.store 3 (.t 176) (.t 174))]) 
(.seq 
(.region [m 177 13, m 10 177, v 11 (.mv (.c (.bool false)))]) .ret)))))))))))),
 [.tmp 10, .tmp 11]⟩
/-- math/bits.Len32 -/
def c_math_bits_Len32 : DFunc := ⟨19, 
(.seq 
(.region [v 2 (.mv (.c (.int .i64 0)))]) 
(.seq 
(.seq 
(.region [m 3 0, v 4 (.bin .geq .any (.t 3) (.c (.int .u32 65536)))]) 
(.cond (.t 4) 
(.seq 
(.region [m 5 0, v 6 (.bin .shr .any (.t 5) (.c (.int .u64 16))), m 0 6]) 
(.region [v 2 (.mv (.c (.int .i64 16)))])) .skip)) 
(.seq 
(.seq 
(.region [m 7 0, v 8 (.bin .geq .any (.t 7) (.c (.int .u32 256)))]) 
(.cond (.t 8) 
(.seq 
(.region [m 9 0, v 10 (.bin .shr .any (.t 9) (.c (.int .u64 8))), m 0 10]) 
(.region [m 11 2, v 12 (.bin .add .any (.t 11) (.c (.int .i64 8))), m 2 12])) .skip)) 
(.seq 
(.region [m 13 2, m 14 0, v 15 (.conv (.int .u8) false (.t 14)), v 16 (.idxStr (.c (.str [0, 1, 2, 2, 3, 3, 3, 3, 4, 4, 4, 4, 4, 4, 4, 4, 5, 5, 5, 5, 5, 5, 5, 5, 5, 5, 5, 5, 5, 5, 5, 5, 6, 6, 6, 6, 6, 6, 6, 6, 6, 6, 6, 6, 6, 6, 6, 6, 6, 6, 6, 6, 6, 6, 6, 6, 6, 6, 6, 6, 6, 6, 6, 6, 7, 7, 7, 7, 7, 7, 7, 7, 7, 7, 7, 7, 7, 7, 7, 7, 7, 7, 7, 7, 7, 7, 7, 7, 7, 7, 7, 7, 7, 7, 7, 7, 7, 7, 7, 7, 7, 7, 7, 7, 7, 7, 7, 7, 7, 7, 7, 7, 7, 7, 7, 7, 7, 7, 7, 7, 7, 7, 7, 7, 7, 7, 7, 7, 8, 8, 8, 8, 8, 8, 8, 8, 8, 8, 8, 8, 8, 8, 8, 8, 8, 8, 8, 8, 8, 8, 8, 8, 8, 8, 8, 8, 8, 8, 8, 8, 8, 8, 8, 8, 8, 8, 8, 8, 8, 8, 8, 8, 8, 8, 8, 8, 8, 8, 8, 8, 8, 8, 8, 8, 8, 8, 8, 8, 8, 8, 8, 8, 8, 8, 8, 8, 8, 8, 8, 8, 8, 8, 8, 8, 8, 8, 8, 8, 8, 8, 8, 8, 8, 8, 8, 8, 8, 8, 8, 8, 8, 8, 8, 8, 8, 8, 8, 8, 8, 8, 8, 8, 8, 8, 8, 8, 8, 8, 8, 8, 8, 8, 8, 8, 8, 8, 8, 8, 8, 8, 8, 8, 8, 8, 8, 8])) (.t 15)), v 17 (.conv (.int .i64) false (.t 16)), v 18 (.bin .add .any (.t 13) (.t 17)), m 2 18]) .ret)))),
 [.tmp 2]⟩
/-- math/bits.Len64 -/
def c_math_bits_Len64 : DFunc := ⟨25, 
(.seq 
(.region [v 2 (.mv (.c (.int .i64 0)))]) 
(.seq 
(.seq 
(.region [m 3 0, v 4 (.bin .geq .any (.t 3) (.c (.int .u64 4294967296)))]) 
(.cond (.t 4) 
(.seq 
(.region [m 5 0, v 6 (.bin .shr .any (.t 5) (.c (.int .u64 32))), m 0 6]) 
(.region [v 2 (.mv (.c (.int .i64 32)))])) .skip)) 
(.seq 
(.seq 
(.region [m 7 0, v 8 (.bin .geq .any (.t 7) (.c (.int .u64 65536)))]) 
(.cond (.t 8) 
(.seq 
(.region [m 9 0, v 10 (.bin .shr .any (.t 9) (.c (.int .u64 16))), m 0 10]) 
(.region [m 11 2, v 12 (.bin .add .any (.t 11) (.c (.int .i64 16))), m 2 12])) .skip)) 
(.seq 
(.seq 
(.region [m 13 0, v 14 (.bin .geq .any (.t 13) (.c (.int .u64 256)))]) 
(.cond (.t 14) 
(.seq 
(.region [m 15 0, v 16 (.bin .shr .any (.t 15) (.c (.int .u64 8))), m 0 16]) 
(.region [m 17 2, v 18 (.bin .add .any (.t 17) (.c (.int .i64 8))), m 2 18])) .skip)) 
(.seq 
(.region [m 19 2, m 20 0, v 21 (.conv (.int .u8) false (.t 20)), v 22 (.idxStr (.c (.str [0, 1, 2, 2, 3, 3, 3, 3, 4, 4, 4, 4, 4, 4, 4, 4, 5, 5, 5, 5, 5, 5, 5, 5, 5, 5, 5, 5, 5, 5, 5, 5, 6, 6, 6, 6, 6, 6, 6, 6, 6, 6, 6, 6, 6, 6, 6, 6, 6, 6, 6, 6, 6, 6, 6, 6, 6, 6, 6, 6, 6, 6, 6, 6, 7, 7, 7, 7, 7, 7, 7, 7, 7, 7, 7, 7, 7, 7, 7, 7, 7, 7, 7, 7, 7, 7, 7, 7, 7, 7, 7, 7, 7, 7, 7, 7, 7, 7, 7, 7, 7, 7, 7, 7, 7, 7, 7, 7, 7, 7, 7, 7, 7, 7, 7, 7, 7, 7, 7, 7, 7, 7, 7, 7, 7, 7, 7, 7, 8, 8, 8, 8, 8, 8, 8, 8, 8, 8, 8, 8, 8, 8, 8, 8, 8, 8, 8, 8, 8, 8, 8, 8, 8, 8, 8, 8, 8, 8, 8, 8, 8, 8, 8, 8, 8, 8, 8, 8, 8, 8, 8, 8, 8, 8, 8, 8, 8, 8, 8, 8, 8, 8, 8, 8, 8, 8, 8, 8, 8, 8, 8, 8, 8, 8, 8, 8, 8, 8, 8, 8, 8, 8, 8, 8, 8, 8, 8, 8, 8, 8, 8, 8, 8, 8, 8, 8, 8, 8, 8, 8, 8, 8, 8, 8, 8, 8, 8, 8, 8, 8, 8, 8, 8, 8, 8, 8, 8, 8, 8, 8, 8, 8, 8, 8, 8, 8, 8, 8, 8, 8, 8, 8, 8, 8, 8, 8])) (.t 21)), v 23 (.conv (.int .i64) false (.t 22)), v 24 (.bin .add .any (.t 19) (.t 23)), m 2 24]) .ret))))),
 [.tmp 2]⟩
/-- slices.siftDownCmpFunc[chars.Entry] -/
def c_slices_siftDownCmpFunc_chars_Entry : DFunc := ⟨82, 
(.seq 
(.region [m 12 1, m 10 12]) 
(.block 0 
(.loop 
(.block 1 
(.seq 
(.region [m 13 10, v 14 (.bin .mul .any (.c (.int .i64 2)) (.t 13)), v 15 (.bin .add .any (.t 14) (.c (.int .i64 1))), m 11 15]) 
(.seq 
(.seq 
(.region [m 16 11, m 17 2, v 18 (.bin .geq .any (.t 16) (.t 17))]) 
(.cond (.t 18) (.exit 0) .skip)) 
(.seq 
(.seq 
(.region [m 19 11, v 20 (.bin .add .any (.t 19) (.c (.int .i64 1))), m 21 2, v 22 (.bin .lss .any (.t 20) (.t 21)), m 23 22, w 24 (.mv (.t 4)) 23 true, w 25 (.mv (.t 0)) 23 true, w 26 (.mv (.t 3)) 23 true, w 27 (.mv (.t 11)) 23 true, w 28 (.bin .add .any (.t 26) (.t 27)) 23 true, w 29 (.iaddr 3 (.t 25) (.t 28)) 23 true, w 30 (.load (some 3) (.t 29)) 23 true, w 31 (.mv (.t 0)) 23 true, w 32 (.mv (.t 3)) 23 true, w 33 (.mv (.t 11)) 23 true, w 34 (.bin .add .any (.t 32) (.t 33)) 23 true, w 35 (.bin .add .any (.t 34) (.c (.int .i64 1))) 23 true, w 36 (.iaddr 3 (.t 31) (.t 35)) 23 true, w 37 (.load (some 3) (.t 36)) 23 true, w 38 (.call (.t 24) [(.t 30), (.t 37)] false) 23 true, w 39 (.bin .lss .any (.t 38) (.c (.int .i64 0))) 23 true, v 40 (.pick (.t 23) (.t 39) (.c (.bool false)))]) 
(.cond (.t 40) 
(.region [m 41 11, v 42 (.bin .add .any (.t 41) (.c (.int .i64 1))), m 11 42]) .skip)) 
(.seq 
(.seq 
(.region [m 43 4, m 44 0, m 45 3, m 46 10, v 47 (.bin .add .any (.t 45) (.t 46)), v 48 (.iaddr 3 (.t 44) (.t 47)), v 49 (.load (some 3) (.t 48)), m 50 0, m 51 3, m 52 11, v 53 (.bin .add .any (.t 51) (.t 52)), v 54 (.iaddr 3 (.t 50) (.t 53)), v 55 (.load (some 3) (.t 54)), v 56 (.call (.t 43) [(.t 49), (.t 55)] false), v 57 (.bin .lss .any (.t 56) (.c (.int .i64 0))), v 58 (.un .not (.t 57))]) 
(.cond (.t 58) .ret .skip)) 
(.seq 
(.region [m 59 0, m 60 3, m 61 10, v 62 (.bin .add .any (.t 60) (.t 61)), m 63 0, m 64 3, m 65 11, v 66 (.bin .add .any (.t 64) (.t 65)), m 67 0, m 68 3, m 69 11, v 70 (.bin .add .any (.t 68) (.t 69)), v 71 (.iaddr 3 (.t 67) (.t 70)), v 72 (.load (some 3) (.t 71)), m 73 0, m 74 3, m 75 10, v 76 (.bin .add .any (.t 74) (.t 75)), v 77 (.iaddr 3 (.t 73) (.t 76)), v 78 (.load (some 3) (.t 77)), v 79 (.iaddr 3 (.t 59) (.t 62)), u (.store 3 (.t 79) (.t 72)), v 80 (.iaddr 3 (.t 63) (.t 66)), u (.store 3 (.t 80) (.t 78))]) 
(.region [m 81 11, m 10 81])))))))))),
 []⟩
/-- slices.nextPowerOfTwo -/
def c_slices_nextPowerOfTwo : DFunc := ⟨7, 
(.seq 
(.region [v 2 (.mv (.c (.int .u64 0)))]) 
(.seq 
(.region [m 3 0, v 4 (.conv (.int .u64) false (.t 3)), v 5 (.call (.f 14) [(.t 4)] false), v 6 (.bin .shl .any (.c (.int .u64 1)) (.t 5)), m 2 6]) .ret)),
 [.tmp 2]⟩
/-- (*slices.xorshift).Next -/
def c_slices_xorshift_Next : DFunc := ⟨33, 
(.seq 
(.region [v 2 (.mv (.c (.int .u64 0)))]) 
(.seq 
(.region [m 3 0, v 4 (.nilc (.t 3)), v 5 (.load none (.t 4)), m 6 0, v 7 (.nilc (.t 6)), v 8 (.load none (.t 7)), v 9 (.bin .shl .any (.t 8) (.c (.int .u64 13))), v 10 (.bin .xor .any (.t 5) (.t 9)), v 11 (.nilc (.t 3)), u (.store 1 (.t 11) (.t 10))]) 
(.seq 
(.region [m 12 0, v 13 (.nilc (.t 12)), v 14 (.load none (.t 13)), m 15 0, v 16 (.nilc (.t 15)), v 17 (.load none (.t 16)), v 18 (.bin .shr .any (.t 17) (.c (.int .u64 7))), v 19 (.bin .xor .any (.t 14) (.t 18)), v 20 (.nilc (.t 12)), u (.store 1 (.t 20) (.t 19))]) 
(.seq 
(.region [m 21 0, v 22 (.nilc (.t 21)), v 23 (.load none (.t 22)), m 24 0, v 25 (.nilc (.t 24)), v 26 (.load none (.t 25)), v 27 (.bin .shl .any (.t 26) (.c (.int .u64 17))), v 28 (.bin .xor .any (.t 23) (.t 27)), v 29 (.nilc (.t 21)), u (.store 1 (.t 29) (.t 28))]) 
(.seq 
(.region [m 30 0, v 31 (.nilc (.t 30)), v 32 (.load none (.t 31)), m 2 32]) .ret))))),
 [.tmp 2]⟩
/-- slices.medianAdjacentCmpFunc[chars.Entry] -/
def c_slices_medianAdjacentCmpFunc_chars_Entry : DFunc := ⟨18, 
(.seq 
(.region [v 8 (.mv (.c (.int .i64 0)))]) 
(.seq 
(.region [m 9 0, m 10 1, v 11 (.bin .sub .any (.t 10) (.c (.int .i64 1))), m 12 1, m 13 1, v 14 (.bin .add .any (.t 13) (.c (.int .i64 1))), m 15 2, m 16 3, v 17 (.call (.f 31) [(.t 9), (.t 11), (.t 12), (.t 14), (.t 15), (.t 16)] false), m 8 17]) .ret)),
 [.tmp 8]⟩
/-- slices.medianCmpFunc[chars.Entry] -/
def c_slices_medianCmpFunc_chars_Entry : DFunc := ⟨41, 
(.seq 
(.region [v 12 (.mv (.c (.int .i64 0)))]) 
(.seq 
(.region [m 14 0, m 15 1, m 16 2, m 17 4, m 18 5, v 19 (.call (.f 32) [(.t 14), (.t 15), (.t 16), (.t 17), (.t 18)] false), m 13 19, v 20 (.extract (.t 13) 0), v 21 (.extract (.t 13) 1), m 1 20, m 2 21]) 
(.seq 
(.region [m 23 0, m 24 2, m 25 3, m 26 4, m 27 5, v 28 (.call (.f 32) [(.t 23), (.t 24), (.t 25), (.t 26), (.t 27)] false), m 22 28, v 29 (.extract (.t 22) 0), v 30 (.extract (.t 22) 1), m 2 29, m 3 30]) 
(.seq 
(.region [m 32 0, m 33 1, m 34 2, m 35 4, m 36 5, v 37 (.call (.f 32) [(.t 32), (.t 33), (.t 34), (.t 35), (.t 36)] false), m 31 37, v 38 (.extract (.t 31) 0), v 39 (.extract (.t 31) 1), m 1 38, m 2 39]) 
(.seq 
(.region [m 40 2, m 12 40]) .ret))))),
 [.tmp 12]⟩
/-- slices.order2CmpFunc[chars.Entry] -/
def c_slices_order2CmpFunc_chars_Entry : DFunc := ⟨32, 
(.seq 
(.region [v 10 (.mv (.c (.int .i64 0))), v 11 (.mv (.c (.int .i64 0)))]) 
(.seq 
(.seq 
(.region [m 12 4, m 13 0, m 14 2, v 15 (.iaddr 3 (.t 13) (.t 14)), v 16 (.load (some 3) (.t 15)), m 17 0, m 18 1, v 19 (.iaddr 3 (.t 17) (.t 18)), v 20 (.load (some 3) (.t 19)), v 21 (.call (.t 12) [(.t 16), (.t 20)] false), v 22 (.bin .lss .any (.t 21) (.c (.int .i64 0)))]) 
(.cond (.t 22) 
(.seq 
(.region [m 23 3, v 24 (.nilc (.t 23)), v 25 (.load none (.t 24)), v 26 (.bin .add .any (.t 25) (.c (.int .i64 1))), v 27 (.nilc (.t 23)), u (.store 1 (.t 27) (.t 26))]) 
(.seq 
(.region [m 28 2, m 29 1, m 10 28, m 11 29]) .ret)) .skip)) 
(.seq 
(.region [m 30 1, m 31 2, m 10 30, m 11 31]) .ret))),
 [.tmp 10, .tmp 11]⟩
theorem ok_math_bits_Len : compF Try.prog cfg2 14 = some c_math_bits_Len := by kernel_rfl
theorem ok_slices_insertionSortCmpFunc_chars_Entry : compF Try.prog cfg2 16 = some c_slices_insertionSortCmpFunc_chars_Entry := by kernel_rfl
theorem ok_slices_heapSortCmpFunc_chars_Entry : compF Try.prog cfg2 17 = some c_slices_heapSortCmpFunc_chars_Entry := by kernel_rfl
theorem ok_slices_breakPatternsCmpFunc_chars_Entry : compF Try.prog cfg2 18 = some c_slices_breakPatternsCmpFunc_chars_Entry := by kernel_rfl
theorem ok_slices_choosePivotCmpFunc_chars_Entry : compF Try.prog cfg2 19 = some c_slices_choosePivotCmpFunc_chars_Entry := by kernel_rfl
theorem ok_slices_reverseRangeCmpFunc_chars_Entry : compF Try.prog cfg2 20 = some c_slices_reverseRangeCmpFunc_chars_Entry := by kernel_rfl
theorem ok_slices_partialInsertionSortCmpFunc_chars_Entry : compF Try.prog cfg2 21 = some c_slices_partialInsertionSortCmpFunc_chars_Entry := by kernel_rfl
theorem ok_slices_partitionEqualCmpFunc_chars_Entry : compF Try.prog cfg2 22 = some c_slices_partitionEqualCmpFunc_chars_Entry := by kernel_rfl
theorem ok_slices_partitionCmpFunc_chars_Entry : compF Try.prog cfg2 23 = some c_slices_partitionCmpFunc_chars_Entry := by kernel_rfl
theorem ok_math_bits_Len32 : compF Try.prog cfg2 24 = some c_math_bits_Len32 := by kernel_rfl
theorem ok_math_bits_Len64 : compF Try.prog cfg2 25 = some c_math_bits_Len64 := by kernel_rfl
theorem ok_slices_siftDownCmpFunc_chars_Entry : compF Try.prog cfg2 27 = some c_slices_siftDownCmpFunc_chars_Entry := by kernel_rfl
theorem ok_slices_nextPowerOfTwo : compF Try.prog cfg2 28 = some c_slices_nextPowerOfTwo := by kernel_rfl
theorem ok_slices_xorshift_Next : compF Try.prog cfg2 29 = some c_slices_xorshift_Next := by kernel_rfl
theorem ok_slices_medianAdjacentCmpFunc_chars_Entry : compF Try.prog cfg2 30 = some c_slices_medianAdjacentCmpFunc_chars_Entry := by kernel_rfl
theorem ok_slices_medianCmpFunc_chars_Entry : compF Try.prog cfg2 31 = some c_slices_medianCmpFunc_chars_Entry := by kernel_rfl
theorem ok_slices_order2CmpFunc_chars_Entry : compF Try.prog cfg2 32 = some c_slices_order2CmpFunc_chars_Entry := by kernel_rfl
end Go.Proofs.Ytjhednolknlpiaa.Code
