/- LexTexts returns true for every input: part 4 of the proof (several texts joined). -/
import Derived.Test.YticnenofiibpgaaDoorChecked
import Derived.KernelRfl
import Derived.Test.YticnenofiibpgaaDoorJ3
/- Functions of the program as code of the D-machine (1): PRINTED BY PROGRAM; each is checked to be what the program's own compiles to. -/
namespace Go.Proofs.YticnenofiibpgaaDoor.Code
set_option linter.unusedSimpArgs false
set_option linter.unusedVariables false
open Go.Dm Go.Dm.C
def cfg1 : Cfg := ⟨fun t => [3, 83].contains t, fun f => [26, 46, 57, 58, 59].contains f⟩
/-- woodcutlaw09.LexRefs -/
def c_woodcutlaw09_LexRefs : DFunc := ⟨244, 
(.seq 
(.region [v 8 (.mv (.c (.bool false)))]) 
(.seq 
(.seq 
(.region [v 26 (.call (.f 13) [] false), v 27 (.un .not (.t 26))]) 
(.cond (.t 27) 
(.seq 
(.region [v 8 (.mv (.c (.bool false)))]) .ret) .skip)) 
(.seq 
(.seq 
(.region [m 28 0, v 29 (.len false (.t 28)), v 30 (.bin .gtr .any (.t 29) (.c (.int .i64 20)))]) 
(.cond (.t 30) 
(.seq 
(.region [v 8 (.mv (.c (.bool true)))]) .ret) .skip)) 
(.seq 
(.region [m 31 0, v 32 (.call (.f 14) [(.t 31)] false), m 9 32]) 
(.seq 
(.seq 
(.region [m 33 3, v 34 (.bin .and .any (.t 33) (.c (.int .i64 1))), v 35 (.bin .eql .any (.t 34) (.c (.int .i64 1))), m 36 35, w 37 (.mv (.t 9)) 36 true, w 38 (.len false (.t 37)) 36 true, w 39 (.bin .gtr .any (.t 38) (.c (.int .i64 1))) 36 true, v 40 (.pick (.t 36) (.t 39) (.c (.bool false)))]) 
(.cond (.t 40) 
(.region [m 41 9, v 42 (.sliceStr (.t 41) (some (.c (.int .i64 1))) none), m 9 42]) .skip)) 
(.seq 
(.seq 
(.region [v 43 (.mks false none (.str []) 7 [(0, (.c (.str [97, 109, 112]))), (1, (.c (.str [108, 116]))), (2, (.c (.str [99, 111, 112, 121]))), (3, (.c (.str [110, 111, 116, 105, 110]))), (4, (.c (.str [101, 117, 114, 111]))), (5, (.c (.str [116, 105, 109, 101, 115]))), (6, (.c (.str [97, 112, 111, 115])))]), v 44 (.len true (.t 43)), v 45 (.mv (.c (.int .i64 0)))]) 
(.block 0 
(.loop 
(.seq 
(.region [v 46 (.bin .lss .any (.t 45) (.t 44))]) 
(.seq 
(.cond (.t 46) .skip (.exit 0)) 
(.seq 
(.block 1 
(.seq 
(.region [m 47 45, v 48 (.iaddr 1 (.t 43) (.t 45)), v 49 (.load none (.t 48)), m 10 47, m 11 49]) 
(.seq 
(.region [m 50 3, v 51 (.bin .shr .any (.t 50) (.c (.int .u64 2))), v 52 (.bin .and .any (.t 51) (.c (.int .i64 7))), m 53 10, v 54 (.bin .eql .any (.t 52) (.t 53))]) 
(.cond (.t 54) 
(.region [m 55 11, m 9 55]) .skip)))) 
(.region [v 56 (.bin .add .any (.t 45) (.c (.int .i64 1))), m 45 56]))))))) 
(.seq 
(.region [m 57 9, v 58 (.bin .add .any (.c (.str [38])) (.t 57)), m 12 58]) 
(.seq 
(.seq 
(.region [m 59 3, v 60 (.bin .and .any (.t 59) (.c (.int .i64 2))), v 61 (.bin .eql .any (.t 60) (.c (.int .i64 2)))]) 
(.cond (.t 61) 
(.region [m 62 12, v 63 (.bin .add .any (.t 62) (.c (.str [59]))), m 12 63]) .skip)) 
(.seq 
(.region [m 64 2, v 65 (.conv (.int .i64) false (.t 64)), v 66 (.bin .rem .any (.t 65) (.c (.int .i64 5))), m 67 2, v 68 (.conv (.int .i64) false (.t 67)), v 69 (.bin .rem .any (.t 68) (.c (.int .i64 5))), v 70 (.bin .add .any (.t 69) (.c (.int .i64 1))), v 71 (.sliceStr (.c (.str [97, 46, 61, 53, 32])) (some (.t 66)) (some (.t 70))), m 13 71]) 
(.seq 
(.region [m 72 12, m 73 13, v 74 (.bin .add .any (.t 72) (.t 73)), v 75 (.conv .strBytes false (.t 74)), v 76 (.call (.f 15) [(.t 75)] false), m 14 76]) 
(.seq 
(.region [v 77 (.mks false none (.int .i32 0) 0 []), m 15 77]) 
(.seq 
(.seq 
(.region [v 16 (.mv (.c (.int .i64 0)))]) 
(.block 2 
(.loop 
(.seq 
(.seq 
(.region [m 78 16, m 79 12, v 80 (.len false (.t 79)), v 81 (.bin .sub .any (.t 80) (.c (.int .i64 1))), v 82 (.bin .lss .any (.t 78) (.t 81))]) 
(.cond (.t 82) .skip (.exit 2))) 
(.seq 
(.block 3 
(.region [m 85 15, m 86 12, m 87 16, v 88 (.bin .add .any (.t 87) (.c (.int .i64 1))), v 89 (.idxStr (.t 86) (.t 88)), v 90 (.conv (.int .i32) false (.t 89)), v 91 (.mks false none (.int .i32 0) 1 [(0, (.t 90))]), v 92 (.append false none 4 (.t 85) (.t 91)), m 15 92])) 
(.region [m 83 16, v 84 (.bin .add .any (.t 83) (.c (.int .i64 1))), m 16 84])))))) 
(.seq 
(.region [m 93 15, m 94 13, v 95 (.idxStr (.t 94) (.c (.int .i64 0))), v 96 (.conv (.int .i32) false (.t 95)), v 97 (.mks false none (.int .i32 0) 1 [(0, (.t 96))]), v 98 (.append false none 4 (.t 93) (.t 97)), m 15 98]) 
(.seq 
(.region [m 100 15, v 101 (.call (.f 16) [(.t 100)] false), m 99 101, v 102 (.extract (.t 99) 0), v 103 (.extract (.t 99) 1), v 104 (.extract (.t 99) 2), m 17 102, m 18 103, m 19 104]) 
(.seq 
(.region [m 105 17, v 106 (.call (.f 17) [(.t 105)] false), v 107 (.conv .bytesStr false (.t 106)), m 20 107]) 
(.seq 
(.region [m 108 12, m 109 13, v 110 (.bin .add .any (.t 108) (.t 109)), m 21 110]) 
(.seq 
(.seq 
(.region [m 111 18, v 112 (.bin .gtr .any (.t 111) (.c (.int .i64 0)))]) 
(.cond (.t 112) 
(.region [m 113 20, m 114 12, m 115 13, v 116 (.bin .add .any (.t 114) (.t 115)), m 117 18, v 118 (.bin .add .any (.c (.int .i64 1)) (.t 117)), v 119 (.sliceStr (.t 116) (some (.t 118)) none), v 120 (.bin .add .any (.t 113) (.t 119)), m 21 120]) .skip)) 
(.seq 
(.seq 
(.region [m 121 14, v 122 (.len true (.t 121)), v 123 (.bin .neq .any (.t 122) (.c (.int .i64 1))), m 124 123, w 125 (.mv (.t 14)) 124 false, w 126 (.iaddr 10 (.t 125) (.c (.int .i64 0))) 124 false, w 127 (.faddr 0 (.t 126)) 124 false, w 128 (.load none (.t 127)) 124 false, w 129 (.bin .neq .any (.t 128) (.c (.int .i64 1))) 124 false, v 130 (.pick (.t 124) (.c (.bool true)) (.t 129)), m 131 130, w 132 (.mv (.t 14)) 131 false, w 133 (.iaddr 10 (.t 132) (.c (.int .i64 0))) 131 false, w 134 (.faddr 4 (.t 133)) 131 false, w 135 (.load none (.t 134)) 131 false, w 136 (.mv (.t 21)) 131 false, w 137 (.bin .neq .any (.t 135) (.t 136)) 131 false, v 138 (.pick (.t 131) (.c (.bool true)) (.t 137))]) 
(.cond (.t 138) 
(.seq 
(.region [v 8 (.mv (.c (.bool false)))]) .ret) .skip)) 
(.seq 
(.region [m 139 12, v 140 (.bin .add .any (.c (.str [60, 97, 32, 98, 61, 34])) (.t 139)), m 141 13, v 142 (.bin .add .any (.t 140) (.t 141)), v 143 (.bin .add .any (.t 142) (.c (.str [34, 62]))), v 144 (.conv .strBytes false (.t 143)), v 145 (.call (.f 15) [(.t 144)] false), m 22 145]) 
(.seq 
(.seq 
(.region [m 146 18, v 147 (.bin .gtr .any (.t 146) (.c (.int .i64 0))), m 148 147, w 149 (.mv (.t 19)) 148 true, w 150 (.un .not (.t 149)) 148 true, v 151 (.pick (.t 148) (.t 150) (.c (.bool false))), m 152 151, w 153 (.mv (.t 18)) 152 true, w 154 (.mv (.t 15)) 152 true, w 155 (.len true (.t 154)) 152 true, w 156 (.bin .lss .any (.t 153) (.t 155)) 152 true, v 157 (.pick (.t 152) (.t 156) (.c (.bool false))), m 158 157, w 159 (.mv (.t 15)) 158 true, w 160 (.mv (.t 18)) 158 true, w 161 (.iaddr 1 (.t 159) (.t 160)) 158 true, w 162 (.load none (.t 161)) 158 true, w 163 (.bin .eql .any (.t 162) (.c (.int .i32 61))) 158 true, w 164 (.mv (.t 163)) 158 true, w 165 (.mv (.t 15)) 164 false, w 166 (.mv (.t 18)) 164 false, w 167 (.iaddr 1 (.t 165) (.t 166)) 164 false, w 168 (.load none (.t 167)) 164 false, w 169 (.call (.f 18) [(.t 168)] false) 164 false, w 170 (.pick (.t 164) (.c (.bool true)) (.t 169)) 158 true, w 171 (.mv (.t 170)) 158 true, w 172 (.mv (.t 15)) 171 false, w 173 (.mv (.t 18)) 171 false, w 174 (.iaddr 1 (.t 172) (.t 173)) 171 false, w 175 (.load none (.t 174)) 171 false, w 176 (.call (.f 19) [(.t 175)] false) 171 false, w 177 (.pick (.t 171) (.c (.bool true)) (.t 176)) 158 true, v 178 (.pick (.t 158) (.t 177) (.c (.bool false)))]) 
(.cond (.t 178) 
(.region [m 179 12, m 180 13, v 181 (.bin .add .any (.t 179) (.t 180)), m 21 181]) .skip)) 
(.seq 
(.seq 
(.region [m 182 22, v 183 (.len true (.t 182)), v 184 (.bin .neq .any (.t 183) (.c (.int .i64 1))), m 185 184, w 186 (.mv (.t 22)) 185 false, w 187 (.iaddr 10 (.t 186) (.c (.int .i64 0))) 185 false, w 188 (.faddr 2 (.t 187)) 185 false, w 189 (.load none (.t 188)) 185 false, w 190 (.len true (.t 189)) 185 false, w 191 (.bin .neq .any (.t 190) (.c (.int .i64 1))) 185 false, v 192 (.pick (.t 185) (.c (.bool true)) (.t 191)), m 193 192, w 194 (.mv (.t 22)) 193 false, w 195 (.iaddr 10 (.t 194) (.c (.int .i64 0))) 193 false, w 196 (.faddr 2 (.t 195)) 193 false, w 197 (.load none (.t 196)) 193 false, w 198 (.iaddr 2 (.t 197) (.c (.int .i64 0))) 193 false, w 199 (.faddr 1 (.t 198)) 193 false, w 200 (.load none (.t 199)) 193 false, w 201 (.mv (.t 21)) 193 false, w 202 (.bin .neq .any (.t 200) (.t 201)) 193 false, v 203 (.pick (.t 193) (.c (.bool true)) (.t 202))]) 
(.cond (.t 203) 
(.seq 
(.region [v 8 (.mv (.c (.bool false)))]) .ret) .skip)) 
(.seq 
(.region [m 204 1, v 205 (.bin .and .any (.t 204) (.c (.int .i64 2097151))), m 1 205]) 
(.seq 
(.region [v 23 (.mv (.c (.str [])))]) 
(.seq 
(.seq 
(.region [m 206 1, m 24 206]) 
(.block 4 
(.loop 
(.seq 
(.seq 
(.region [m 207 24, v 208 (.bin .gtr .any (.t 207) (.c (.int .i64 0))), m 209 208, w 210 (.mv (.t 23)) 209 false, w 211 (.bin .eql .any (.t 210) (.c (.str []))) 209 false, v 212 (.pick (.t 209) (.c (.bool true)) (.t 211))]) 
(.cond (.t 212) .skip (.exit 4))) 
(.seq 
(.block 5 
(.region [m 215 24, v 216 (.bin .rem .any (.t 215) (.c (.int .i64 10))), v 217 (.bin .add .any (.c (.int .i64 48)) (.t 216)), v 218 (.conv (.int .u8) false (.t 217)), v 219 (.mks false none (.int .u8 0) 1 [(0, (.t 218))]), v 220 (.conv .bytesStr false (.t 219)), m 221 23, v 222 (.bin .add .any (.t 220) (.t 221)), m 23 222])) 
(.region [m 213 24, v 214 (.bin .quo .any (.t 213) (.c (.int .i64 10))), m 24 214])))))) 
(.seq 
(.region [m 223 23, v 224 (.bin .add .any (.c (.str [38, 35])) (.t 223)), v 225 (.bin .add .any (.t 224) (.c (.str [59, 120]))), v 226 (.conv .strBytes false (.t 225)), v 227 (.call (.f 15) [(.t 226)] false), m 25 227]) 
(.seq 
(.region [m 228 25, v 229 (.len true (.t 228)), v 230 (.bin .eql .any (.t 229) (.c (.int .i64 1))), m 231 230, w 232 (.mv (.t 25)) 231 true, w 233 (.iaddr 10 (.t 232) (.c (.int .i64 0))) 231 true, w 234 (.faddr 4 (.t 233)) 231 true, w 235 (.load none (.t 234)) 231 true, w 236 (.mv (.t 1)) 231 true, ⟨(some 237), .call (.f 20) [(.t 236)] false, (some (231, true)), [((.t 234), none, 235, (some (231, true)))]⟩, w 238 (.mks false none (.int .i32 0) 1 [(0, (.t 237))]) 231 true, ⟨(some 239), .call (.f 17) [(.t 238)] false, (some (231, true)), [((.t 234), none, 235, (some (231, true)))]⟩, w 240 (.conv .bytesStr false (.t 239)) 231 true, w 241 (.bin .add .any (.t 240) (.c (.str [120]))) 231 true, w 242 (.bin .eql .any (.t 235) (.t 241)) 231 true, v 243 (.pick (.t 231) (.t 242) (.c (.bool false))), m 8 243]) .ret)))))))))))))))))))))))))),
 [.tmp 8]⟩
/-- woodcutlaw09.LexTexts -/
def c_woodcutlaw09_LexTexts : DFunc := ⟨63, 
(.seq 
(.region [v 4 (.alloc [(.bool false)] none)]) 
(.seq 
(.seq 
(.region [v 11 (.call (.f 13) [] false), v 12 (.un .not (.t 11))]) 
(.cond (.t 12) 
(.seq 
(.region [u (.store 1 (.t 4) (.c (.bool false)))]) .ret) .skip)) 
(.seq 
(.seq 
(.region [m 13 0, v 14 (.len false (.t 13)), v 15 (.bin .gtr .any (.t 14) (.c (.int .i64 500)))]) 
(.cond (.t 15) 
(.seq 
(.region [u (.store 1 (.t 4) (.c (.bool true)))]) .ret) .skip)) 
(.seq 
(.region [m 16 0, v 17 (.call (.f 21) [(.t 16)] false), m 5 17]) 
(.seq 
(.seq 
(.region [m 18 1, v 19 (.un .not (.t 18))]) 
(.cond (.t 19) 
(.seq 
(.region [v 6 (.mv (.c (.str [])))]) 
(.seq 
(.seq 
(.region [v 7 (.mv (.c (.int .i64 0)))]) 
(.block 0 
(.loop 
(.seq 
(.seq 
(.region [m 20 7, m 21 5, v 22 (.len false (.t 21)), v 23 (.bin .lss .any (.t 20) (.t 22))]) 
(.cond (.t 23) .skip (.exit 0))) 
(.seq 
(.block 1 
(.seq 
(.region [m 26 5, m 27 7, v 28 (.idxStr (.t 26) (.t 27)), v 29 (.bin .neq .any (.t 28) (.c (.int .u8 60))), m 30 29, w 31 (.mv (.t 5)) 30 true, w 32 (.mv (.t 7)) 30 true, w 33 (.idxStr (.t 31) (.t 32)) 30 true, w 34 (.bin .neq .any (.t 33) (.c (.int .u8 38))) 30 true, v 35 (.pick (.t 30) (.t 34) (.c (.bool false)))]) 
(.cond (.t 35) 
(.region [m 36 6, m 37 5, m 38 7, m 39 7, v 40 (.bin .add .any (.t 39) (.c (.int .i64 1))), v 41 (.sliceStr (.t 37) (some (.t 38)) (some (.t 40))), v 42 (.bin .add .any (.t 36) (.t 41)), m 6 42]) .skip))) 
(.region [m 24 7, v 25 (.bin .add .any (.t 24) (.c (.int .i64 1))), m 7 25])))))) 
(.region [m 43 6, m 5 43]))) .skip)) 
(.seq 
(.region [m 44 5, v 45 (.conv .strBytes false (.t 44)), v 46 (.call (.f 22) [(.t 45)] false), m 8 46]) 
(.seq 
(.seq 
(.region [m 47 1]) 
(.cond (.t 47) 
(.region [m 48 8, v 49 (.call (.f 23) [(.t 48), (.c (.int .i64 4)), (.c (.str []))] false)]) .skip)) 
(.seq 
(.region [v 9 (.alloc [(.str [])] none), u (.store 1 (.t 9) (.c (.str [])))]) 
(.seq 
(.seq 
(.region [m 50 8, v 51 (.call (.f 24) [(.t 50)] false)]) 
(.block 2 
(.range (.t 51) [52] 
(.region [v 10 (.alloc [(.int .i64 0), (.str []), (.lst 0 0 []), (.bool false), (.str []), (.str []), (.str []), (.bool false), (.bool false), (.bool false)] none), u (.store 10 (.t 10) (.t 52))]) 
(.block 3 
(.seq 
(.seq 
(.region [v 53 (.faddr 0 (.t 10)), v 54 (.load none (.t 53)), v 55 (.bin .neq .any (.t 54) (.c (.int .i64 1)))]) 
(.cond (.t 55) 
(.seq 
(.region [u (.store 1 (.t 4) (.c (.bool false)))]) .ret) .skip)) 
(.region [v 56 (.load none (.t 9)), v 57 (.faddr 4 (.t 10)), v 58 (.load none (.t 57)), v 59 (.bin .add .any (.t 56) (.t 58)), u (.store 1 (.t 9) (.t 59))])))))) 
(.seq 
(.region [v 60 (.load none (.t 9)), m 61 5, v 62 (.bin .eql .any (.t 60) (.t 61)), u (.store 1 (.t 4) (.t 62))]) .ret)))))))))),
 [.cell 4 none]⟩
/-- woodcutlaw09.LexSections -/
def c_woodcutlaw09_LexSections : DFunc := ⟨116, 
(.seq 
(.region [v 4 (.mv (.c (.bool false)))]) 
(.seq 
(.seq 
(.region [v 10 (.call (.f 13) [] false), v 11 (.un .not (.t 10))]) 
(.cond (.t 11) 
(.seq 
(.region [v 4 (.mv (.c (.bool false)))]) .ret) .skip)) 
(.seq 
(.region [v 5 (.mv (.c (.str [])))]) 
(.seq 
(.seq 
(.region [v 6 (.mv (.c (.int .i64 0)))]) 
(.block 0 
(.loop 
(.seq 
(.seq 
(.region [m 12 6, m 13 0, v 14 (.len false (.t 13)), v 15 (.bin .lss .any (.t 12) (.t 14)), m 16 15, w 17 (.mv (.t 6)) 16 true, w 18 (.bin .lss .any (.t 17) (.c (.int .i64 100))) 16 true, v 19 (.pick (.t 16) (.t 18) (.c (.bool false)))]) 
(.cond (.t 19) .skip (.exit 0))) 
(.seq 
(.block 1 
(.seq 
(.region [m 22 0, m 23 6, v 24 (.idxStr (.t 22) (.t 23)), v 25 (.bin .geq .any (.t 24) (.c (.int .u8 32))), m 26 25, w 27 (.mv (.t 0)) 26 true, w 28 (.mv (.t 6)) 26 true, w 29 (.idxStr (.t 27) (.t 28)) 26 true, w 30 (.bin .lss .any (.t 29) (.c (.int .u8 127))) 26 true, v 31 (.pick (.t 26) (.t 30) (.c (.bool false))), m 32 31, w 33 (.mv (.t 0)) 32 true, w 34 (.mv (.t 6)) 32 true, w 35 (.idxStr (.t 33) (.t 34)) 32 true, w 36 (.bin .neq .any (.t 35) (.c (.int .u8 93))) 32 true, v 37 (.pick (.t 32) (.t 36) (.c (.bool false))), m 38 37, w 39 (.mv (.t 0)) 38 true, w 40 (.mv (.t 6)) 38 true, w 41 (.idxStr (.t 39) (.t 40)) 38 true, w 42 (.bin .neq .any (.t 41) (.c (.int .u8 62))) 38 true, v 43 (.pick (.t 38) (.t 42) (.c (.bool false)))]) 
(.cond (.t 43) 
(.region [m 44 5, m 45 0, m 46 6, m 47 6, v 48 (.bin .add .any (.t 47) (.c (.int .i64 1))), v 49 (.sliceStr (.t 45) (some (.t 46)) (some (.t 48))), v 50 (.bin .add .any (.t 44) (.t 49)), m 5 50]) .skip))) 
(.region [m 20 6, v 21 (.bin .add .any (.t 20) (.c (.int .i64 1))), m 6 21])))))) 
(.seq 
(.region [m 51 5, v 52 (.bin .add .any (.c (.str [60, 33, 91, 67, 68, 65, 84, 65, 91])) (.t 51)), v 53 (.bin .add .any (.t 52) (.c (.str [93, 93, 62, 120]))), v 54 (.conv .strBytes false (.t 53)), v 55 (.call (.f 22) [(.t 54)] false), m 7 55]) 
(.seq 
(.region [m 56 7, m 57 1, v 58 (.call (.f 25) [(.t 56), (.t 57)] false)]) 
(.seq 
(.region [v 59 (.mks false (some 10) (.agg [(.int .i64 0), (.str []), (.lst 0 0 []), (.bool false), (.str []), (.str []), (.str []), (.bool false), (.bool false), (.bool false)]) 0 []), v 8 (.alloc [(.lst 0 0 [])] none), u (.store 1 (.t 8) (.t 59))]) 
(.seq 
(.seq 
(.region [m 60 7, v 61 (.call (.f 24) [(.t 60)] false)]) 
(.block 2 
(.range (.t 61) [62] 
(.region [v 9 (.alloc [(.int .i64 0), (.str []), (.lst 0 0 []), (.bool false), (.str []), (.str []), (.str []), (.bool false), (.bool false), (.bool false)] none), u (.store 10 (.t 9) (.t 62))]) 
(.block 3 
(.region [v 63 (.load none (.t 8)), v 64 (.load (some 10) (.t 9)), v 65 (.mks false (some 10) (.agg [(.int .i64 0), (.str []), (.lst 0 0 []), (.bool false), (.str []), (.str []), (.str []), (.bool false), (.bool false), (.bool false)]) 1 [(0, (.t 64))]), v 66 (.append false (some 10) 112 (.t 63) (.t 65)), u (.store 1 (.t 8) (.t 66))]))))) 
(.seq 
(.region [v 67 (.load none (.t 8)), v 68 (.call (.f 26) [(.t 67)] true), u (.store 1 (.t 8) (.t 68))]) 
(.seq 
(.seq 
(.region [m 69 1]) 
(.cond (.t 69) 
(.seq 
(.region [v 70 (.load none (.t 8)), v 71 (.len true (.t 70)), v 72 (.bin .eql .any (.t 71) (.c (.int .i64 1))), m 73 72, w 74 (.load none (.t 8)) 73 true, w 75 (.iaddr 10 (.t 74) (.c (.int .i64 0))) 73 true, w 76 (.faddr 0 (.t 75)) 73 true, w 77 (.load none (.t 76)) 73 true, w 78 (.bin .eql .any (.t 77) (.c (.int .i64 1))) 73 true, v 79 (.pick (.t 73) (.t 78) (.c (.bool false))), m 80 79, w 81 (.load none (.t 8)) 80 true, w 82 (.iaddr 10 (.t 81) (.c (.int .i64 0))) 80 true, w 83 (.faddr 4 (.t 82)) 80 true, w 84 (.load none (.t 83)) 80 true, w 85 (.mv (.t 5)) 80 true, w 86 (.bin .add .any (.t 85) (.c (.str [120]))) 80 true, w 87 (.bin .eql .any (.t 84) (.t 86)) 80 true, v 88 (.pick (.t 80) (.t 87) (.c (.bool false))), m 4 88]) .ret) .skip)) 
(.seq 
(.region [v 89 (.load none (.t 8)), v 90 (.len true (.t 89)), v 91 (.bin .eql .any (.t 90) (.c (.int .i64 2))), m 92 91, w 93 (.load none (.t 8)) 92 true, w 94 (.iaddr 10 (.t 93) (.c (.int .i64 0))) 92 true, w 95 (.faddr 0 (.t 94)) 92 true, w 96 (.load none (.t 95)) 92 true, w 97 (.bin .eql .any (.t 96) (.c (.int .i64 4))) 92 true, v 98 (.pick (.t 92) (.t 97) (.c (.bool false))), m 99 98, w 100 (.load none (.t 8)) 99 true, w 101 (.iaddr 10 (.t 100) (.c (.int .i64 0))) 99 true, w 102 (.faddr 4 (.t 101)) 99 true, w 103 (.load none (.t 102)) 99 true, w 104 (.mv (.t 5)) 99 true, w 105 (.bin .add .any (.c (.str [91, 67, 68, 65, 84, 65, 91])) (.t 104)) 99 true, w 106 (.bin .add .any (.t 105) (.c (.str [93, 93]))) 99 true, w 107 (.bin .eql .any (.t 103) (.t 106)) 99 true, v 108 (.pick (.t 99) (.t 107) (.c (.bool false))), m 109 108, w 110 (.load none (.t 8)) 109 true, w 111 (.iaddr 10 (.t 110) (.c (.int .i64 1))) 109 true, w 112 (.faddr 4 (.t 111)) 109 true, w 113 (.load none (.t 112)) 109 true, w 114 (.bin .eql .any (.t 113) (.c (.str [120]))) 109 true, v 115 (.pick (.t 109) (.t 114) (.c (.bool false))), m 4 115]) .ret))))))))))),
 [.tmp 4]⟩
/-- woodcutlaw09.LexComments -/
def c_woodcutlaw09_LexComments : DFunc := ⟨107, 
(.seq 
(.region [v 4 (.mv (.c (.bool false)))]) 
(.seq 
(.seq 
(.region [v 15 (.call (.f 13) [] false), v 16 (.un .not (.t 15))]) 
(.cond (.t 16) 
(.seq 
(.region [v 4 (.mv (.c (.bool false)))]) .ret) .skip)) 
(.seq 
(.seq 
(.region [m 17 0, v 18 (.len false (.t 17)), v 19 (.bin .gtr .any (.t 18) (.c (.int .i64 300)))]) 
(.cond (.t 19) 
(.seq 
(.region [v 4 (.mv (.c (.bool true)))]) .ret) .skip)) 
(.seq 
(.region [m 20 0, v 21 (.call (.f 21) [(.t 20)] false), m 5 21]) 
(.seq 
(.region [v 6 (.mv (.c (.str [45, 45, 62])))]) 
(.seq 
(.seq 
(.region [m 22 1]) 
(.cond (.t 22) 
(.region [v 6 (.mv (.c (.str [45, 45, 33, 62])))]) .skip)) 
(.seq 
(.region [m 23 5, m 24 6, v 25 (.bin .add .any (.t 23) (.t 24)), m 7 25]) 
(.seq 
(.region [v 8 (.mv (.c (.int .i64 (-1))))]) 
(.seq 
(.region [v 9 (.mv (.c (.int .i64 0)))]) 
(.seq 
(.seq 
(.region [v 10 (.mv (.c (.int .i64 0)))]) 
(.block 0 
(.loop 
(.seq 
(.seq 
(.region [m 26 10, m 27 7, v 28 (.len false (.t 27)), v 29 (.bin .leq .any (.t 26) (.t 28)), m 30 29, w 31 (.mv (.t 8)) 30 true, w 32 (.bin .lss .any (.t 31) (.c (.int .i64 0))) 30 true, v 33 (.pick (.t 30) (.t 32) (.c (.bool false)))]) 
(.cond (.t 33) .skip (.exit 0))) 
(.seq 
(.block 1 
(.seq 
(.region [m 36 7, m 37 10, v 38 (.sliceStr (.t 36) (some (.t 37)) none), m 11 38]) 
(.block 2 
(.seq 
(.region [m 40 10, v 41 (.bin .eql .any (.t 40) (.c (.int .i64 0))), m 42 41, w 43 (.mv (.t 11)) 42 true, w 44 (.len false (.t 43)) 42 true, w 45 (.bin .gtr .any (.t 44) (.c (.int .i64 0))) 42 true, v 46 (.pick (.t 42) (.t 45) (.c (.bool false))), m 47 46, w 48 (.mv (.t 11)) 47 true, w 49 (.idxStr (.t 48) (.c (.int .i64 0))) 47 true, w 50 (.bin .eql .any (.t 49) (.c (.int .u8 62))) 47 true, v 51 (.pick (.t 47) (.t 50) (.c (.bool false))), m 39 51]) 
(.cond (.t 39) 
(.seq 
(.region [v 8 (.mv (.c (.int .i64 0)))]) 
(.region [v 9 (.mv (.c (.int .i64 1)))])) 
(.seq 
(.region [m 53 10, v 54 (.bin .eql .any (.t 53) (.c (.int .i64 0))), m 55 54, w 56 (.mv (.t 11)) 55 true, w 57 (.len false (.t 56)) 55 true, w 58 (.bin .gtr .any (.t 57) (.c (.int .i64 1))) 55 true, v 59 (.pick (.t 55) (.t 58) (.c (.bool false))), m 60 59, w 61 (.mv (.t 11)) 60 true, w 62 (.sliceStr (.t 61) none (some (.c (.int .i64 2)))) 60 true, w 63 (.bin .eql .any (.t 62) (.c (.str [45, 62]))) 60 true, v 64 (.pick (.t 60) (.t 63) (.c (.bool false))), m 52 64]) 
(.cond (.t 52) 
(.seq 
(.region [v 8 (.mv (.c (.int .i64 0)))]) 
(.region [v 9 (.mv (.c (.int .i64 2)))])) 
(.seq 
(.region [m 66 11, v 67 (.len false (.t 66)), v 68 (.bin .geq .any (.t 67) (.c (.int .i64 3))), m 69 68, w 70 (.mv (.t 11)) 69 true, w 71 (.sliceStr (.t 70) none (some (.c (.int .i64 3)))) 69 true, w 72 (.bin .eql .any (.t 71) (.c (.str [45, 45, 62]))) 69 true, v 73 (.pick (.t 69) (.t 72) (.c (.bool false))), m 65 73]) 
(.cond (.t 65) 
(.seq 
(.region [m 74 10, m 8 74]) 
(.region [v 9 (.mv (.c (.int .i64 3)))])) 
(.seq 
(.region [m 76 11, v 77 (.len false (.t 76)), v 78 (.bin .geq .any (.t 77) (.c (.int .i64 4))), m 79 78, w 80 (.mv (.t 11)) 79 true, w 81 (.sliceStr (.t 80) none (some (.c (.int .i64 4)))) 79 true, w 82 (.bin .eql .any (.t 81) (.c (.str [45, 45, 33, 62]))) 79 true, v 83 (.pick (.t 79) (.t 82) (.c (.bool false))), m 75 83]) 
(.cond (.t 75) 
(.seq 
(.region [m 84 10, m 8 84]) 
(.region [v 9 (.mv (.c (.int .i64 4)))])) .skip))))))))))) 
(.region [m 34 10, v 35 (.bin .add .any (.t 34) (.c (.int .i64 1))), m 10 35])))))) 
(.seq 
(.region [m 85 7, v 86 (.bin .add .any (.c (.str [60, 33, 45, 45])) (.t 85)), v 87 (.conv .strBytes false (.t 86)), v 88 (.call (.f 15) [(.t 87)] false), m 12 88]) 
(.seq 
(.region [m 89 7, m 90 8, m 91 9, v 92 (.bin .add .any (.t 90) (.t 91)), v 93 (.sliceStr (.t 89) (some (.t 92)) none), v 94 (.conv .strBytes false (.t 93)), v 95 (.call (.f 15) [(.t 94)] false), m 13 95]) 
(.seq 
(.region [m 96 7, m 97 8, v 98 (.sliceStr (.t 96) none (some (.t 97))), v 99 (.build [(.int .i64 0), (.str []), (.lst 0 0 []), (.bool false), (.str []), (.str []), (.str []), (.bool false), (.bool false), (.bool false)] [(0, 1, (.c (.int .i64 4))), (4, 1, (.t 98))]), v 100 (.mks false (some 10) (.agg [(.int .i64 0), (.str []), (.lst 0 0 []), (.bool false), (.str []), (.str []), (.str []), (.bool false), (.bool false), (.bool false)]) 1 [(0, (.t 99))]), m 101 13, v 102 (.append false (some 10) 112 (.t 100) (.t 101)), v 103 (.call (.f 26) [(.t 102)] true), m 14 103]) 
(.seq 
(.region [m 104 12, m 105 14, v 106 (.call (.f 27) [(.t 104), (.t 105)] false), m 4 106]) .ret)))))))))))))),
 [.tmp 4]⟩
/-- woodcutlaw09.LexDoctypes -/
def c_woodcutlaw09_LexDoctypes : DFunc := ⟨122, 
(.seq 
(.region [v 8 (.mv (.c (.bool false)))]) 
(.seq 
(.seq 
(.region [v 17 (.call (.f 13) [] false), v 18 (.un .not (.t 17))]) 
(.cond (.t 18) 
(.seq 
(.region [v 8 (.mv (.c (.bool false)))]) .ret) .skip)) 
(.seq 
(.seq 
(.region [m 19 0, v 20 (.len false (.t 19)), v 21 (.bin .gtr .any (.t 20) (.c (.int .i64 20))), m 22 21, w 23 (.mv (.t 1)) 22 false, w 24 (.len false (.t 23)) 22 false, w 25 (.bin .gtr .any (.t 24) (.c (.int .i64 50))) 22 false, v 26 (.pick (.t 22) (.c (.bool true)) (.t 25)), m 27 26, w 28 (.mv (.t 2)) 27 false, w 29 (.len false (.t 28)) 27 false, w 30 (.bin .gtr .any (.t 29) (.c (.int .i64 50))) 27 false, v 31 (.pick (.t 27) (.c (.bool true)) (.t 30))]) 
(.cond (.t 31) 
(.seq 
(.region [v 8 (.mv (.c (.bool true)))]) .ret) .skip)) 
(.seq 
(.region [v 9 (.mv (.f 28))]) 
(.seq 
(.region [m 32 9, m 33 1, v 34 (.call (.t 32) [(.t 33)] false), m 10 34]) 
(.seq 
(.region [m 35 9, m 36 2, v 37 (.call (.t 35) [(.t 36)] false), m 11 37]) 
(.seq 
(.region [v 38 (.mks false none (.str []) 2 [(0, (.c (.str [34]))), (1, (.c (.str [39])))]), m 39 3, v 40 (.bin .and .any (.t 39) (.c (.int .i64 1))), v 41 (.iaddr 1 (.t 38) (.t 40)), v 42 (.load none (.t 41)), m 12 42]) 
(.seq 
(.region [m 43 0, v 44 (.call (.f 14) [(.t 43)] false), v 45 (.build [(.int .i64 0), (.str []), (.lst 0 0 []), (.bool false), (.str []), (.str []), (.str []), (.bool false), (.bool false), (.bool false)] [(0, 1, (.c (.int .i64 5))), (1, 1, (.t 44))]), v 13 (.alloc [(.int .i64 0), (.str []), (.lst 0 0 []), (.bool false), (.str []), (.str []), (.str []), (.bool false), (.bool false), (.bool false)] none), u (.store 10 (.t 13) (.t 45))]) 
(.seq 
(.region [v 46 (.faddr 1 (.t 13)), v 47 (.load none (.t 46)), v 48 (.bin .add .any (.c (.str [60, 33, 68, 111, 99, 84, 121, 112, 101, 32])) (.t 47)), m 14 48]) 
(.seq 
(.seq 
(.region [m 49 3, v 50 (.bin .shr .any (.t 49) (.c (.int .u64 1))), v 51 (.bin .and .any (.t 50) (.c (.int .i64 3)))]) 
(.block 0 
(.seq 
(.region [v 53 (.bin .eql .any (.t 51) (.c (.int .i64 1))), m 52 53]) 
(.cond (.t 52) 
(.seq 
(.region [m 54 14, v 55 (.bin .add .any (.t 54) (.c (.str [32, 80, 85, 66, 76, 73, 67, 32]))), m 56 12, v 57 (.bin .add .any (.t 55) (.t 56)), m 58 10, v 59 (.bin .add .any (.t 57) (.t 58)), m 60 12, v 61 (.bin .add .any (.t 59) (.t 60)), m 14 61]) 
(.seq 
(.region [m 62 10, v 63 (.faddr 5 (.t 13)), u (.store 1 (.t 63) (.t 62))]) 
(.region [v 64 (.faddr 7 (.t 13)), u (.store 1 (.t 64) (.c (.bool true)))]))) 
(.seq 
(.region [v 66 (.bin .eql .any (.t 51) (.c (.int .i64 2))), m 65 66]) 
(.cond (.t 65) 
(.seq 
(.region [m 67 14, v 68 (.bin .add .any (.t 67) (.c (.str [32, 112, 117, 98, 108, 105, 99]))), m 69 12, v 70 (.bin .add .any (.t 68) (.t 69)), m 71 10, v 72 (.bin .add .any (.t 70) (.t 71)), m 73 12, v 74 (.bin .add .any (.t 72) (.t 73)), v 75 (.bin .add .any (.t 74) (.c (.str [32]))), m 76 12, v 77 (.bin .add .any (.t 75) (.t 76)), m 78 11, v 79 (.bin .add .any (.t 77) (.t 78)), m 80 12, v 81 (.bin .add .any (.t 79) (.t 80)), m 14 81]) 
(.seq 
(.region [m 82 10, v 83 (.faddr 5 (.t 13)), u (.store 1 (.t 83) (.t 82))]) 
(.seq 
(.region [m 84 11, v 85 (.faddr 6 (.t 13)), u (.store 1 (.t 85) (.t 84))]) 
(.seq 
(.region [v 86 (.faddr 7 (.t 13)), u (.store 1 (.t 86) (.c (.bool true)))]) 
(.region [v 87 (.faddr 8 (.t 13)), u (.store 1 (.t 87) (.c (.bool true)))]))))) 
(.seq 
(.region [v 89 (.bin .eql .any (.t 51) (.c (.int .i64 3))), m 88 89]) 
(.cond (.t 88) 
(.seq 
(.region [m 90 14, v 91 (.bin .add .any (.t 90) (.c (.str [10, 115, 121, 115, 116, 101, 109, 32]))), m 92 12, v 93 (.bin .add .any (.t 91) (.t 92)), m 94 11, v 95 (.bin .add .any (.t 93) (.t 94)), m 96 12, v 97 (.bin .add .any (.t 95) (.t 96)), v 98 (.bin .add .any (.t 97) (.c (.str [32]))), m 14 98]) 
(.seq 
(.region [m 99 11, v 100 (.faddr 6 (.t 13)), u (.store 1 (.t 100) (.t 99))]) 
(.region [v 101 (.faddr 8 (.t 13)), u (.store 1 (.t 101) (.c (.bool true)))]))) .skip)))))))) 
(.seq 
(.region [m 102 14, v 103 (.bin .add .any (.t 102) (.c (.str [62]))), m 15 103]) 
(.seq 
(.seq 
(.region [m 104 3, v 105 (.bin .and .any (.t 104) (.c (.int .i64 8))), v 106 (.bin .eql .any (.t 105) (.c (.int .i64 8)))]) 
(.cond (.t 106) 
(.seq 
(.region [m 107 14, m 15 107]) 
(.region [v 108 (.faddr 9 (.t 13)), u (.store 1 (.t 108) (.c (.bool true)))])) .skip)) 
(.seq 
(.region [m 109 15, v 110 (.conv .strBytes false (.t 109)), v 111 (.call (.f 15) [(.t 110)] false), m 16 111]) 
(.seq 
(.region [m 112 16, v 113 (.len true (.t 112)), v 114 (.bin .eql .any (.t 113) (.c (.int .i64 1))), m 115 114, w 116 (.mv (.t 16)) 115 true, w 117 (.iaddr 10 (.t 116) (.c (.int .i64 0))) 115 true, w 118 (.load (some 10) (.t 117)) 115 true, w 119 (.load (some 10) (.t 13)) 115 true, w 120 (.call (.f 29) [(.t 118), (.t 119)] false) 115 true, v 121 (.pick (.t 115) (.t 120) (.c (.bool false))), m 8 121]) .ret)))))))))))))),
 [.tmp 8]⟩
/-- woodcutlaw09.LexScripts -/
def c_woodcutlaw09_LexScripts : DFunc := ⟨123, 
(.seq 
(.region [v 6 (.mv (.c (.bool false)))]) 
(.seq 
(.seq 
(.region [v 14 (.call (.f 13) [] false), v 15 (.un .not (.t 14))]) 
(.cond (.t 15) 
(.seq 
(.region [v 6 (.mv (.c (.bool false)))]) .ret) .skip)) 
(.seq 
(.seq 
(.region [m 16 0, v 17 (.len false (.t 16)), v 18 (.bin .gtr .any (.t 17) (.c (.int .i64 200)))]) 
(.cond (.t 18) 
(.seq 
(.region [v 6 (.mv (.c (.bool true)))]) .ret) .skip)) 
(.seq 
(.region [v 7 (.mv (.c (.str [])))]) 
(.seq 
(.seq 
(.region [v 8 (.mv (.c (.int .i64 0)))]) 
(.block 0 
(.loop 
(.seq 
(.seq 
(.region [m 19 8, m 20 0, v 21 (.len false (.t 20)), v 22 (.bin .lss .any (.t 19) (.t 21))]) 
(.cond (.t 22) .skip (.exit 0))) 
(.seq 
(.block 1 
(.seq 
(.region [m 25 0, m 26 8, v 27 (.idxStr (.t 25) (.t 26)), v 28 (.bin .geq .any (.t 27) (.c (.int .u8 32))), m 29 28, w 30 (.mv (.t 0)) 29 true, w 31 (.mv (.t 8)) 29 true, w 32 (.idxStr (.t 30) (.t 31)) 29 true, w 33 (.bin .lss .any (.t 32) (.c (.int .u8 127))) 29 true, v 34 (.pick (.t 29) (.t 33) (.c (.bool false))), m 35 34, w 36 (.mv (.t 0)) 35 true, w 37 (.mv (.t 8)) 35 true, w 38 (.idxStr (.t 36) (.t 37)) 35 true, w 39 (.bin .neq .any (.t 38) (.c (.int .u8 60))) 35 true, v 40 (.pick (.t 35) (.t 39) (.c (.bool false))), m 41 40, w 42 (.mv (.t 0)) 41 true, w 43 (.mv (.t 8)) 41 true, w 44 (.idxStr (.t 42) (.t 43)) 41 true, w 45 (.bin .neq .any (.t 44) (.c (.int .u8 45))) 41 true, v 46 (.pick (.t 41) (.t 45) (.c (.bool false))), m 47 46, w 48 (.mv (.t 0)) 47 true, w 49 (.mv (.t 8)) 47 true, w 50 (.idxStr (.t 48) (.t 49)) 47 true, w 51 (.bin .neq .any (.t 50) (.c (.int .u8 62))) 47 true, v 52 (.pick (.t 47) (.t 51) (.c (.bool false)))]) 
(.cond (.t 52) 
(.region [m 53 7, m 54 0, m 55 8, m 56 8, v 57 (.bin .add .any (.t 56) (.c (.int .i64 1))), v 58 (.sliceStr (.t 54) (some (.t 55)) (some (.t 57))), v 59 (.bin .add .any (.t 53) (.t 58)), m 7 59]) .skip))) 
(.region [m 23 8, v 24 (.bin .add .any (.t 23) (.c (.int .i64 1))), m 8 24])))))) 
(.seq 
(.region [m 60 7, v 61 (.bin .add .any (.c (.str [60, 33, 45, 45, 120])) (.t 60)), m 9 61]) 
(.seq 
(.seq 
(.region [m 62 1]) 
(.cond (.t 62) 
(.region [m 63 9, v 64 (.bin .add .any (.t 63) (.c (.str [60, 115, 99, 114, 105, 112, 116, 32]))), m 65 7, v 66 (.bin .add .any (.t 64) (.t 65)), v 67 (.bin .add .any (.t 66) (.c (.str [62, 60, 47, 115, 99, 114, 105, 112, 116, 62]))), m 68 7, v 69 (.bin .add .any (.t 67) (.t 68)), m 9 69]) .skip)) 
(.seq 
(.seq 
(.region [v 10 (.mv (.c (.int .i64 0)))]) 
(.block 2 
(.loop 
(.seq 
(.seq 
(.region [m 70 10, m 71 2, v 72 (.bin .and .any (.t 71) (.c (.int .i64 3))), v 73 (.bin .leq .any (.t 70) (.t 72))]) 
(.cond (.t 73) .skip (.exit 2))) 
(.seq 
(.block 3 
(.region [m 76 9, v 77 (.bin .add .any (.t 76) (.c (.str [45]))), m 9 77])) 
(.region [m 74 10, v 75 (.bin .add .any (.t 74) (.c (.int .i64 1))), m 10 75])))))) 
(.seq 
(.region [m 78 9, v 79 (.bin .add .any (.t 78) (.c (.str [45, 62]))), m 80 7, v 81 (.bin .add .any (.t 79) (.t 80)), m 9 81]) 
(.seq 
(.region [m 82 9, v 83 (.bin .add .any (.t 82) (.c (.str [60, 47, 115, 99, 114, 105, 112, 116, 62, 122]))), v 84 (.conv .strBytes false (.t 83)), v 85 (.call (.f 22) [(.t 84)] false), m 11 85]) 
(.seq 
(.region [m 86 11, v 87 (.call (.f 23) [(.t 86), (.c (.int .i64 3)), (.c (.str [115, 99, 114, 105, 112, 116]))] false)]) 
(.seq 
(.region [v 88 (.mks false (some 10) (.agg [(.int .i64 0), (.str []), (.lst 0 0 []), (.bool false), (.str []), (.str []), (.str []), (.bool false), (.bool false), (.bool false)]) 0 []), v 12 (.alloc [(.lst 0 0 [])] none), u (.store 1 (.t 12) (.t 88))]) 
(.seq 
(.seq 
(.region [m 89 11, v 90 (.call (.f 24) [(.t 89)] false)]) 
(.block 4 
(.range (.t 90) [91] 
(.region [v 13 (.alloc [(.int .i64 0), (.str []), (.lst 0 0 []), (.bool false), (.str []), (.str []), (.str []), (.bool false), (.bool false), (.bool false)] none), u (.store 10 (.t 13) (.t 91))]) 
(.block 5 
(.region [v 92 (.load none (.t 12)), v 93 (.load (some 10) (.t 13)), v 94 (.mks false (some 10) (.agg [(.int .i64 0), (.str []), (.lst 0 0 []), (.bool false), (.str []), (.str []), (.str []), (.bool false), (.bool false), (.bool false)]) 1 [(0, (.t 93))]), v 95 (.append false (some 10) 112 (.t 92) (.t 94)), u (.store 1 (.t 12) (.t 95))]))))) 
(.seq 
(.region [v 96 (.load none (.t 12)), v 97 (.call (.f 26) [(.t 96)] true), u (.store 1 (.t 12) (.t 97))]) 
(.seq 
(.region [v 98 (.load none (.t 12)), v 99 (.len true (.t 98)), v 100 (.bin .eql .any (.t 99) (.c (.int .i64 3))), m 101 100, w 102 (.load none (.t 12)) 101 true, w 103 (.iaddr 10 (.t 102) (.c (.int .i64 0))) 101 true, w 104 (.faddr 4 (.t 103)) 101 true, w 105 (.load none (.t 104)) 101 true, w 106 (.mv (.t 9)) 101 true, w 107 (.bin .eql .any (.t 105) (.t 106)) 101 true, v 108 (.pick (.t 101) (.t 107) (.c (.bool false))), m 109 108, w 110 (.load none (.t 12)) 109 true, w 111 (.iaddr 10 (.t 110) (.c (.int .i64 1))) 109 true, w 112 (.load (some 10) (.t 111)) 109 true, w 113 (.mks false none (.str []) 1 [(0, (.c (.str [115, 99, 114, 105, 112, 116])))]) 109 true, w 114 (.call (.f 30) [(.t 112), (.c (.int .i64 3)), (.t 113)] false) 109 true, v 115 (.pick (.t 109) (.t 114) (.c (.bool false))), m 116 115, w 117 (.load none (.t 12)) 116 true, w 118 (.iaddr 10 (.t 117) (.c (.int .i64 2))) 116 true, w 119 (.faddr 4 (.t 118)) 116 true, w 120 (.load none (.t 119)) 116 true, w 121 (.bin .eql .any (.t 120) (.c (.str [122]))) 116 true, v 122 (.pick (.t 116) (.t 121) (.c (.bool false))), m 6 122]) .ret))))))))))))))),
 [.tmp 6]⟩
/-- woodcutlaw09.LexRaws -/
def c_woodcutlaw09_LexRaws : DFunc := ⟨147, 
(.seq 
(.region [v 6 (.mv (.c (.bool false)))]) 
(.seq 
(.seq 
(.region [v 15 (.call (.f 13) [] false), v 16 (.un .not (.t 15))]) 
(.cond (.t 16) 
(.seq 
(.region [v 6 (.mv (.c (.bool false)))]) .ret) .skip)) 
(.seq 
(.seq 
(.region [m 17 0, v 18 (.len false (.t 17)), v 19 (.bin .gtr .any (.t 18) (.c (.int .i64 300))), m 20 19, w 21 (.mv (.t 1)) 20 false, w 22 (.len false (.t 21)) 20 false, w 23 (.bin .gtr .any (.t 22) (.c (.int .i64 20))) 20 false, v 24 (.pick (.t 20) (.c (.bool true)) (.t 23))]) 
(.cond (.t 24) 
(.seq 
(.region [v 6 (.mv (.c (.bool true)))]) .ret) .skip)) 
(.seq 
(.region [m 25 1, v 26 (.call (.f 14) [(.t 25)] false), m 7 26]) 
(.seq 
(.region [m 27 0, v 28 (.call (.f 21) [(.t 27)] false), m 8 28]) 
(.seq 
(.region [v 9 (.mv (.c (.str [])))]) 
(.seq 
(.seq 
(.region [v 10 (.mv (.c (.int .i64 0)))]) 
(.block 0 
(.loop 
(.seq 
(.seq 
(.region [m 29 10, m 30 8, v 31 (.len false (.t 30)), v 32 (.bin .lss .any (.t 29) (.t 31))]) 
(.cond (.t 32) .skip (.exit 0))) 
(.seq 
(.block 1 
(.seq 
(.region [m 35 9, v 36 (.len false (.t 35)), v 37 (.bin .gtr .any (.t 36) (.c (.int .i64 0))), m 38 37, w 39 (.mv (.t 9)) 38 true, w 40 (.mv (.t 9)) 38 true, w 41 (.len false (.t 40)) 38 true, w 42 (.bin .sub .any (.t 41) (.c (.int .i64 1))) 38 true, w 43 (.idxStr (.t 39) (.t 42)) 38 true, w 44 (.bin .eql .any (.t 43) (.c (.int .u8 60))) 38 true, v 45 (.pick (.t 38) (.t 44) (.c (.bool false))), m 11 45]) 
(.seq 
(.region [m 46 8, m 47 10, v 48 (.idxStr (.t 46) (.t 47)), v 49 (.bin .neq .any (.t 48) (.c (.int .u8 38))), m 50 49, w 51 (.mv (.t 11)) 50 true, w 52 (.mv (.t 51)) 50 true, w 53 (.mv (.t 8)) 52 true, w 54 (.mv (.t 10)) 52 true, w 55 (.idxStr (.t 53) (.t 54)) 52 true, w 56 (.bin .eql .any (.t 55) (.c (.int .u8 47))) 52 true, w 57 (.mv (.t 56)) 52 true, w 58 (.mv (.t 8)) 57 false, w 59 (.mv (.t 10)) 57 false, w 60 (.idxStr (.t 58) (.t 59)) 57 false, w 61 (.bin .eql .any (.t 60) (.c (.int .u8 33))) 57 false, w 62 (.pick (.t 57) (.c (.bool true)) (.t 61)) 52 true, w 63 (.pick (.t 52) (.t 62) (.c (.bool false))) 50 true, w 64 (.un .not (.t 63)) 50 true, v 65 (.pick (.t 50) (.t 64) (.c (.bool false)))]) 
(.cond (.t 65) 
(.region [m 66 9, m 67 8, m 68 10, m 69 10, v 70 (.bin .add .any (.t 69) (.c (.int .i64 1))), v 71 (.sliceStr (.t 67) (some (.t 68)) (some (.t 70))), v 72 (.bin .add .any (.t 66) (.t 71)), m 9 72]) .skip)))) 
(.region [m 33 10, v 34 (.bin .add .any (.t 33) (.c (.int .i64 1))), m 10 34])))))) 
(.seq 
(.region [m 73 9, v 74 (.bin .add .any (.t 73) (.c (.str [60, 47, 120, 62, 60, 47]))), m 75 7, v 76 (.bin .add .any (.t 74) (.t 75)), v 77 (.bin .add .any (.t 76) (.c (.str [120, 62, 60, 47]))), m 78 7, v 79 (.bin .add .any (.t 77) (.t 78)), v 80 (.bin .add .any (.t 79) (.c (.str [32, 97, 61, 39, 62, 39, 62, 98, 60, 105, 62]))), v 81 (.conv .strBytes false (.t 80)), v 82 (.call (.f 22) [(.t 81)] false), m 12 82]) 
(.seq 
(.region [m 83 12, v 84 (.mks true none (.int .i64 0) 3 [(0, (.c (.int .i64 1))), (1, (.c (.int .i64 2))), (2, (.c (.int .i64 3)))]), m 85 2, v 86 (.conv (.int .u64) false (.t 85)), v 87 (.bin .rem .any (.t 86) (.c (.int .u64 3))), v 88 (.conv (.int .i64) false (.t 87)), v 89 (.iaddr 1 (.t 84) (.t 88)), v 90 (.load none (.t 89)), m 91 7, v 92 (.call (.f 23) [(.t 83), (.t 90), (.t 91)] false)]) 
(.seq 
(.region [v 93 (.mks false (some 10) (.agg [(.int .i64 0), (.str []), (.lst 0 0 []), (.bool false), (.str []), (.str []), (.str []), (.bool false), (.bool false), (.bool false)]) 0 []), v 13 (.alloc [(.lst 0 0 [])] none), u (.store 1 (.t 13) (.t 93))]) 
(.seq 
(.seq 
(.region [m 94 12, v 95 (.call (.f 24) [(.t 94)] false)]) 
(.block 2 
(.range (.t 95) [96] 
(.region [v 14 (.alloc [(.int .i64 0), (.str []), (.lst 0 0 []), (.bool false), (.str []), (.str []), (.str []), (.bool false), (.bool false), (.bool false)] none), u (.store 10 (.t 14) (.t 96))]) 
(.block 3 
(.region [v 97 (.load none (.t 13)), v 98 (.load (some 10) (.t 14)), v 99 (.mks false (some 10) (.agg [(.int .i64 0), (.str []), (.lst 0 0 []), (.bool false), (.str []), (.str []), (.str []), (.bool false), (.bool false), (.bool false)]) 1 [(0, (.t 98))]), v 100 (.append false (some 10) 112 (.t 97) (.t 99)), u (.store 1 (.t 13) (.t 100))]))))) 
(.seq 
(.region [v 101 (.load none (.t 13)), v 102 (.call (.f 26) [(.t 101)] true), u (.store 1 (.t 13) (.t 102))]) 
(.seq 
(.region [v 103 (.load none (.t 13)), v 104 (.len true (.t 103)), v 105 (.bin .eql .any (.t 104) (.c (.int .i64 4))), m 106 105, w 107 (.load none (.t 13)) 106 true, w 108 (.iaddr 10 (.t 107) (.c (.int .i64 0))) 106 true, w 109 (.faddr 0 (.t 108)) 106 true, w 110 (.load none (.t 109)) 106 true, w 111 (.bin .eql .any (.t 110) (.c (.int .i64 1))) 106 true, v 112 (.pick (.t 106) (.t 111) (.c (.bool false))), m 113 112, w 114 (.load none (.t 13)) 113 true, w 115 (.iaddr 10 (.t 114) (.c (.int .i64 0))) 113 true, w 116 (.faddr 4 (.t 115)) 113 true, w 117 (.load none (.t 116)) 113 true, w 118 (.mv (.t 9)) 113 true, w 119 (.bin .add .any (.t 118) (.c (.str [60, 47, 120, 62, 60, 47]))) 113 true, w 120 (.mv (.t 7)) 113 true, w 121 (.bin .add .any (.t 119) (.t 120)) 113 true, w 122 (.bin .add .any (.t 121) (.c (.str [120, 62]))) 113 true, w 123 (.bin .eql .any (.t 117) (.t 122)) 113 true, v 124 (.pick (.t 113) (.t 123) (.c (.bool false))), m 125 124, w 126 (.load none (.t 13)) 125 true, w 127 (.iaddr 10 (.t 126) (.c (.int .i64 1))) 125 true, w 128 (.load (some 10) (.t 127)) 125 true, w 129 (.mv (.t 7)) 125 true, w 130 (.build [(.int .i64 0), (.str []), (.lst 0 0 []), (.bool false), (.str []), (.str []), (.str []), (.bool false), (.bool false), (.bool false)] [(0, 1, (.c (.int .i64 3))), (1, 1, (.t 129))]) 125 true, w 131 (.call (.f 29) [(.t 128), (.t 130)] false) 125 true, v 132 (.pick (.t 125) (.t 131) (.c (.bool false))), m 133 132, w 134 (.load none (.t 13)) 133 true, w 135 (.iaddr 10 (.t 134) (.c (.int .i64 2))) 133 true, w 136 (.faddr 4 (.t 135)) 133 true, w 137 (.load none (.t 136)) 133 true, w 138 (.bin .eql .any (.t 137) (.c (.str [98]))) 133 true, v 139 (.pick (.t 133) (.t 138) (.c (.bool false))), m 140 139, w 141 (.load none (.t 13)) 140 true, w 142 (.iaddr 10 (.t 141) (.c (.int .i64 3))) 140 true, w 143 (.load (some 10) (.t 142)) 140 true, w 144 (.mks false none (.str []) 1 [(0, (.c (.str [105])))]) 140 true, w 145 (.call (.f 30) [(.t 143), (.c (.int .i64 2)), (.t 144)] false) 140 true, v 146 (.pick (.t 140) (.t 145) (.c (.bool false))), m 6 146]) .ret))))))))))))),
 [.tmp 6]⟩
/-- woodcutlaw09.LexTags -/
def c_woodcutlaw09_LexTags : DFunc := ⟨72, 
(.seq 
(.region [v 4 (.mv (.c (.bool false)))]) 
(.seq 
(.seq 
(.region [v 13 (.call (.f 13) [] false), v 14 (.un .not (.t 13))]) 
(.cond (.t 14) 
(.seq 
(.region [v 4 (.mv (.c (.bool false)))]) .ret) .skip)) 
(.seq 
(.seq 
(.region [m 15 0, v 16 (.len true (.t 15)), v 17 (.bin .gtr .any (.t 16) (.c (.int .i64 20)))]) 
(.cond (.t 17) 
(.seq 
(.region [v 4 (.mv (.c (.bool true)))]) .ret) .skip)) 
(.seq 
(.region [v 5 (.mv (.c (.str [])))]) 
(.seq 
(.region [v 18 (.mks false (some 10) (.agg [(.int .i64 0), (.str []), (.lst 0 0 []), (.bool false), (.str []), (.str []), (.str []), (.bool false), (.bool false), (.bool false)]) 0 []), m 6 18]) 
(.seq 
(.seq 
(.region [m 19 0, v 20 (.len true (.t 19)), v 21 (.mv (.c (.int .i64 0)))]) 
(.block 0 
(.loop 
(.seq 
(.region [v 22 (.bin .lss .any (.t 21) (.t 20))]) 
(.seq 
(.cond (.t 22) .skip (.exit 0)) 
(.seq 
(.block 1 
(.seq 
(.region [m 23 21, v 24 (.iaddr 10 (.t 19) (.t 21)), v 25 (.load (some 10) (.t 24)), v 8 (.alloc [(.int .i64 0), (.str []), (.lst 0 0 []), (.bool false), (.str []), (.str []), (.str []), (.bool false), (.bool false), (.bool false)] none), m 7 23, u (.store 10 (.t 8) (.t 25))]) 
(.seq 
(.seq 
(.region [v 26 (.faddr 4 (.t 8)), v 27 (.load none (.t 26)), v 28 (.len false (.t 27)), v 29 (.bin .gtr .any (.t 28) (.c (.int .i64 100))), m 30 29, w 31 (.faddr 2 (.t 8)) 30 false, w 32 (.load none (.t 31)) 30 false, w 33 (.len true (.t 32)) 30 false, w 34 (.bin .gtr .any (.t 33) (.c (.int .i64 10))) 30 false, v 35 (.pick (.t 30) (.c (.bool true)) (.t 34))]) 
(.cond (.t 35) 
(.seq 
(.region [v 4 (.mv (.c (.bool true)))]) .ret) .skip)) 
(.seq 
(.seq 
(.region [v 36 (.faddr 2 (.t 8)), v 37 (.load none (.t 36)), v 38 (.len true (.t 37)), v 39 (.mv (.c (.int .i64 0)))]) 
(.block 2 
(.loop 
(.seq 
(.region [v 40 (.bin .lss .any (.t 39) (.t 38))]) 
(.seq 
(.cond (.t 40) .skip (.exit 2)) 
(.seq 
(.block 3 
(.seq 
(.region [v 41 (.iaddr 2 (.t 37) (.t 39)), v 42 (.load (some 2) (.t 41)), v 10 (.alloc [(.str []), (.str [])] none), u (.store 2 (.t 10) (.t 42))]) 
(.seq 
(.region [v 43 (.faddr 1 (.t 10)), v 44 (.load none (.t 43)), v 45 (.len false (.t 44)), v 46 (.bin .gtr .any (.t 45) (.c (.int .i64 100)))]) 
(.cond (.t 46) 
(.seq 
(.region [v 4 (.mv (.c (.bool true)))]) .ret) .skip)))) 
(.region [v 47 (.bin .add .any (.t 39) (.c (.int .i64 1))), m 39 47]))))))) 
(.seq 
(.region [v 49 (.load (some 10) (.t 8)), m 50 1, m 51 7, v 52 (.bin .and .any (.t 51) (.c (.int .i64 15))), v 53 (.conv (.int .u64) false (.t 52)), v 54 (.bin .shr .any (.t 50) (.t 53)), v 55 (.call (.f 31) [(.t 49), (.t 54)] false), m 48 55, v 56 (.extract (.t 48) 0), v 57 (.extract (.t 48) 1), v 12 (.alloc [(.int .i64 0), (.str []), (.lst 0 0 []), (.bool false), (.str []), (.str []), (.str []), (.bool false), (.bool false), (.bool false)] none), m 11 56, u (.store 10 (.t 12) (.t 57))]) 
(.seq 
(.region [m 58 5, m 59 11, v 60 (.bin .add .any (.t 58) (.t 59)), m 5 60]) 
(.region [m 61 6, v 62 (.load (some 10) (.t 12)), v 63 (.mks false (some 10) (.agg [(.int .i64 0), (.str []), (.lst 0 0 []), (.bool false), (.str []), (.str []), (.str []), (.bool false), (.bool false), (.bool false)]) 1 [(0, (.t 62))]), v 64 (.append false (some 10) 112 (.t 61) (.t 63)), m 6 64]))))))) 
(.region [v 65 (.bin .add .any (.t 21) (.c (.int .i64 1))), m 21 65]))))))) 
(.seq 
(.region [m 66 5, v 67 (.conv .strBytes false (.t 66)), v 68 (.call (.f 15) [(.t 67)] false), m 69 6, v 70 (.call (.f 26) [(.t 69)] true), v 71 (.call (.f 27) [(.t 68), (.t 70)] false), m 4 71]) .ret))))))),
 [.tmp 4]⟩
/-- woodcutlaw09.LexJoins -/
def c_woodcutlaw09_LexJoins : DFunc := ⟨45, 
(.seq 
(.region [v 5 (.box (.t 2) 1), v 6 (.mv (.c (.bool false)))]) 
(.seq 
(.seq 
(.region [v 11 (.call (.f 13) [] false), v 12 (.un .not (.t 11))]) 
(.cond (.t 12) 
(.seq 
(.region [v 6 (.mv (.c (.bool false)))]) .ret) .skip)) 
(.seq 
(.seq 
(.region [m 13 0, v 14 (.len true (.t 13)), v 15 (.bin .gtr .any (.t 14) (.c (.int .i64 10))), m 16 15, w 17 (.mv (.t 1)) 16 false, w 18 (.len true (.t 17)) 16 false, w 19 (.bin .gtr .any (.t 18) (.c (.int .i64 10))) 16 false, v 20 (.pick (.t 16) (.c (.bool true)) (.t 19))]) 
(.cond (.t 20) 
(.seq 
(.region [v 6 (.mv (.c (.bool true)))]) .ret) .skip)) 
(.seq 
(.region [v 21 (.mkfn (.func 32) [] [(.t 5)]), m 7 21]) 
(.seq 
(.region [m 22 7, m 23 0, v 24 (.call (.t 22) [(.t 23)] false), m 8 24]) 
(.seq 
(.region [m 25 7, m 26 1, v 27 (.call (.t 25) [(.t 26)] false), m 9 27]) 
(.seq 
(.region [m 28 8, m 29 9, v 30 (.bin .add .any (.t 28) (.t 29)), v 31 (.conv .strBytes false (.t 30)), v 32 (.call (.f 15) [(.t 31)] false), m 10 32]) 
(.seq 
(.region [m 33 10, v 34 (.mks false (some 10) (.agg [(.int .i64 0), (.str []), (.lst 0 0 []), (.bool false), (.str []), (.str []), (.str []), (.bool false), (.bool false), (.bool false)]) 0 []), m 35 8, v 36 (.conv .strBytes false (.t 35)), v 37 (.call (.f 15) [(.t 36)] false), v 38 (.append false (some 10) 112 (.t 34) (.t 37)), m 39 9, v 40 (.conv .strBytes false (.t 39)), v 41 (.call (.f 15) [(.t 40)] false), v 42 (.append false (some 10) 112 (.t 38) (.t 41)), v 43 (.call (.f 26) [(.t 42)] true), v 44 (.call (.f 27) [(.t 33), (.t 43)] false), m 6 44]) .ret)))))))),
 [.tmp 6]⟩
/-- woodcutlaw10.SerReads -/
def c_woodcutlaw10_SerReads : DFunc := ⟨90, 
(.seq 
(.region [v 2 (.mv (.c (.bool false)))]) 
(.seq 
(.seq 
(.region [v 8 (.call (.f 33) [] false), v 9 (.un .not (.t 8))]) 
(.cond (.t 9) 
(.seq 
(.region [v 2 (.mv (.c (.bool false)))]) .ret) .skip)) 
(.seq 
(.seq 
(.region [m 10 0, v 11 (.len false (.t 10)), v 12 (.bin .gtr .any (.t 11) (.c (.int .i64 200)))]) 
(.cond (.t 12) 
(.seq 
(.region [v 2 (.mv (.c (.bool true)))]) .ret) .skip)) 
(.seq 
(.region [v 3 (.mv (.c (.str [])))]) 
(.seq 
(.seq 
(.region [v 4 (.mv (.c (.int .i64 0)))]) 
(.block 0 
(.loop 
(.seq 
(.seq 
(.region [m 13 4, m 14 0, v 15 (.len false (.t 14)), v 16 (.bin .lss .any (.t 13) (.t 15))]) 
(.cond (.t 16) .skip (.exit 0))) 
(.seq 
(.block 1 
(.seq 
(.region [m 19 0, m 20 4, v 21 (.idxStr (.t 19) (.t 20)), v 22 (.bin .geq .any (.t 21) (.c (.int .u8 32))), m 23 22, w 24 (.mv (.t 0)) 23 true, w 25 (.mv (.t 4)) 23 true, w 26 (.idxStr (.t 24) (.t 25)) 23 true, w 27 (.bin .lss .any (.t 26) (.c (.int .u8 127))) 23 true, v 28 (.pick (.t 23) (.t 27) (.c (.bool false))), m 29 28, w 30 (.mv (.t 0)) 29 false, w 31 (.mv (.t 4)) 29 false, w 32 (.idxStr (.t 30) (.t 31)) 29 false, w 33 (.bin .eql .any (.t 32) (.c (.int .u8 10))) 29 false, v 34 (.pick (.t 29) (.c (.bool true)) (.t 33))]) 
(.cond (.t 34) 
(.region [m 35 3, m 36 0, m 37 4, m 38 4, v 39 (.bin .add .any (.t 38) (.c (.int .i64 1))), v 40 (.sliceStr (.t 36) (some (.t 37)) (some (.t 39))), v 41 (.bin .add .any (.t 35) (.t 40)), m 3 41]) 
(.seq 
(.region [m 42 0, m 43 4, v 44 (.idxStr (.t 42) (.t 43)), v 45 (.bin .gtr .any (.t 44) (.c (.int .u8 250)))]) 
(.cond (.t 45) 
(.region [m 46 3, v 47 (.bin .add .any (.t 46) (.c (.str [194, 160]))), m 3 47]) .skip))))) 
(.region [m 17 4, v 18 (.bin .add .any (.t 17) (.c (.int .i64 1))), m 4 18])))))) 
(.seq 
(.region [m 48 3, v 49 (.call (.f 34) [(.t 48)] false), v 50 (.bin .add .any (.c (.str [60, 97, 32, 98, 61, 34])) (.t 49)), v 51 (.bin .add .any (.t 50) (.c (.str [34, 62]))), m 52 3, v 53 (.call (.f 35) [(.t 52)] false), v 54 (.bin .add .any (.t 51) (.t 53)), v 55 (.conv .strBytes false (.t 54)), v 56 (.call (.f 15) [(.t 55)] false), m 5 56]) 
(.seq 
(.region [m 57 3, v 58 (.build [(.str []), (.str [])] [(0, 1, (.c (.str [98]))), (1, 1, (.t 57))]), v 59 (.mks false (some 2) (.agg [(.str []), (.str [])]) 1 [(0, (.t 58))]), v 60 (.build [(.int .i64 0), (.str []), (.lst 0 0 []), (.bool false), (.str []), (.str []), (.str []), (.bool false), (.bool false), (.bool false)] [(0, 1, (.c (.int .i64 2))), (1, 1, (.c (.str [97]))), (2, 1, (.t 59))]), v 61 (.mks false (some 10) (.agg [(.int .i64 0), (.str []), (.lst 0 0 []), (.bool false), (.str []), (.str []), (.str []), (.bool false), (.bool false), (.bool false)]) 1 [(0, (.t 60))]), m 6 61]) 
(.seq 
(.seq 
(.region [m 62 3, v 63 (.bin .neq .any (.t 62) (.c (.str [])))]) 
(.cond (.t 63) 
(.region [m 64 6, m 65 3, v 66 (.build [(.int .i64 0), (.str []), (.lst 0 0 []), (.bool false), (.str []), (.str []), (.str []), (.bool false), (.bool false), (.bool false)] [(0, 1, (.c (.int .i64 1))), (4, 1, (.t 65))]), v 67 (.mks false (some 10) (.agg [(.int .i64 0), (.str []), (.lst 0 0 []), (.bool false), (.str []), (.str []), (.str []), (.bool false), (.bool false), (.bool false)]) 1 [(0, (.t 66))]), v 68 (.append false (some 10) 112 (.t 64) (.t 67)), m 6 68]) .skip)) 
(.seq 
(.seq 
(.region [m 69 5, v 70 (.len true (.t 69)), m 71 6, v 72 (.len true (.t 71)), v 73 (.bin .neq .any (.t 70) (.t 72))]) 
(.cond (.t 73) 
(.seq 
(.region [v 2 (.mv (.c (.bool false)))]) .ret) .skip)) 
(.seq 
(.seq 
(.region [m 74 5, v 75 (.len true (.t 74)), v 76 (.mv (.c (.int .i64 0)))]) 
(.block 2 
(.loop 
(.seq 
(.region [v 77 (.bin .lss .any (.t 76) (.t 75))]) 
(.seq 
(.cond (.t 77) .skip (.exit 2)) 
(.seq 
(.block 3 
(.seq 
(.region [m 78 76, m 7 78]) 
(.seq 
(.region [m 79 5, m 80 7, v 81 (.iaddr 10 (.t 79) (.t 80)), v 82 (.load (some 10) (.t 81)), m 83 6, m 84 7, v 85 (.iaddr 10 (.t 83) (.t 84)), v 86 (.load (some 10) (.t 85)), v 87 (.call (.f 29) [(.t 82), (.t 86)] false), v 88 (.un .not (.t 87))]) 
(.cond (.t 88) 
(.seq 
(.region [v 2 (.mv (.c (.bool false)))]) .ret) .skip)))) 
(.region [v 89 (.bin .add .any (.t 76) (.c (.int .i64 1))), m 76 89]))))))) 
(.seq 
(.region [v 2 (.mv (.c (.bool true)))]) .ret))))))))))),
 [.tmp 2]⟩
/-- woodcutlaw09.head -/
def c_woodcutlaw09_head : DFunc := ⟨40, 
(.seq 
(.region [v 0 (.mv (.c (.bool false)))]) 
(.seq 
(.region [v 2 (.mks false none (.int .u8 0) 13 [(0, (.c (.int .u8 60))), (1, (.c (.int .u8 97))), (2, (.c (.int .u8 32))), (3, (.c (.int .u8 98))), (4, (.c (.int .u8 61))), (5, (.c (.int .u8 99))), (6, (.c (.int .u8 38))), (7, (.c (.int .u8 97))), (8, (.c (.int .u8 109))), (9, (.c (.int .u8 112))), (10, (.c (.int .u8 59))), (11, (.c (.int .u8 100))), (12, (.c (.int .u8 62)))]), v 3 (.conv .sameB false (.t 2)), v 4 (.call (.f 15) [(.t 3)] false), m 1 4]) 
(.seq 
(.region [m 5 1, v 6 (.len true (.t 5)), v 7 (.bin .eql .any (.t 6) (.c (.int .i64 1))), m 8 7, w 9 (.mv (.t 1)) 8 true, w 10 (.iaddr 10 (.t 9) (.c (.int .i64 0))) 8 true, w 11 (.faddr 0 (.t 10)) 8 true, w 12 (.load none (.t 11)) 8 true, w 13 (.bin .eql .any (.t 12) (.c (.int .i64 2))) 8 true, v 14 (.pick (.t 8) (.t 13) (.c (.bool false))), m 15 14, w 16 (.mv (.t 1)) 15 true, w 17 (.iaddr 10 (.t 16) (.c (.int .i64 0))) 15 true, w 18 (.faddr 1 (.t 17)) 15 true, w 19 (.load none (.t 18)) 15 true, w 20 (.bin .eql .any (.t 19) (.c (.str [97]))) 15 true, v 21 (.pick (.t 15) (.t 20) (.c (.bool false))), m 22 21, w 23 (.mv (.t 1)) 22 true, w 24 (.iaddr 10 (.t 23) (.c (.int .i64 0))) 22 true, w 25 (.faddr 2 (.t 24)) 22 true, w 26 (.load none (.t 25)) 22 true, w 27 (.len true (.t 26)) 22 true, w 28 (.bin .eql .any (.t 27) (.c (.int .i64 1))) 22 true, v 29 (.pick (.t 22) (.t 28) (.c (.bool false))), m 30 29, w 31 (.mv (.t 1)) 30 true, w 32 (.iaddr 10 (.t 31) (.c (.int .i64 0))) 30 true, w 33 (.faddr 2 (.t 32)) 30 true, w 34 (.load none (.t 33)) 30 true, w 35 (.iaddr 2 (.t 34) (.c (.int .i64 0))) 30 true, w 36 (.faddr 1 (.t 35)) 30 true, w 37 (.load none (.t 36)) 30 true, w 38 (.bin .eql .any (.t 37) (.c (.str [99, 38, 100]))) 30 true, v 39 (.pick (.t 30) (.t 38) (.c (.bool false))), m 0 39]) .ret))),
 [.tmp 0]⟩
/-- woodcutlaw09.word -/
def c_woodcutlaw09_word : DFunc := ⟨25, 
(.seq 
(.region [v 2 (.mv (.c (.str [])))]) 
(.seq 
(.region [v 3 (.mv (.c (.str [119])))]) 
(.seq 
(.seq 
(.region [v 4 (.mv (.c (.int .i64 0)))]) 
(.block 0 
(.loop 
(.seq 
(.seq 
(.region [m 5 4, m 6 0, v 7 (.len false (.t 6)), v 8 (.bin .lss .any (.t 5) (.t 7)), m 9 8, w 10 (.mv (.t 4)) 9 true, w 11 (.bin .lss .any (.t 10) (.c (.int .i64 8))) 9 true, v 12 (.pick (.t 9) (.t 11) (.c (.bool false)))]) 
(.cond (.t 12) .skip (.exit 0))) 
(.seq 
(.block 1 
(.region [m 15 3, m 16 0, m 17 4, v 18 (.idxStr (.t 16) (.t 17)), v 19 (.bin .rem .any (.t 18) (.c (.int .u8 26))), v 20 (.bin .add .any (.c (.int .u8 97)) (.t 19)), v 21 (.mks false none (.int .u8 0) 1 [(0, (.t 20))]), v 22 (.conv .bytesStr false (.t 21)), v 23 (.bin .add .any (.t 15) (.t 22)), m 3 23])) 
(.region [m 13 4, v 14 (.bin .add .any (.t 13) (.c (.int .i64 1))), m 4 14])))))) 
(.seq 
(.region [m 24 3, m 2 24]) .ret)))),
 [.tmp 2]⟩
/-- lex.All -/
def c_lex_All : DFunc := ⟨8, 
(.seq 
(.region [v 2 (.mv (.c (.lst 0 0 [])))]) 
(.seq 
(.region [m 3 0, v 4 (.call (.f 22) [(.t 3)] false), v 5 (.call (.f 24) [(.t 4)] false), v 6 (.call (.f 36) [(.t 5)] false), v 7 (.call (.f 26) [(.t 6)] true), m 2 7]) .ret)),
 [.tmp 2]⟩
/-- chars.Match -/
def c_chars_Match : DFunc := ⟨84, 
(.seq 
(.region [v 2 (.mv (.c (.lst 0 0 []))), v 3 (.mv (.c (.int .i64 0))), v 4 (.mv (.c (.bool false)))]) 
(.seq 
(.region [v 5 (.mv (.c (.int .i64 (-1)))), v 6 (.mv (.c (.int .i64 0))), v 7 (.mv (.c (.bool false)))]) 
(.seq 
(.seq 
(.region [v 13 (.call (.f 37) [] false), v 14 (.len true (.t 13)), v 15 (.mv (.c (.int .i64 0)))]) 
(.block 0 
(.loop 
(.seq 
(.region [v 16 (.bin .lss .any (.t 15) (.t 14))]) 
(.seq 
(.cond (.t 16) .skip (.exit 0)) 
(.seq 
(.block 1 
(.seq 
(.region [m 17 15, v 18 (.iaddr 3 (.t 13) (.t 15)), v 19 (.load (some 3) (.t 18)), v 9 (.alloc [(.str []), (.int .i32 0), (.bool false)] none), m 8 17, u (.store 3 (.t 9) (.t 19))]) 
(.seq 
(.region [v 20 (.faddr 0 (.t 9)), v 21 (.load none (.t 20)), v 22 (.len false (.t 21)), m 10 22]) 
(.seq 
(.seq 
(.region [m 23 10, m 24 0, v 25 (.len true (.t 24)), v 26 (.bin .gtr .any (.t 23) (.t 25)), m 27 26, w 28 (.mv (.t 0)) 27 false, w 29 (.mv (.t 10)) 27 false, w 30 (.slice 1 (.t 28) none (some (.t 29)) none) 27 false, w 31 (.conv .runesStr false (.t 30)) 27 false, w 32 (.faddr 0 (.t 9)) 27 false, w 33 (.load none (.t 32)) 27 false, w 34 (.bin .neq .any (.t 31) (.t 33)) 27 false, v 35 (.pick (.t 27) (.c (.bool true)) (.t 34))]) 
(.cond (.t 35) (.exit 1) .skip)) 
(.seq 
(.region [m 36 10, m 37 0, v 38 (.len true (.t 37)), v 39 (.bin .lss .any (.t 36) (.t 38)), m 40 39, w 41 (.mv (.t 0)) 40 true, w 42 (.mv (.t 10)) 40 true, w 43 (.iaddr 1 (.t 41) (.t 42)) 40 true, w 44 (.load none (.t 43)) 40 true, w 45 (.bin .eql .any (.t 44) (.c (.int .i32 59))) 40 true, v 46 (.pick (.t 40) (.t 45) (.c (.bool false))), m 11 46]) 
(.seq 
(.seq 
(.region [m 47 11]) 
(.cond (.t 47) 
(.region [m 48 10, v 49 (.bin .add .any (.t 48) (.c (.int .i64 1))), m 10 49]) .skip)) 
(.seq 
(.region [m 50 11, m 51 50, w 52 (.faddr 2 (.t 9)) 51 false, w 53 (.load none (.t 52)) 51 false, v 54 (.pick (.t 51) (.c (.bool true)) (.t 53)), m 55 54, w 56 (.mv (.t 10)) 55 true, w 57 (.mv (.t 6)) 55 true, w 58 (.bin .gtr .any (.t 56) (.t 57)) 55 true, v 59 (.pick (.t 55) (.t 58) (.c (.bool false)))]) 
(.cond (.t 59) 
(.region [m 60 8, m 61 10, m 62 11, m 5 60, m 6 61, m 7 62]) .skip)))))))) 
(.region [v 63 (.bin .add .any (.t 15) (.c (.int .i64 1))), m 15 63]))))))) 
(.seq 
(.seq 
(.region [m 64 5, v 65 (.bin .lss .any (.t 64) (.c (.int .i64 0)))]) 
(.cond (.t 65) 
(.seq 
(.region [v 2 (.mv (.c (.lst 0 0 []))), v 3 (.mv (.c (.int .i64 0))), v 4 (.mv (.c (.bool false)))]) .ret) .skip)) 
(.seq 
(.region [v 66 (.call (.f 37) [] false), m 67 5, v 68 (.iaddr 3 (.t 66) (.t 67)), v 69 (.faddr 1 (.t 68)), v 70 (.load none (.t 69)), v 71 (.mks false none (.int .i32 0) 1 [(0, (.t 70))]), m 12 71]) 
(.seq 
(.seq 
(.region [v 72 (.call (.f 37) [] false), m 73 5, v 74 (.iaddr 3 (.t 72) (.t 73)), v 75 (.faddr 0 (.t 74)), v 76 (.load none (.t 75)), v 77 (.bin .eql .any (.t 76) (.c (.str [110, 118, 108, 116])))]) 
(.cond (.t 77) 
(.region [m 78 12, v 79 (.mks false none (.int .i32 0) 1 [(0, (.c (.int .i32 8402)))]), v 80 (.append false none 4 (.t 78) (.t 79)), m 12 80]) .skip)) 
(.seq 
(.region [m 81 12, m 82 6, m 83 7, m 2 81, m 3 82, m 4 83]) .ret))))))),
 [.tmp 2, .tmp 3, .tmp 4]⟩
theorem ok_woodcutlaw09_LexRefs : compF Tryd.prog cfg1 3 = some c_woodcutlaw09_LexRefs := by kernel_rfl
theorem ok_woodcutlaw09_LexTexts : compF Tryd.prog cfg1 4 = some c_woodcutlaw09_LexTexts := by kernel_rfl
theorem ok_woodcutlaw09_LexSections : compF Tryd.prog cfg1 5 = some c_woodcutlaw09_LexSections := by kernel_rfl
theorem ok_woodcutlaw09_LexComments : compF Tryd.prog cfg1 6 = some c_woodcutlaw09_LexComments := by kernel_rfl
theorem ok_woodcutlaw09_LexDoctypes : compF Tryd.prog cfg1 7 = some c_woodcutlaw09_LexDoctypes := by kernel_rfl
theorem ok_woodcutlaw09_LexScripts : compF Tryd.prog cfg1 8 = some c_woodcutlaw09_LexScripts := by kernel_rfl
theorem ok_woodcutlaw09_LexRaws : compF Tryd.prog cfg1 9 = some c_woodcutlaw09_LexRaws := by kernel_rfl
theorem ok_woodcutlaw09_LexTags : compF Tryd.prog cfg1 10 = some c_woodcutlaw09_LexTags := by kernel_rfl
theorem ok_woodcutlaw09_LexJoins : compF Tryd.prog cfg1 11 = some c_woodcutlaw09_LexJoins := by kernel_rfl
theorem ok_woodcutlaw10_SerReads : compF Tryd.prog cfg1 12 = some c_woodcutlaw10_SerReads := by kernel_rfl
theorem ok_woodcutlaw09_head : compF Tryd.prog cfg1 13 = some c_woodcutlaw09_head := by kernel_rfl
theorem ok_woodcutlaw09_word : compF Tryd.prog cfg1 14 = some c_woodcutlaw09_word := by kernel_rfl
theorem ok_lex_All : compF Tryd.prog cfg1 15 = some c_lex_All := by kernel_rfl
theorem ok_chars_Match : compF Tryd.prog cfg1 16 = some c_chars_Match := by kernel_rfl
end Go.Proofs.YticnenofiibpgaaDoor.Code
/- Functions of the program as code of the D-machine (2): PRINTED BY PROGRAM; each is checked to be what the program's own compiles to. -/
namespace Go.Proofs.YticnenofiibpgaaDoor.Code
set_option linter.unusedSimpArgs false
set_option linter.unusedVariables false
open Go.Dm Go.Dm.C
def cfg2 : Cfg := ⟨fun t => [3, 83].contains t, fun f => [26, 46, 57, 58, 59].contains f⟩
/-- text.Encode -/
def c_text_Encode : DFunc := ⟨17, 
(.seq 
(.region [v 2 (.mv (.c (.lst 0 0 [])))]) 
(.seq 
(.region [v 3 (.mv (.c (.lst 0 0 [])))]) 
(.seq 
(.seq 
(.region [m 6 0, v 7 (.len true (.t 6)), v 8 (.mv (.c (.int .i64 0)))]) 
(.block 0 
(.loop 
(.seq 
(.region [v 9 (.bin .lss .any (.t 8) (.t 7))]) 
(.seq 
(.cond (.t 9) .skip (.exit 0)) 
(.seq 
(.block 1 
(.seq 
(.region [v 10 (.iaddr 1 (.t 6) (.t 8)), v 11 (.load none (.t 10)), m 5 11]) 
(.region [m 12 3, m 13 5, v 14 (.call (.f 38) [(.t 12), (.t 13)] false), m 3 14]))) 
(.region [v 15 (.bin .add .any (.t 8) (.c (.int .i64 1))), m 8 15]))))))) 
(.seq 
(.region [m 16 3, m 2 16]) .ret)))),
 [.tmp 2]⟩
/-- text.Letter -/
def c_text_Letter : DFunc := ⟨17, 
(.seq 
(.region [v 2 (.mv (.c (.bool false)))]) 
(.seq 
(.region [m 3 0, v 4 (.bin .geq .any (.t 3) (.c (.int .i32 97))), m 5 4, w 6 (.mv (.t 0)) 5 true, w 7 (.bin .leq .any (.t 6) (.c (.int .i32 122))) 5 true, v 8 (.pick (.t 5) (.t 7) (.c (.bool false))), m 9 8, w 10 (.mv (.t 0)) 9 false, w 11 (.bin .geq .any (.t 10) (.c (.int .i32 65))) 9 false, w 12 (.mv (.t 11)) 9 false, w 13 (.mv (.t 0)) 12 true, w 14 (.bin .leq .any (.t 13) (.c (.int .i32 90))) 12 true, w 15 (.pick (.t 12) (.t 14) (.c (.bool false))) 9 false, v 16 (.pick (.t 9) (.c (.bool true)) (.t 15)), m 2 16]) .ret)),
 [.tmp 2]⟩
/-- text.Digit -/
def c_text_Digit : DFunc := ⟨9, 
(.seq 
(.region [v 2 (.mv (.c (.bool false)))]) 
(.seq 
(.region [m 3 0, v 4 (.bin .geq .any (.t 3) (.c (.int .i32 48))), m 5 4, w 6 (.mv (.t 0)) 5 true, w 7 (.bin .leq .any (.t 6) (.c (.int .i32 57))) 5 true, v 8 (.pick (.t 5) (.t 7) (.c (.bool false))), m 2 8]) .ret)),
 [.tmp 2]⟩
/-- chars.Numeric -/
def c_chars_Numeric : DFunc := ⟨31, 
(.seq 
(.region [v 2 (.mv (.c (.int .i32 0)))]) 
(.seq 
(.block 0 
(.seq 
(.region [m 4 0, v 5 (.bin .leq .any (.t 4) (.c (.int .i64 0))), m 6 5, w 7 (.mv (.t 0)) 6 false, w 8 (.bin .gtr .any (.t 7) (.c (.int .i64 1114111))) 6 false, v 9 (.pick (.t 6) (.c (.bool true)) (.t 8)), m 10 9, w 11 (.mv (.t 0)) 10 false, w 12 (.bin .geq .any (.t 11) (.c (.int .i64 55296))) 10 false, w 13 (.mv (.t 12)) 10 false, w 14 (.mv (.t 0)) 13 true, w 15 (.bin .leq .any (.t 14) (.c (.int .i64 57343))) 13 true, w 16 (.pick (.t 13) (.t 15) (.c (.bool false))) 10 false, v 17 (.pick (.t 10) (.c (.bool true)) (.t 16)), m 3 17]) 
(.cond (.t 3) 
(.seq 
(.region [v 2 (.mv (.c (.int .i32 65533)))]) .ret) 
(.seq 
(.region [m 19 0, v 20 (.bin .geq .any (.t 19) (.c (.int .i64 128))), m 21 20, w 22 (.mv (.t 0)) 21 true, w 23 (.bin .lss .any (.t 22) (.c (.int .i64 160))) 21 true, v 24 (.pick (.t 21) (.t 23) (.c (.bool false))), m 18 24]) 
(.cond (.t 18) 
(.seq 
(.region [m 25 0, v 26 (.bin .sub .any (.t 25) (.c (.int .i64 128))), v 27 (.iaddrArr 1 32 (.g 0) (.t 26)), v 28 (.load none (.t 27)), m 2 28]) .ret) .skip))))) 
(.seq 
(.region [m 29 0, v 30 (.conv (.int .i32) false (.t 29)), m 2 30]) .ret))),
 [.tmp 2]⟩
/-- woodcutlaw09.clean -/
def c_woodcutlaw09_clean : DFunc := ⟨27, 
(.seq 
(.region [v 2 (.mv (.c (.str [])))]) 
(.seq 
(.region [v 6 (.mks false none (.int .i32 0) 0 []), m 3 6]) 
(.seq 
(.seq 
(.region [m 7 0, v 8 (.conv .strBytes false (.t 7)), v 9 (.call (.f 39) [(.t 8)] false), v 10 (.len true (.t 9)), v 11 (.mv (.c (.int .i64 0)))]) 
(.block 0 
(.loop 
(.seq 
(.region [v 12 (.bin .lss .any (.t 11) (.t 10))]) 
(.seq 
(.cond (.t 12) .skip (.exit 0)) 
(.seq 
(.block 1 
(.seq 
(.region [v 13 (.iaddr 1 (.t 9) (.t 11)), v 14 (.load none (.t 13)), m 5 14]) 
(.seq 
(.seq 
(.region [m 15 5, v 16 (.bin .eql .any (.t 15) (.c (.int .i32 65279)))]) 
(.cond (.t 16) 
(.region [v 5 (.mv (.c (.int .i32 120)))]) .skip)) 
(.seq 
(.region [m 17 5, v 18 (.bin .neq .any (.t 17) (.c (.int .i32 0)))]) 
(.cond (.t 18) 
(.region [m 19 3, m 20 5, v 21 (.mks false none (.int .i32 0) 1 [(0, (.t 20))]), v 22 (.append false none 4 (.t 19) (.t 21)), m 3 22]) .skip))))) 
(.region [v 23 (.bin .add .any (.t 11) (.c (.int .i64 1))), m 11 23]))))))) 
(.seq 
(.region [m 24 3, v 25 (.call (.f 17) [(.t 24)] false), v 26 (.conv .bytesStr false (.t 25)), m 2 26]) .ret)))),
 [.tmp 2]⟩
/-- lex.New -/
def c_lex_New : DFunc := ⟨7, 
(.seq 
(.region [v 2 (.mv (.c .nilp))]) 
(.seq 
(.region [m 3 0, v 4 (.call (.f 39) [(.t 3)] false), v 5 (.build [(.lst 0 0 []), (.int .i64 0), (.int .i64 0), (.str []), (.bool false), (.lst 0 0 []), (.lst 0 0 []), (.bool false)] [(0, 1, (.t 4))]), v 6 (.box (.t 5) 8), m 2 6]) .ret)),
 [.tmp 2]⟩
/-- (*lex.Lexer).Way -/
def c_lex_Lexer_Way : DFunc := ⟨16, 
(.seq 
(.region [m 6 0, v 7 (.bin .neq .ptr (.t 6) (.c .nilp))]) 
(.cond (.t 7) 
(.region [m 8 0, m 9 0, m 10 1, m 11 2, v 12 (.nilc (.t 8)), v 13 (.faddr 2 (.t 12)), u (.store 1 (.t 13) (.t 10)), v 14 (.nilc (.t 9)), v 15 (.faddr 3 (.t 14)), u (.store 1 (.t 15) (.t 11))]) .skip)),
 []⟩
/-- (*lex.Lexer).Tokens -/
def c_lex_Lexer_Tokens : DFunc := ⟨4, 
(.seq 
(.region [v 1 (.box (.t 0) 1), v 2 (.mv (.c .nilfn))]) 
(.seq 
(.region [v 3 (.mkfn (.func 40) [] [(.t 1)]), m 2 3]) .ret)),
 [.tmp 2]⟩
/-- (*lex.Lexer).Sections -/
def c_lex_Lexer_Sections : DFunc := ⟨10, 
(.seq 
(.region [m 4 0, v 5 (.bin .neq .ptr (.t 4) (.c .nilp))]) 
(.cond (.t 5) 
(.region [m 6 0, m 7 1, v 8 (.nilc (.t 6)), v 9 (.faddr 4 (.t 8)), u (.store 1 (.t 9) (.t 7))]) .skip)),
 []⟩
/-- token.Join -/
def c_token_Join : DFunc := ⟨56, 
(.seq 
(.region [v 2 (.mv (.c (.lst 0 0 [])))]) 
(.seq 
(.region [v 3 (.mv (.c (.lst 0 0 [])))]) 
(.seq 
(.seq 
(.region [m 7 0, v 8 (.len true (.t 7)), v 9 (.mv (.c (.int .i64 0)))]) 
(.block 0 
(.loop 
(.seq 
(.region [v 10 (.bin .lss .any (.t 9) (.t 8))]) 
(.seq 
(.cond (.t 10) .skip (.exit 0)) 
(.seq 
(.block 1 
(.seq 
(.region [v 11 (.iaddr 10 (.t 7) (.t 9)), v 12 (.load (some 10) (.t 11)), v 5 (.alloc [(.int .i64 0), (.str []), (.lst 0 0 []), (.bool false), (.str []), (.str []), (.str []), (.bool false), (.bool false), (.bool false)] none), u (.store 10 (.t 5) (.t 12))]) 
(.seq 
(.seq 
(.region [m 13 3, v 14 (.len true (.t 13)), m 6 14]) 
(.seq 
(.region [v 15 (.faddr 0 (.t 5)), v 16 (.load none (.t 15)), v 17 (.bin .eql .any (.t 16) (.c (.int .i64 1))), m 18 17, w 19 (.mv (.t 6)) 18 true, w 20 (.bin .gtr .any (.t 19) (.c (.int .i64 0))) 18 true, v 21 (.pick (.t 18) (.t 20) (.c (.bool false))), m 22 21, w 23 (.mv (.t 3)) 22 true, w 24 (.mv (.t 6)) 22 true, w 25 (.bin .sub .any (.t 24) (.c (.int .i64 1))) 22 true, w 26 (.iaddr 10 (.t 23) (.t 25)) 22 true, w 27 (.faddr 0 (.t 26)) 22 true, w 28 (.load none (.t 27)) 22 true, w 29 (.bin .eql .any (.t 28) (.c (.int .i64 1))) 22 true, v 30 (.pick (.t 22) (.t 29) (.c (.bool false)))]) 
(.cond (.t 30) 
(.seq 
(.region [m 31 3, m 32 6, v 33 (.bin .sub .any (.t 32) (.c (.int .i64 1))), v 34 (.iaddr 10 (.t 31) (.t 33)), v 35 (.faddr 4 (.t 34)), v 36 (.load none (.t 35)), v 37 (.faddr 4 (.t 5)), v 38 (.load none (.t 37)), v 39 (.bin .add .any (.t 36) (.t 38)), v 40 (.iaddr 10 (.t 31) (.t 33)), v 41 (.faddr 4 (.t 40)), u (.store 1 (.t 41) (.t 39))]) (.exit 1)) .skip))) 
(.seq 
(.seq 
(.region [v 42 (.faddr 0 (.t 5)), v 43 (.load none (.t 42)), v 44 (.bin .eql .any (.t 43) (.c (.int .i64 1))), m 45 44, w 46 (.faddr 4 (.t 5)) 45 true, w 47 (.load none (.t 46)) 45 true, w 48 (.bin .eql .any (.t 47) (.c (.str []))) 45 true, v 49 (.pick (.t 45) (.t 48) (.c (.bool false)))]) 
(.cond (.t 49) (.exit 1) .skip)) 
(.region [m 50 3, v 51 (.load (some 10) (.t 5)), v 52 (.mks true (some 10) (.agg [(.int .i64 0), (.str []), (.lst 0 0 []), (.bool false), (.str []), (.str []), (.str []), (.bool false), (.bool false), (.bool false)]) 1 [(0, (.t 51))]), v 53 (.append true (some 10) 112 (.t 50) (.t 52)), m 3 53]))))) 
(.region [v 54 (.bin .add .any (.t 9) (.c (.int .i64 1))), m 9 54]))))))) 
(.seq 
(.region [m 55 3, m 2 55]) .ret)))),
 [.tmp 2]⟩
/-- woodcutlaw09.same -/
def c_woodcutlaw09_same : DFunc := ⟨27, 
(.seq 
(.region [v 4 (.mv (.c (.bool false)))]) 
(.seq 
(.seq 
(.region [m 6 0, v 7 (.len true (.t 6)), m 8 1, v 9 (.len true (.t 8)), v 10 (.bin .neq .any (.t 7) (.t 9))]) 
(.cond (.t 10) 
(.seq 
(.region [v 4 (.mv (.c (.bool false)))]) .ret) .skip)) 
(.seq 
(.seq 
(.region [m 11 0, v 12 (.len true (.t 11)), v 13 (.mv (.c (.int .i64 0)))]) 
(.block 0 
(.loop 
(.seq 
(.region [v 14 (.bin .lss .any (.t 13) (.t 12))]) 
(.seq 
(.cond (.t 14) .skip (.exit 0)) 
(.seq 
(.block 1 
(.seq 
(.region [m 15 13, m 5 15]) 
(.seq 
(.region [m 16 0, m 17 5, v 18 (.iaddr 10 (.t 16) (.t 17)), v 19 (.load (some 10) (.t 18)), m 20 1, m 21 5, v 22 (.iaddr 10 (.t 20) (.t 21)), v 23 (.load (some 10) (.t 22)), v 24 (.call (.f 29) [(.t 19), (.t 23)] false), v 25 (.un .not (.t 24))]) 
(.cond (.t 25) 
(.seq 
(.region [v 4 (.mv (.c (.bool false)))]) .ret) .skip)))) 
(.region [v 26 (.bin .add .any (.t 13) (.c (.int .i64 1))), m 13 26]))))))) 
(.seq 
(.region [v 4 (.mv (.c (.bool true)))]) .ret)))),
 [.tmp 4]⟩
/-- woodcutlaw09.LexDoctypes$1 -/
def c_woodcutlaw09_LexDoctypes_1 : DFunc := ⟨47, 
(.seq 
(.region [v 2 (.mv (.c (.str [])))]) 
(.seq 
(.region [v 3 (.mv (.c (.str [])))]) 
(.seq 
(.seq 
(.region [v 4 (.mv (.c (.int .i64 0)))]) 
(.block 0 
(.loop 
(.seq 
(.seq 
(.region [m 5 4, m 6 0, v 7 (.len false (.t 6)), v 8 (.bin .lss .any (.t 5) (.t 7))]) 
(.cond (.t 8) .skip (.exit 0))) 
(.seq 
(.block 1 
(.seq 
(.region [m 11 0, m 12 4, v 13 (.idxStr (.t 11) (.t 12)), v 14 (.bin .geq .any (.t 13) (.c (.int .u8 32))), m 15 14, w 16 (.mv (.t 0)) 15 true, w 17 (.mv (.t 4)) 15 true, w 18 (.idxStr (.t 16) (.t 17)) 15 true, w 19 (.bin .lss .any (.t 18) (.c (.int .u8 127))) 15 true, v 20 (.pick (.t 15) (.t 19) (.c (.bool false))), m 21 20, w 22 (.mv (.t 0)) 21 true, w 23 (.mv (.t 4)) 21 true, w 24 (.idxStr (.t 22) (.t 23)) 21 true, w 25 (.bin .neq .any (.t 24) (.c (.int .u8 62))) 21 true, v 26 (.pick (.t 21) (.t 25) (.c (.bool false))), m 27 26, w 28 (.mv (.t 0)) 27 true, w 29 (.mv (.t 4)) 27 true, w 30 (.idxStr (.t 28) (.t 29)) 27 true, w 31 (.bin .neq .any (.t 30) (.c (.int .u8 34))) 27 true, v 32 (.pick (.t 27) (.t 31) (.c (.bool false))), m 33 32, w 34 (.mv (.t 0)) 33 true, w 35 (.mv (.t 4)) 33 true, w 36 (.idxStr (.t 34) (.t 35)) 33 true, w 37 (.bin .neq .any (.t 36) (.c (.int .u8 39))) 33 true, v 38 (.pick (.t 33) (.t 37) (.c (.bool false)))]) 
(.cond (.t 38) 
(.region [m 39 3, m 40 0, m 41 4, m 42 4, v 43 (.bin .add .any (.t 42) (.c (.int .i64 1))), v 44 (.sliceStr (.t 40) (some (.t 41)) (some (.t 43))), v 45 (.bin .add .any (.t 39) (.t 44)), m 3 45]) .skip))) 
(.region [m 9 4, v 10 (.bin .add .any (.t 9) (.c (.int .i64 1))), m 4 10])))))) 
(.seq 
(.region [m 46 3, m 2 46]) .ret)))),
 [.tmp 2]⟩
/-- (token.Token).Same -/
def c_token_Token_Same : DFunc := ⟨73, 
(.seq 
(.region [v 2 (.box (.t 0) 10), v 3 (.box (.t 1) 10), v 4 (.mv (.c (.bool false)))]) 
(.seq 
(.region [v 5 (.faddr 2 (.t 2)), v 6 (.load none (.t 5)), v 7 (.faddr 2 (.t 3)), v 8 (.load none (.t 7)), v 9 (.call (.f 42) [(.t 6), (.t 8)] false), m 10 9, w 11 (.faddr 0 (.t 2)) 10 true, w 12 (.load none (.t 11)) 10 true, w 13 (.faddr 0 (.t 3)) 10 true, w 14 (.load none (.t 13)) 10 true, w 15 (.bin .eql .any (.t 12) (.t 14)) 10 true, v 16 (.pick (.t 10) (.t 15) (.c (.bool false))), m 17 16, w 18 (.faddr 1 (.t 2)) 17 true, w 19 (.load none (.t 18)) 17 true, w 20 (.faddr 1 (.t 3)) 17 true, w 21 (.load none (.t 20)) 17 true, w 22 (.bin .eql .any (.t 19) (.t 21)) 17 true, v 23 (.pick (.t 17) (.t 22) (.c (.bool false))), m 24 23, w 25 (.faddr 3 (.t 2)) 24 true, w 26 (.load none (.t 25)) 24 true, w 27 (.faddr 3 (.t 3)) 24 true, w 28 (.load none (.t 27)) 24 true, w 29 (.bin .eql .bool (.t 26) (.t 28)) 24 true, v 30 (.pick (.t 24) (.t 29) (.c (.bool false))), m 31 30, w 32 (.faddr 4 (.t 2)) 31 true, w 33 (.load none (.t 32)) 31 true, w 34 (.faddr 4 (.t 3)) 31 true, w 35 (.load none (.t 34)) 31 true, w 36 (.bin .eql .any (.t 33) (.t 35)) 31 true, v 37 (.pick (.t 31) (.t 36) (.c (.bool false))), m 38 37, w 39 (.faddr 5 (.t 2)) 38 true, w 40 (.load none (.t 39)) 38 true, w 41 (.faddr 5 (.t 3)) 38 true, w 42 (.load none (.t 41)) 38 true, w 43 (.bin .eql .any (.t 40) (.t 42)) 38 true, v 44 (.pick (.t 38) (.t 43) (.c (.bool false))), m 45 44, w 46 (.faddr 6 (.t 2)) 45 true, w 47 (.load none (.t 46)) 45 true, w 48 (.faddr 6 (.t 3)) 45 true, w 49 (.load none (.t 48)) 45 true, w 50 (.bin .eql .any (.t 47) (.t 49)) 45 true, v 51 (.pick (.t 45) (.t 50) (.c (.bool false))), m 52 51, w 53 (.faddr 7 (.t 2)) 52 true, w 54 (.load none (.t 53)) 52 true, w 55 (.faddr 7 (.t 3)) 52 true, w 56 (.load none (.t 55)) 52 true, w 57 (.bin .eql .bool (.t 54) (.t 56)) 52 true, v 58 (.pick (.t 52) (.t 57) (.c (.bool false))), m 59 58, w 60 (.faddr 8 (.t 2)) 59 true, w 61 (.load none (.t 60)) 59 true, w 62 (.faddr 8 (.t 3)) 59 true, w 63 (.load none (.t 62)) 59 true, w 64 (.bin .eql .bool (.t 61) (.t 63)) 59 true, v 65 (.pick (.t 59) (.t 64) (.c (.bool false))), m 66 65, w 67 (.faddr 9 (.t 2)) 66 true, w 68 (.load none (.t 67)) 66 true, w 69 (.faddr 9 (.t 3)) 66 true, w 70 (.load none (.t 69)) 66 true, w 71 (.bin .eql .bool (.t 68) (.t 70)) 66 true, v 72 (.pick (.t 66) (.t 71) (.c (.bool false))), m 4 72]) .ret)),
 [.tmp 4]⟩
/-- (token.Token).Is -/
def c_token_Token_Is : DFunc := ⟨17, 
(.seq 
(.region [v 3 (.box (.t 0) 10), v 6 (.mv (.c (.bool false)))]) 
(.seq 
(.region [v 7 (.faddr 0 (.t 3)), v 8 (.load none (.t 7)), m 9 1, v 10 (.bin .eql .any (.t 8) (.t 9)), m 11 10, w 12 (.mv (.t 2)) 11 true, w 13 (.faddr 1 (.t 3)) 11 true, w 14 (.load none (.t 13)) 11 true, w 15 (.call (.f 43) [(.t 12), (.t 14)] false) 11 true, v 16 (.pick (.t 11) (.t 15) (.c (.bool false))), m 6 16]) .ret)),
 [.tmp 6]⟩
/-- woodcutlaw09.write -/
def c_woodcutlaw09_write : DFunc := ⟨182, 
(.seq 
(.region [v 2 (.box (.t 0) 10), v 4 (.mv (.c (.str []))), v 5 (.alloc [(.int .i64 0), (.str []), (.lst 0 0 []), (.bool false), (.str []), (.str []), (.str []), (.bool false), (.bool false), (.bool false)] none)]) 
(.seq 
(.seq 
(.region [v 16 (.faddr 0 (.t 2)), v 17 (.load none (.t 16))]) 
(.block 0 
(.seq 
(.region [v 19 (.bin .eql .any (.t 17) (.c (.int .i64 2))), m 18 19]) 
(.cond (.t 18) 
(.seq 
(.region [v 20 (.faddr 1 (.t 2)), v 21 (.load none (.t 20)), v 23 (.faddr 3 (.t 2)), v 24 (.load none (.t 23)), v 6 (.alloc [(.int .i64 0), (.str []), (.lst 0 0 []), (.bool false), (.str []), (.str []), (.str []), (.bool false), (.bool false), (.bool false)] none), ⟨(some 22), .call (.f 14) [(.t 21)] false, none, [((.t 23), none, 24, none)]⟩, v 25 (.build [(.int .i64 0), (.str []), (.lst 0 0 []), (.bool false), (.str []), (.str []), (.str []), (.bool false), (.bool false), (.bool false)] [(0, 1, (.c (.int .i64 2))), (1, 1, (.t 22)), (3, 1, (.t 24))]), u (.store 10 (.t 6) (.t 25))]) 
(.seq 
(.region [v 26 (.faddr 1 (.t 6)), v 27 (.load none (.t 26)), v 28 (.bin .add .any (.c (.str [60])) (.t 27)), m 7 28]) 
(.seq 
(.seq 
(.region [m 29 1, v 30 (.bin .and .any (.t 29) (.c (.int .i64 1))), v 31 (.bin .eql .any (.t 30) (.c (.int .i64 1)))]) 
(.cond (.t 31) 
(.region [v 32 (.faddr 1 (.t 6)), v 33 (.load none (.t 32)), v 34 (.sliceStr (.t 33) (some (.c (.int .i64 1))) none), v 35 (.bin .add .any (.c (.str [60, 87])) (.t 34)), m 7 35]) .skip)) 
(.seq 
(.seq 
(.region [v 36 (.faddr 2 (.t 2)), v 37 (.load none (.t 36)), v 38 (.len true (.t 37)), v 39 (.mv (.c (.int .i64 0)))]) 
(.block 1 
(.loop 
(.seq 
(.region [v 40 (.bin .lss .any (.t 39) (.t 38))]) 
(.seq 
(.cond (.t 40) .skip (.exit 1)) 
(.seq 
(.block 2 
(.seq 
(.region [v 41 (.iaddr 2 (.t 37) (.t 39)), v 42 (.load (some 2) (.t 41)), v 9 (.alloc [(.str []), (.str [])] none), u (.store 2 (.t 9) (.t 42))]) 
(.seq 
(.region [v 43 (.faddr 0 (.t 9)), v 44 (.load none (.t 43)), v 46 (.faddr 1 (.t 9)), v 47 (.load none (.t 46)), v 10 (.alloc [(.str []), (.str [])] none), ⟨(some 45), .call (.f 14) [(.t 44)] false, none, [((.t 46), none, 47, none)]⟩, v 48 (.call (.f 21) [(.t 47)] false), v 49 (.build [(.str []), (.str [])] [(0, 1, (.t 45)), (1, 1, (.t 48))]), u (.store 2 (.t 10) (.t 49))]) 
(.seq 
(.region [m 50 7, m 51 1, v 54 (.faddr 0 (.t 10)), v 55 (.load none (.t 54)), ⟨(some 52), .call (.f 44) [(.t 51)] false, none, [((.t 54), none, 55, none)]⟩, v 53 (.bin .add .any (.t 50) (.t 52)), v 56 (.bin .add .any (.t 53) (.t 55)), m 7 56]) 
(.seq 
(.block 3 
(.seq 
(.region [m 73 1, v 74 (.bin .and .any (.t 73) (.c (.int .i64 2))), v 75 (.bin .eql .any (.t 74) (.c (.int .i64 2))), m 76 75, w 77 (.faddr 1 (.t 10)) 76 true, w 78 (.load none (.t 77)) 76 true, w 79 (.bin .eql .any (.t 78) (.c (.str []))) 76 true, v 80 (.pick (.t 76) (.t 79) (.c (.bool false))), m 72 80]) 
(.cond (.t 72) .skip 
(.seq 
(.region [m 82 1, v 83 (.bin .and .any (.t 82) (.c (.int .i64 4))), v 84 (.bin .eql .any (.t 83) (.c (.int .i64 4))), m 81 84]) 
(.cond (.t 81) 
(.region [m 85 7, v 86 (.bin .add .any (.t 85) (.c (.str [61, 39]))), v 87 (.faddr 1 (.t 10)), v 88 (.load none (.t 87)), v 89 (.call (.f 45) [(.t 88)] false), v 90 (.bin .add .any (.t 86) (.t 89)), v 91 (.bin .add .any (.t 90) (.c (.str [39]))), m 7 91]) 
(.region [m 57 7, m 58 1, m 62 1, v 63 (.bin .shr .any (.t 62) (.c (.int .u64 1))), v 67 (.faddr 1 (.t 10)), v 68 (.load none (.t 67)), ⟨(some 59), .call (.f 44) [(.t 58)] false, none, [((.t 67), none, 68, none)]⟩, v 60 (.bin .add .any (.t 57) (.t 59)), v 61 (.bin .add .any (.t 60) (.c (.str [61]))), ⟨(some 64), .call (.f 44) [(.t 63)] false, none, [((.t 67), none, 68, none)]⟩, v 65 (.bin .add .any (.t 61) (.t 64)), v 66 (.bin .add .any (.t 65) (.c (.str [34]))), v 69 (.call (.f 45) [(.t 68)] false), v 70 (.bin .add .any (.t 66) (.t 69)), v 71 (.bin .add .any (.t 70) (.c (.str [34]))), m 7 71])))))) 
(.seq 
(.region [v 92 (.faddr 2 (.t 6)), v 93 (.load none (.t 92)), v 94 (.faddr 0 (.t 10)), v 95 (.load none (.t 94)), v 98 (.faddr 2 (.t 6)), v 99 (.load none (.t 98)), v 100 (.len true (.t 99)), ⟨(some 96), .call (.f 46) [(.t 93), (.t 95)] true, none, [((.t 98), none, 99, none)]⟩, v 97 (.len true (.t 96)), v 101 (.bin .eql .any (.t 97) (.t 100))]) 
(.cond (.t 101) 
(.region [v 102 (.faddr 2 (.t 6)), v 103 (.load none (.t 102)), v 104 (.load (some 2) (.t 10)), v 105 (.mks false (some 2) (.agg [(.str []), (.str [])]) 1 [(0, (.t 104))]), v 106 (.append false (some 2) 32 (.t 103) (.t 105)), v 107 (.faddr 2 (.t 6)), u (.store 1 (.t 107) (.t 106))]) .skip))))))) 
(.region [v 108 (.bin .add .any (.t 39) (.c (.int .i64 1))), m 39 108]))))))) 
(.seq 
(.seq 
(.region [v 109 (.faddr 3 (.t 6)), v 110 (.load none (.t 109))]) 
(.cond (.t 110) 
(.region [m 111 7, v 112 (.bin .add .any (.t 111) (.c (.str [47]))), m 7 112]) .skip)) 
(.seq 
(.region [m 113 7, v 114 (.bin .add .any (.t 113) (.c (.str [62]))), v 115 (.load (some 10) (.t 6)), m 4 114, u (.store 10 (.t 5) (.t 115))]) .ret)))))) 
(.seq 
(.region [v 117 (.bin .eql .any (.t 17) (.c (.int .i64 3))), m 116 117]) 
(.cond (.t 116) 
(.seq 
(.region [v 118 (.faddr 1 (.t 2)), v 119 (.load none (.t 118)), v 120 (.call (.f 14) [(.t 119)] false), v 121 (.build [(.int .i64 0), (.str []), (.lst 0 0 []), (.bool false), (.str []), (.str []), (.str []), (.bool false), (.bool false), (.bool false)] [(0, 1, (.c (.int .i64 3))), (1, 1, (.t 120))]), v 11 (.alloc [(.int .i64 0), (.str []), (.lst 0 0 []), (.bool false), (.str []), (.str []), (.str []), (.bool false), (.bool false), (.bool false)] none), u (.store 10 (.t 11) (.t 121))]) 
(.seq 
(.seq 
(.region [m 122 1, v 123 (.bin .and .any (.t 122) (.c (.int .i64 1))), v 124 (.bin .eql .any (.t 123) (.c (.int .i64 1)))]) 
(.cond (.t 124) 
(.seq 
(.region [v 125 (.faddr 1 (.t 11)), v 126 (.load none (.t 125)), v 127 (.bin .add .any (.c (.str [60, 47])) (.t 126)), m 128 1, v 132 (.load (some 10) (.t 11)), ⟨(some 129), .call (.f 44) [(.t 128)] false, none, [((.t 11), (some 10), 132, none), ((.t 125), none, 126, none)]⟩, v 130 (.bin .add .any (.t 127) (.t 129)), v 131 (.bin .add .any (.t 130) (.c (.str [120, 61, 121, 62]))), m 4 131, u (.store 10 (.t 5) (.t 132))]) .ret) .skip)) 
(.seq 
(.region [v 133 (.faddr 1 (.t 11)), v 134 (.load none (.t 133)), v 135 (.bin .add .any (.c (.str [60, 47])) (.t 134)), v 136 (.bin .add .any (.t 135) (.c (.str [62]))), v 137 (.load (some 10) (.t 11)), m 4 136, u (.store 10 (.t 5) (.t 137))]) .ret))) 
(.seq 
(.region [v 139 (.bin .eql .any (.t 17) (.c (.int .i64 4))), m 138 139]) 
(.cond (.t 138) 
(.seq 
(.region [v 140 (.faddr 4 (.t 2)), v 141 (.load none (.t 140)), v 143 (.faddr 4 (.t 2)), v 144 (.load none (.t 143)), v 12 (.alloc [(.int .i64 0), (.str []), (.lst 0 0 []), (.bool false), (.str []), (.str []), (.str []), (.bool false), (.bool false), (.bool false)] none), ⟨(some 142), .call (.f 14) [(.t 141)] false, none, [((.t 143), none, 144, none)]⟩, v 145 (.call (.f 21) [(.t 144)] false), v 146 (.bin .add .any (.t 142) (.t 145)), v 147 (.build [(.int .i64 0), (.str []), (.lst 0 0 []), (.bool false), (.str []), (.str []), (.str []), (.bool false), (.bool false), (.bool false)] [(0, 1, (.c (.int .i64 4))), (4, 1, (.t 146))]), u (.store 10 (.t 12) (.t 147))]) 
(.seq 
(.region [v 13 (.mv (.c (.str [])))]) 
(.seq 
(.seq 
(.region [v 14 (.mv (.c (.int .i64 0)))]) 
(.block 4 
(.loop 
(.seq 
(.seq 
(.region [m 148 14, v 149 (.faddr 4 (.t 12)), v 150 (.load none (.t 149)), v 151 (.len false (.t 150)), v 152 (.bin .lss .any (.t 148) (.t 151))]) 
(.cond (.t 152) .skip (.exit 4))) 
(.seq 
(.block 5 
(.seq 
(.region [v 155 (.faddr 4 (.t 12)), v 156 (.load none (.t 155)), m 157 14, v 158 (.idxStr (.t 156) (.t 157)), v 159 (.bin .neq .any (.t 158) (.c (.int .u8 45)))]) 
(.cond (.t 159) 
(.region [m 160 13, v 161 (.faddr 4 (.t 12)), v 162 (.load none (.t 161)), m 163 14, m 164 14, v 165 (.bin .add .any (.t 164) (.c (.int .i64 1))), v 166 (.sliceStr (.t 162) (some (.t 163)) (some (.t 165))), v 167 (.bin .add .any (.t 160) (.t 166)), m 13 167]) .skip))) 
(.region [m 153 14, v 154 (.bin .add .any (.t 153) (.c (.int .i64 1))), m 14 154])))))) 
(.seq 
(.region [m 168 13, v 169 (.faddr 4 (.t 12)), u (.store 1 (.t 169) (.t 168))]) 
(.seq 
(.region [m 170 13, v 171 (.bin .add .any (.c (.str [60, 33, 45, 45])) (.t 170)), v 172 (.bin .add .any (.t 171) (.c (.str [45, 45, 62]))), v 173 (.load (some 10) (.t 12)), m 4 172, u (.store 10 (.t 5) (.t 173))]) .ret))))) .skip)))))))) 
(.seq 
(.region [v 174 (.faddr 4 (.t 2)), v 175 (.load none (.t 174)), v 176 (.call (.f 21) [(.t 175)] false), v 177 (.build [(.int .i64 0), (.str []), (.lst 0 0 []), (.bool false), (.str []), (.str []), (.str []), (.bool false), (.bool false), (.bool false)] [(0, 1, (.c (.int .i64 1))), (4, 1, (.t 176))]), v 15 (.alloc [(.int .i64 0), (.str []), (.lst 0 0 []), (.bool false), (.str []), (.str []), (.str []), (.bool false), (.bool false), (.bool false)] none), u (.store 10 (.t 15) (.t 177))]) 
(.seq 
(.region [v 178 (.faddr 4 (.t 15)), v 179 (.load none (.t 178)), v 181 (.load (some 10) (.t 15)), ⟨(some 180), .call (.f 45) [(.t 179)] false, none, [((.t 15), (some 10), 181, none)]⟩, m 4 180, u (.store 10 (.t 5) (.t 181))]) .ret)))),
 [.tmp 4, .cell 5 (some 10)]⟩
/-- woodcutlaw09.LexJoins$1 -/
def c_woodcutlaw09_LexJoins_1 : DFunc := ⟨58, 
(.seq 
(.region [v 3 (.mv (.c (.str [])))]) 
(.seq 
(.region [v 4 (.mv (.c (.str [])))]) 
(.seq 
(.seq 
(.region [m 10 0, v 11 (.len true (.t 10)), v 12 (.mv (.c (.int .i64 0)))]) 
(.block 0 
(.loop 
(.seq 
(.region [v 13 (.bin .lss .any (.t 12) (.t 11))]) 
(.seq 
(.cond (.t 13) .skip (.exit 0)) 
(.seq 
(.block 1 
(.seq 
(.region [m 14 12, v 15 (.iaddr 10 (.t 10) (.t 12)), v 16 (.load (some 10) (.t 15)), v 6 (.alloc [(.int .i64 0), (.str []), (.lst 0 0 []), (.bool false), (.str []), (.str []), (.str []), (.bool false), (.bool false), (.bool false)] none), m 5 14, u (.store 10 (.t 6) (.t 16))]) 
(.seq 
(.seq 
(.region [v 17 (.faddr 4 (.t 6)), v 18 (.load none (.t 17)), v 19 (.len false (.t 18)), v 20 (.bin .gtr .any (.t 19) (.c (.int .i64 100))), m 21 20, w 22 (.faddr 2 (.t 6)) 21 false, w 23 (.load none (.t 22)) 21 false, w 24 (.len true (.t 23)) 21 false, w 25 (.bin .gtr .any (.t 24) (.c (.int .i64 6))) 21 false, v 26 (.pick (.t 21) (.c (.bool true)) (.t 25))]) 
(.cond (.t 26) (.exit 1) .skip)) 
(.seq 
(.seq 
(.region [v 27 (.faddr 2 (.t 6)), v 28 (.load none (.t 27)), v 29 (.len true (.t 28)), v 30 (.mv (.c (.int .i64 0)))]) 
(.block 2 
(.loop 
(.seq 
(.region [v 31 (.bin .lss .any (.t 30) (.t 29))]) 
(.seq 
(.cond (.t 31) .skip (.exit 2)) 
(.seq 
(.block 3 
(.seq 
(.region [m 32 30, m 7 32]) 
(.seq 
(.region [v 33 (.faddr 2 (.t 6)), v 34 (.load none (.t 33)), m 35 7, v 36 (.iaddr 2 (.t 34) (.t 35)), v 37 (.faddr 1 (.t 36)), v 38 (.load none (.t 37)), v 39 (.len false (.t 38)), v 40 (.bin .gtr .any (.t 39) (.c (.int .i64 100)))]) 
(.cond (.t 40) 
(.seq 
(.region [m 41 4, m 3 41]) .ret) .skip)))) 
(.region [v 42 (.bin .add .any (.t 30) (.c (.int .i64 1))), m 30 42]))))))) 
(.seq 
(.region [v 44 (.load (some 10) (.t 6)), v 45 (.load none (.t 1)), m 46 5, v 47 (.bin .and .any (.t 46) (.c (.int .i64 15))), v 48 (.conv (.int .u64) false (.t 47)), v 49 (.bin .shr .any (.t 45) (.t 48)), v 50 (.call (.f 31) [(.t 44), (.t 49)] false), m 43 50, v 51 (.extract (.t 43) 0), v 52 (.extract (.t 43) 1), v 9 (.alloc [(.int .i64 0), (.str []), (.lst 0 0 []), (.bool false), (.str []), (.str []), (.str []), (.bool false), (.bool false), (.bool false)] none), m 8 51, u (.store 10 (.t 9) (.t 52))]) 
(.region [m 53 4, m 54 8, v 55 (.bin .add .any (.t 53) (.t 54)), m 4 55])))))) 
(.region [v 56 (.bin .add .any (.t 12) (.c (.int .i64 1))), m 12 56]))))))) 
(.seq 
(.region [m 57 4, m 3 57]) .ret)))),
 [.tmp 3]⟩
/-- woodcutlaw10.head -/
def c_woodcutlaw10_head : DFunc := ⟨23, 
(.seq 
(.region [v 0 (.mv (.c (.bool false)))]) 
(.seq 
(.region [v 3 (.call (.f 47) [] false), m 1 3]) 
(.seq 
(.region [m 4 1, v 5 (.build [(.int .i64 0), (.int .i64 0), (.str []), (.str []), (.lst 0 0 []), (.str []), (.str []), (.int .i64 0), (.lst 0 0 []), (.int .i64 0)] [(0, 1, (.c (.int .i64 2))), (2, 1, (.c (.str [112])))]), v 6 (.call (.f 48) [(.t 4), (.t 5)] false), m 2 6]) 
(.seq 
(.region [m 7 1, m 8 2, v 9 (.call (.f 49) [(.t 7), (.c (.int .i64 0)), (.t 8), (.c (.int .i64 (-1)))] false), v 10 (.bin .eql .any (.t 9) (.c (.int .i64 0))), m 11 10, w 12 (.mv (.t 1)) 11 true, w 13 (.mv (.t 2)) 11 true, w 14 (.call (.f 50) [(.t 12), (.t 13), (.c (.str [97, 60, 98])), (.c (.int .i64 (-1)))] false) 11 true, w 15 (.bin .eql .any (.t 14) (.c (.int .i64 0))) 11 true, v 16 (.pick (.t 11) (.t 15) (.c (.bool false))), m 17 16, w 18 (.mv (.t 1)) 17 true, w 19 (.call (.f 51) [(.t 18)] false) 17 true, w 20 (.conv .bytesStr false (.t 19)) 17 true, w 21 (.bin .eql .any (.t 20) (.c (.str [60, 112, 62, 97, 38, 108, 116, 59, 98, 60, 47, 112, 62]))) 17 true, v 22 (.pick (.t 17) (.t 21) (.c (.bool false))), m 0 22]) .ret)))),
 [.tmp 0]⟩
/-- ser.Value -/
def c_ser_Value : DFunc := ⟨6, 
(.seq 
(.region [v 2 (.mv (.c (.str [])))]) 
(.seq 
(.region [m 3 0, v 4 (.call (.f 52) [(.c (.lst 0 0 [])), (.t 3), (.c (.bool true))] false), v 5 (.conv .bytesStr false (.t 4)), m 2 5]) .ret)),
 [.tmp 2]⟩
/-- ser.Text -/
def c_ser_Text : DFunc := ⟨6, 
(.seq 
(.region [v 2 (.mv (.c (.str [])))]) 
(.seq 
(.region [m 3 0, v 4 (.call (.f 52) [(.c (.lst 0 0 [])), (.t 3), (.c (.bool false))] false), v 5 (.conv .bytesStr false (.t 4)), m 2 5]) .ret)),
 [.tmp 2]⟩
/-- slices.Collect[token.Token] -/
def c_slices_Collect_token_Token : DFunc := ⟨5, 
(.seq 
(.region [v 2 (.mv (.c (.lst 0 0 [])))]) 
(.seq 
(.region [m 3 0, v 4 (.call (.f 53) [(.c (.lst 0 0 [])), (.t 3)] false), m 2 4]) .ret)),
 [.tmp 2]⟩
/-- chars.table -/
def c_chars_table : DFunc := ⟨63, 
(.seq 
(.region [v 0 (.mv (.c (.lst 0 0 [])))]) 
(.seq 
(.region [v 1 (.build [(.str []), (.int .i32 0), (.bool false)] [(0, 1, (.c (.str [97, 109, 112]))), (1, 1, (.c (.int .i32 38))), (2, 1, (.c (.bool true)))]), v 2 (.build [(.str []), (.int .i32 0), (.bool false)] [(0, 1, (.c (.str [108, 116]))), (1, 1, (.c (.int .i32 60))), (2, 1, (.c (.bool true)))]), v 3 (.build [(.str []), (.int .i32 0), (.bool false)] [(0, 1, (.c (.str [103, 116]))), (1, 1, (.c (.int .i32 62))), (2, 1, (.c (.bool true)))]), v 4 (.build [(.str []), (.int .i32 0), (.bool false)] [(0, 1, (.c (.str [113, 117, 111, 116]))), (1, 1, (.c (.int .i32 34))), (2, 1, (.c (.bool true)))]), v 5 (.build [(.str []), (.int .i32 0), (.bool false)] [(0, 1, (.c (.str [65, 77, 80]))), (1, 1, (.c (.int .i32 38))), (2, 1, (.c (.bool true)))]), v 6 (.build [(.str []), (.int .i32 0), (.bool false)] [(0, 1, (.c (.str [76, 84]))), (1, 1, (.c (.int .i32 60))), (2, 1, (.c (.bool true)))]), v 7 (.build [(.str []), (.int .i32 0), (.bool false)] [(0, 1, (.c (.str [71, 84]))), (1, 1, (.c (.int .i32 62))), (2, 1, (.c (.bool true)))]), v 8 (.build [(.str []), (.int .i32 0), (.bool false)] [(0, 1, (.c (.str [110, 98, 115, 112]))), (1, 1, (.c (.int .i32 160))), (2, 1, (.c (.bool true)))]), v 9 (.build [(.str []), (.int .i32 0), (.bool false)] [(0, 1, (.c (.str [105, 101, 120, 99, 108]))), (1, 1, (.c (.int .i32 161))), (2, 1, (.c (.bool true)))]), v 10 (.build [(.str []), (.int .i32 0), (.bool false)] [(0, 1, (.c (.str [99, 101, 110, 116]))), (1, 1, (.c (.int .i32 162))), (2, 1, (.c (.bool true)))]), v 11 (.build [(.str []), (.int .i32 0), (.bool false)] [(0, 1, (.c (.str [112, 111, 117, 110, 100]))), (1, 1, (.c (.int .i32 163))), (2, 1, (.c (.bool true)))]), v 12 (.build [(.str []), (.int .i32 0), (.bool false)] [(0, 1, (.c (.str [121, 101, 110]))), (1, 1, (.c (.int .i32 165))), (2, 1, (.c (.bool true)))]), v 13 (.build [(.str []), (.int .i32 0), (.bool false)] [(0, 1, (.c (.str [115, 101, 99, 116]))), (1, 1, (.c (.int .i32 167))), (2, 1, (.c (.bool true)))]), v 14 (.build [(.str []), (.int .i32 0), (.bool false)] [(0, 1, (.c (.str [99, 111, 112, 121]))), (1, 1, (.c (.int .i32 169))), (2, 1, (.c (.bool true)))]), v 15 (.build [(.str []), (.int .i32 0), (.bool false)] [(0, 1, (.c (.str [108, 97, 113, 117, 111]))), (1, 1, (.c (.int .i32 171))), (2, 1, (.c (.bool true)))]), v 16 (.build [(.str []), (.int .i32 0), (.bool false)] [(0, 1, (.c (.str [110, 111, 116]))), (1, 1, (.c (.int .i32 172))), (2, 1, (.c (.bool true)))]), v 17 (.build [(.str []), (.int .i32 0), (.bool false)] [(0, 1, (.c (.str [115, 104, 121]))), (1, 1, (.c (.int .i32 173))), (2, 1, (.c (.bool true)))]), v 18 (.build [(.str []), (.int .i32 0), (.bool false)] [(0, 1, (.c (.str [114, 101, 103]))), (1, 1, (.c (.int .i32 174))), (2, 1, (.c (.bool true)))]), v 19 (.build [(.str []), (.int .i32 0), (.bool false)] [(0, 1, (.c (.str [100, 101, 103]))), (1, 1, (.c (.int .i32 176))), (2, 1, (.c (.bool true)))]), v 20 (.build [(.str []), (.int .i32 0), (.bool false)] [(0, 1, (.c (.str [112, 108, 117, 115, 109, 110]))), (1, 1, (.c (.int .i32 177))), (2, 1, (.c (.bool true)))]), v 21 (.build [(.str []), (.int .i32 0), (.bool false)] [(0, 1, (.c (.str [115, 117, 112, 50]))), (1, 1, (.c (.int .i32 178))), (2, 1, (.c (.bool true)))]), v 22 (.build [(.str []), (.int .i32 0), (.bool false)] [(0, 1, (.c (.str [109, 105, 99, 114, 111]))), (1, 1, (.c (.int .i32 181))), (2, 1, (.c (.bool true)))]), v 23 (.build [(.str []), (.int .i32 0), (.bool false)] [(0, 1, (.c (.str [112, 97, 114, 97]))), (1, 1, (.c (.int .i32 182))), (2, 1, (.c (.bool true)))]), v 24 (.build [(.str []), (.int .i32 0), (.bool false)] [(0, 1, (.c (.str [109, 105, 100, 100, 111, 116]))), (1, 1, (.c (.int .i32 183))), (2, 1, (.c (.bool true)))]), v 25 (.build [(.str []), (.int .i32 0), (.bool false)] [(0, 1, (.c (.str [114, 97, 113, 117, 111]))), (1, 1, (.c (.int .i32 187))), (2, 1, (.c (.bool true)))]), v 26 (.build [(.str []), (.int .i32 0), (.bool false)] [(0, 1, (.c (.str [102, 114, 97, 99, 49, 50]))), (1, 1, (.c (.int .i32 189))), (2, 1, (.c (.bool true)))]), v 27 (.build [(.str []), (.int .i32 0), (.bool false)] [(0, 1, (.c (.str [105, 113, 117, 101, 115, 116]))), (1, 1, (.c (.int .i32 191))), (2, 1, (.c (.bool true)))]), v 28 (.build [(.str []), (.int .i32 0), (.bool false)] [(0, 1, (.c (.str [65, 117, 109, 108]))), (1, 1, (.c (.int .i32 196))), (2, 1, (.c (.bool true)))]), v 29 (.build [(.str []), (.int .i32 0), (.bool false)] [(0, 1, (.c (.str [69, 97, 99, 117, 116, 101]))), (1, 1, (.c (.int .i32 201))), (2, 1, (.c (.bool true)))]), v 30 (.build [(.str []), (.int .i32 0), (.bool false)] [(0, 1, (.c (.str [79, 117, 109, 108]))), (1, 1, (.c (.int .i32 214))), (2, 1, (.c (.bool true)))]), v 31 (.build [(.str []), (.int .i32 0), (.bool false)] [(0, 1, (.c (.str [116, 105, 109, 101, 115]))), (1, 1, (.c (.int .i32 215))), (2, 1, (.c (.bool true)))]), v 32 (.build [(.str []), (.int .i32 0), (.bool false)] [(0, 1, (.c (.str [85, 117, 109, 108]))), (1, 1, (.c (.int .i32 220))), (2, 1, (.c (.bool true)))]), v 33 (.build [(.str []), (.int .i32 0), (.bool false)] [(0, 1, (.c (.str [115, 122, 108, 105, 103]))), (1, 1, (.c (.int .i32 223))), (2, 1, (.c (.bool true)))]), v 34 (.build [(.str []), (.int .i32 0), (.bool false)] [(0, 1, (.c (.str [97, 103, 114, 97, 118, 101]))), (1, 1, (.c (.int .i32 224))), (2, 1, (.c (.bool true)))]), v 35 (.build [(.str []), (.int .i32 0), (.bool false)] [(0, 1, (.c (.str [97, 117, 109, 108]))), (1, 1, (.c (.int .i32 228))), (2, 1, (.c (.bool true)))]), v 36 (.build [(.str []), (.int .i32 0), (.bool false)] [(0, 1, (.c (.str [99, 99, 101, 100, 105, 108]))), (1, 1, (.c (.int .i32 231))), (2, 1, (.c (.bool true)))]), v 37 (.build [(.str []), (.int .i32 0), (.bool false)] [(0, 1, (.c (.str [101, 97, 99, 117, 116, 101]))), (1, 1, (.c (.int .i32 233))), (2, 1, (.c (.bool true)))]), v 38 (.build [(.str []), (.int .i32 0), (.bool false)] [(0, 1, (.c (.str [110, 116, 105, 108, 100, 101]))), (1, 1, (.c (.int .i32 241))), (2, 1, (.c (.bool true)))]), v 39 (.build [(.str []), (.int .i32 0), (.bool false)] [(0, 1, (.c (.str [111, 117, 109, 108]))), (1, 1, (.c (.int .i32 246))), (2, 1, (.c (.bool true)))]), v 40 (.build [(.str []), (.int .i32 0), (.bool false)] [(0, 1, (.c (.str [100, 105, 118, 105, 100, 101]))), (1, 1, (.c (.int .i32 247))), (2, 1, (.c (.bool true)))]), v 41 (.build [(.str []), (.int .i32 0), (.bool false)] [(0, 1, (.c (.str [117, 117, 109, 108]))), (1, 1, (.c (.int .i32 252))), (2, 1, (.c (.bool true)))]), v 42 (.build [(.str []), (.int .i32 0), (.bool false)] [(0, 1, (.c (.str [97, 112, 111, 115]))), (1, 1, (.c (.int .i32 39))), (2, 1, (.c (.bool false)))]), v 43 (.build [(.str []), (.int .i32 0), (.bool false)] [(0, 1, (.c (.str [104, 101, 108, 108, 105, 112]))), (1, 1, (.c (.int .i32 8230))), (2, 1, (.c (.bool false)))]), v 44 (.build [(.str []), (.int .i32 0), (.bool false)] [(0, 1, (.c (.str [109, 100, 97, 115, 104]))), (1, 1, (.c (.int .i32 8212))), (2, 1, (.c (.bool false)))]), v 45 (.build [(.str []), (.int .i32 0), (.bool false)] [(0, 1, (.c (.str [110, 100, 97, 115, 104]))), (1, 1, (.c (.int .i32 8211))), (2, 1, (.c (.bool false)))]), v 46 (.build [(.str []), (.int .i32 0), (.bool false)] [(0, 1, (.c (.str [101, 117, 114, 111]))), (1, 1, (.c (.int .i32 8364))), (2, 1, (.c (.bool false)))]), v 47 (.build [(.str []), (.int .i32 0), (.bool false)] [(0, 1, (.c (.str [116, 114, 97, 100, 101]))), (1, 1, (.c (.int .i32 8482))), (2, 1, (.c (.bool false)))]), v 48 (.build [(.str []), (.int .i32 0), (.bool false)] [(0, 1, (.c (.str [108, 97, 114, 114]))), (1, 1, (.c (.int .i32 8592))), (2, 1, (.c (.bool false)))]), v 49 (.build [(.str []), (.int .i32 0), (.bool false)] [(0, 1, (.c (.str [114, 97, 114, 114]))), (1, 1, (.c (.int .i32 8594))), (2, 1, (.c (.bool false)))]), v 50 (.build [(.str []), (.int .i32 0), (.bool false)] [(0, 1, (.c (.str [110, 111, 116, 105, 110]))), (1, 1, (.c (.int .i32 8713))), (2, 1, (.c (.bool false)))]), v 51 (.build [(.str []), (.int .i32 0), (.bool false)] [(0, 1, (.c (.str [97, 108, 112, 104, 97]))), (1, 1, (.c (.int .i32 945))), (2, 1, (.c (.bool false)))]), v 52 (.build [(.str []), (.int .i32 0), (.bool false)] [(0, 1, (.c (.str [111, 109, 101, 103, 97]))), (1, 1, (.c (.int .i32 969))), (2, 1, (.c (.bool false)))]), v 53 (.build [(.str []), (.int .i32 0), (.bool false)] [(0, 1, (.c (.str [105, 110, 102, 105, 110]))), (1, 1, (.c (.int .i32 8734))), (2, 1, (.c (.bool false)))]), v 54 (.build [(.str []), (.int .i32 0), (.bool false)] [(0, 1, (.c (.str [98, 117, 108, 108]))), (1, 1, (.c (.int .i32 8226))), (2, 1, (.c (.bool false)))]), v 55 (.build [(.str []), (.int .i32 0), (.bool false)] [(0, 1, (.c (.str [108, 115, 113, 117, 111]))), (1, 1, (.c (.int .i32 8216))), (2, 1, (.c (.bool false)))]), v 56 (.build [(.str []), (.int .i32 0), (.bool false)] [(0, 1, (.c (.str [114, 115, 113, 117, 111]))), (1, 1, (.c (.int .i32 8217))), (2, 1, (.c (.bool false)))]), v 57 (.build [(.str []), (.int .i32 0), (.bool false)] [(0, 1, (.c (.str [108, 100, 113, 117, 111]))), (1, 1, (.c (.int .i32 8220))), (2, 1, (.c (.bool false)))]), v 58 (.build [(.str []), (.int .i32 0), (.bool false)] [(0, 1, (.c (.str [114, 100, 113, 117, 111]))), (1, 1, (.c (.int .i32 8221))), (2, 1, (.c (.bool false)))]), v 59 (.build [(.str []), (.int .i32 0), (.bool false)] [(0, 1, (.c (.str [110, 101]))), (1, 1, (.c (.int .i32 8800))), (2, 1, (.c (.bool false)))]), v 60 (.build [(.str []), (.int .i32 0), (.bool false)] [(0, 1, (.c (.str [108, 101]))), (1, 1, (.c (.int .i32 8804))), (2, 1, (.c (.bool false)))]), v 61 (.build [(.str []), (.int .i32 0), (.bool false)] [(0, 1, (.c (.str [110, 118, 108, 116]))), (1, 1, (.c (.int .i32 60))), (2, 1, (.c (.bool false)))]), v 62 (.mks false (some 3) (.agg [(.str []), (.int .i32 0), (.bool false)]) 61 [(0, (.t 1)), (1, (.t 2)), (2, (.t 3)), (3, (.t 4)), (4, (.t 5)), (5, (.t 6)), (6, (.t 7)), (7, (.t 8)), (8, (.t 9)), (9, (.t 10)), (10, (.t 11)), (11, (.t 12)), (12, (.t 13)), (13, (.t 14)), (14, (.t 15)), (15, (.t 16)), (16, (.t 17)), (17, (.t 18)), (18, (.t 19)), (19, (.t 20)), (20, (.t 21)), (21, (.t 22)), (22, (.t 23)), (23, (.t 24)), (24, (.t 25)), (25, (.t 26)), (26, (.t 27)), (27, (.t 28)), (28, (.t 29)), (29, (.t 30)), (30, (.t 31)), (31, (.t 32)), (32, (.t 33)), (33, (.t 34)), (34, (.t 35)), (35, (.t 36)), (36, (.t 37)), (37, (.t 38)), (38, (.t 39)), (39, (.t 40)), (40, (.t 41)), (41, (.t 42)), (42, (.t 43)), (43, (.t 44)), (44, (.t 45)), (45, (.t 46)), (46, (.t 47)), (47, (.t 48)), (48, (.t 49)), (49, (.t 50)), (50, (.t 51)), (51, (.t 52)), (52, (.t 53)), (53, (.t 54)), (54, (.t 55)), (55, (.t 56)), (56, (.t 57)), (57, (.t 58)), (58, (.t 59)), (59, (.t 60)), (60, (.t 61))]), m 0 62]) .ret)),
 [.tmp 0]⟩
/-- text.Put -/
def c_text_Put : DFunc := ⟨84, 
(.seq 
(.region [v 4 (.mv (.c (.lst 0 0 [])))]) 
(.seq 
(.block 0 
(.seq 
(.region [m 6 1, v 7 (.bin .lss .any (.t 6) (.c (.int .i32 0))), m 8 7, w 9 (.mv (.t 1)) 8 false, w 10 (.bin .gtr .any (.t 9) (.c (.int .i32 1114111))) 8 false, v 11 (.pick (.t 8) (.c (.bool true)) (.t 10)), m 12 11, w 13 (.mv (.t 1)) 12 false, w 14 (.bin .geq .any (.t 13) (.c (.int .i32 55296))) 12 false, w 15 (.mv (.t 14)) 12 false, w 16 (.mv (.t 1)) 15 true, w 17 (.bin .leq .any (.t 16) (.c (.int .i32 57343))) 15 true, w 18 (.pick (.t 15) (.t 17) (.c (.bool false))) 12 false, v 19 (.pick (.t 12) (.c (.bool true)) (.t 18)), m 5 19]) 
(.cond (.t 5) 
(.seq 
(.region [m 20 0, v 21 (.call (.f 38) [(.t 20), (.c (.int .i32 65533))] false), m 4 21]) .ret) 
(.seq 
(.region [m 23 1, v 24 (.bin .lss .any (.t 23) (.c (.int .i32 128))), m 22 24]) 
(.cond (.t 22) 
(.seq 
(.region [m 25 0, m 26 1, v 27 (.conv (.int .u8) false (.t 26)), v 28 (.mks false none (.int .u8 0) 1 [(0, (.t 27))]), v 29 (.append false none 1 (.t 25) (.t 28)), m 4 29]) .ret) 
(.seq 
(.region [m 31 1, v 32 (.bin .lss .any (.t 31) (.c (.int .i32 2048))), m 30 32]) 
(.cond (.t 30) 
(.seq 
(.region [m 33 0, m 34 1, v 35 (.bin .shr .any (.t 34) (.c (.int .u64 6))), v 36 (.conv (.int .u8) false (.t 35)), v 37 (.bin .or .any (.c (.int .u8 192)) (.t 36)), m 38 1, v 39 (.bin .and .any (.t 38) (.c (.int .i32 63))), v 40 (.conv (.int .u8) false (.t 39)), v 41 (.bin .or .any (.c (.int .u8 128)) (.t 40)), v 42 (.mks false none (.int .u8 0) 2 [(0, (.t 37)), (1, (.t 41))]), v 43 (.append false none 1 (.t 33) (.t 42)), m 4 43]) .ret) 
(.seq 
(.region [m 45 1, v 46 (.bin .lss .any (.t 45) (.c (.int .i32 65536))), m 44 46]) 
(.cond (.t 44) 
(.seq 
(.region [m 47 0, m 48 1, v 49 (.bin .shr .any (.t 48) (.c (.int .u64 12))), v 50 (.conv (.int .u8) false (.t 49)), v 51 (.bin .or .any (.c (.int .u8 224)) (.t 50)), m 52 1, v 53 (.bin .shr .any (.t 52) (.c (.int .u64 6))), v 54 (.bin .and .any (.t 53) (.c (.int .i32 63))), v 55 (.conv (.int .u8) false (.t 54)), v 56 (.bin .or .any (.c (.int .u8 128)) (.t 55)), m 57 1, v 58 (.bin .and .any (.t 57) (.c (.int .i32 63))), v 59 (.conv (.int .u8) false (.t 58)), v 60 (.bin .or .any (.c (.int .u8 128)) (.t 59)), v 61 (.mks false none (.int .u8 0) 3 [(0, (.t 51)), (1, (.t 56)), (2, (.t 60))]), v 62 (.append false none 1 (.t 47) (.t 61)), m 4 62]) .ret) .skip))))))))) 
(.seq 
(.region [m 63 0, m 64 1, v 65 (.bin .shr .any (.t 64) (.c (.int .u64 18))), v 66 (.conv (.int .u8) false (.t 65)), v 67 (.bin .or .any (.c (.int .u8 240)) (.t 66)), m 68 1, v 69 (.bin .shr .any (.t 68) (.c (.int .u64 12))), v 70 (.bin .and .any (.t 69) (.c (.int .i32 63))), v 71 (.conv (.int .u8) false (.t 70)), v 72 (.bin .or .any (.c (.int .u8 128)) (.t 71)), m 73 1, v 74 (.bin .shr .any (.t 73) (.c (.int .u64 6))), v 75 (.bin .and .any (.t 74) (.c (.int .i32 63))), v 76 (.conv (.int .u8) false (.t 75)), v 77 (.bin .or .any (.c (.int .u8 128)) (.t 76)), m 78 1, v 79 (.bin .and .any (.t 78) (.c (.int .i32 63))), v 80 (.conv (.int .u8) false (.t 79)), v 81 (.bin .or .any (.c (.int .u8 128)) (.t 80)), v 82 (.mks false none (.int .u8 0) 4 [(0, (.t 67)), (1, (.t 72)), (2, (.t 77)), (3, (.t 81))]), v 83 (.append false none 1 (.t 63) (.t 82)), m 4 83]) .ret))),
 [.tmp 4]⟩
/-- text.Decode -/
def c_text_Decode : DFunc := ⟨53, 
(.seq 
(.region [v 2 (.mv (.c (.lst 0 0 [])))]) 
(.seq 
(.seq 
(.region [m 7 0, v 8 (.len true (.t 7)), v 9 (.bin .geq .any (.t 8) (.c (.int .i64 3))), m 10 9, w 11 (.mv (.t 0)) 10 true, w 12 (.iaddr 1 (.t 11) (.c (.int .i64 0))) 10 true, w 13 (.load none (.t 12)) 10 true, w 14 (.bin .eql .any (.t 13) (.c (.int .u8 239))) 10 true, v 15 (.pick (.t 10) (.t 14) (.c (.bool false))), m 16 15, w 17 (.mv (.t 0)) 16 true, w 18 (.iaddr 1 (.t 17) (.c (.int .i64 1))) 16 true, w 19 (.load none (.t 18)) 16 true, w 20 (.bin .eql .any (.t 19) (.c (.int .u8 187))) 16 true, v 21 (.pick (.t 16) (.t 20) (.c (.bool false))), m 22 21, w 23 (.mv (.t 0)) 22 true, w 24 (.iaddr 1 (.t 23) (.c (.int .i64 2))) 22 true, w 25 (.load none (.t 24)) 22 true, w 26 (.bin .eql .any (.t 25) (.c (.int .u8 191))) 22 true, v 27 (.pick (.t 22) (.t 26) (.c (.bool false)))]) 
(.cond (.t 27) 
(.region [m 28 0, v 29 (.slice 1 (.t 28) (some (.c (.int .i64 3))) none none), m 0 29]) .skip)) 
(.seq 
(.region [v 3 (.alloc [(.lst 0 0 [])] none)]) 
(.seq 
(.region [v 4 (.alloc [(.int .i32 0)] none), u (.store 1 (.t 4) (.c (.int .i32 0)))]) 
(.seq 
(.seq 
(.region [m 30 0, v 31 (.call (.f 54) [(.t 30)] false)]) 
(.block 0 
(.range (.t 31) [32, 33] 
(.region [m 6 33]) 
(.block 1 
(.seq 
(.block 2 
(.seq 
(.region [m 39 6, v 40 (.bin .eql .any (.t 39) (.c (.int .i32 13))), m 38 40]) 
(.cond (.t 38) 
(.region [v 41 (.load none (.t 3)), v 42 (.mks false none (.int .i32 0) 1 [(0, (.c (.int .i32 10)))]), v 43 (.append false none 4 (.t 41) (.t 42)), u (.store 1 (.t 3) (.t 43))]) 
(.seq 
(.region [m 45 6, v 46 (.bin .eql .any (.t 45) (.c (.int .i32 10))), m 47 46, w 48 (.load none (.t 4)) 47 true, w 49 (.bin .eql .any (.t 48) (.c (.int .i32 13))) 47 true, v 50 (.pick (.t 47) (.t 49) (.c (.bool false))), m 44 50]) 
(.cond (.t 44) .skip 
(.region [v 34 (.load none (.t 3)), m 35 6, v 36 (.mks false none (.int .i32 0) 1 [(0, (.t 35))]), v 37 (.append false none 4 (.t 34) (.t 36)), u (.store 1 (.t 3) (.t 37))])))))) 
(.region [m 51 6, u (.store 1 (.t 4) (.t 51))])))))) 
(.seq 
(.region [v 52 (.load none (.t 3)), m 2 52]) .ret)))))),
 [.tmp 2]⟩
/-- (*lex.Lexer).Tokens$1 -/
def c_lex_Lexer_Tokens_1 : DFunc := ⟨18, 
(.block 0 
(.loop 
(.block 1 
(.seq 
(.region [v 6 (.load none (.t 1)), v 7 (.call (.f 41) [(.t 6)] false), m 5 7, v 8 (.extract (.t 5) 0), v 9 (.extract (.t 5) 1), v 3 (.alloc [(.int .i64 0), (.str []), (.lst 0 0 []), (.bool false), (.str []), (.str []), (.str []), (.bool false), (.bool false), (.bool false)] none), u (.store 10 (.t 3) (.t 8)), m 4 9]) 
(.seq 
(.region [m 10 4, v 11 (.un .not (.t 10)), m 12 11, w 13 (.mv (.t 0)) 12 false, w 14 (.load (some 10) (.t 3)) 12 false, w 15 (.call (.t 13) [(.t 14)] false) 12 false, w 16 (.un .not (.t 15)) 12 false, v 17 (.pick (.t 12) (.c (.bool true)) (.t 16))]) 
(.cond (.t 17) .ret .skip)))))),
 []⟩
/-- (*lex.Lexer).Next -/
def c_lex_Lexer_Next : DFunc := ⟨36, 
(.seq 
(.region [v 2 (.alloc [(.int .i64 0), (.str []), (.lst 0 0 []), (.bool false), (.str []), (.str []), (.str []), (.bool false), (.bool false), (.bool false)] none), v 3 (.mv (.c (.bool false)))]) 
(.seq 
(.seq 
(.region [m 5 0, v 6 (.bin .eql .ptr (.t 5) (.c .nilp))]) 
(.cond (.t 6) 
(.seq 
(.region [v 7 (.build [(.int .i64 0), (.str []), (.lst 0 0 []), (.bool false), (.str []), (.str []), (.str []), (.bool false), (.bool false), (.bool false)] []), u (.store 10 (.t 2) (.t 7)), v 3 (.mv (.c (.bool false)))]) .ret) .skip)) 
(.seq 
(.block 0 
(.loop 
(.seq 
(.seq 
(.region [m 8 0, v 9 (.nilc (.t 8)), v 10 (.faddr 5 (.t 9)), v 11 (.load none (.t 10)), v 12 (.len true (.t 11)), v 13 (.bin .eql .any (.t 12) (.c (.int .i64 0)))]) 
(.cond (.t 13) .skip (.exit 0))) 
(.block 1 
(.seq 
(.seq 
(.region [m 14 0, v 15 (.nilc (.t 14)), v 16 (.faddr 7 (.t 15)), v 17 (.load none (.t 16))]) 
(.cond (.t 17) 
(.seq 
(.region [v 18 (.build [(.int .i64 0), (.str []), (.lst 0 0 []), (.bool false), (.str []), (.str []), (.str []), (.bool false), (.bool false), (.bool false)] []), u (.store 10 (.t 2) (.t 18)), v 3 (.mv (.c (.bool false)))]) .ret) .skip)) 
(.region [m 19 0, v 20 (.call (.f 55) [(.t 19)] false)])))))) 
(.seq 
(.region [m 21 0, v 22 (.nilc (.t 21)), v 23 (.faddr 5 (.t 22)), v 24 (.load none (.t 23)), v 25 (.iaddr 10 (.t 24) (.c (.int .i64 0))), v 26 (.load (some 10) (.t 25)), v 4 (.alloc [(.int .i64 0), (.str []), (.lst 0 0 []), (.bool false), (.str []), (.str []), (.str []), (.bool false), (.bool false), (.bool false)] none), u (.store 10 (.t 4) (.t 26))]) 
(.seq 
(.region [m 27 0, m 28 0, v 29 (.nilc (.t 28)), v 30 (.faddr 5 (.t 29)), v 31 (.load none (.t 30)), v 32 (.slice 10 (.t 31) (some (.c (.int .i64 1))) none none), v 33 (.nilc (.t 27)), v 34 (.faddr 5 (.t 33)), u (.store 1 (.t 34) (.t 32))]) 
(.seq 
(.region [v 35 (.load (some 10) (.t 4)), u (.store 10 (.t 2) (.t 35)), v 3 (.mv (.c (.bool true)))]) .ret)))))),
 [.cell 2 (some 10), .tmp 3]⟩
/-- slices.Equal[[]token.Attr,token.Attr] -/
def c_slices_Equal_token_Attr_token_Attr : DFunc := ⟨26, 
(.seq 
(.region [v 4 (.mv (.c (.bool false)))]) 
(.seq 
(.seq 
(.region [m 6 0, v 7 (.len true (.t 6)), m 8 1, v 9 (.len true (.t 8)), v 10 (.bin .neq .any (.t 7) (.t 9))]) 
(.cond (.t 10) 
(.seq 
(.region [v 4 (.mv (.c (.bool false)))]) .ret) .skip)) 
(.seq 
(.seq 
(.region [m 11 0, v 12 (.len true (.t 11)), v 13 (.mv (.c (.int .i64 0)))]) 
(.block 0 
(.loop 
(.seq 
(.region [v 14 (.bin .lss .any (.t 13) (.t 12))]) 
(.seq 
(.cond (.t 14) .skip (.exit 0)) 
(.seq 
(.block 1 
(.seq 
(.region [m 15 13, m 5 15]) 
(.seq 
(.region [m 16 0, m 17 5, v 18 (.iaddr 2 (.t 16) (.t 17)), v 19 (.load (some 2) (.t 18)), m 20 1, m 21 5, v 22 (.iaddr 2 (.t 20) (.t 21)), v 23 (.load (some 2) (.t 22)), v 24 (.bin .neq (.st [.str, .str]) (.t 19) (.t 23))]) 
(.cond (.t 24) 
(.seq 
(.region [v 4 (.mv (.c (.bool false)))]) .ret) .skip)))) 
(.region [v 25 (.bin .add .any (.t 13) (.c (.int .i64 1))), m 13 25]))))))) 
(.seq 
(.region [v 4 (.mv (.c (.bool true)))]) .ret)))),
 [.tmp 4]⟩
/-- slices.Contains[[]string,string] -/
def c_slices_Contains_string_string : DFunc := ⟨9, 
(.seq 
(.region [v 4 (.mv (.c (.bool false)))]) 
(.seq 
(.region [m 5 0, m 6 1, v 7 (.call (.f 56) [(.t 5), (.t 6)] false), v 8 (.bin .geq .any (.t 7) (.c (.int .i64 0))), m 4 8]) .ret)),
 [.tmp 4]⟩
/-- woodcutlaw09.gap -/
def c_woodcutlaw09_gap : DFunc := ⟨8, 
(.seq 
(.region [v 2 (.mv (.c (.str [])))]) 
(.seq 
(.region [v 3 (.mks false none (.str []) 4 [(0, (.c (.str [32]))), (1, (.c (.str [10]))), (2, (.c (.str [9, 32]))), (3, (.c (.str [32, 12])))]), m 4 0, v 5 (.bin .and .any (.t 4) (.c (.int .i64 3))), v 6 (.iaddr 1 (.t 3) (.t 5)), v 7 (.load none (.t 6)), m 2 7]) .ret)),
 [.tmp 2]⟩
/-- woodcutlaw09.escape -/
def c_woodcutlaw09_escape : DFunc := ⟨38, 
(.seq 
(.region [v 2 (.mv (.c (.str [])))]) 
(.seq 
(.region [v 3 (.mv (.c (.str [])))]) 
(.seq 
(.seq 
(.region [v 4 (.mv (.c (.int .i64 0)))]) 
(.block 0 
(.loop 
(.seq 
(.seq 
(.region [m 5 4, m 6 0, v 7 (.len false (.t 6)), v 8 (.bin .lss .any (.t 5) (.t 7))]) 
(.cond (.t 8) .skip (.exit 0))) 
(.seq 
(.block 1 
(.seq 
(.region [m 11 0, m 12 4, v 13 (.idxStr (.t 11) (.t 12))]) 
(.block 2 
(.seq 
(.region [v 22 (.bin .eql .any (.t 13) (.c (.int .u8 38))), m 21 22]) 
(.cond (.t 21) 
(.region [m 23 3, v 24 (.bin .add .any (.t 23) (.c (.str [38, 97, 109, 112, 59]))), m 3 24]) 
(.seq 
(.region [v 26 (.bin .eql .any (.t 13) (.c (.int .u8 60))), m 25 26]) 
(.cond (.t 25) 
(.region [m 27 3, v 28 (.bin .add .any (.t 27) (.c (.str [38, 108, 116, 59]))), m 3 28]) 
(.seq 
(.region [v 30 (.bin .eql .any (.t 13) (.c (.int .u8 34))), m 29 30]) 
(.cond (.t 29) 
(.region [m 31 3, v 32 (.bin .add .any (.t 31) (.c (.str [38, 113, 117, 111, 116, 59]))), m 3 32]) 
(.seq 
(.region [v 34 (.bin .eql .any (.t 13) (.c (.int .u8 39))), m 33 34]) 
(.cond (.t 33) 
(.region [m 35 3, v 36 (.bin .add .any (.t 35) (.c (.str [38, 35, 51, 57, 59]))), m 3 36]) 
(.region [m 14 3, m 15 0, m 16 4, m 17 4, v 18 (.bin .add .any (.t 17) (.c (.int .i64 1))), v 19 (.sliceStr (.t 15) (some (.t 16)) (some (.t 18))), v 20 (.bin .add .any (.t 14) (.t 19)), m 3 20])))))))))))) 
(.region [m 9 4, v 10 (.bin .add .any (.t 9) (.c (.int .i64 1))), m 4 10])))))) 
(.seq 
(.region [m 37 3, m 2 37]) .ret)))),
 [.tmp 2]⟩
/-- token.Without -/
def c_token_Without : DFunc := ⟨9, 
(.seq 
(.region [v 3 (.box (.t 1) 1), v 4 (.mv (.c (.lst 0 0 [])))]) 
(.seq 
(.region [m 5 0, v 6 (.call (.f 58) [(.t 5)] false), v 7 (.mkfn (.func 59) [] [(.t 3)]), v 8 (.call (.f 57) [(.t 6), (.t 7)] false), m 4 8]) .ret)),
 [.tmp 4]⟩
/-- dom.New -/
def c_dom_New : DFunc := ⟨5, 
(.seq 
(.region [v 0 (.mv (.c .nilp))]) 
(.seq 
(.region [v 1 (.build [(.int .i64 0), (.int .i64 0), (.str []), (.str []), (.lst 0 0 []), (.str []), (.str []), (.int .i64 0), (.lst 0 0 []), (.int .i64 0)] [(0, 1, (.c (.int .i64 1))), (7, 1, (.c (.int .i64 (-1)))), (9, 1, (.c (.int .i64 (-1))))]), v 2 (.mks true (some 10) (.agg [(.int .i64 0), (.int .i64 0), (.str []), (.str []), (.lst 0 0 []), (.str []), (.str []), (.int .i64 0), (.lst 0 0 []), (.int .i64 0)]) 1 [(0, (.t 1))]), v 3 (.build [(.lst 0 0 []), (.bool false)] [(0, 1, (.t 2))]), v 4 (.box (.t 3) 2), m 0 4]) .ret)),
 [.tmp 0]⟩
/-- (*dom.Doc).Add -/
def c_dom_Doc_Add : DFunc := ⟨87, 
(.seq 
(.region [v 3 (.box (.t 1) 10), v 4 (.mv (.c (.int .i64 0)))]) 
(.seq 
(.seq 
(.region [m 6 0, v 7 (.bin .eql .ptr (.t 6) (.c .nilp)), m 8 7, w 9 (.mv (.t 0)) 8 false, w 10 (.nilc (.t 9)) 8 false, w 11 (.faddr 0 (.t 10)) 8 false, w 12 (.load none (.t 11)) 8 false, w 13 (.len true (.t 12)) 8 false, w 14 (.bin .geq .any (.t 13) (.c (.int .i64 20000))) 8 false, v 15 (.pick (.t 8) (.c (.bool true)) (.t 14))]) 
(.cond (.t 15) 
(.seq 
(.region [v 4 (.mv (.c (.int .i64 (-1))))]) .ret) .skip)) 
(.seq 
(.region [v 16 (.faddr 4 (.t 3)), v 17 (.load none (.t 16)), v 18 (.call (.f 58) [(.t 17)] true), v 19 (.faddr 4 (.t 3)), u (.store 1 (.t 19) (.t 18)), v 20 (.faddr 8 (.t 3)), u (.store 1 (.t 20) (.c (.lst 0 0 []))), v 21 (.faddr 7 (.t 3)), u (.store 1 (.t 21) (.c (.int .i64 (-1)))), v 22 (.faddr 9 (.t 3)), u (.store 1 (.t 22) (.c (.int .i64 (-1))))]) 
(.seq 
(.region [m 23 0, m 24 0, v 25 (.nilc (.t 24)), v 26 (.faddr 0 (.t 25)), v 27 (.load none (.t 26)), v 28 (.load (some 10) (.t 3)), v 29 (.mks true (some 10) (.agg [(.int .i64 0), (.int .i64 0), (.str []), (.str []), (.lst 0 0 []), (.str []), (.str []), (.int .i64 0), (.lst 0 0 []), (.int .i64 0)]) 1 [(0, (.t 28))]), v 30 (.append true (some 10) 144 (.t 27) (.t 29)), v 31 (.nilc (.t 23)), v 32 (.faddr 0 (.t 31)), u (.store 1 (.t 32) (.t 30))]) 
(.seq 
(.region [m 33 0, v 34 (.nilc (.t 33)), v 35 (.faddr 0 (.t 34)), v 36 (.load none (.t 35)), v 37 (.len true (.t 36)), v 38 (.bin .sub .any (.t 37) (.c (.int .i64 1))), m 5 38]) 
(.seq 
(.seq 
(.region [v 39 (.faddr 0 (.t 3)), v 40 (.load none (.t 39)), v 41 (.bin .eql .any (.t 40) (.c (.int .i64 2))), m 42 41, w 43 (.faddr 1 (.t 3)) 42 true, w 44 (.load none (.t 43)) 42 true, w 45 (.bin .eql .any (.t 44) (.c (.int .i64 0))) 42 true, v 46 (.pick (.t 42) (.t 45) (.c (.bool false))), m 47 46, w 48 (.faddr 2 (.t 3)) 47 true, w 49 (.load none (.t 48)) 47 true, w 50 (.bin .eql .any (.t 49) (.c (.str [116, 101, 109, 112, 108, 97, 116, 101]))) 47 true, v 51 (.pick (.t 47) (.t 50) (.c (.bool false)))]) 
(.cond (.t 51) 
(.seq 
(.seq 
(.region [m 52 0, v 53 (.nilc (.t 52)), v 54 (.faddr 0 (.t 53)), v 55 (.load none (.t 54)), v 56 (.len true (.t 55)), v 57 (.bin .geq .any (.t 56) (.c (.int .i64 20000)))]) 
(.cond (.t 57) 
(.seq 
(.region [m 58 0, m 59 0, v 60 (.nilc (.t 59)), v 61 (.faddr 0 (.t 60)), v 62 (.load none (.t 61)), m 63 5, v 64 (.slice 10 (.t 62) none (some (.t 63)) none), v 65 (.nilc (.t 58)), v 66 (.faddr 0 (.t 65)), u (.store 1 (.t 66) (.t 64))]) 
(.seq 
(.region [v 4 (.mv (.c (.int .i64 (-1))))]) .ret)) .skip)) 
(.seq 
(.region [m 67 0, m 68 0, v 69 (.nilc (.t 68)), v 70 (.faddr 0 (.t 69)), v 71 (.load none (.t 70)), v 72 (.build [(.int .i64 0), (.int .i64 0), (.str []), (.str []), (.lst 0 0 []), (.str []), (.str []), (.int .i64 0), (.lst 0 0 []), (.int .i64 0)] [(0, 1, (.c (.int .i64 1))), (7, 1, (.c (.int .i64 (-1)))), (9, 1, (.c (.int .i64 (-1))))]), v 73 (.mks true (some 10) (.agg [(.int .i64 0), (.int .i64 0), (.str []), (.str []), (.lst 0 0 []), (.str []), (.str []), (.int .i64 0), (.lst 0 0 []), (.int .i64 0)]) 1 [(0, (.t 72))]), v 74 (.append true (some 10) 144 (.t 71) (.t 73)), v 75 (.nilc (.t 67)), v 76 (.faddr 0 (.t 75)), u (.store 1 (.t 76) (.t 74))]) 
(.region [m 77 0, v 78 (.nilc (.t 77)), v 79 (.faddr 0 (.t 78)), v 80 (.load none (.t 79)), m 81 5, m 82 5, v 83 (.bin .add .any (.t 82) (.c (.int .i64 1))), v 84 (.iaddr 10 (.t 80) (.t 81)), v 85 (.faddr 9 (.t 84)), u (.store 1 (.t 85) (.t 83))]))) .skip)) 
(.seq 
(.region [m 86 5, m 4 86]) .ret))))))),
 [.tmp 4]⟩
theorem ok_text_Encode : compF Tryd.prog cfg2 17 = some c_text_Encode := by kernel_rfl
theorem ok_text_Letter : compF Tryd.prog cfg2 18 = some c_text_Letter := by kernel_rfl
theorem ok_text_Digit : compF Tryd.prog cfg2 19 = some c_text_Digit := by kernel_rfl
theorem ok_chars_Numeric : compF Tryd.prog cfg2 20 = some c_chars_Numeric := by kernel_rfl
theorem ok_woodcutlaw09_clean : compF Tryd.prog cfg2 21 = some c_woodcutlaw09_clean := by kernel_rfl
theorem ok_lex_New : compF Tryd.prog cfg2 22 = some c_lex_New := by kernel_rfl
theorem ok_lex_Lexer_Way : compF Tryd.prog cfg2 23 = some c_lex_Lexer_Way := by kernel_rfl
theorem ok_lex_Lexer_Tokens : compF Tryd.prog cfg2 24 = some c_lex_Lexer_Tokens := by kernel_rfl
theorem ok_lex_Lexer_Sections : compF Tryd.prog cfg2 25 = some c_lex_Lexer_Sections := by kernel_rfl
theorem ok_token_Join : compF Tryd.prog cfg2 26 = some c_token_Join := by kernel_rfl
theorem ok_woodcutlaw09_same : compF Tryd.prog cfg2 27 = some c_woodcutlaw09_same := by kernel_rfl
theorem ok_woodcutlaw09_LexDoctypes_1 : compF Tryd.prog cfg2 28 = some c_woodcutlaw09_LexDoctypes_1 := by kernel_rfl
theorem ok_token_Token_Same : compF Tryd.prog cfg2 29 = some c_token_Token_Same := by kernel_rfl
theorem ok_token_Token_Is : compF Tryd.prog cfg2 30 = some c_token_Token_Is := by kernel_rfl
theorem ok_woodcutlaw09_write : compF Tryd.prog cfg2 31 = some c_woodcutlaw09_write := by kernel_rfl
theorem ok_woodcutlaw09_LexJoins_1 : compF Tryd.prog cfg2 32 = some c_woodcutlaw09_LexJoins_1 := by kernel_rfl
theorem ok_woodcutlaw10_head : compF Tryd.prog cfg2 33 = some c_woodcutlaw10_head := by kernel_rfl
theorem ok_ser_Value : compF Tryd.prog cfg2 34 = some c_ser_Value := by kernel_rfl
theorem ok_ser_Text : compF Tryd.prog cfg2 35 = some c_ser_Text := by kernel_rfl
theorem ok_slices_Collect_token_Token : compF Tryd.prog cfg2 36 = some c_slices_Collect_token_Token := by kernel_rfl
theorem ok_chars_table : compF Tryd.prog cfg2 37 = some c_chars_table := by kernel_rfl
theorem ok_text_Put : compF Tryd.prog cfg2 38 = some c_text_Put := by kernel_rfl
theorem ok_text_Decode : compF Tryd.prog cfg2 39 = some c_text_Decode := by kernel_rfl
theorem ok_lex_Lexer_Tokens_1 : compF Tryd.prog cfg2 40 = some c_lex_Lexer_Tokens_1 := by kernel_rfl
theorem ok_lex_Lexer_Next : compF Tryd.prog cfg2 41 = some c_lex_Lexer_Next := by kernel_rfl
theorem ok_slices_Equal_token_Attr_token_Attr : compF Tryd.prog cfg2 42 = some c_slices_Equal_token_Attr_token_Attr := by kernel_rfl
theorem ok_slices_Contains_string_string : compF Tryd.prog cfg2 43 = some c_slices_Contains_string_string := by kernel_rfl
theorem ok_woodcutlaw09_gap : compF Tryd.prog cfg2 44 = some c_woodcutlaw09_gap := by kernel_rfl
theorem ok_woodcutlaw09_escape : compF Tryd.prog cfg2 45 = some c_woodcutlaw09_escape := by kernel_rfl
theorem ok_token_Without : compF Tryd.prog cfg2 46 = some c_token_Without := by kernel_rfl
theorem ok_dom_New : compF Tryd.prog cfg2 47 = some c_dom_New := by kernel_rfl
theorem ok_dom_Doc_Add : compF Tryd.prog cfg2 48 = some c_dom_Doc_Add := by kernel_rfl
end Go.Proofs.YticnenofiibpgaaDoor.Code
/- Functions of the program as code of the D-machine (3): PRINTED BY PROGRAM; each is checked to be what the program's own compiles to. -/
namespace Go.Proofs.YticnenofiibpgaaDoor.Code
set_option linter.unusedSimpArgs false
set_option linter.unusedVariables false
open Go.Dm Go.Dm.C
def cfg3 : Cfg := ⟨fun t => [3, 83].contains t, fun f => [26, 46, 57, 58, 59].contains f⟩
/-- (*dom.Doc).Put -/
def c_dom_Doc_Put : DFunc := ⟨116, 
(.seq 
(.region [v 8 (.mv (.c (.int .i64 0)))]) 
(.seq 
(.seq 
(.region [m 12 0, m 13 1, v 14 (.call (.f 60) [(.t 12), (.t 13)] false), v 15 (.un .not (.t 14)), m 16 15, w 17 (.mv (.t 0)) 16 false, w 18 (.mv (.t 2)) 16 false, w 19 (.call (.f 60) [(.t 17), (.t 18)] false) 16 false, w 20 (.un .not (.t 19)) 16 false, v 21 (.pick (.t 16) (.c (.bool true)) (.t 20)), m 22 21, w 23 (.mv (.t 0)) 22 false, w 24 (.nilc (.t 23)) 22 false, w 25 (.faddr 0 (.t 24)) 22 false, w 26 (.load none (.t 25)) 22 false, w 27 (.mv (.t 2)) 22 false, w 28 (.iaddr 10 (.t 26) (.t 27)) 22 false, w 29 (.faddr 0 (.t 28)) 22 false, w 30 (.load none (.t 29)) 22 false, w 31 (.bin .eql .any (.t 30) (.c (.int .i64 1))) 22 false, v 32 (.pick (.t 22) (.c (.bool true)) (.t 31)), m 33 32, w 34 (.mv (.t 3)) 33 false, w 35 (.mv (.t 2)) 33 false, w 36 (.bin .eql .any (.t 34) (.t 35)) 33 false, v 37 (.pick (.t 33) (.c (.bool true)) (.t 36))]) 
(.cond (.t 37) 
(.seq 
(.region [v 8 (.mv (.c (.int .i64 1)))]) .ret) .skip)) 
(.seq 
(.seq 
(.region [m 38 0, v 39 (.nilc (.t 38)), v 40 (.faddr 0 (.t 39)), v 41 (.load none (.t 40)), m 42 1, v 43 (.iaddr 10 (.t 41) (.t 42)), v 44 (.faddr 0 (.t 43)), v 45 (.load none (.t 44)), m 9 45]) 
(.seq 
(.region [m 46 9, v 47 (.bin .neq .any (.t 46) (.c (.int .i64 1))), m 48 47, w 49 (.mv (.t 9)) 48 true, w 50 (.bin .neq .any (.t 49) (.c (.int .i64 2))) 48 true, v 51 (.pick (.t 48) (.t 50) (.c (.bool false))), m 52 51, w 53 (.mv (.t 0)) 52 false, w 54 (.mv (.t 2)) 52 false, w 55 (.mv (.t 1)) 52 false, w 56 (.call (.f 61) [(.t 53), (.t 54), (.t 55)] false) 52 false, v 57 (.pick (.t 52) (.c (.bool true)) (.t 56))]) 
(.cond (.t 57) 
(.seq 
(.region [v 8 (.mv (.c (.int .i64 1)))]) .ret) .skip))) 
(.seq 
(.seq 
(.region [m 58 3, v 59 (.bin .neq .any (.t 58) (.c (.int .i64 (-1)))), m 60 59, w 61 (.mv (.t 0)) 60 true, w 62 (.mv (.t 3)) 60 true, w 63 (.call (.f 60) [(.t 61), (.t 62)] false) 60 true, w 64 (.un .not (.t 63)) 60 true, w 65 (.mv (.t 64)) 60 true, w 66 (.mv (.t 0)) 65 false, w 67 (.nilc (.t 66)) 65 false, w 68 (.faddr 0 (.t 67)) 65 false, w 69 (.load none (.t 68)) 65 false, w 70 (.mv (.t 3)) 65 false, w 71 (.iaddr 10 (.t 69) (.t 70)) 65 false, w 72 (.faddr 7 (.t 71)) 65 false, w 73 (.load none (.t 72)) 65 false, w 74 (.mv (.t 1)) 65 false, w 75 (.bin .neq .any (.t 73) (.t 74)) 65 false, w 76 (.pick (.t 65) (.c (.bool true)) (.t 75)) 60 true, v 77 (.pick (.t 60) (.t 76) (.c (.bool false)))]) 
(.cond (.t 77) 
(.seq 
(.region [v 8 (.mv (.c (.int .i64 4)))]) .ret) .skip)) 
(.seq 
(.region [m 78 0, m 79 2, v 80 (.call (.f 62) [(.t 78), (.t 79)] false)]) 
(.seq 
(.region [m 81 0, v 82 (.nilc (.t 81)), v 83 (.faddr 0 (.t 82)), v 84 (.load none (.t 83)), m 85 1, v 86 (.iaddr 10 (.t 84) (.t 85)), v 87 (.faddr 8 (.t 86)), m 10 87]) 
(.seq 
(.region [m 88 10, v 89 (.nilc (.t 88)), v 90 (.load none (.t 89)), v 91 (.len true (.t 90)), m 11 91]) 
(.seq 
(.seq 
(.region [m 92 3, v 93 (.bin .neq .any (.t 92) (.c (.int .i64 (-1))))]) 
(.cond (.t 93) 
(.region [m 94 10, v 95 (.nilc (.t 94)), v 96 (.load none (.t 95)), m 97 3, v 98 (.call (.f 63) [(.t 96), (.t 97)] false), m 11 98]) .skip)) 
(.seq 
(.region [m 99 10, m 100 10, v 101 (.nilc (.t 100)), v 102 (.load none (.t 101)), m 103 11, m 104 2, v 105 (.mks true none (.int .i64 0) 1 [(0, (.t 104))]), v 106 (.call (.f 64) [(.t 102), (.t 103), (.t 105)] false), v 107 (.nilc (.t 99)), u (.store 1 (.t 107) (.t 106))]) 
(.seq 
(.region [m 108 0, v 109 (.nilc (.t 108)), v 110 (.faddr 0 (.t 109)), v 111 (.load none (.t 110)), m 112 2, m 113 1, v 114 (.iaddr 10 (.t 111) (.t 112)), v 115 (.faddr 7 (.t 114)), u (.store 1 (.t 115) (.t 113))]) 
(.seq 
(.region [v 8 (.mv (.c (.int .i64 0)))]) .ret))))))))))),
 [.tmp 8]⟩
/-- (*dom.Doc).Say -/
def c_dom_Doc_Say : DFunc := ⟨81, 
(.seq 
(.region [v 8 (.mv (.c (.int .i64 0)))]) 
(.seq 
(.seq 
(.region [m 12 0, m 13 1, v 14 (.call (.f 60) [(.t 12), (.t 13)] false), v 15 (.un .not (.t 14)), m 16 15, w 17 (.mv (.t 2)) 16 false, w 18 (.bin .eql .any (.t 17) (.c (.str []))) 16 false, v 19 (.pick (.t 16) (.c (.bool true)) (.t 18))]) 
(.cond (.t 19) 
(.seq 
(.region [v 8 (.mv (.c (.int .i64 1)))]) .ret) .skip)) 
(.seq 
(.region [m 20 0, v 21 (.nilc (.t 20)), v 22 (.faddr 0 (.t 21)), v 23 (.load none (.t 22)), m 24 1, v 25 (.iaddr 10 (.t 23) (.t 24)), v 26 (.faddr 8 (.t 25)), v 27 (.load none (.t 26)), m 9 27]) 
(.seq 
(.region [m 28 9, v 29 (.len true (.t 28)), m 10 29]) 
(.seq 
(.seq 
(.region [m 30 3, v 31 (.bin .neq .any (.t 30) (.c (.int .i64 (-1))))]) 
(.cond (.t 31) 
(.seq 
(.region [m 32 9, m 33 3, v 34 (.call (.f 63) [(.t 32), (.t 33)] false), m 10 34]) 
(.seq 
(.region [m 35 10, v 36 (.bin .lss .any (.t 35) (.c (.int .i64 0)))]) 
(.cond (.t 36) 
(.seq 
(.region [v 8 (.mv (.c (.int .i64 4)))]) .ret) .skip))) .skip)) 
(.seq 
(.seq 
(.region [m 37 10, v 38 (.bin .gtr .any (.t 37) (.c (.int .i64 0))), m 39 38, w 40 (.mv (.t 0)) 39 true, w 41 (.nilc (.t 40)) 39 true, w 42 (.faddr 0 (.t 41)) 39 true, w 43 (.load none (.t 42)) 39 true, w 44 (.mv (.t 9)) 39 true, w 45 (.mv (.t 10)) 39 true, w 46 (.bin .sub .any (.t 45) (.c (.int .i64 1))) 39 true, w 47 (.iaddr 1 (.t 44) (.t 46)) 39 true, w 48 (.load none (.t 47)) 39 true, w 49 (.iaddr 10 (.t 43) (.t 48)) 39 true, w 50 (.faddr 0 (.t 49)) 39 true, w 51 (.load none (.t 50)) 39 true, w 52 (.bin .eql .any (.t 51) (.c (.int .i64 3))) 39 true, v 53 (.pick (.t 39) (.t 52) (.c (.bool false)))]) 
(.cond (.t 53) 
(.seq 
(.region [m 54 0, v 55 (.nilc (.t 54)), v 56 (.faddr 0 (.t 55)), v 57 (.load none (.t 56)), m 58 9, m 59 10, v 60 (.bin .sub .any (.t 59) (.c (.int .i64 1))), v 61 (.iaddr 1 (.t 58) (.t 60)), v 62 (.load none (.t 61)), v 63 (.iaddr 10 (.t 57) (.t 62)), v 64 (.faddr 3 (.t 63)), v 65 (.load none (.t 64)), m 66 2, v 67 (.bin .add .any (.t 65) (.t 66)), v 68 (.iaddr 10 (.t 57) (.t 62)), v 69 (.faddr 3 (.t 68)), u (.store 1 (.t 69) (.t 67))]) 
(.seq 
(.region [v 8 (.mv (.c (.int .i64 0)))]) .ret)) .skip)) 
(.seq 
(.region [m 70 0, m 71 2, v 72 (.build [(.int .i64 0), (.int .i64 0), (.str []), (.str []), (.lst 0 0 []), (.str []), (.str []), (.int .i64 0), (.lst 0 0 []), (.int .i64 0)] [(0, 1, (.c (.int .i64 3))), (3, 1, (.t 71))]), v 73 (.call (.f 48) [(.t 70), (.t 72)] false), m 11 73]) 
(.seq 
(.seq 
(.region [m 74 11, v 75 (.bin .eql .any (.t 74) (.c (.int .i64 (-1))))]) 
(.cond (.t 75) 
(.seq 
(.region [v 8 (.mv (.c (.int .i64 26)))]) .ret) .skip)) 
(.seq 
(.region [m 76 0, m 77 1, m 78 11, m 79 3, v 80 (.call (.f 49) [(.t 76), (.t 77), (.t 78), (.t 79)] false), m 8 80]) .ret))))))))),
 [.tmp 8]⟩
/-- ser.Page -/
def c_ser_Page : DFunc := ⟨5, 
(.seq 
(.region [v 2 (.mv (.c (.lst 0 0 [])))]) 
(.seq 
(.region [m 3 0, v 4 (.call (.f 65) [(.t 3), (.c (.int .i64 0))] false), m 2 4]) .ret)),
 [.tmp 2]⟩
/-- ser.escape -/
def c_ser_escape : DFunc := ⟨67, 
(.seq 
(.region [v 6 (.mv (.c (.lst 0 0 [])))]) 
(.seq 
(.seq 
(.region [v 7 (.mv (.c (.int .i64 0)))]) 
(.block 0 
(.loop 
(.seq 
(.seq 
(.region [m 9 7, m 10 1, v 11 (.len false (.t 10)), v 12 (.bin .lss .any (.t 9) (.t 11))]) 
(.cond (.t 12) .skip (.exit 0))) 
(.seq 
(.block 1 
(.seq 
(.region [m 15 1, m 16 7, v 17 (.idxStr (.t 15) (.t 16)), m 8 17]) 
(.block 2 
(.seq 
(.region [m 23 8, v 24 (.bin .eql .any (.t 23) (.c (.int .u8 38))), m 22 24]) 
(.cond (.t 22) 
(.region [m 25 0, v 26 (.append false none 1 (.t 25) (.c (.str [38, 97, 109, 112, 59]))), m 0 26]) 
(.seq 
(.region [m 28 8, v 29 (.bin .eql .any (.t 28) (.c (.int .u8 60))), m 27 29]) 
(.cond (.t 27) 
(.region [m 30 0, v 31 (.append false none 1 (.t 30) (.c (.str [38, 108, 116, 59]))), m 0 31]) 
(.seq 
(.region [m 33 8, v 34 (.bin .eql .any (.t 33) (.c (.int .u8 62))), m 32 34]) 
(.cond (.t 32) 
(.region [m 35 0, v 36 (.append false none 1 (.t 35) (.c (.str [38, 103, 116, 59]))), m 0 36]) 
(.seq 
(.region [m 38 8, v 39 (.bin .eql .any (.t 38) (.c (.int .u8 34))), m 40 39, w 41 (.mv (.t 2)) 40 true, v 42 (.pick (.t 40) (.t 41) (.c (.bool false))), m 37 42]) 
(.cond (.t 37) 
(.region [m 43 0, v 44 (.append false none 1 (.t 43) (.c (.str [38, 113, 117, 111, 116, 59]))), m 0 44]) 
(.seq 
(.region [m 46 8, v 47 (.bin .eql .any (.t 46) (.c (.int .u8 194))), m 48 47, w 49 (.mv (.t 7)) 48 true, w 50 (.bin .add .any (.t 49) (.c (.int .i64 1))) 48 true, w 51 (.mv (.t 1)) 48 true, w 52 (.len false (.t 51)) 48 true, w 53 (.bin .lss .any (.t 50) (.t 52)) 48 true, v 54 (.pick (.t 48) (.t 53) (.c (.bool false))), m 55 54, w 56 (.mv (.t 1)) 55 true, w 57 (.mv (.t 7)) 55 true, w 58 (.bin .add .any (.t 57) (.c (.int .i64 1))) 55 true, w 59 (.idxStr (.t 56) (.t 58)) 55 true, w 60 (.bin .eql .any (.t 59) (.c (.int .u8 160))) 55 true, v 61 (.pick (.t 55) (.t 60) (.c (.bool false))), m 45 61]) 
(.cond (.t 45) 
(.seq 
(.region [m 62 0, v 63 (.append false none 1 (.t 62) (.c (.str [38, 110, 98, 115, 112, 59]))), m 0 63]) 
(.region [m 64 7, v 65 (.bin .add .any (.t 64) (.c (.int .i64 1))), m 7 65])) 
(.region [m 18 0, m 19 8, v 20 (.mks false none (.int .u8 0) 1 [(0, (.t 19))]), v 21 (.append false none 1 (.t 18) (.t 20)), m 0 21])))))))))))))) 
(.region [m 13 7, v 14 (.bin .add .any (.t 13) (.c (.int .i64 1))), m 7 14])))))) 
(.seq 
(.region [m 66 0, m 6 66]) .ret))),
 [.tmp 6]⟩
/-- slices.AppendSeq[[]token.Token,token.Token] -/
def c_slices_AppendSeq_token_Token_token_Token : DFunc := ⟨13, 
(.seq 
(.region [v 2 (.box (.t 0) 1), v 4 (.mv (.c (.lst 0 0 [])))]) 
(.seq 
(.seq 
(.region [m 6 1]) 
(.block 0 
(.range (.t 6) [7] 
(.region [v 5 (.alloc [(.int .i64 0), (.str []), (.lst 0 0 []), (.bool false), (.str []), (.str []), (.str []), (.bool false), (.bool false), (.bool false)] none), u (.store 10 (.t 5) (.t 7))]) 
(.block 1 
(.region [v 8 (.load none (.t 2)), v 9 (.load (some 10) (.t 5)), v 10 (.mks false (some 10) (.agg [(.int .i64 0), (.str []), (.lst 0 0 []), (.bool false), (.str []), (.str []), (.str []), (.bool false), (.bool false), (.bool false)]) 1 [(0, (.t 9))]), v 11 (.append false (some 10) 112 (.t 8) (.t 10)), u (.store 1 (.t 2) (.t 11))]))))) 
(.seq 
(.region [v 12 (.load none (.t 2)), m 4 12]) .ret))),
 [.tmp 4]⟩
/-- text.Signs -/
def c_text_Signs : DFunc := ⟨4, 
(.seq 
(.region [v 1 (.box (.t 0) 1), v 2 (.mv (.c .nilfn))]) 
(.seq 
(.region [v 3 (.mkfn (.func 66) [] [(.t 1)]), m 2 3]) .ret)),
 [.tmp 2]⟩
/-- (*lex.Lexer).step -/
def c_lex_Lexer_step : DFunc := ⟨151, 
(.seq 
(.region [m 3 0, v 4 (.call (.f 68) [(.t 3)] false), m 2 4]) 
(.seq 
(.block 0 
(.seq 
(.region [m 31 2, v 32 (.bin .eql .any (.t 31) (.c (.int .i32 (-1)))), m 30 32]) 
(.cond (.t 30) 
(.seq 
(.region [m 33 0, v 34 (.call (.f 69) [(.t 33)] false)]) 
(.region [m 35 0, v 36 (.nilc (.t 35)), v 37 (.faddr 7 (.t 36)), u (.store 1 (.t 37) (.c (.bool true)))])) 
(.seq 
(.region [m 39 2, v 40 (.bin .eql .any (.t 39) (.c (.int .i32 38))), m 41 40, w 42 (.mv (.t 0)) 41 true, w 43 (.nilc (.t 42)) 41 true, w 44 (.faddr 2 (.t 43)) 41 true, w 45 (.load none (.t 44)) 41 true, w 46 (.bin .eql .any (.t 45) (.c (.int .i64 0))) 41 true, w 47 (.mv (.t 46)) 41 true, w 48 (.mv (.t 0)) 47 false, w 49 (.nilc (.t 48)) 47 false, w 50 (.faddr 2 (.t 49)) 47 false, w 51 (.load none (.t 50)) 47 false, w 52 (.bin .eql .any (.t 51) (.c (.int .i64 1))) 47 false, w 53 (.pick (.t 47) (.c (.bool true)) (.t 52)) 41 true, v 54 (.pick (.t 41) (.t 53) (.c (.bool false))), m 38 54]) 
(.cond (.t 38) 
(.region [m 55 0, v 56 (.call (.f 70) [(.t 55), (.c (.bool false))] false)]) 
(.seq 
(.region [m 58 2, v 59 (.bin .eql .any (.t 58) (.c (.int .i32 60))), m 60 59, w 61 (.mv (.t 0)) 60 true, w 62 (.nilc (.t 61)) 60 true, w 63 (.faddr 2 (.t 62)) 60 true, w 64 (.load none (.t 63)) 60 true, w 65 (.bin .eql .any (.t 64) (.c (.int .i64 0))) 60 true, v 66 (.pick (.t 60) (.t 65) (.c (.bool false))), m 57 66]) 
(.cond (.t 57) 
(.seq 
(.region [m 67 0, v 68 (.call (.f 69) [(.t 67)] false)]) 
(.region [m 69 0, v 70 (.call (.f 71) [(.t 69)] false)])) 
(.seq 
(.region [m 72 2, v 73 (.bin .eql .any (.t 72) (.c (.int .i32 60))), m 74 73, w 75 (.mv (.t 0)) 74 true, w 76 (.nilc (.t 75)) 74 true, w 77 (.faddr 2 (.t 76)) 74 true, w 78 (.load none (.t 77)) 74 true, w 79 (.bin .eql .any (.t 78) (.c (.int .i64 1))) 74 true, w 80 (.mv (.t 79)) 74 true, w 81 (.mv (.t 0)) 80 false, w 82 (.nilc (.t 81)) 80 false, w 83 (.faddr 2 (.t 82)) 80 false, w 84 (.load none (.t 83)) 80 false, w 85 (.bin .eql .any (.t 84) (.c (.int .i64 2))) 80 false, w 86 (.pick (.t 80) (.c (.bool true)) (.t 85)) 74 true, v 87 (.pick (.t 74) (.t 86) (.c (.bool false))), m 71 87]) 
(.cond (.t 71) 
(.seq 
(.region [m 88 0, v 89 (.call (.f 69) [(.t 88)] false)]) 
(.region [m 90 0, v 91 (.call (.f 72) [(.t 90)] false)])) 
(.seq 
(.region [m 93 2, v 94 (.bin .eql .any (.t 93) (.c (.int .i32 60))), m 95 94, w 96 (.mv (.t 0)) 95 true, w 97 (.nilc (.t 96)) 95 true, w 98 (.faddr 2 (.t 97)) 95 true, w 99 (.load none (.t 98)) 95 true, w 100 (.bin .eql .any (.t 99) (.c (.int .i64 3))) 95 true, v 101 (.pick (.t 95) (.t 100) (.c (.bool false))), m 92 101]) 
(.cond (.t 92) 
(.seq 
(.region [m 102 0, v 103 (.call (.f 69) [(.t 102)] false)]) 
(.region [m 104 0, v 105 (.call (.f 73) [(.t 104)] false)])) 
(.seq 
(.region [m 107 2, v 108 (.bin .eql .any (.t 107) (.c (.int .i32 0))), m 109 108, w 110 (.mv (.t 0)) 109 true, w 111 (.nilc (.t 110)) 109 true, w 112 (.faddr 2 (.t 111)) 109 true, w 113 (.load none (.t 112)) 109 true, w 114 (.bin .eql .any (.t 113) (.c (.int .i64 0))) 109 true, v 115 (.pick (.t 109) (.t 114) (.c (.bool false))), m 106 115]) 
(.cond (.t 106) 
(.region [m 116 0, v 117 (.mks false none (.int .i32 0) 1 [(0, (.c (.int .i32 0)))]), v 118 (.call (.f 74) [(.t 116), (.t 117)] false)]) 
(.seq 
(.region [m 120 2, v 121 (.bin .eql .any (.t 120) (.c (.int .i32 0))), m 119 121]) 
(.cond (.t 119) 
(.region [m 122 0, v 123 (.mks false none (.int .i32 0) 1 [(0, (.c (.int .i32 65533)))]), v 124 (.call (.f 74) [(.t 122), (.t 123)] false)]) 
(.seq 
(.region [m 5 0, m 6 2, v 7 (.mks false none (.int .i32 0) 1 [(0, (.t 6))]), v 8 (.call (.f 74) [(.t 5), (.t 7)] false)]) 
(.block 1 
(.loop 
(.block 2 
(.seq 
(.seq 
(.region [m 9 0, v 10 (.call (.f 75) [(.t 9), (.c (.int .i64 0))] false), m 2 10]) 
(.seq 
(.region [m 11 2, v 12 (.bin .eql .any (.t 11) (.c (.int .i32 (-1)))), m 13 12, w 14 (.mv (.t 2)) 13 false, w 15 (.bin .eql .any (.t 14) (.c (.int .i32 38))) 13 false, v 16 (.pick (.t 13) (.c (.bool true)) (.t 15)), m 17 16, w 18 (.mv (.t 2)) 17 false, w 19 (.bin .eql .any (.t 18) (.c (.int .i32 60))) 17 false, v 20 (.pick (.t 17) (.c (.bool true)) (.t 19)), m 21 20, w 22 (.mv (.t 2)) 21 false, w 23 (.bin .eql .any (.t 22) (.c (.int .i32 0))) 21 false, v 24 (.pick (.t 21) (.c (.bool true)) (.t 23))]) 
(.cond (.t 24) (.exit 1) .skip))) 
(.region [m 25 0, m 26 0, v 27 (.call (.f 68) [(.t 26)] false), v 28 (.mks false none (.int .i32 0) 1 [(0, (.t 27))]), v 29 (.call (.f 74) [(.t 25), (.t 28)] false)]))))))))))))))))))))) 
(.seq 
(.region [m 125 0, v 126 (.nilc (.t 125)), v 127 (.faddr 5 (.t 126)), v 128 (.load none (.t 127)), v 129 (.len true (.t 128)), v 130 (.bin .eql .any (.t 129) (.c (.int .i64 0))), m 131 130, w 132 (.mv (.t 0)) 131 true, w 133 (.nilc (.t 132)) 131 true, w 134 (.faddr 6 (.t 133)) 131 true, w 135 (.load none (.t 134)) 131 true, w 136 (.len true (.t 135)) 131 true, w 137 (.bin .gtr .any (.t 136) (.c (.int .i64 0))) 131 true, v 138 (.pick (.t 131) (.t 137) (.c (.bool false))), m 139 138, w 140 (.mv (.t 0)) 139 true, w 141 (.call (.f 75) [(.t 140), (.c (.int .i64 0))] false) 139 true, w 142 (.bin .eql .any (.t 141) (.c (.int .i32 60))) 139 true, w 143 (.mv (.t 142)) 139 true, w 144 (.mv (.t 0)) 143 false, w 145 (.call (.f 75) [(.t 144), (.c (.int .i64 0))] false) 143 false, w 146 (.bin .eql .any (.t 145) (.c (.int .i32 (-1)))) 143 false, w 147 (.pick (.t 143) (.c (.bool true)) (.t 146)) 139 true, v 148 (.pick (.t 139) (.t 147) (.c (.bool false)))]) 
(.cond (.t 148) 
(.region [m 149 0, v 150 (.call (.f 69) [(.t 149)] false)]) .skip)))),
 []⟩
/-- slices.Index[[]string,string] -/
def c_slices_Index_string_string : DFunc := ⟨19, 
(.seq 
(.region [v 4 (.mv (.c (.int .i64 0)))]) 
(.seq 
(.seq 
(.region [m 6 0, v 7 (.len true (.t 6)), v 8 (.mv (.c (.int .i64 0)))]) 
(.block 0 
(.loop 
(.seq 
(.region [v 9 (.bin .lss .any (.t 8) (.t 7))]) 
(.seq 
(.cond (.t 9) .skip (.exit 0)) 
(.seq 
(.block 1 
(.seq 
(.region [m 10 8, m 5 10]) 
(.seq 
(.region [m 11 1, m 12 0, m 13 5, v 14 (.iaddr 1 (.t 12) (.t 13)), v 15 (.load none (.t 14)), v 16 (.bin .eql .any (.t 11) (.t 15))]) 
(.cond (.t 16) 
(.seq 
(.region [m 17 5, m 4 17]) .ret) .skip)))) 
(.region [v 18 (.bin .add .any (.t 8) (.c (.int .i64 1))), m 8 18]))))))) 
(.seq 
(.region [v 4 (.mv (.c (.int .i64 (-1))))]) .ret))),
 [.tmp 4]⟩
/-- slices.DeleteFunc[[]token.Attr,token.Attr] -/
def c_slices_DeleteFunc_token_Attr_token_Attr : DFunc := ⟨42, 
(.seq 
(.region [v 4 (.mv (.c (.lst 0 0 [])))]) 
(.seq 
(.region [m 8 0, m 9 1, v 10 (.call (.f 76) [(.t 8), (.t 9)] false), m 5 10]) 
(.seq 
(.seq 
(.region [m 11 5, v 12 (.bin .eql .any (.t 11) (.c (.int .i64 (-1))))]) 
(.cond (.t 12) 
(.seq 
(.region [m 13 0, m 4 13]) .ret) .skip)) 
(.seq 
(.seq 
(.region [m 14 5, v 15 (.bin .add .any (.t 14) (.c (.int .i64 1))), m 6 15]) 
(.block 0 
(.loop 
(.seq 
(.seq 
(.region [m 16 6, m 17 0, v 18 (.len true (.t 17)), v 19 (.bin .lss .any (.t 16) (.t 18))]) 
(.cond (.t 19) .skip (.exit 0))) 
(.seq 
(.block 1 
(.seq 
(.region [m 22 0, m 23 6, v 24 (.iaddr 2 (.t 22) (.t 23)), v 25 (.load (some 2) (.t 24)), v 7 (.alloc [(.str []), (.str [])] none), u (.store 2 (.t 7) (.t 25))]) 
(.seq 
(.region [m 26 1, v 27 (.load (some 2) (.t 7)), v 28 (.call (.t 26) [(.t 27)] false), v 29 (.un .not (.t 28))]) 
(.cond (.t 29) 
(.seq 
(.region [m 30 0, m 31 5, v 32 (.load (some 2) (.t 7)), v 33 (.iaddr 2 (.t 30) (.t 31)), u (.store 2 (.t 33) (.t 32))]) 
(.region [m 34 5, v 35 (.bin .add .any (.t 34) (.c (.int .i64 1))), m 5 35])) .skip)))) 
(.region [m 20 6, v 21 (.bin .add .any (.t 20) (.c (.int .i64 1))), m 6 21])))))) 
(.seq 
(.region [m 36 0, m 37 5, v 38 (.slice 2 (.t 36) (some (.t 37)) none none), u (.clear [(.str []), (.str [])] (.t 38))]) 
(.seq 
(.region [m 39 0, m 40 5, v 41 (.slice 2 (.t 39) none (some (.t 40)) none), m 4 41]) .ret)))))),
 [.tmp 4]⟩
/-- slices.Clone[[]token.Attr,token.Attr] -/
def c_slices_Clone_token_Attr_token_Attr : DFunc := ⟨8, 
(.seq 
(.region [v 2 (.mv (.c (.lst 0 0 [])))]) 
(.seq 
(.seq 
(.region [m 3 0, v 4 (.bin .eql .sl (.t 3) (.c (.lst 0 0 [])))]) 
(.cond (.t 4) 
(.seq 
(.region [v 2 (.mv (.c (.lst 0 0 [])))]) .ret) .skip)) 
(.seq 
(.region [v 5 (.mks true (some 2) (.agg [(.str []), (.str [])]) 0 []), m 6 0, v 7 (.append true (some 2) 32 (.t 5) (.t 6)), m 2 7]) .ret))),
 [.tmp 2]⟩
/-- token.Without$1 -/
def c_token_Without_1 : DFunc := ⟨8, 
(.seq 
(.region [v 2 (.box (.t 0) 2), v 3 (.mv (.c (.bool false)))]) 
(.seq 
(.region [v 4 (.faddr 0 (.t 2)), v 5 (.load none (.t 4)), v 6 (.load none (.t 1)), v 7 (.bin .eql .any (.t 5) (.t 6)), m 3 7]) .ret)),
 [.tmp 3]⟩
/-- (*dom.Doc).in -/
def c_dom_Doc_in : DFunc := ⟨20, 
(.seq 
(.region [v 4 (.mv (.c (.bool false)))]) 
(.seq 
(.region [m 5 0, v 6 (.bin .neq .ptr (.t 5) (.c .nilp)), m 7 6, w 8 (.mv (.t 1)) 7 true, w 9 (.bin .geq .any (.t 8) (.c (.int .i64 0))) 7 true, v 10 (.pick (.t 7) (.t 9) (.c (.bool false))), m 11 10, w 12 (.mv (.t 1)) 11 true, w 13 (.mv (.t 0)) 11 true, w 14 (.nilc (.t 13)) 11 true, w 15 (.faddr 0 (.t 14)) 11 true, w 16 (.load none (.t 15)) 11 true, w 17 (.len true (.t 16)) 11 true, w 18 (.bin .lss .any (.t 12) (.t 17)) 11 true, v 19 (.pick (.t 11) (.t 18) (.c (.bool false))), m 4 19]) .ret)),
 [.tmp 4]⟩
/-- (*dom.Doc).above -/
def c_dom_Doc_above : DFunc := ⟨43, 
(.seq 
(.region [v 6 (.mv (.c (.bool false)))]) 
(.seq 
(.block 0 
(.loop 
(.seq 
(.seq 
(.region [m 8 2, v 9 (.bin .neq .any (.t 8) (.c (.int .i64 (-1))))]) 
(.cond (.t 9) .skip (.exit 0))) 
(.block 1 
(.seq 
(.seq 
(.region [m 10 2, m 11 1, v 12 (.bin .eql .any (.t 10) (.t 11))]) 
(.cond (.t 12) 
(.seq 
(.region [v 6 (.mv (.c (.bool true)))]) .ret) .skip)) 
(.seq 
(.region [m 13 0, v 14 (.nilc (.t 13)), v 15 (.faddr 0 (.t 14)), v 16 (.load none (.t 15)), m 17 2, v 18 (.iaddr 10 (.t 16) (.t 17)), v 19 (.faddr 7 (.t 18)), v 20 (.load none (.t 19)), m 7 20]) 
(.seq 
(.seq 
(.region [m 21 7, v 22 (.bin .eql .any (.t 21) (.c (.int .i64 (-1)))), m 23 22, w 24 (.mv (.t 2)) 23 true, w 25 (.bin .gtr .any (.t 24) (.c (.int .i64 0))) 23 true, v 26 (.pick (.t 23) (.t 25) (.c (.bool false))), m 27 26, w 28 (.mv (.t 0)) 27 true, w 29 (.nilc (.t 28)) 27 true, w 30 (.faddr 0 (.t 29)) 27 true, w 31 (.load none (.t 30)) 27 true, w 32 (.mv (.t 2)) 27 true, w 33 (.bin .sub .any (.t 32) (.c (.int .i64 1))) 27 true, w 34 (.iaddr 10 (.t 31) (.t 33)) 27 true, w 35 (.faddr 9 (.t 34)) 27 true, w 36 (.load none (.t 35)) 27 true, w 37 (.mv (.t 2)) 27 true, w 38 (.bin .eql .any (.t 36) (.t 37)) 27 true, v 39 (.pick (.t 27) (.t 38) (.c (.bool false)))]) 
(.cond (.t 39) 
(.region [m 40 2, v 41 (.bin .sub .any (.t 40) (.c (.int .i64 1))), m 7 41]) .skip)) 
(.region [m 42 7, m 2 42])))))))) 
(.seq 
(.region [v 6 (.mv (.c (.bool false)))]) .ret))),
 [.tmp 6]⟩
/-- (*dom.Doc).Out -/
def c_dom_Doc_Out : DFunc := ⟨58, 
(.seq 
(.seq 
(.region [m 6 0, m 7 1, v 8 (.call (.f 60) [(.t 6), (.t 7)] false), v 9 (.un .not (.t 8)), m 10 9, w 11 (.mv (.t 0)) 10 false, w 12 (.nilc (.t 11)) 10 false, w 13 (.faddr 0 (.t 12)) 10 false, w 14 (.load none (.t 13)) 10 false, w 15 (.mv (.t 1)) 10 false, w 16 (.iaddr 10 (.t 14) (.t 15)) 10 false, w 17 (.faddr 7 (.t 16)) 10 false, w 18 (.load none (.t 17)) 10 false, w 19 (.bin .eql .any (.t 18) (.c (.int .i64 (-1)))) 10 false, v 20 (.pick (.t 10) (.c (.bool true)) (.t 19))]) 
(.cond (.t 20) .ret .skip)) 
(.seq 
(.region [m 21 0, v 22 (.nilc (.t 21)), v 23 (.faddr 0 (.t 22)), v 24 (.load none (.t 23)), m 25 0, v 26 (.nilc (.t 25)), v 27 (.faddr 0 (.t 26)), v 28 (.load none (.t 27)), m 29 1, v 30 (.iaddr 10 (.t 28) (.t 29)), v 31 (.faddr 7 (.t 30)), v 32 (.load none (.t 31)), v 33 (.iaddr 10 (.t 24) (.t 32)), m 4 33]) 
(.seq 
(.region [m 34 4, v 35 (.nilc (.t 34)), v 36 (.faddr 8 (.t 35)), v 37 (.load none (.t 36)), m 38 1, v 39 (.call (.f 63) [(.t 37), (.t 38)] false), m 5 39]) 
(.seq 
(.region [m 40 4, m 41 4, v 42 (.nilc (.t 41)), v 43 (.faddr 8 (.t 42)), v 44 (.load none (.t 43)), m 45 5, m 46 5, v 47 (.bin .add .any (.t 46) (.c (.int .i64 1))), v 48 (.call (.f 77) [(.t 44), (.t 45), (.t 47)] false), v 49 (.nilc (.t 40)), v 50 (.faddr 8 (.t 49)), u (.store 1 (.t 50) (.t 48))]) 
(.region [m 51 0, v 52 (.nilc (.t 51)), v 53 (.faddr 0 (.t 52)), v 54 (.load none (.t 53)), m 55 1, v 56 (.iaddr 10 (.t 54) (.t 55)), v 57 (.faddr 7 (.t 56)), u (.store 1 (.t 57) (.c (.int .i64 (-1))))]))))),
 []⟩
/-- slices.Index[[]int,int] -/
def c_slices_Index_int_int : DFunc := ⟨19, 
(.seq 
(.region [v 4 (.mv (.c (.int .i64 0)))]) 
(.seq 
(.seq 
(.region [m 6 0, v 7 (.len true (.t 6)), v 8 (.mv (.c (.int .i64 0)))]) 
(.block 0 
(.loop 
(.seq 
(.region [v 9 (.bin .lss .any (.t 8) (.t 7))]) 
(.seq 
(.cond (.t 9) .skip (.exit 0)) 
(.seq 
(.block 1 
(.seq 
(.region [m 10 8, m 5 10]) 
(.seq 
(.region [m 11 1, m 12 0, m 13 5, v 14 (.iaddr 1 (.t 12) (.t 13)), v 15 (.load none (.t 14)), v 16 (.bin .eql .any (.t 11) (.t 15))]) 
(.cond (.t 16) 
(.seq 
(.region [m 17 5, m 4 17]) .ret) .skip)))) 
(.region [v 18 (.bin .add .any (.t 8) (.c (.int .i64 1))), m 8 18]))))))) 
(.seq 
(.region [v 4 (.mv (.c (.int .i64 (-1))))]) .ret))),
 [.tmp 4]⟩
/-- ser.Inner -/
def c_ser_Inner : DFunc := ⟨114, 
(.seq 
(.region [v 2 (.box (.t 0) 1), v 4 (.mv (.c (.lst 0 0 [])))]) 
(.seq 
(.seq 
(.region [v 9 (.load none (.t 2)), m 10 1, v 11 (.call (.f 80) [(.t 9), (.t 10)] false), v 12 (.bin .eql .any (.t 11) (.c (.int .i64 0)))]) 
(.cond (.t 12) 
(.seq 
(.region [v 4 (.mv (.c (.lst 0 0 [])))]) .ret) .skip)) 
(.seq 
(.region [v 13 (.mkfn (.func 81) [] [(.t 2)]), m 5 13]) 
(.seq 
(.seq 
(.region [v 14 (.load none (.t 2)), m 15 1, v 16 (.call (.f 80) [(.t 14), (.t 15)] false), v 17 (.bin .eql .any (.t 16) (.c (.int .i64 2))), m 18 17, w 19 (.load none (.t 2)) 18 true, w 20 (.nilc (.t 19)) 18 true, w 21 (.faddr 0 (.t 20)) 18 true, w 22 (.load none (.t 21)) 18 true, w 23 (.mv (.t 1)) 18 true, w 24 (.iaddr 10 (.t 22) (.t 23)) 18 true, w 25 (.faddr 1 (.t 24)) 18 true, w 26 (.load none (.t 25)) 18 true, w 27 (.bin .eql .any (.t 26) (.c (.int .i64 0))) 18 true, v 28 (.pick (.t 18) (.t 27) (.c (.bool false))), m 29 28, w 30 (.load none (.t 2)) 29 true, w 31 (.nilc (.t 30)) 29 true, w 32 (.faddr 0 (.t 31)) 29 true, w 33 (.load none (.t 32)) 29 true, w 34 (.mv (.t 1)) 29 true, w 35 (.iaddr 10 (.t 33) (.t 34)) 29 true, w 36 (.faddr 2 (.t 35)) 29 true, w 37 (.load none (.t 36)) 29 true, w 38 (.call (.f 84) [(.t 37)] false) 29 true, v 39 (.pick (.t 29) (.t 38) (.c (.bool false)))]) 
(.cond (.t 39) 
(.seq 
(.region [v 4 (.mv (.c (.lst 0 0 [])))]) .ret) .skip)) 
(.seq 
(.region [v 6 (.mv (.c (.lst 0 0 [])))]) 
(.seq 
(.region [m 40 5, m 41 1, v 42 (.call (.t 40) [(.t 41)] false), m 7 42]) 
(.seq 
(.block 0 
(.loop 
(.seq 
(.seq 
(.region [m 43 7, v 44 (.len true (.t 43)), v 45 (.bin .gtr .any (.t 44) (.c (.int .i64 0)))]) 
(.cond (.t 45) .skip (.exit 0))) 
(.block 1 
(.seq 
(.region [m 46 7, m 47 7, v 48 (.len true (.t 47)), v 49 (.bin .sub .any (.t 48) (.c (.int .i64 1))), v 50 (.iaddr 1 (.t 46) (.t 49)), v 51 (.load none (.t 50)), m 8 51]) 
(.seq 
(.region [m 52 7, m 53 7, v 54 (.len true (.t 53)), v 55 (.bin .sub .any (.t 54) (.c (.int .i64 1))), v 56 (.slice 1 (.t 52) none (some (.t 55)) none), m 7 56]) 
(.seq 
(.seq 
(.region [m 57 8, v 58 (.bin .lss .any (.t 57) (.c (.int .i64 0)))]) 
(.cond (.t 58) 
(.seq 
(.region [m 59 6, v 61 (.load none (.t 2)), v 62 (.nilc (.t 61)), v 63 (.faddr 0 (.t 62)), v 64 (.load none (.t 63)), m 65 8, v 66 (.un .xor (.t 65)), v 67 (.iaddr 10 (.t 64) (.t 66)), v 68 (.faddr 2 (.t 67)), v 69 (.load none (.t 68)), v 71 (.mks false none (.int .u8 0) 1 [(0, (.c (.int .u8 62)))]), ⟨(some 60), .append false none 1 (.t 59) (.c (.str [60, 47])), none, [((.t 68), none, 69, none), ((.t 63), none, 64, none), ((.t 2), none, 61, none)]⟩, v 70 (.append false none 1 (.t 60) (.t 69)), v 72 (.append false none 1 (.t 70) (.t 71)), m 6 72]) (.exit 1)) .skip)) 
(.seq 
(.region [m 73 6, v 74 (.load none (.t 2)), m 75 8, v 76 (.call (.f 85) [(.t 73), (.t 74), (.t 75)] false), m 6 76]) 
(.seq 
(.region [v 77 (.load none (.t 2)), m 78 8, v 79 (.call (.f 80) [(.t 77), (.t 78)] false), v 80 (.bin .eql .any (.t 79) (.c (.int .i64 2))), m 81 80, w 82 (.load none (.t 2)) 81 true, w 83 (.nilc (.t 82)) 81 true, w 84 (.faddr 0 (.t 83)) 81 true, w 85 (.load none (.t 84)) 81 true, w 86 (.mv (.t 8)) 81 true, w 87 (.iaddr 10 (.t 85) (.t 86)) 81 true, w 88 (.faddr 1 (.t 87)) 81 true, w 89 (.load none (.t 88)) 81 true, w 90 (.bin .eql .any (.t 89) (.c (.int .i64 0))) 81 true, w 91 (.mv (.t 90)) 81 true, w 92 (.load none (.t 2)) 91 true, w 93 (.nilc (.t 92)) 91 true, w 94 (.faddr 0 (.t 93)) 91 true, w 95 (.load none (.t 94)) 91 true, w 96 (.mv (.t 8)) 91 true, w 97 (.iaddr 10 (.t 95) (.t 96)) 91 true, w 98 (.faddr 2 (.t 97)) 91 true, w 99 (.load none (.t 98)) 91 true, w 100 (.call (.f 84) [(.t 99)] false) 91 true, w 101 (.pick (.t 91) (.t 100) (.c (.bool false))) 81 true, w 102 (.un .not (.t 101)) 81 true, v 103 (.pick (.t 81) (.t 102) (.c (.bool false)))]) 
(.cond (.t 103) 
(.region [m 104 7, m 105 8, v 106 (.un .xor (.t 105)), v 107 (.mks true none (.int .i64 0) 1 [(0, (.t 106))]), v 108 (.append true none 8 (.t 104) (.t 107)), m 109 5, m 110 8, v 111 (.call (.t 109) [(.t 110)] false), v 112 (.append true none 8 (.t 108) (.t 111)), m 7 112]) .skip)))))))))) 
(.seq 
(.region [m 113 6, m 4 113]) .ret)))))))),
 [.tmp 4]⟩
/-- text.Signs$1 -/
def c_text_Signs_1 : DFunc := ⟨25, 
(.seq 
(.region [v 3 (.mv (.c (.int .i64 0)))]) 
(.block 0 
(.loop 
(.seq 
(.seq 
(.region [m 6 3, v 7 (.load none (.t 1)), v 8 (.len true (.t 7)), v 9 (.bin .lss .any (.t 6) (.t 8))]) 
(.cond (.t 9) .skip (.exit 0))) 
(.block 1 
(.seq 
(.region [v 11 (.load none (.t 1)), m 12 3, v 13 (.slice 1 (.t 11) (some (.t 12)) none none), v 14 (.call (.f 67) [(.t 13)] false), m 10 14, v 15 (.extract (.t 10) 0), v 16 (.extract (.t 10) 1), m 4 15, m 5 16]) 
(.seq 
(.seq 
(.region [m 17 0, m 18 3, m 19 4, v 20 (.call (.t 17) [(.t 18), (.t 19)] false), v 21 (.un .not (.t 20))]) 
(.cond (.t 21) .ret .skip)) 
(.region [m 22 3, m 23 5, v 24 (.bin .add .any (.t 22) (.t 23)), m 3 24])))))))),
 []⟩
/-- text.one -/
def c_text_one : DFunc := ⟨72, 
(.seq 
(.region [v 2 (.mv (.c (.int .i32 0))), v 3 (.mv (.c (.int .i64 0)))]) 
(.seq 
(.seq 
(.region [m 9 0, v 10 (.iaddr 1 (.t 9) (.c (.int .i64 0))), v 11 (.load none (.t 10)), v 12 (.bin .lss .any (.t 11) (.c (.int .u8 128)))]) 
(.cond (.t 12) 
(.seq 
(.region [m 13 0, v 14 (.iaddr 1 (.t 13) (.c (.int .i64 0))), v 15 (.load none (.t 14)), v 16 (.conv (.int .i32) false (.t 15)), m 2 16, v 3 (.mv (.c (.int .i64 1)))]) .ret) .skip)) 
(.seq 
(.region [m 18 0, v 19 (.iaddr 1 (.t 18) (.c (.int .i64 0))), v 20 (.load none (.t 19)), v 21 (.call (.f 86) [(.t 20)] false), m 17 21, v 22 (.extract (.t 17) 0), v 23 (.extract (.t 17) 1), v 24 (.extract (.t 17) 2), m 4 22, m 5 23, m 6 24]) 
(.seq 
(.seq 
(.region [m 25 4, v 26 (.bin .eql .any (.t 25) (.c (.int .i64 0)))]) 
(.cond (.t 26) 
(.seq 
(.region [v 2 (.mv (.c (.int .i32 65533))), v 3 (.mv (.c (.int .i64 1)))]) .ret) .skip)) 
(.seq 
(.region [m 27 0, v 28 (.iaddr 1 (.t 27) (.c (.int .i64 0))), v 29 (.load none (.t 28)), v 30 (.conv (.int .i32) false (.t 29)), m 31 4, v 32 (.bin .shr .any (.c (.int .i32 63)) (.t 31)), v 33 (.bin .and .any (.t 30) (.t 32)), m 7 33]) 
(.seq 
(.seq 
(.region [v 8 (.mv (.c (.int .i64 1)))]) 
(.block 0 
(.loop 
(.seq 
(.seq 
(.region [m 34 8, m 35 4, v 36 (.bin .leq .any (.t 34) (.t 35))]) 
(.cond (.t 36) .skip (.exit 0))) 
(.seq 
(.block 1 
(.seq 
(.seq 
(.region [m 39 8, m 40 0, v 41 (.len true (.t 40)), v 42 (.bin .geq .any (.t 39) (.t 41)), m 43 42, w 44 (.mv (.t 0)) 43 false, w 45 (.mv (.t 8)) 43 false, w 46 (.iaddr 1 (.t 44) (.t 45)) 43 false, w 47 (.load none (.t 46)) 43 false, w 48 (.mv (.t 5)) 43 false, w 49 (.bin .lss .any (.t 47) (.t 48)) 43 false, v 50 (.pick (.t 43) (.c (.bool true)) (.t 49)), m 51 50, w 52 (.mv (.t 0)) 51 false, w 53 (.mv (.t 8)) 51 false, w 54 (.iaddr 1 (.t 52) (.t 53)) 51 false, w 55 (.load none (.t 54)) 51 false, w 56 (.mv (.t 6)) 51 false, w 57 (.bin .gtr .any (.t 55) (.t 56)) 51 false, v 58 (.pick (.t 51) (.c (.bool true)) (.t 57))]) 
(.cond (.t 58) 
(.seq 
(.region [m 59 8, v 2 (.mv (.c (.int .i32 65533))), m 3 59]) .ret) .skip)) 
(.seq 
(.region [m 60 7, v 61 (.bin .shl .any (.t 60) (.c (.int .u64 6))), m 62 0, m 63 8, v 64 (.iaddr 1 (.t 62) (.t 63)), v 65 (.load none (.t 64)), v 66 (.bin .and .any (.t 65) (.c (.int .u8 63))), v 67 (.conv (.int .i32) false (.t 66)), v 68 (.bin .or .any (.t 61) (.t 67)), m 7 68]) 
(.region [v 5 (.mv (.c (.int .u8 128))), v 6 (.mv (.c (.int .u8 191)))])))) 
(.region [m 37 8, v 38 (.bin .add .any (.t 37) (.c (.int .i64 1))), m 8 38])))))) 
(.seq 
(.region [m 69 7, m 70 4, v 71 (.bin .add .any (.t 70) (.c (.int .i64 1))), m 2 69, m 3 71]) .ret))))))),
 [.tmp 2, .tmp 3]⟩
/-- (*lex.Lexer).next -/
def c_lex_Lexer_next : DFunc := ⟨14, 
(.seq 
(.region [v 2 (.mv (.c (.int .i32 0)))]) 
(.seq 
(.region [m 4 0, v 5 (.call (.f 75) [(.t 4), (.c (.int .i64 0))] false), m 3 5]) 
(.seq 
(.region [m 6 0, v 7 (.nilc (.t 6)), v 8 (.faddr 1 (.t 7)), v 9 (.load none (.t 8)), v 10 (.bin .add .any (.t 9) (.c (.int .i64 1))), v 11 (.nilc (.t 6)), v 12 (.faddr 1 (.t 11)), u (.store 1 (.t 12) (.t 10))]) 
(.seq 
(.region [m 13 3, m 2 13]) .ret)))),
 [.tmp 2]⟩
/-- (*lex.Lexer).flush -/
def c_lex_Lexer_flush : DFunc := ⟨27, 
(.seq 
(.region [m 2 0, v 3 (.nilc (.t 2)), v 4 (.faddr 6 (.t 3)), v 5 (.load none (.t 4)), v 6 (.len true (.t 5)), v 7 (.bin .gtr .any (.t 6) (.c (.int .i64 0)))]) 
(.cond (.t 7) 
(.seq 
(.region [m 8 0, m 9 0, v 10 (.nilc (.t 9)), v 11 (.faddr 5 (.t 10)), v 12 (.load none (.t 11)), m 13 0, v 14 (.nilc (.t 13)), v 15 (.faddr 6 (.t 14)), v 16 (.load none (.t 15)), ⟨(some 17), .call (.f 17) [(.t 16)] false, none, [((.t 11), none, 12, none)]⟩, v 18 (.conv .bytesStr false (.t 17)), v 19 (.build [(.int .i64 0), (.str []), (.lst 0 0 []), (.bool false), (.str []), (.str []), (.str []), (.bool false), (.bool false), (.bool false)] [(0, 1, (.c (.int .i64 1))), (4, 1, (.t 18))]), v 20 (.mks false (some 10) (.agg [(.int .i64 0), (.str []), (.lst 0 0 []), (.bool false), (.str []), (.str []), (.str []), (.bool false), (.bool false), (.bool false)]) 1 [(0, (.t 19))]), v 21 (.append false (some 10) 112 (.t 12) (.t 20)), v 22 (.nilc (.t 8)), v 23 (.faddr 5 (.t 22)), u (.store 1 (.t 23) (.t 21))]) 
(.region [m 24 0, v 25 (.nilc (.t 24)), v 26 (.faddr 6 (.t 25)), u (.store 1 (.t 26) (.c (.lst 0 0 [])))])) .skip)),
 []⟩
/-- (*lex.Lexer).reference -/
def c_lex_Lexer_reference : DFunc := ⟨135, 
(.seq 
(.region [m 13 0, v 14 (.nilc (.t 13)), v 15 (.faddr 0 (.t 14)), v 16 (.load none (.t 15)), m 17 0, v 18 (.nilc (.t 17)), v 19 (.faddr 1 (.t 18)), v 20 (.load none (.t 19)), m 21 0, v 22 (.nilc (.t 21)), v 23 (.faddr 0 (.t 22)), v 24 (.load none (.t 23)), v 25 (.len true (.t 24)), v 26 (.minmax false (.t 20) (.t 25)), v 27 (.slice 1 (.t 16) (some (.t 26)) none none), m 4 27]) 
(.seq 
(.seq 
(.region [m 28 4, v 29 (.len true (.t 28)), v 30 (.bin .gtr .any (.t 29) (.c (.int .i64 0))), m 31 30, w 32 (.mv (.t 4)) 31 true, w 33 (.iaddr 1 (.t 32) (.c (.int .i64 0))) 31 true, w 34 (.load none (.t 33)) 31 true, w 35 (.bin .eql .any (.t 34) (.c (.int .i32 35))) 31 true, v 36 (.pick (.t 31) (.t 35) (.c (.bool false)))]) 
(.cond (.t 36) 
(.seq 
(.region [v 5 (.mv (.c (.int .i64 1))), v 6 (.mv (.c (.int .i64 10)))]) 
(.seq 
(.seq 
(.region [m 37 4, v 38 (.len true (.t 37)), v 39 (.bin .gtr .any (.t 38) (.c (.int .i64 1))), m 40 39, w 41 (.mv (.t 4)) 40 true, w 42 (.iaddr 1 (.t 41) (.c (.int .i64 1))) 40 true, w 43 (.load none (.t 42)) 40 true, w 44 (.bin .eql .any (.t 43) (.c (.int .i32 120))) 40 true, w 45 (.mv (.t 44)) 40 true, w 46 (.mv (.t 4)) 45 false, w 47 (.iaddr 1 (.t 46) (.c (.int .i64 1))) 45 false, w 48 (.load none (.t 47)) 45 false, w 49 (.bin .eql .any (.t 48) (.c (.int .i32 88))) 45 false, w 50 (.pick (.t 45) (.c (.bool true)) (.t 49)) 40 true, v 51 (.pick (.t 40) (.t 50) (.c (.bool false)))]) 
(.cond (.t 51) 
(.region [v 5 (.mv (.c (.int .i64 2))), v 6 (.mv (.c (.int .i64 16)))]) .skip)) 
(.seq 
(.region [m 53 4, m 54 5, v 55 (.slice 1 (.t 53) (some (.t 54)) none none), m 56 6, v 57 (.call (.f 87) [(.t 55), (.t 56)] false), m 52 57, v 58 (.extract (.t 52) 0), v 59 (.extract (.t 52) 1), m 7 58, m 8 59]) 
(.seq 
(.seq 
(.region [m 60 8, v 61 (.bin .eql .any (.t 60) (.c (.int .i64 0)))]) 
(.cond (.t 61) 
(.seq 
(.region [m 62 0, v 63 (.mks false none (.int .i32 0) 1 [(0, (.c (.int .i32 38)))]), v 64 (.call (.f 74) [(.t 62), (.t 63)] false)]) .ret) .skip)) 
(.seq 
(.region [m 65 0, v 66 (.nilc (.t 65)), v 67 (.faddr 1 (.t 66)), v 68 (.load none (.t 67)), m 69 5, m 70 8, v 71 (.bin .add .any (.t 69) (.t 70)), v 72 (.bin .add .any (.t 68) (.t 71)), v 73 (.nilc (.t 65)), v 74 (.faddr 1 (.t 73)), u (.store 1 (.t 74) (.t 72))]) 
(.seq 
(.seq 
(.region [m 75 0, v 76 (.call (.f 75) [(.t 75), (.c (.int .i64 0))] false), v 77 (.bin .eql .any (.t 76) (.c (.int .i32 59)))]) 
(.cond (.t 77) 
(.region [m 78 0, v 79 (.call (.f 68) [(.t 78)] false)]) .skip)) 
(.seq 
(.region [m 80 0, m 81 7, v 82 (.call (.f 20) [(.t 81)] false), v 83 (.mks false none (.int .i32 0) 1 [(0, (.t 82))]), v 84 (.call (.f 74) [(.t 80), (.t 83)] false)]) .ret))))))) .skip)) 
(.seq 
(.region [m 86 4, v 87 (.call (.f 16) [(.t 86)] false), m 85 87, v 88 (.extract (.t 85) 0), v 89 (.extract (.t 85) 1), v 90 (.extract (.t 85) 2), m 9 88, m 10 89, m 11 90]) 
(.seq 
(.seq 
(.region [m 91 10, v 92 (.bin .eql .any (.t 91) (.c (.int .i64 0)))]) 
(.cond (.t 92) 
(.seq 
(.region [m 93 0, v 94 (.mks false none (.int .i32 0) 1 [(0, (.c (.int .i32 38)))]), v 95 (.call (.f 74) [(.t 93), (.t 94)] false)]) .ret) .skip)) 
(.seq 
(.seq 
(.region [m 96 1, m 97 96, w 98 (.mv (.t 11)) 97 true, w 99 (.un .not (.t 98)) 97 true, v 100 (.pick (.t 97) (.t 99) (.c (.bool false))), m 101 100, w 102 (.mv (.t 10)) 101 true, w 103 (.mv (.t 4)) 101 true, w 104 (.len true (.t 103)) 101 true, w 105 (.bin .lss .any (.t 102) (.t 104)) 101 true, v 106 (.pick (.t 101) (.t 105) (.c (.bool false)))]) 
(.cond (.t 106) 
(.seq 
(.region [m 107 4, m 108 10, v 109 (.iaddr 1 (.t 107) (.t 108)), v 110 (.load none (.t 109)), m 12 110]) 
(.seq 
(.region [m 111 12, v 112 (.bin .eql .any (.t 111) (.c (.int .i32 61))), m 113 112, w 114 (.mv (.t 12)) 113 false, w 115 (.call (.f 18) [(.t 114)] false) 113 false, v 116 (.pick (.t 113) (.c (.bool true)) (.t 115)), m 117 116, w 118 (.mv (.t 12)) 117 false, w 119 (.call (.f 19) [(.t 118)] false) 117 false, v 120 (.pick (.t 117) (.c (.bool true)) (.t 119))]) 
(.cond (.t 120) 
(.seq 
(.region [m 121 0, v 122 (.mks false none (.int .i32 0) 1 [(0, (.c (.int .i32 38)))]), v 123 (.call (.f 74) [(.t 121), (.t 122)] false)]) .ret) .skip))) .skip)) 
(.seq 
(.region [m 124 0, v 125 (.nilc (.t 124)), v 126 (.faddr 1 (.t 125)), v 127 (.load none (.t 126)), m 128 10, v 129 (.bin .add .any (.t 127) (.t 128)), v 130 (.nilc (.t 124)), v 131 (.faddr 1 (.t 130)), u (.store 1 (.t 131) (.t 129))]) 
(.region [m 132 0, m 133 9, v 134 (.call (.f 74) [(.t 132), (.t 133)] false)]))))))),
 []⟩
/-- (*lex.Lexer).open -/
def c_lex_Lexer_open : DFunc := ⟨34, 
(.seq 
(.region [m 3 0, v 4 (.call (.f 68) [(.t 3)] false), m 2 4]) 
(.block 0 
(.seq 
(.region [m 11 2, v 12 (.bin .eql .any (.t 11) (.c (.int .i32 33))), m 10 12]) 
(.cond (.t 10) 
(.region [m 13 0, v 14 (.call (.f 88) [(.t 13)] false)]) 
(.seq 
(.region [m 16 2, v 17 (.bin .eql .any (.t 16) (.c (.int .i32 47))), m 15 17]) 
(.cond (.t 15) 
(.region [m 18 0, v 19 (.call (.f 89) [(.t 18)] false)]) 
(.seq 
(.region [m 21 2, v 22 (.call (.f 18) [(.t 21)] false), m 20 22]) 
(.cond (.t 20) 
(.seq 
(.region [m 23 0, v 24 (.call (.f 90) [(.t 23)] false)]) 
(.region [m 25 0, v 26 (.call (.f 91) [(.t 25), (.c (.int .i64 2))] false)])) 
(.seq 
(.region [m 28 2, v 29 (.bin .eql .any (.t 28) (.c (.int .i32 63))), m 27 29]) 
(.cond (.t 27) 
(.seq 
(.region [m 30 0, v 31 (.call (.f 90) [(.t 30)] false)]) 
(.region [m 32 0, v 33 (.call (.f 92) [(.t 32)] false)])) 
(.seq 
(.region [m 5 0, v 6 (.call (.f 90) [(.t 5)] false)]) 
(.region [m 7 0, v 8 (.mks false none (.int .i32 0) 1 [(0, (.c (.int .i32 60)))]), v 9 (.call (.f 74) [(.t 7), (.t 8)] false)])))))))))))),
 []⟩
/-- (*lex.Lexer).close -/
def c_lex_Lexer_close : DFunc := ⟨21, 
(.seq 
(.region [v 2 (.mv (.c (.bool false)))]) 
(.seq 
(.seq 
(.region [m 3 0, v 4 (.call (.f 93) [(.t 3)] false), v 5 (.bin .eql .any (.t 4) (.c (.int .i64 0)))]) 
(.cond (.t 5) 
(.seq 
(.region [m 6 0, v 7 (.mks false none (.int .i32 0) 1 [(0, (.c (.int .i32 60)))]), v 8 (.call (.f 74) [(.t 6), (.t 7)] false)]) 
(.seq 
(.region [v 2 (.mv (.c (.bool false)))]) .ret)) .skip)) 
(.seq 
(.region [m 9 0, v 10 (.nilc (.t 9)), v 11 (.faddr 1 (.t 10)), v 12 (.load none (.t 11)), v 13 (.bin .add .any (.t 12) (.c (.int .i64 1))), v 14 (.nilc (.t 9)), v 15 (.faddr 1 (.t 14)), u (.store 1 (.t 15) (.t 13))]) 
(.seq 
(.region [m 16 0, v 17 (.nilc (.t 16)), v 18 (.faddr 2 (.t 17)), u (.store 1 (.t 18) (.c (.int .i64 0)))]) 
(.seq 
(.region [m 19 0, v 20 (.call (.f 91) [(.t 19), (.c (.int .i64 3))] false)]) 
(.seq 
(.region [v 2 (.mv (.c (.bool true)))]) .ret)))))),
 [.tmp 2]⟩
/-- (*lex.Lexer).script -/
def c_lex_Lexer_script : DFunc := ⟨109, 
(.seq 
(.seq 
(.region [m 7 0, v 8 (.call (.f 94) [(.t 7), (.c (.str [33, 45, 45]))] false), v 9 (.un .not (.t 8))]) 
(.cond (.t 9) 
(.seq 
(.region [m 10 0, v 11 (.call (.f 72) [(.t 10)] false)]) .ret) .skip)) 
(.seq 
(.region [m 12 0, v 13 (.mks false none (.int .i32 0) 4 [(0, (.c (.int .i32 60))), (1, (.c (.int .i32 33))), (2, (.c (.int .i32 45))), (3, (.c (.int .i32 45)))]), v 14 (.call (.f 74) [(.t 12), (.t 13)] false)]) 
(.seq 
(.region [m 15 0, v 16 (.nilc (.t 15)), v 17 (.faddr 1 (.t 16)), v 18 (.load none (.t 17)), v 19 (.bin .add .any (.t 18) (.c (.int .i64 3))), v 20 (.nilc (.t 15)), v 21 (.faddr 1 (.t 20)), u (.store 1 (.t 21) (.t 19))]) 
(.seq 
(.region [v 2 (.mv (.c (.int .i64 2))), v 3 (.mv (.c (.bool false)))]) 
(.block 0 
(.loop 
(.block 1 
(.seq 
(.region [m 22 0, v 23 (.call (.f 68) [(.t 22)] false), m 4 23]) 
(.seq 
(.block 2 
(.seq 
(.region [m 29 4, v 30 (.bin .eql .any (.t 29) (.c (.int .i32 (-1)))), m 28 30]) 
(.cond (.t 28) 
(.seq 
(.region [m 31 0, v 32 (.call (.f 90) [(.t 31)] false)]) .ret) 
(.seq 
(.region [m 34 4, v 35 (.bin .eql .any (.t 34) (.c (.int .i32 45))), m 33 35]) 
(.cond (.t 33) 
(.seq 
(.region [m 36 0, m 37 4, v 38 (.mks false none (.int .i32 0) 1 [(0, (.t 37))]), v 39 (.call (.f 74) [(.t 36), (.t 38)] false)]) 
(.seq 
(.region [m 40 2, v 41 (.bin .add .any (.t 40) (.c (.int .i64 1))), m 2 41]) (.exit 1))) 
(.seq 
(.region [m 43 4, v 44 (.bin .eql .any (.t 43) (.c (.int .i32 62))), m 45 44, w 46 (.mv (.t 2)) 45 true, w 47 (.bin .geq .any (.t 46) (.c (.int .i64 2))) 45 true, v 48 (.pick (.t 45) (.t 47) (.c (.bool false))), m 42 48]) 
(.cond (.t 42) 
(.seq 
(.region [m 49 0, m 50 4, v 51 (.mks false none (.int .i32 0) 1 [(0, (.t 50))]), v 52 (.call (.f 74) [(.t 49), (.t 51)] false)]) .ret) 
(.seq 
(.region [m 54 4, v 55 (.bin .eql .any (.t 54) (.c (.int .i32 60))), m 56 55, w 57 (.mv (.t 3)) 56 true, w 58 (.un .not (.t 57)) 56 true, v 59 (.pick (.t 56) (.t 58) (.c (.bool false))), m 53 59]) 
(.cond (.t 53) 
(.seq 
(.seq 
(.region [m 60 0, v 61 (.call (.f 93) [(.t 60)] false), v 62 (.bin .gtr .any (.t 61) (.c (.int .i64 0)))]) 
(.cond (.t 62) 
(.seq 
(.region [m 63 0, v 64 (.call (.f 69) [(.t 63)] false)]) 
(.seq 
(.region [m 65 0, v 66 (.call (.f 72) [(.t 65)] false)]) .ret)) .skip)) 
(.seq 
(.region [m 67 0, m 68 4, v 69 (.mks false none (.int .i32 0) 1 [(0, (.t 68))]), v 70 (.call (.f 74) [(.t 67), (.t 69)] false)]) 
(.seq 
(.region [m 71 0, v 72 (.call (.f 95) [(.t 71)] false), m 5 72]) 
(.seq 
(.region [m 73 5, v 74 (.bin .gtr .any (.t 73) (.c (.int .i64 0)))]) 
(.cond (.t 74) 
(.seq 
(.region [v 3 (.mv (.c (.bool true)))]) 
(.region [m 75 0, m 76 5, v 77 (.call (.f 96) [(.t 75), (.t 76)] false)])) .skip))))) 
(.seq 
(.region [m 79 4, v 80 (.bin .eql .any (.t 79) (.c (.int .i32 60))), m 81 80, w 82 (.mv (.t 3)) 81 true, v 83 (.pick (.t 81) (.t 82) (.c (.bool false))), m 78 83]) 
(.cond (.t 78) 
(.seq 
(.region [m 84 0, m 85 4, v 86 (.mks false none (.int .i32 0) 1 [(0, (.t 85))]), v 87 (.call (.f 74) [(.t 84), (.t 86)] false)]) 
(.seq 
(.region [m 88 0, v 89 (.call (.f 75) [(.t 88), (.c (.int .i64 0))] false), v 90 (.bin .eql .any (.t 89) (.c (.int .i32 47)))]) 
(.cond (.t 90) 
(.seq 
(.region [m 91 0, m 92 0, v 93 (.call (.f 68) [(.t 92)] false), v 94 (.mks false none (.int .i32 0) 1 [(0, (.t 93))]), v 95 (.call (.f 74) [(.t 91), (.t 94)] false)]) 
(.seq 
(.region [m 96 0, v 97 (.call (.f 95) [(.t 96)] false), m 6 97]) 
(.seq 
(.region [m 98 6, v 99 (.bin .gtr .any (.t 98) (.c (.int .i64 0)))]) 
(.cond (.t 99) 
(.seq 
(.region [v 3 (.mv (.c (.bool false)))]) 
(.region [m 100 0, m 101 6, v 102 (.call (.f 96) [(.t 100), (.t 101)] false)])) .skip)))) .skip))) 
(.seq 
(.region [m 104 4, v 105 (.bin .eql .any (.t 104) (.c (.int .i32 0))), m 103 105]) 
(.cond (.t 103) 
(.region [m 106 0, v 107 (.mks false none (.int .i32 0) 1 [(0, (.c (.int .i32 65533)))]), v 108 (.call (.f 74) [(.t 106), (.t 107)] false)]) 
(.region [m 24 0, m 25 4, v 26 (.mks false none (.int .i32 0) 1 [(0, (.t 25))]), v 27 (.call (.f 74) [(.t 24), (.t 26)] false)])))))))))))))) 
(.region [v 2 (.mv (.c (.int .i64 0)))])))))))))),
 []⟩
/-- (*lex.Lexer).say -/
def c_lex_Lexer_say : DFunc := ⟨25, 
(.seq 
(.region [m 6 1, v 7 (.len true (.t 6)), v 8 (.mv (.c (.int .i64 0)))]) 
(.block 0 
(.loop 
(.seq 
(.region [v 9 (.bin .lss .any (.t 8) (.t 7))]) 
(.seq 
(.cond (.t 9) .skip (.exit 0)) 
(.seq 
(.block 1 
(.seq 
(.region [v 10 (.iaddr 1 (.t 6) (.t 8)), v 11 (.load none (.t 10)), m 5 11]) 
(.seq 
(.region [m 12 5, v 13 (.bin .neq .any (.t 12) (.c (.int .i32 (-1))))]) 
(.cond (.t 13) 
(.region [m 14 0, m 15 0, v 16 (.nilc (.t 15)), v 17 (.faddr 6 (.t 16)), v 18 (.load none (.t 17)), m 19 5, v 20 (.mks false none (.int .i32 0) 1 [(0, (.t 19))]), v 21 (.append false none 4 (.t 18) (.t 20)), v 22 (.nilc (.t 14)), v 23 (.faddr 6 (.t 22)), u (.store 1 (.t 23) (.t 21))]) .skip)))) 
(.region [v 24 (.bin .add .any (.t 8) (.c (.int .i64 1))), m 8 24]))))))),
 []⟩
/-- (*lex.Lexer).peek -/
def c_lex_Lexer_peek : DFunc := ⟨29, 
(.seq 
(.region [v 4 (.mv (.c (.int .i32 0)))]) 
(.seq 
(.seq 
(.region [m 5 0, v 6 (.nilc (.t 5)), v 7 (.faddr 1 (.t 6)), v 8 (.load none (.t 7)), m 9 1, v 10 (.bin .add .any (.t 8) (.t 9)), m 11 0, v 12 (.nilc (.t 11)), v 13 (.faddr 0 (.t 12)), v 14 (.load none (.t 13)), v 15 (.len true (.t 14)), v 16 (.bin .geq .any (.t 10) (.t 15))]) 
(.cond (.t 16) 
(.seq 
(.region [v 4 (.mv (.c (.int .i32 (-1))))]) .ret) .skip)) 
(.seq 
(.region [m 17 0, v 18 (.nilc (.t 17)), v 19 (.faddr 0 (.t 18)), v 20 (.load none (.t 19)), m 21 0, v 22 (.nilc (.t 21)), v 23 (.faddr 1 (.t 22)), v 24 (.load none (.t 23)), m 25 1, v 26 (.bin .add .any (.t 24) (.t 25)), v 27 (.iaddr 1 (.t 20) (.t 26)), v 28 (.load none (.t 27)), m 4 28]) .ret))),
 [.tmp 4]⟩
/-- slices.IndexFunc[[]token.Attr,token.Attr] -/
def c_slices_IndexFunc_token_Attr_token_Attr : DFunc := ⟨19, 
(.seq 
(.region [v 4 (.mv (.c (.int .i64 0)))]) 
(.seq 
(.seq 
(.region [m 6 0, v 7 (.len true (.t 6)), v 8 (.mv (.c (.int .i64 0)))]) 
(.block 0 
(.loop 
(.seq 
(.region [v 9 (.bin .lss .any (.t 8) (.t 7))]) 
(.seq 
(.cond (.t 9) .skip (.exit 0)) 
(.seq 
(.block 1 
(.seq 
(.region [m 10 8, m 5 10]) 
(.seq 
(.region [m 11 1, m 12 0, m 13 5, v 14 (.iaddr 2 (.t 12) (.t 13)), v 15 (.load (some 2) (.t 14)), v 16 (.call (.t 11) [(.t 15)] false)]) 
(.cond (.t 16) 
(.seq 
(.region [m 17 5, m 4 17]) .ret) .skip)))) 
(.region [v 18 (.bin .add .any (.t 8) (.c (.int .i64 1))), m 8 18]))))))) 
(.seq 
(.region [v 4 (.mv (.c (.int .i64 (-1))))]) .ret))),
 [.tmp 4]⟩
/-- slices.Delete[[]int,int] -/
def c_slices_Delete_int_int : DFunc := ⟨33, 
(.seq 
(.region [v 6 (.mv (.c (.lst 0 0 [])))]) 
(.seq 
(.region [m 8 0, m 9 1, m 10 2, m 11 0, v 12 (.len true (.t 11)), v 13 (.slice 1 (.t 8) (some (.t 9)) (some (.t 10)) (some (.t 12)))]) 
(.seq 
(.seq 
(.region [m 14 1, m 15 2, v 16 (.bin .eql .any (.t 14) (.t 15))]) 
(.cond (.t 16) 
(.seq 
(.region [m 17 0, m 6 17]) .ret) .skip)) 
(.seq 
(.region [m 18 0, v 19 (.len true (.t 18)), m 7 19]) 
(.seq 
(.region [m 20 0, m 21 1, v 22 (.slice 1 (.t 20) none (some (.t 21)) none), m 23 0, m 24 2, v 25 (.slice 1 (.t 23) (some (.t 24)) none none), v 26 (.append true none 8 (.t 22) (.t 25)), m 0 26]) 
(.seq 
(.region [m 27 0, m 28 0, v 29 (.len true (.t 28)), m 30 7, v 31 (.slice 1 (.t 27) (some (.t 29)) (some (.t 30)) none), u (.clear [(.int .i64 0)] (.t 31))]) 
(.seq 
(.region [m 32 0, m 6 32]) .ret))))))),
 [.tmp 6]⟩
/-- slices.rotateRight[int] -/
def c_slices_rotateRight_int : DFunc := ⟨10, 
(.region [m 4 0, m 5 0, v 6 (.len true (.t 5)), m 7 1, v 8 (.bin .sub .any (.t 6) (.t 7)), v 9 (.call (.f 97) [(.t 4), (.t 8)] false)]),
 []⟩
/-- (*dom.Doc).Kind -/
def c_dom_Doc_Kind : DFunc := ⟨17, 
(.seq 
(.region [v 4 (.mv (.c (.int .i64 0)))]) 
(.seq 
(.seq 
(.region [m 5 0, m 6 1, v 7 (.call (.f 60) [(.t 5), (.t 6)] false), v 8 (.un .not (.t 7))]) 
(.cond (.t 8) 
(.seq 
(.region [v 4 (.mv (.c (.int .i64 0)))]) .ret) .skip)) 
(.seq 
(.region [m 9 0, v 10 (.nilc (.t 9)), v 11 (.faddr 0 (.t 10)), v 12 (.load none (.t 11)), m 13 1, v 14 (.iaddr 10 (.t 12) (.t 13)), v 15 (.faddr 0 (.t 14)), v 16 (.load none (.t 15)), m 4 16]) .ret))),
 [.tmp 4]⟩
/-- ser.Inner$1 -/
def c_ser_Inner_1 : DFunc := ⟨23, 
(.seq 
(.region [v 3 (.mv (.c (.lst 0 0 [])))]) 
(.seq 
(.seq 
(.region [v 6 (.load none (.t 1)), v 7 (.nilc (.t 6)), v 8 (.faddr 0 (.t 7)), v 9 (.load none (.t 8)), m 10 0, v 11 (.iaddr 10 (.t 9) (.t 10)), v 12 (.faddr 9 (.t 11)), v 13 (.load none (.t 12)), m 4 13]) 
(.seq 
(.region [m 14 4, v 15 (.bin .neq .any (.t 14) (.c (.int .i64 (-1))))]) 
(.cond (.t 15) 
(.region [m 16 4, m 0 16]) .skip))) 
(.seq 
(.region [v 17 (.load none (.t 1)), m 18 0, v 19 (.call (.f 82) [(.t 17), (.t 18)] false), m 5 19]) 
(.seq 
(.region [m 20 5, v 21 (.call (.f 83) [(.t 20)] false)]) 
(.seq 
(.region [m 22 5, m 3 22]) .ret))))),
 [.tmp 3]⟩
/-- (*dom.Doc).Kids -/
def c_dom_Doc_Kids : DFunc := ⟨18, 
(.seq 
(.region [v 4 (.mv (.c (.lst 0 0 [])))]) 
(.seq 
(.seq 
(.region [m 5 0, m 6 1, v 7 (.call (.f 60) [(.t 5), (.t 6)] false), v 8 (.un .not (.t 7))]) 
(.cond (.t 8) 
(.seq 
(.region [v 4 (.mv (.c (.lst 0 0 [])))]) .ret) .skip)) 
(.seq 
(.region [m 9 0, v 10 (.nilc (.t 9)), v 11 (.faddr 0 (.t 10)), v 12 (.load none (.t 11)), m 13 1, v 14 (.iaddr 10 (.t 12) (.t 13)), v 15 (.faddr 8 (.t 14)), v 16 (.load none (.t 15)), v 17 (.call (.f 98) [(.t 16)] false), m 4 17]) .ret))),
 [.tmp 4]⟩
/-- slices.Reverse[[]int,int] -/
def c_slices_Reverse_int_int : DFunc := ⟨28, 
(.seq 
(.region [m 4 0, v 5 (.len true (.t 4)), v 6 (.bin .sub .any (.t 5) (.c (.int .i64 1))), v 2 (.mv (.c (.int .i64 0))), m 3 6]) 
(.block 0 
(.loop 
(.seq 
(.seq 
(.region [m 7 2, m 8 3, v 9 (.bin .lss .any (.t 7) (.t 8))]) 
(.cond (.t 9) .skip (.exit 0))) 
(.seq 
(.block 1 
(.region [m 14 0, m 15 2, m 16 0, m 17 3, m 18 0, m 19 3, v 20 (.iaddr 1 (.t 18) (.t 19)), v 21 (.load none (.t 20)), m 22 0, m 23 2, v 24 (.iaddr 1 (.t 22) (.t 23)), v 25 (.load none (.t 24)), v 26 (.iaddr 1 (.t 14) (.t 15)), u (.store 1 (.t 26) (.t 21)), v 27 (.iaddr 1 (.t 16) (.t 17)), u (.store 1 (.t 27) (.t 25))])) 
(.region [m 10 2, v 11 (.bin .add .any (.t 10) (.c (.int .i64 1))), m 12 3, v 13 (.bin .sub .any (.t 12) (.c (.int .i64 1))), m 2 11, m 3 13])))))),
 []⟩
/-- ser.Void -/
def c_ser_Void : DFunc := ⟨6, 
(.seq 
(.region [v 2 (.mv (.c (.bool false)))]) 
(.seq 
(.region [v 3 (.load none (.g 1)), m 4 0, v 5 (.call (.f 43) [(.t 3), (.t 4)] false), m 2 5]) .ret)),
 [.tmp 2]⟩
/-- ser.begin -/
def c_ser_begin : DFunc := ⟨108, 
(.seq 
(.region [v 6 (.mv (.c (.lst 0 0 [])))]) 
(.seq 
(.region [m 11 1, v 12 (.nilc (.t 11)), v 13 (.faddr 0 (.t 12)), v 14 (.load none (.t 13)), m 15 2, v 16 (.iaddr 10 (.t 14) (.t 15)), v 17 (.load (some 10) (.t 16)), v 7 (.alloc [(.int .i64 0), (.int .i64 0), (.str []), (.str []), (.lst 0 0 []), (.str []), (.str []), (.int .i64 0), (.lst 0 0 []), (.int .i64 0)] none), u (.store 10 (.t 7) (.t 17))]) 
(.seq 
(.seq 
(.region [v 18 (.faddr 0 (.t 7)), v 19 (.load none (.t 18))]) 
(.block 0 
(.seq 
(.region [v 21 (.bin .eql .any (.t 19) (.c (.int .i64 2))), m 20 21]) 
(.cond (.t 20) 
(.seq 
(.region [m 22 0, v 23 (.mks false none (.int .u8 0) 1 [(0, (.c (.int .u8 60)))]), v 25 (.faddr 2 (.t 7)), v 26 (.load none (.t 25)), ⟨(some 24), .append false none 1 (.t 22) (.t 23), none, [((.t 25), none, 26, none)]⟩, v 27 (.append false none 1 (.t 24) (.t 26)), m 0 27]) 
(.seq 
(.seq 
(.region [v 28 (.faddr 4 (.t 7)), v 29 (.load none (.t 28)), v 30 (.len true (.t 29)), v 31 (.mv (.c (.int .i64 0)))]) 
(.block 1 
(.loop 
(.seq 
(.region [v 32 (.bin .lss .any (.t 31) (.t 30))]) 
(.seq 
(.cond (.t 32) .skip (.exit 1)) 
(.seq 
(.block 2 
(.seq 
(.region [v 33 (.iaddr 2 (.t 29) (.t 31)), v 34 (.load (some 2) (.t 33)), v 9 (.alloc [(.str []), (.str [])] none), u (.store 2 (.t 9) (.t 34))]) 
(.seq 
(.region [m 35 0, v 36 (.mks false none (.int .u8 0) 1 [(0, (.c (.int .u8 32)))]), v 38 (.faddr 0 (.t 9)), v 39 (.load none (.t 38)), ⟨(some 37), .append false none 1 (.t 35) (.t 36), none, [((.t 38), none, 39, none)]⟩, v 40 (.append false none 1 (.t 37) (.t 39)), m 0 40]) 
(.region [m 41 0, v 43 (.faddr 1 (.t 9)), v 44 (.load none (.t 43)), v 46 (.mks false none (.int .u8 0) 1 [(0, (.c (.int .u8 34)))]), ⟨(some 42), .append false none 1 (.t 41) (.c (.str [61, 34])), none, [((.t 43), none, 44, none)]⟩, v 45 (.call (.f 52) [(.t 42), (.t 44), (.c (.bool true))] false), v 47 (.append false none 1 (.t 45) (.t 46)), m 0 47])))) 
(.region [v 48 (.bin .add .any (.t 31) (.c (.int .i64 1))), m 31 48]))))))) 
(.region [m 49 0, v 50 (.mks false none (.int .u8 0) 1 [(0, (.c (.int .u8 62)))]), v 51 (.append false none 1 (.t 49) (.t 50)), m 0 51]))) 
(.seq 
(.region [v 53 (.bin .eql .any (.t 19) (.c (.int .i64 3))), m 52 53]) 
(.cond (.t 52) 
(.seq 
(.region [v 54 (.faddr 7 (.t 7)), v 55 (.load none (.t 54)), m 10 55]) 
(.seq 
(.region [m 56 1, m 57 10, v 58 (.call (.f 80) [(.t 56), (.t 57)] false), v 59 (.bin .eql .any (.t 58) (.c (.int .i64 2))), m 60 59, w 61 (.mv (.t 1)) 60 true, w 62 (.nilc (.t 61)) 60 true, w 63 (.faddr 0 (.t 62)) 60 true, w 64 (.load none (.t 63)) 60 true, w 65 (.mv (.t 10)) 60 true, w 66 (.iaddr 10 (.t 64) (.t 65)) 60 true, w 67 (.faddr 1 (.t 66)) 60 true, w 68 (.load none (.t 67)) 60 true, w 69 (.bin .eql .any (.t 68) (.c (.int .i64 0))) 60 true, v 70 (.pick (.t 60) (.t 69) (.c (.bool false))), m 71 70, w 72 (.mv (.t 1)) 71 true, w 73 (.nilc (.t 72)) 71 true, w 74 (.faddr 0 (.t 73)) 71 true, w 75 (.load none (.t 74)) 71 true, w 76 (.mv (.t 10)) 71 true, w 77 (.iaddr 10 (.t 75) (.t 76)) 71 true, w 78 (.faddr 2 (.t 77)) 71 true, w 79 (.load none (.t 78)) 71 true, w 80 (.call (.f 99) [(.t 79)] false) 71 true, v 81 (.pick (.t 71) (.t 80) (.c (.bool false)))]) 
(.cond (.t 81) 
(.region [m 82 0, v 83 (.faddr 3 (.t 7)), v 84 (.load none (.t 83)), v 85 (.append false none 1 (.t 82) (.t 84)), m 0 85]) 
(.region [m 86 0, v 87 (.faddr 3 (.t 7)), v 88 (.load none (.t 87)), v 89 (.call (.f 52) [(.t 86), (.t 88), (.c (.bool false))] false), m 0 89])))) 
(.seq 
(.region [v 91 (.bin .eql .any (.t 19) (.c (.int .i64 4))), m 90 91]) 
(.cond (.t 90) 
(.region [m 92 0, v 94 (.faddr 3 (.t 7)), v 95 (.load none (.t 94)), ⟨(some 93), .append false none 1 (.t 92) (.c (.str [60, 33, 45, 45])), none, [((.t 94), none, 95, none)]⟩, v 96 (.append false none 1 (.t 93) (.t 95)), v 97 (.append false none 1 (.t 96) (.c (.str [45, 45, 62]))), m 0 97]) 
(.seq 
(.region [v 99 (.bin .eql .any (.t 19) (.c (.int .i64 5))), m 98 99]) 
(.cond (.t 98) 
(.region [m 100 0, v 102 (.faddr 2 (.t 7)), v 103 (.load none (.t 102)), v 105 (.mks false none (.int .u8 0) 1 [(0, (.c (.int .u8 62)))]), ⟨(some 101), .append false none 1 (.t 100) (.c (.str [60, 33, 68, 79, 67, 84, 89, 80, 69, 32])), none, [((.t 102), none, 103, none)]⟩, v 104 (.append false none 1 (.t 101) (.t 103)), v 106 (.append false none 1 (.t 104) (.t 105)), m 0 106]) .skip)))))))))) 
(.seq 
(.region [m 107 0, m 6 107]) .ret)))),
 [.tmp 6]⟩
theorem ok_dom_Doc_Put : compF Tryd.prog cfg3 49 = some c_dom_Doc_Put := by kernel_rfl
theorem ok_dom_Doc_Say : compF Tryd.prog cfg3 50 = some c_dom_Doc_Say := by kernel_rfl
theorem ok_ser_Page : compF Tryd.prog cfg3 51 = some c_ser_Page := by kernel_rfl
theorem ok_ser_escape : compF Tryd.prog cfg3 52 = some c_ser_escape := by kernel_rfl
theorem ok_slices_AppendSeq_token_Token_token_Token : compF Tryd.prog cfg3 53 = some c_slices_AppendSeq_token_Token_token_Token := by kernel_rfl
theorem ok_text_Signs : compF Tryd.prog cfg3 54 = some c_text_Signs := by kernel_rfl
theorem ok_lex_Lexer_step : compF Tryd.prog cfg3 55 = some c_lex_Lexer_step := by kernel_rfl
theorem ok_slices_Index_string_string : compF Tryd.prog cfg3 56 = some c_slices_Index_string_string := by kernel_rfl
theorem ok_slices_DeleteFunc_token_Attr_token_Attr : compF Tryd.prog cfg3 57 = some c_slices_DeleteFunc_token_Attr_token_Attr := by kernel_rfl
theorem ok_slices_Clone_token_Attr_token_Attr : compF Tryd.prog cfg3 58 = some c_slices_Clone_token_Attr_token_Attr := by kernel_rfl
theorem ok_token_Without_1 : compF Tryd.prog cfg3 59 = some c_token_Without_1 := by kernel_rfl
theorem ok_dom_Doc_in : compF Tryd.prog cfg3 60 = some c_dom_Doc_in := by kernel_rfl
theorem ok_dom_Doc_above : compF Tryd.prog cfg3 61 = some c_dom_Doc_above := by kernel_rfl
theorem ok_dom_Doc_Out : compF Tryd.prog cfg3 62 = some c_dom_Doc_Out := by kernel_rfl
theorem ok_slices_Index_int_int : compF Tryd.prog cfg3 63 = some c_slices_Index_int_int := by kernel_rfl
theorem ok_ser_Inner : compF Tryd.prog cfg3 65 = some c_ser_Inner := by kernel_rfl
theorem ok_text_Signs_1 : compF Tryd.prog cfg3 66 = some c_text_Signs_1 := by kernel_rfl
theorem ok_text_one : compF Tryd.prog cfg3 67 = some c_text_one := by kernel_rfl
theorem ok_lex_Lexer_next : compF Tryd.prog cfg3 68 = some c_lex_Lexer_next := by kernel_rfl
theorem ok_lex_Lexer_flush : compF Tryd.prog cfg3 69 = some c_lex_Lexer_flush := by kernel_rfl
theorem ok_lex_Lexer_reference : compF Tryd.prog cfg3 70 = some c_lex_Lexer_reference := by kernel_rfl
theorem ok_lex_Lexer_open : compF Tryd.prog cfg3 71 = some c_lex_Lexer_open := by kernel_rfl
theorem ok_lex_Lexer_close : compF Tryd.prog cfg3 72 = some c_lex_Lexer_close := by kernel_rfl
theorem ok_lex_Lexer_script : compF Tryd.prog cfg3 73 = some c_lex_Lexer_script := by kernel_rfl
theorem ok_lex_Lexer_say : compF Tryd.prog cfg3 74 = some c_lex_Lexer_say := by kernel_rfl
theorem ok_lex_Lexer_peek : compF Tryd.prog cfg3 75 = some c_lex_Lexer_peek := by kernel_rfl
theorem ok_slices_IndexFunc_token_Attr_token_Attr : compF Tryd.prog cfg3 76 = some c_slices_IndexFunc_token_Attr_token_Attr := by kernel_rfl
theorem ok_slices_Delete_int_int : compF Tryd.prog cfg3 77 = some c_slices_Delete_int_int := by kernel_rfl
theorem ok_slices_rotateRight_int : compF Tryd.prog cfg3 79 = some c_slices_rotateRight_int := by kernel_rfl
theorem ok_dom_Doc_Kind : compF Tryd.prog cfg3 80 = some c_dom_Doc_Kind := by kernel_rfl
theorem ok_ser_Inner_1 : compF Tryd.prog cfg3 81 = some c_ser_Inner_1 := by kernel_rfl
theorem ok_dom_Doc_Kids : compF Tryd.prog cfg3 82 = some c_dom_Doc_Kids := by kernel_rfl
theorem ok_slices_Reverse_int_int : compF Tryd.prog cfg3 83 = some c_slices_Reverse_int_int := by kernel_rfl
theorem ok_ser_Void : compF Tryd.prog cfg3 84 = some c_ser_Void := by kernel_rfl
theorem ok_ser_begin : compF Tryd.prog cfg3 85 = some c_ser_begin := by kernel_rfl
end Go.Proofs.YticnenofiibpgaaDoor.Code
/- Functions of the program as code of the D-machine (4): PRINTED BY PROGRAM; each is checked to be what the program's own compiles to. -/
namespace Go.Proofs.YticnenofiibpgaaDoor.Code
set_option linter.unusedSimpArgs false
set_option linter.unusedVariables false
open Go.Dm Go.Dm.C
def cfg4 : Cfg := ⟨fun t => [3, 83].contains t, fun f => [26, 46, 57, 58, 59].contains f⟩
/-- text.need -/
def c_text_need : DFunc := ⟨38, 
(.seq 
(.region [v 2 (.mv (.c (.int .i64 0))), v 3 (.mv (.c (.int .u8 0))), v 4 (.mv (.c (.int .u8 0)))]) 
(.seq 
(.block 0 
(.seq 
(.region [m 6 0, v 7 (.bin .geq .any (.t 6) (.c (.int .u8 194))), m 8 7, w 9 (.mv (.t 0)) 8 true, w 10 (.bin .leq .any (.t 9) (.c (.int .u8 223))) 8 true, v 11 (.pick (.t 8) (.t 10) (.c (.bool false))), m 5 11]) 
(.cond (.t 5) 
(.seq 
(.region [v 2 (.mv (.c (.int .i64 1))), v 3 (.mv (.c (.int .u8 128))), v 4 (.mv (.c (.int .u8 191)))]) .ret) 
(.seq 
(.region [m 13 0, v 14 (.bin .eql .any (.t 13) (.c (.int .u8 224))), m 12 14]) 
(.cond (.t 12) 
(.seq 
(.region [v 2 (.mv (.c (.int .i64 2))), v 3 (.mv (.c (.int .u8 160))), v 4 (.mv (.c (.int .u8 191)))]) .ret) 
(.seq 
(.region [m 16 0, v 17 (.bin .eql .any (.t 16) (.c (.int .u8 237))), m 15 17]) 
(.cond (.t 15) 
(.seq 
(.region [v 2 (.mv (.c (.int .i64 2))), v 3 (.mv (.c (.int .u8 128))), v 4 (.mv (.c (.int .u8 159)))]) .ret) 
(.seq 
(.region [m 19 0, v 20 (.bin .geq .any (.t 19) (.c (.int .u8 225))), m 21 20, w 22 (.mv (.t 0)) 21 true, w 23 (.bin .leq .any (.t 22) (.c (.int .u8 239))) 21 true, v 24 (.pick (.t 21) (.t 23) (.c (.bool false))), m 18 24]) 
(.cond (.t 18) 
(.seq 
(.region [v 2 (.mv (.c (.int .i64 2))), v 3 (.mv (.c (.int .u8 128))), v 4 (.mv (.c (.int .u8 191)))]) .ret) 
(.seq 
(.region [m 26 0, v 27 (.bin .eql .any (.t 26) (.c (.int .u8 240))), m 25 27]) 
(.cond (.t 25) 
(.seq 
(.region [v 2 (.mv (.c (.int .i64 3))), v 3 (.mv (.c (.int .u8 144))), v 4 (.mv (.c (.int .u8 191)))]) .ret) 
(.seq 
(.region [m 29 0, v 30 (.bin .geq .any (.t 29) (.c (.int .u8 241))), m 31 30, w 32 (.mv (.t 0)) 31 true, w 33 (.bin .leq .any (.t 32) (.c (.int .u8 243))) 31 true, v 34 (.pick (.t 31) (.t 33) (.c (.bool false))), m 28 34]) 
(.cond (.t 28) 
(.seq 
(.region [v 2 (.mv (.c (.int .i64 3))), v 3 (.mv (.c (.int .u8 128))), v 4 (.mv (.c (.int .u8 191)))]) .ret) 
(.seq 
(.region [m 36 0, v 37 (.bin .eql .any (.t 36) (.c (.int .u8 244))), m 35 37]) 
(.cond (.t 35) 
(.seq 
(.region [v 2 (.mv (.c (.int .i64 3))), v 3 (.mv (.c (.int .u8 128))), v 4 (.mv (.c (.int .u8 143)))]) .ret) .skip))))))))))))))) 
(.seq 
(.region [v 2 (.mv (.c (.int .i64 0))), v 3 (.mv (.c (.int .u8 0))), v 4 (.mv (.c (.int .u8 0)))]) .ret))),
 [.tmp 2, .tmp 3, .tmp 4]⟩
/-- chars.Number -/
def c_chars_Number : DFunc := ⟨35, 
(.seq 
(.region [v 4 (.mv (.c (.int .i64 0))), v 5 (.mv (.c (.int .i64 0)))]) 
(.seq 
(.region [v 6 (.mv (.c (.int .i64 0))), v 7 (.mv (.c (.int .i64 0)))]) 
(.seq 
(.block 0 
(.loop 
(.seq 
(.seq 
(.region [m 9 7, m 10 0, v 11 (.len true (.t 10)), v 12 (.bin .lss .any (.t 9) (.t 11))]) 
(.cond (.t 12) .skip (.exit 0))) 
(.block 1 
(.seq 
(.region [m 13 0, m 14 7, v 15 (.iaddr 1 (.t 13) (.t 14)), v 16 (.load none (.t 15)), v 17 (.call (.f 100) [(.t 16)] false), m 8 17]) 
(.seq 
(.seq 
(.region [m 18 8, v 19 (.bin .lss .any (.t 18) (.c (.int .i64 0))), m 20 19, w 21 (.mv (.t 8)) 20 false, w 22 (.mv (.t 1)) 20 false, w 23 (.bin .geq .any (.t 21) (.t 22)) 20 false, v 24 (.pick (.t 20) (.c (.bool true)) (.t 23))]) 
(.cond (.t 24) (.exit 0) .skip)) 
(.seq 
(.region [m 25 6, m 26 1, v 27 (.bin .mul .any (.t 25) (.t 26)), m 28 8, v 29 (.bin .add .any (.t 27) (.t 28)), v 30 (.minmax false (.t 29) (.c (.int .i64 1114112))), m 6 30]) 
(.region [m 31 7, v 32 (.bin .add .any (.t 31) (.c (.int .i64 1))), m 7 32])))))))) 
(.seq 
(.region [m 33 6, m 34 7, m 4 33, m 5 34]) .ret)))),
 [.tmp 4, .tmp 5]⟩
/-- (*lex.Lexer).declare -/
def c_lex_Lexer_declare : DFunc := ⟨51, 
(.block 0 
(.seq 
(.region [m 5 0, v 6 (.call (.f 101) [(.t 5), (.c (.str [45, 45]))] false), m 4 6]) 
(.cond (.t 4) 
(.seq 
(.region [m 7 0, v 8 (.nilc (.t 7)), v 9 (.faddr 1 (.t 8)), v 10 (.load none (.t 9)), v 11 (.bin .add .any (.t 10) (.c (.int .i64 2))), v 12 (.nilc (.t 7)), v 13 (.faddr 1 (.t 12)), u (.store 1 (.t 13) (.t 11))]) 
(.region [m 14 0, v 15 (.call (.f 102) [(.t 14)] false)])) 
(.seq 
(.region [m 17 0, v 18 (.call (.f 101) [(.t 17), (.c (.str [100, 111, 99, 116, 121, 112, 101]))] false), m 16 18]) 
(.cond (.t 16) 
(.seq 
(.region [m 19 0, v 20 (.nilc (.t 19)), v 21 (.faddr 1 (.t 20)), v 22 (.load none (.t 21)), v 23 (.bin .add .any (.t 22) (.c (.int .i64 7))), v 24 (.nilc (.t 19)), v 25 (.faddr 1 (.t 24)), u (.store 1 (.t 25) (.t 23))]) 
(.region [m 26 0, v 27 (.call (.f 103) [(.t 26)] false)])) 
(.seq 
(.region [m 29 0, v 30 (.nilc (.t 29)), v 31 (.faddr 4 (.t 30)), v 32 (.load none (.t 31)), m 33 32, w 34 (.mv (.t 0)) 33 true, w 35 (.call (.f 75) [(.t 34), (.c (.int .i64 0))] false) 33 true, w 36 (.bin .eql .any (.t 35) (.c (.int .i32 91))) 33 true, v 37 (.pick (.t 33) (.t 36) (.c (.bool false))), m 38 37, w 39 (.mv (.t 0)) 38 true, w 40 (.call (.f 94) [(.t 39), (.c (.str [91, 67, 68, 65, 84, 65, 91]))] false) 38 true, v 41 (.pick (.t 38) (.t 40) (.c (.bool false))), m 28 41]) 
(.cond (.t 28) 
(.seq 
(.region [m 42 0, v 43 (.nilc (.t 42)), v 44 (.faddr 1 (.t 43)), v 45 (.load none (.t 44)), v 46 (.bin .add .any (.t 45) (.c (.int .i64 7))), v 47 (.nilc (.t 42)), v 48 (.faddr 1 (.t 47)), u (.store 1 (.t 48) (.t 46))]) 
(.region [m 49 0, v 50 (.call (.f 104) [(.t 49)] false)])) 
(.region [m 2 0, v 3 (.call (.f 92) [(.t 2)] false)])))))))),
 []⟩
/-- (*lex.Lexer).ending -/
def c_lex_Lexer_ending : DFunc := ⟨27, 
(.seq 
(.region [m 3 0, v 4 (.call (.f 68) [(.t 3)] false), m 2 4]) 
(.block 0 
(.seq 
(.region [m 10 2, v 11 (.call (.f 18) [(.t 10)] false), m 9 11]) 
(.cond (.t 9) 
(.seq 
(.region [m 12 0, v 13 (.call (.f 90) [(.t 12)] false)]) 
(.region [m 14 0, v 15 (.call (.f 91) [(.t 14), (.c (.int .i64 3))] false)])) 
(.seq 
(.region [m 17 2, v 18 (.bin .eql .any (.t 17) (.c (.int .i32 62))), m 16 18]) 
(.cond (.t 16) .skip 
(.seq 
(.region [m 20 2, v 21 (.bin .eql .any (.t 20) (.c (.int .i32 (-1)))), m 19 21]) 
(.cond (.t 19) 
(.seq 
(.region [m 22 0, v 23 (.call (.f 90) [(.t 22)] false)]) 
(.region [m 24 0, v 25 (.mks false none (.int .i32 0) 2 [(0, (.c (.int .i32 60))), (1, (.c (.int .i32 47)))]), v 26 (.call (.f 74) [(.t 24), (.t 25)] false)])) 
(.seq 
(.region [m 5 0, v 6 (.call (.f 90) [(.t 5)] false)]) 
(.region [m 7 0, v 8 (.call (.f 92) [(.t 7)] false)])))))))))),
 []⟩
/-- (*lex.Lexer).back -/
def c_lex_Lexer_back : DFunc := ⟨9, 
(.region [m 2 0, v 3 (.nilc (.t 2)), v 4 (.faddr 1 (.t 3)), v 5 (.load none (.t 4)), v 6 (.bin .sub .any (.t 5) (.c (.int .i64 1))), v 7 (.nilc (.t 2)), v 8 (.faddr 1 (.t 7)), u (.store 1 (.t 8) (.t 6))]),
 []⟩
/-- (*lex.Lexer).tag -/
def c_lex_Lexer_tag : DFunc := ⟨18, 
(.seq 
(.region [m 5 1, m 6 0, v 7 (.call (.f 105) [(.t 6)] false), v 8 (.build [(.int .i64 0), (.str []), (.lst 0 0 []), (.bool false), (.str []), (.str []), (.str []), (.bool false), (.bool false), (.bool false)] [(0, 1, (.t 5)), (1, 1, (.t 7))]), v 4 (.alloc [(.int .i64 0), (.str []), (.lst 0 0 []), (.bool false), (.str []), (.str []), (.str []), (.bool false), (.bool false), (.bool false)] none), u (.store 10 (.t 4) (.t 8))]) 
(.seq 
(.region [m 9 0, v 10 (.call (.f 106) [(.t 9), (.t 4)] false)]) 
(.cond (.t 10) 
(.seq 
(.seq 
(.region [m 11 1, v 12 (.bin .eql .any (.t 11) (.c (.int .i64 3)))]) 
(.cond (.t 12) 
(.region [v 13 (.faddr 2 (.t 4)), u (.store 1 (.t 13) (.c (.lst 0 0 []))), v 14 (.faddr 3 (.t 4)), u (.store 1 (.t 14) (.c (.bool false)))]) .skip)) 
(.region [m 15 0, v 16 (.load (some 10) (.t 4)), v 17 (.call (.f 107) [(.t 15), (.t 16)] false)])) .skip))),
 []⟩
/-- (*lex.Lexer).bogus -/
def c_lex_Lexer_bogus : DFunc := ⟨29, 
(.seq 
(.region [v 2 (.mv (.c (.lst 0 0 [])))]) 
(.block 0 
(.loop 
(.block 1 
(.seq 
(.region [m 4 0, v 5 (.call (.f 68) [(.t 4)] false), m 3 5]) 
(.seq 
(.region [m 6 3]) 
(.block 2 
(.seq 
(.seq 
(.region [v 12 (.bin .eql .any (.t 6) (.c (.int .i32 62))), m 11 12]) 
(.cond (.t 11) .skip 
(.region [v 13 (.bin .eql .any (.t 6) (.c (.int .i32 (-1)))), m 11 13]))) 
(.cond (.t 11) 
(.seq 
(.seq 
(.region [m 14 3, v 15 (.bin .eql .any (.t 14) (.c (.int .i32 (-1))))]) 
(.cond (.t 15) 
(.region [m 16 0, v 17 (.call (.f 90) [(.t 16)] false)]) .skip)) 
(.seq 
(.region [m 18 0, m 19 2, v 20 (.call (.f 17) [(.t 19)] false), v 21 (.conv .bytesStr false (.t 20)), v 22 (.build [(.int .i64 0), (.str []), (.lst 0 0 []), (.bool false), (.str []), (.str []), (.str []), (.bool false), (.bool false), (.bool false)] [(0, 1, (.c (.int .i64 4))), (4, 1, (.t 21))]), v 23 (.call (.f 107) [(.t 18), (.t 22)] false)]) .ret)) 
(.seq 
(.region [v 25 (.bin .eql .any (.t 6) (.c (.int .i32 0))), m 24 25]) 
(.cond (.t 24) 
(.region [m 26 2, v 27 (.mks false none (.int .i32 0) 1 [(0, (.c (.int .i32 65533)))]), v 28 (.append false none 4 (.t 26) (.t 27)), m 2 28]) 
(.region [m 7 2, m 8 3, v 9 (.mks false none (.int .i32 0) 1 [(0, (.t 8))]), v 10 (.append false none 4 (.t 7) (.t 9)), m 2 10])))))))))))),
 []⟩
/-- (*lex.Lexer).closes -/
def c_lex_Lexer_closes : DFunc := ⟨53, 
(.seq 
(.region [v 2 (.mv (.c (.int .i64 0)))]) 
(.seq 
(.seq 
(.region [m 7 0, v 8 (.call (.f 75) [(.t 7), (.c (.int .i64 0))] false), v 9 (.bin .neq .any (.t 8) (.c (.int .i32 47))), m 10 9, w 11 (.mv (.t 0)) 10 false, w 12 (.call (.f 75) [(.t 11), (.c (.int .i64 1))] false) 10 false, w 13 (.call (.f 18) [(.t 12)] false) 10 false, w 14 (.un .not (.t 13)) 10 false, v 15 (.pick (.t 10) (.c (.bool true)) (.t 14)), m 16 15, w 17 (.mv (.t 0)) 16 false, w 18 (.nilc (.t 17)) 16 false, w 19 (.faddr 3 (.t 18)) 16 false, w 20 (.load none (.t 19)) 16 false, w 21 (.bin .eql .any (.t 20) (.c (.str []))) 16 false, v 22 (.pick (.t 16) (.c (.bool true)) (.t 21))]) 
(.cond (.t 22) 
(.seq 
(.region [v 2 (.mv (.c (.int .i64 0)))]) .ret) .skip)) 
(.seq 
(.region [v 3 (.mv (.c (.int .i64 1)))]) 
(.seq 
(.seq 
(.region [m 23 0, v 24 (.nilc (.t 23)), v 25 (.faddr 3 (.t 24)), v 26 (.load none (.t 25)), v 27 
(.range (.t 26))]) 
(.block 0 
(.loop 
(.seq 
(.region [v 28 (.next (.t 27)), v 29 (.extract (.t 28) 0)]) 
(.seq 
(.cond (.t 29) .skip (.exit 0)) 
(.block 1 
(.seq 
(.region [v 30 (.extract (.t 28) 2), m 5 30]) 
(.seq 
(.seq 
(.region [m 31 0, m 32 3, v 33 (.call (.f 75) [(.t 31), (.t 32)] false), v 34 (.call (.f 108) [(.t 33)] false), m 35 5, v 36 (.bin .neq .any (.t 34) (.t 35))]) 
(.cond (.t 36) 
(.seq 
(.region [v 2 (.mv (.c (.int .i64 0)))]) .ret) .skip)) 
(.region [m 37 3, v 38 (.bin .add .any (.t 37) (.c (.int .i64 1))), m 3 38]))))))))) 
(.seq 
(.seq 
(.region [m 39 0, m 40 3, v 41 (.call (.f 75) [(.t 39), (.t 40)] false), m 6 41]) 
(.seq 
(.region [m 42 6, v 43 (.call (.f 109) [(.t 42)] false), m 44 43, w 45 (.mv (.t 6)) 44 false, w 46 (.bin .eql .any (.t 45) (.c (.int .i32 47))) 44 false, v 47 (.pick (.t 44) (.c (.bool true)) (.t 46)), m 48 47, w 49 (.mv (.t 6)) 48 false, w 50 (.bin .eql .any (.t 49) (.c (.int .i32 62))) 48 false, v 51 (.pick (.t 48) (.c (.bool true)) (.t 50))]) 
(.cond (.t 51) 
(.seq 
(.region [m 52 3, m 2 52]) .ret) .skip))) 
(.seq 
(.region [v 2 (.mv (.c (.int .i64 0)))]) .ret)))))),
 [.tmp 2]⟩
/-- (*lex.Lexer).exact -/
def c_lex_Lexer_exact : DFunc := ⟨18, 
(.seq 
(.region [v 4 (.mv (.c (.bool false)))]) 
(.seq 
(.seq 
(.region [m 7 1, v 8 
(.range (.t 7))]) 
(.block 0 
(.loop 
(.seq 
(.region [v 9 (.next (.t 8)), v 10 (.extract (.t 9) 0)]) 
(.seq 
(.cond (.t 10) .skip (.exit 0)) 
(.block 1 
(.seq 
(.region [v 11 (.extract (.t 9) 1), v 12 (.extract (.t 9) 2), m 5 11, m 6 12]) 
(.seq 
(.region [m 13 0, m 14 5, v 15 (.call (.f 75) [(.t 13), (.t 14)] false), m 16 6, v 17 (.bin .neq .any (.t 15) (.t 16))]) 
(.cond (.t 17) 
(.seq 
(.region [v 4 (.mv (.c (.bool false)))]) .ret) .skip))))))))) 
(.seq 
(.region [v 4 (.mv (.c (.bool true)))]) .ret))),
 [.tmp 4]⟩
/-- (*lex.Lexer).word -/
def c_lex_Lexer_word : DFunc := ⟨19, 
(.seq 
(.region [v 2 (.mv (.c (.int .i64 0)))]) 
(.seq 
(.seq 
(.region [m 4 0, v 5 (.call (.f 101) [(.t 4), (.c (.str [115, 99, 114, 105, 112, 116]))] false), v 6 (.un .not (.t 5))]) 
(.cond (.t 6) 
(.seq 
(.region [v 2 (.mv (.c (.int .i64 0)))]) .ret) .skip)) 
(.seq 
(.seq 
(.region [m 7 0, v 8 (.call (.f 75) [(.t 7), (.c (.int .i64 6))] false), m 3 8]) 
(.seq 
(.region [m 9 3, v 10 (.call (.f 109) [(.t 9)] false), m 11 10, w 12 (.mv (.t 3)) 11 false, w 13 (.bin .eql .any (.t 12) (.c (.int .i32 47))) 11 false, v 14 (.pick (.t 11) (.c (.bool true)) (.t 13)), m 15 14, w 16 (.mv (.t 3)) 15 false, w 17 (.bin .eql .any (.t 16) (.c (.int .i32 62))) 15 false, v 18 (.pick (.t 15) (.c (.bool true)) (.t 17))]) 
(.cond (.t 18) 
(.seq 
(.region [v 2 (.mv (.c (.int .i64 7)))]) .ret) .skip))) 
(.seq 
(.region [v 2 (.mv (.c (.int .i64 0)))]) .ret)))),
 [.tmp 2]⟩
/-- (*lex.Lexer).take -/
def c_lex_Lexer_take : DFunc := ⟨13, 
(.seq 
(.region [m 4 1, v 5 (.mv (.c (.int .i64 0)))]) 
(.block 0 
(.loop 
(.seq 
(.region [v 6 (.bin .lss .any (.t 5) (.t 4))]) 
(.seq 
(.cond (.t 6) .skip (.exit 0)) 
(.seq 
(.block 1 
(.region [m 7 0, m 8 0, v 9 (.call (.f 68) [(.t 8)] false), v 10 (.mks false none (.int .i32 0) 1 [(0, (.t 9))]), v 11 (.call (.f 74) [(.t 7), (.t 10)] false)])) 
(.region [v 12 (.bin .add .any (.t 5) (.c (.int .i64 1))), m 5 12]))))))),
 []⟩
/-- slices.rotateLeft[int] -/
def c_slices_rotateLeft_int : DFunc := ⟨14, 
(.seq 
(.region [m 4 0, m 5 1, v 6 (.slice 1 (.t 4) none (some (.t 5)) none), v 7 (.call (.f 83) [(.t 6)] false)]) 
(.seq 
(.region [m 8 0, m 9 1, v 10 (.slice 1 (.t 8) (some (.t 9)) none none), v 11 (.call (.f 83) [(.t 10)] false)]) 
(.region [m 12 0, v 13 (.call (.f 83) [(.t 12)] false)]))),
 []⟩
/-- slices.Clone[[]int,int] -/
def c_slices_Clone_int_int : DFunc := ⟨8, 
(.seq 
(.region [v 2 (.mv (.c (.lst 0 0 [])))]) 
(.seq 
(.seq 
(.region [m 3 0, v 4 (.bin .eql .sl (.t 3) (.c (.lst 0 0 [])))]) 
(.cond (.t 4) 
(.seq 
(.region [v 2 (.mv (.c (.lst 0 0 [])))]) .ret) .skip)) 
(.seq 
(.region [v 5 (.mks true none (.int .i64 0) 0 []), m 6 0, v 7 (.append true none 8 (.t 5) (.t 6)), m 2 7]) .ret))),
 [.tmp 2]⟩
/-- ser.Raw -/
def c_ser_Raw : DFunc := ⟨6, 
(.seq 
(.region [v 2 (.mv (.c (.bool false)))]) 
(.seq 
(.region [v 3 (.load none (.g 2)), m 4 0, v 5 (.call (.f 43) [(.t 3), (.t 4)] false), m 2 5]) .ret)),
 [.tmp 2]⟩
/-- text.Hex -/
def c_text_Hex : DFunc := ⟨31, 
(.seq 
(.region [v 2 (.mv (.c (.int .i64 0)))]) 
(.seq 
(.block 0 
(.seq 
(.region [m 4 0, v 5 (.call (.f 19) [(.t 4)] false), m 3 5]) 
(.cond (.t 3) 
(.seq 
(.region [m 6 0, v 7 (.bin .sub .any (.t 6) (.c (.int .i32 48))), v 8 (.conv (.int .i64) false (.t 7)), m 2 8]) .ret) 
(.seq 
(.region [m 10 0, v 11 (.bin .geq .any (.t 10) (.c (.int .i32 97))), m 12 11, w 13 (.mv (.t 0)) 12 true, w 14 (.bin .leq .any (.t 13) (.c (.int .i32 102))) 12 true, v 15 (.pick (.t 12) (.t 14) (.c (.bool false))), m 9 15]) 
(.cond (.t 9) 
(.seq 
(.region [m 16 0, v 17 (.bin .sub .any (.t 16) (.c (.int .i32 97))), v 18 (.conv (.int .i64) false (.t 17)), v 19 (.bin .add .any (.t 18) (.c (.int .i64 10))), m 2 19]) .ret) 
(.seq 
(.region [m 21 0, v 22 (.bin .geq .any (.t 21) (.c (.int .i32 65))), m 23 22, w 24 (.mv (.t 0)) 23 true, w 25 (.bin .leq .any (.t 24) (.c (.int .i32 70))) 23 true, v 26 (.pick (.t 23) (.t 25) (.c (.bool false))), m 20 26]) 
(.cond (.t 20) 
(.seq 
(.region [m 27 0, v 28 (.bin .sub .any (.t 27) (.c (.int .i32 65))), v 29 (.conv (.int .i64) false (.t 28)), v 30 (.bin .add .any (.t 29) (.c (.int .i64 10))), m 2 30]) .ret) .skip))))))) 
(.seq 
(.region [v 2 (.mv (.c (.int .i64 (-1))))]) .ret))),
 [.tmp 2]⟩
/-- (*lex.Lexer).stands -/
def c_lex_Lexer_stands : DFunc := ⟨20, 
(.seq 
(.region [v 4 (.mv (.c (.bool false)))]) 
(.seq 
(.seq 
(.region [m 7 1, v 8 
(.range (.t 7))]) 
(.block 0 
(.loop 
(.seq 
(.region [v 9 (.next (.t 8)), v 10 (.extract (.t 9) 0)]) 
(.seq 
(.cond (.t 10) .skip (.exit 0)) 
(.block 1 
(.seq 
(.region [v 11 (.extract (.t 9) 1), v 12 (.extract (.t 9) 2), m 5 11, m 6 12]) 
(.seq 
(.region [m 13 0, m 14 5, v 15 (.call (.f 75) [(.t 13), (.t 14)] false), v 16 (.call (.f 108) [(.t 15)] false), m 17 6, v 18 (.call (.f 108) [(.t 17)] false), v 19 (.bin .neq .any (.t 16) (.t 18))]) 
(.cond (.t 19) 
(.seq 
(.region [v 4 (.mv (.c (.bool false)))]) .ret) .skip))))))))) 
(.seq 
(.region [v 4 (.mv (.c (.bool true)))]) .ret))),
 [.tmp 4]⟩
/-- (*lex.Lexer).comment -/
def c_lex_Lexer_comment : DFunc := ⟨108, 
(.seq 
(.region [v 1 (.box (.t 0) 1)]) 
(.seq 
(.region [v 2 (.alloc [(.lst 0 0 [])] none)]) 
(.seq 
(.region [v 8 (.mkfn (.func 110) [] [(.t 1), (.t 2)]), m 3 8]) 
(.seq 
(.seq 
(.region [v 9 (.load none (.t 1)), v 10 (.call (.f 75) [(.t 9), (.c (.int .i64 0))] false), v 11 (.bin .eql .any (.t 10) (.c (.int .i32 62)))]) 
(.cond (.t 11) 
(.seq 
(.region [v 12 (.load none (.t 1)), v 13 (.nilc (.t 12)), v 14 (.faddr 1 (.t 13)), v 15 (.load none (.t 14)), v 16 (.bin .add .any (.t 15) (.c (.int .i64 1))), v 17 (.nilc (.t 12)), v 18 (.faddr 1 (.t 17)), u (.store 1 (.t 18) (.t 16))]) 
(.seq 
(.region [m 19 3, v 20 (.call (.t 19) [] false)]) .ret)) .skip)) 
(.seq 
(.seq 
(.region [v 21 (.load none (.t 1)), v 22 (.call (.f 75) [(.t 21), (.c (.int .i64 0))] false), v 23 (.bin .eql .any (.t 22) (.c (.int .i32 45))), m 24 23, w 25 (.load none (.t 1)) 24 true, w 26 (.call (.f 75) [(.t 25), (.c (.int .i64 1))] false) 24 true, w 27 (.bin .eql .any (.t 26) (.c (.int .i32 62))) 24 true, v 28 (.pick (.t 24) (.t 27) (.c (.bool false)))]) 
(.cond (.t 28) 
(.seq 
(.region [v 29 (.load none (.t 1)), v 30 (.nilc (.t 29)), v 31 (.faddr 1 (.t 30)), v 32 (.load none (.t 31)), v 33 (.bin .add .any (.t 32) (.c (.int .i64 2))), v 34 (.nilc (.t 29)), v 35 (.faddr 1 (.t 34)), u (.store 1 (.t 35) (.t 33))]) 
(.seq 
(.region [m 36 3, v 37 (.call (.t 36) [] false)]) .ret)) .skip)) 
(.block 0 
(.loop 
(.block 1 
(.seq 
(.region [v 38 (.load none (.t 1)), v 39 (.call (.f 68) [(.t 38)] false), m 4 39]) 
(.block 2 
(.seq 
(.region [m 45 4, v 46 (.bin .eql .any (.t 45) (.c (.int .i32 (-1)))), m 44 46]) 
(.cond (.t 44) 
(.seq 
(.region [v 47 (.load none (.t 1)), v 48 (.call (.f 90) [(.t 47)] false)]) 
(.seq 
(.seq 
(.region [v 49 (.mks false none (.str []) 3 [(0, (.c (.str [45, 45, 33]))), (1, (.c (.str [45, 45]))), (2, (.c (.str [45])))]), v 50 (.len true (.t 49)), v 51 (.mv (.c (.int .i64 0)))]) 
(.block 3 
(.loop 
(.seq 
(.region [v 52 (.bin .lss .any (.t 51) (.t 50))]) 
(.seq 
(.cond (.t 52) .skip (.exit 3)) 
(.seq 
(.block 4 
(.seq 
(.region [v 53 (.iaddr 1 (.t 49) (.t 51)), v 54 (.load none (.t 53)), m 6 54]) 
(.seq 
(.region [v 55 (.load none (.t 2)), v 56 (.conv .runesStr false (.t 55)), m 7 56]) 
(.seq 
(.region [m 57 7, m 58 6, v 59 (.call (.f 111) [(.t 57), (.t 58)] false)]) 
(.cond (.t 59) 
(.seq 
(.region [v 60 (.load none (.t 2)), v 61 (.load none (.t 2)), v 62 (.len true (.t 61)), m 63 6, v 64 (.len false (.t 63)), v 65 (.bin .sub .any (.t 62) (.t 64)), v 66 (.slice 1 (.t 60) none (some (.t 65)) none), u (.store 1 (.t 2) (.t 66))]) (.exit 3)) .skip))))) 
(.region [v 67 (.bin .add .any (.t 51) (.c (.int .i64 1))), m 51 67]))))))) 
(.seq 
(.region [m 68 3, v 69 (.call (.t 68) [] false)]) .ret))) 
(.seq 
(.region [m 71 4, v 72 (.bin .eql .any (.t 71) (.c (.int .i32 45))), m 73 72, w 74 (.load none (.t 1)) 73 true, w 75 (.call (.f 94) [(.t 74), (.c (.str [45, 62]))] false) 73 true, v 76 (.pick (.t 73) (.t 75) (.c (.bool false))), m 70 76]) 
(.cond (.t 70) 
(.seq 
(.region [v 77 (.load none (.t 1)), v 78 (.nilc (.t 77)), v 79 (.faddr 1 (.t 78)), v 80 (.load none (.t 79)), v 81 (.bin .add .any (.t 80) (.c (.int .i64 2))), v 82 (.nilc (.t 77)), v 83 (.faddr 1 (.t 82)), u (.store 1 (.t 83) (.t 81))]) 
(.seq 
(.region [m 84 3, v 85 (.call (.t 84) [] false)]) .ret)) 
(.seq 
(.region [m 87 4, v 88 (.bin .eql .any (.t 87) (.c (.int .i32 45))), m 89 88, w 90 (.load none (.t 1)) 89 true, w 91 (.call (.f 94) [(.t 90), (.c (.str [45, 33, 62]))] false) 89 true, v 92 (.pick (.t 89) (.t 91) (.c (.bool false))), m 86 92]) 
(.cond (.t 86) 
(.seq 
(.region [v 93 (.load none (.t 1)), v 94 (.nilc (.t 93)), v 95 (.faddr 1 (.t 94)), v 96 (.load none (.t 95)), v 97 (.bin .add .any (.t 96) (.c (.int .i64 3))), v 98 (.nilc (.t 93)), v 99 (.faddr 1 (.t 98)), u (.store 1 (.t 99) (.t 97))]) 
(.seq 
(.region [m 100 3, v 101 (.call (.t 100) [] false)]) .ret)) 
(.seq 
(.region [m 103 4, v 104 (.bin .eql .any (.t 103) (.c (.int .i32 0))), m 102 104]) 
(.cond (.t 102) 
(.region [v 105 (.load none (.t 2)), v 106 (.mks false none (.int .i32 0) 1 [(0, (.c (.int .i32 65533)))]), v 107 (.append false none 4 (.t 105) (.t 106)), u (.store 1 (.t 2) (.t 107))]) 
(.region [v 40 (.load none (.t 2)), m 41 4, v 42 (.mks false none (.int .i32 0) 1 [(0, (.t 41))]), v 43 (.append false none 4 (.t 40) (.t 42)), u (.store 1 (.t 2) (.t 43))]))))))))))))))))))),
 []⟩
/-- (*lex.Lexer).doctype -/
def c_lex_Lexer_doctype : DFunc := ⟨163, 
(.seq 
(.region [v 1 (.box (.t 0) 1)]) 
(.seq 
(.region [v 11 (.build [(.int .i64 0), (.str []), (.lst 0 0 []), (.bool false), (.str []), (.str []), (.str []), (.bool false), (.bool false), (.bool false)] [(0, 1, (.c (.int .i64 5)))]), v 2 (.alloc [(.int .i64 0), (.str []), (.lst 0 0 []), (.bool false), (.str []), (.str []), (.str []), (.bool false), (.bool false), (.bool false)] none), u (.store 10 (.t 2) (.t 11))]) 
(.seq 
(.region [v 12 (.mkfn (.func 112) [] [(.t 2), (.t 1)]), m 3 12]) 
(.seq 
(.region [v 13 (.load none (.t 1)), v 14 (.call (.f 113) [(.t 13)] false)]) 
(.seq 
(.seq 
(.region [v 15 (.load none (.t 1)), v 16 (.call (.f 75) [(.t 15), (.c (.int .i64 0))] false), m 4 16]) 
(.seq 
(.region [m 17 4, v 18 (.bin .eql .any (.t 17) (.c (.int .i32 62))), m 19 18, w 20 (.mv (.t 4)) 19 false, w 21 (.bin .eql .any (.t 20) (.c (.int .i32 (-1)))) 19 false, v 22 (.pick (.t 19) (.c (.bool true)) (.t 21))]) 
(.cond (.t 22) 
(.seq 
(.seq 
(.region [m 23 4, v 24 (.bin .eql .any (.t 23) (.c (.int .i32 62)))]) 
(.cond (.t 24) 
(.region [v 25 (.load none (.t 1)), v 26 (.nilc (.t 25)), v 27 (.faddr 1 (.t 26)), v 28 (.load none (.t 27)), v 29 (.bin .add .any (.t 28) (.c (.int .i64 1))), v 30 (.nilc (.t 25)), v 31 (.faddr 1 (.t 30)), u (.store 1 (.t 31) (.t 29))]) .skip)) 
(.seq 
(.region [m 32 3, v 33 (.call (.t 32) [(.c (.bool true))] false)]) .ret)) .skip))) 
(.seq 
(.region [v 5 (.mv (.c (.lst 0 0 [])))]) 
(.seq 
(.seq 
(.region [v 34 (.load none (.t 1)), v 35 (.call (.f 75) [(.t 34), (.c (.int .i64 0))] false), m 6 35]) 
(.block 0 
(.loop 
(.seq 
(.seq 
(.region [m 36 6, v 37 (.call (.f 109) [(.t 36)] false), v 38 (.un .not (.t 37)), m 39 38, w 40 (.mv (.t 6)) 39 true, w 41 (.bin .neq .any (.t 40) (.c (.int .i32 62))) 39 true, v 42 (.pick (.t 39) (.t 41) (.c (.bool false))), m 43 42, w 44 (.mv (.t 6)) 43 true, w 45 (.bin .neq .any (.t 44) (.c (.int .i32 (-1)))) 43 true, v 46 (.pick (.t 43) (.t 45) (.c (.bool false)))]) 
(.cond (.t 46) .skip (.exit 0))) 
(.seq 
(.block 1 
(.seq 
(.region [v 49 (.load none (.t 1)), v 50 (.nilc (.t 49)), v 51 (.faddr 1 (.t 50)), v 52 (.load none (.t 51)), v 53 (.bin .add .any (.t 52) (.c (.int .i64 1))), v 54 (.nilc (.t 49)), v 55 (.faddr 1 (.t 54)), u (.store 1 (.t 55) (.t 53))]) 
(.seq 
(.seq 
(.region [m 56 6, v 57 (.bin .eql .any (.t 56) (.c (.int .i32 0)))]) 
(.cond (.t 57) 
(.region [v 6 (.mv (.c (.int .i32 65533)))]) .skip)) 
(.region [m 58 5, m 59 6, v 60 (.call (.f 108) [(.t 59)] false), v 61 (.mks false none (.int .i32 0) 1 [(0, (.t 60))]), v 62 (.append false none 4 (.t 58) (.t 61)), m 5 62])))) 
(.region [v 47 (.load none (.t 1)), v 48 (.call (.f 75) [(.t 47), (.c (.int .i64 0))] false), m 6 48])))))) 
(.seq 
(.region [m 63 5, v 64 (.call (.f 17) [(.t 63)] false), v 65 (.conv .bytesStr false (.t 64)), v 66 (.faddr 1 (.t 2)), u (.store 1 (.t 66) (.t 65))]) 
(.seq 
(.region [v 67 (.load none (.t 1)), v 68 (.call (.f 113) [(.t 67)] false)]) 
(.seq 
(.region [v 69 (.load none (.t 1)), v 71 (.load none (.t 1)), ⟨(some 70), .call (.f 101) [(.t 69), (.c (.str [112, 117, 98, 108, 105, 99]))] false, none, [((.t 1), none, 71, none)]⟩, v 72 (.call (.f 101) [(.t 71), (.c (.str [115, 121, 115, 116, 101, 109]))] false), m 7 70, m 8 72]) 
(.seq 
(.seq 
(.region [v 73 (.load none (.t 1)), v 74 (.call (.f 75) [(.t 73), (.c (.int .i64 0))] false), m 9 74]) 
(.block 2 
(.seq 
(.region [m 76 9, v 77 (.bin .eql .any (.t 76) (.c (.int .i32 62))), m 75 77]) 
(.cond (.t 75) 
(.seq 
(.region [v 78 (.load none (.t 1)), v 79 (.nilc (.t 78)), v 80 (.faddr 1 (.t 79)), v 81 (.load none (.t 80)), v 82 (.bin .add .any (.t 81) (.c (.int .i64 1))), v 83 (.nilc (.t 78)), v 84 (.faddr 1 (.t 83)), u (.store 1 (.t 84) (.t 82))]) 
(.seq 
(.region [m 85 3, v 86 (.call (.t 85) [(.c (.bool false))] false)]) .ret)) 
(.seq 
(.region [m 88 9, v 89 (.bin .eql .any (.t 88) (.c (.int .i32 (-1)))), m 87 89]) 
(.cond (.t 87) 
(.seq 
(.region [m 90 3, v 91 (.call (.t 90) [(.c (.bool true))] false)]) .ret) 
(.seq 
(.region [m 93 7, v 94 (.un .not (.t 93)), m 95 94, w 96 (.mv (.t 8)) 95 true, w 97 (.un .not (.t 96)) 95 true, v 98 (.pick (.t 95) (.t 97) (.c (.bool false))), m 92 98]) 
(.cond (.t 92) 
(.seq 
(.region [v 99 (.faddr 9 (.t 2)), u (.store 1 (.t 99) (.c (.bool true)))]) 
(.seq 
(.region [v 100 (.load none (.t 1)), v 101 (.call (.f 114) [(.t 100)] false)]) 
(.seq 
(.region [m 102 3, v 103 (.call (.t 102) [(.c (.bool true))] false)]) .ret))) .skip)))))))) 
(.seq 
(.region [v 104 (.load none (.t 1)), v 105 (.nilc (.t 104)), v 106 (.faddr 1 (.t 105)), v 107 (.load none (.t 106)), v 108 (.bin .add .any (.t 107) (.c (.int .i64 6))), v 109 (.nilc (.t 104)), v 110 (.faddr 1 (.t 109)), u (.store 1 (.t 110) (.t 108))]) 
(.seq 
(.region [v 111 (.load none (.t 1)), v 112 (.call (.f 113) [(.t 111)] false)]) 
(.seq 
(.region [v 10 (.mv (.c (.bool false)))]) 
(.seq 
(.seq 
(.region [m 113 7]) 
(.cond (.t 113) 
(.seq 
(.seq 
(.region [v 115 (.load none (.t 1)), v 116 (.call (.f 115) [(.t 115)] false), m 114 116, v 117 (.extract (.t 114) 0), v 118 (.extract (.t 114) 1), v 119 (.extract (.t 114) 2), v 120 (.faddr 5 (.t 2)), u (.store 1 (.t 120) (.t 117)), v 121 (.faddr 7 (.t 2)), u (.store 1 (.t 121) (.t 118)), m 10 119]) 
(.seq 
(.region [m 122 10, v 123 (.un .not (.t 122))]) 
(.cond (.t 123) 
(.seq 
(.region [m 124 3, v 125 (.call (.t 124) [(.c (.bool true))] false)]) .ret) .skip))) 
(.seq 
(.region [v 126 (.load none (.t 1)), v 127 (.call (.f 113) [(.t 126)] false)]) 
(.seq 
(.region [v 128 (.load none (.t 1)), v 129 (.call (.f 75) [(.t 128), (.c (.int .i64 0))] false), v 130 (.bin .eql .any (.t 129) (.c (.int .i32 62)))]) 
(.cond (.t 130) 
(.seq 
(.region [v 131 (.load none (.t 1)), v 132 (.nilc (.t 131)), v 133 (.faddr 1 (.t 132)), v 134 (.load none (.t 133)), v 135 (.bin .add .any (.t 134) (.c (.int .i64 1))), v 136 (.nilc (.t 131)), v 137 (.faddr 1 (.t 136)), u (.store 1 (.t 137) (.t 135))]) 
(.seq 
(.region [m 138 3, v 139 (.call (.t 138) [(.c (.bool false))] false)]) .ret)) .skip)))) .skip)) 
(.seq 
(.seq 
(.region [v 141 (.load none (.t 1)), v 142 (.call (.f 115) [(.t 141)] false), m 140 142, v 143 (.extract (.t 140) 0), v 144 (.extract (.t 140) 1), v 145 (.extract (.t 140) 2), v 146 (.faddr 6 (.t 2)), u (.store 1 (.t 146) (.t 143)), v 147 (.faddr 8 (.t 2)), u (.store 1 (.t 147) (.t 144)), m 10 145]) 
(.seq 
(.region [m 148 10, v 149 (.un .not (.t 148))]) 
(.cond (.t 149) 
(.seq 
(.region [m 150 3, v 151 (.call (.t 150) [(.c (.bool true))] false)]) .ret) .skip))) 
(.seq 
(.region [v 152 (.load none (.t 1)), v 153 (.call (.f 113) [(.t 152)] false)]) 
(.seq 
(.seq 
(.region [v 154 (.load none (.t 1)), v 155 (.call (.f 75) [(.t 154), (.c (.int .i64 0))] false), v 156 (.bin .eql .any (.t 155) (.c (.int .i32 (-1))))]) 
(.cond (.t 156) 
(.seq 
(.region [m 157 3, v 158 (.call (.t 157) [(.c (.bool true))] false)]) .ret) .skip)) 
(.seq 
(.region [v 159 (.load none (.t 1)), v 160 (.call (.f 114) [(.t 159)] false)]) 
(.region [m 161 3, v 162 (.call (.t 161) [(.c (.bool false))] false)])))))))))))))))))))),
 []⟩
/-- (*lex.Lexer).section -/
def c_lex_Lexer_section : DFunc := ⟨32, 
(.block 0 
(.loop 
(.block 1 
(.seq 
(.region [m 3 0, v 4 (.call (.f 68) [(.t 3)] false), m 2 4]) 
(.seq 
(.seq 
(.region [m 5 2, v 6 (.bin .eql .any (.t 5) (.c (.int .i32 (-1))))]) 
(.cond (.t 6) 
(.seq 
(.region [m 7 0, v 8 (.call (.f 90) [(.t 7)] false)]) .ret) .skip)) 
(.seq 
(.seq 
(.region [m 9 2, v 10 (.bin .eql .any (.t 9) (.c (.int .i32 93))), m 11 10, w 12 (.mv (.t 0)) 11 true, w 13 (.call (.f 75) [(.t 12), (.c (.int .i64 0))] false) 11 true, w 14 (.bin .eql .any (.t 13) (.c (.int .i32 93))) 11 true, v 15 (.pick (.t 11) (.t 14) (.c (.bool false))), m 16 15, w 17 (.mv (.t 0)) 16 true, w 18 (.call (.f 75) [(.t 17), (.c (.int .i64 1))] false) 16 true, w 19 (.bin .eql .any (.t 18) (.c (.int .i32 62))) 16 true, v 20 (.pick (.t 16) (.t 19) (.c (.bool false)))]) 
(.cond (.t 20) 
(.seq 
(.region [m 21 0, v 22 (.nilc (.t 21)), v 23 (.faddr 1 (.t 22)), v 24 (.load none (.t 23)), v 25 (.bin .add .any (.t 24) (.c (.int .i64 2))), v 26 (.nilc (.t 21)), v 27 (.faddr 1 (.t 26)), u (.store 1 (.t 27) (.t 25))]) .ret) .skip)) 
(.region [m 28 0, m 29 2, v 30 (.mks false none (.int .i32 0) 1 [(0, (.t 29))]), v 31 (.call (.f 74) [(.t 28), (.t 30)] false)]))))))),
 []⟩
/-- (*lex.Lexer).name -/
def c_lex_Lexer_name : DFunc := ⟨33, 
(.seq 
(.region [v 2 (.mv (.c (.str [])))]) 
(.seq 
(.region [v 3 (.mv (.c (.lst 0 0 [])))]) 
(.block 0 
(.loop 
(.block 1 
(.seq 
(.region [m 5 0, v 6 (.call (.f 68) [(.t 5)] false), m 4 6]) 
(.seq 
(.seq 
(.region [m 7 4, v 8 (.call (.f 109) [(.t 7)] false), m 9 8, w 10 (.mv (.t 4)) 9 false, w 11 (.bin .eql .any (.t 10) (.c (.int .i32 47))) 9 false, v 12 (.pick (.t 9) (.c (.bool true)) (.t 11)), m 13 12, w 14 (.mv (.t 4)) 13 false, w 15 (.bin .eql .any (.t 14) (.c (.int .i32 62))) 13 false, v 16 (.pick (.t 13) (.c (.bool true)) (.t 15)), m 17 16, w 18 (.mv (.t 4)) 17 false, w 19 (.bin .eql .any (.t 18) (.c (.int .i32 (-1)))) 17 false, v 20 (.pick (.t 17) (.c (.bool true)) (.t 19))]) 
(.cond (.t 20) 
(.seq 
(.region [m 21 0, v 22 (.call (.f 90) [(.t 21)] false)]) 
(.seq 
(.region [m 23 3, v 24 (.call (.f 17) [(.t 23)] false), v 25 (.conv .bytesStr false (.t 24)), m 2 25]) .ret)) .skip)) 
(.seq 
(.seq 
(.region [m 26 4, v 27 (.bin .eql .any (.t 26) (.c (.int .i32 0)))]) 
(.cond (.t 27) 
(.region [v 4 (.mv (.c (.int .i32 65533)))]) .skip)) 
(.region [m 28 3, m 29 4, v 30 (.call (.f 108) [(.t 29)] false), v 31 (.mks false none (.int .i32 0) 1 [(0, (.t 30))]), v 32 (.append false none 4 (.t 28) (.t 31)), m 3 32]))))))))),
 [.tmp 2]⟩
/-- (*lex.Lexer).attrs -/
def c_lex_Lexer_attrs : DFunc := ⟨36, 
(.seq 
(.region [v 4 (.mv (.c (.bool false)))]) 
(.block 0 
(.loop 
(.block 1 
(.seq 
(.region [m 6 0, v 7 (.call (.f 68) [(.t 6)] false), m 5 7]) 
(.block 2 
(.seq 
(.region [m 15 5, v 16 (.bin .eql .any (.t 15) (.c (.int .i32 (-1)))), m 14 16]) 
(.cond (.t 14) 
(.seq 
(.region [m 17 0, v 18 (.call (.f 90) [(.t 17)] false)]) 
(.seq 
(.region [v 4 (.mv (.c (.bool false)))]) .ret)) 
(.seq 
(.region [m 20 5, v 21 (.call (.f 109) [(.t 20)] false), m 19 21]) 
(.cond (.t 19) .skip 
(.seq 
(.region [m 23 5, v 24 (.bin .eql .any (.t 23) (.c (.int .i32 62))), m 22 24]) 
(.cond (.t 22) 
(.seq 
(.region [v 4 (.mv (.c (.bool true)))]) .ret) 
(.seq 
(.region [m 26 5, v 27 (.bin .eql .any (.t 26) (.c (.int .i32 47))), m 25 27]) 
(.cond (.t 25) 
(.seq 
(.region [m 28 0, v 29 (.call (.f 75) [(.t 28), (.c (.int .i64 0))] false), v 30 (.bin .eql .any (.t 29) (.c (.int .i32 62)))]) 
(.cond (.t 30) 
(.seq 
(.region [m 31 0, v 32 (.call (.f 68) [(.t 31)] false)]) 
(.seq 
(.region [m 33 1, v 34 (.nilc (.t 33)), v 35 (.faddr 3 (.t 34)), u (.store 1 (.t 35) (.c (.bool true)))]) 
(.seq 
(.region [v 4 (.mv (.c (.bool true)))]) .ret))) .skip)) 
(.seq 
(.region [m 8 0, v 9 (.call (.f 90) [(.t 8)] false)]) 
(.seq 
(.region [m 10 0, m 11 1, v 12 (.call (.f 116) [(.t 10), (.t 11)] false), v 13 (.un .not (.t 12))]) 
(.cond (.t 13) 
(.seq 
(.region [v 4 (.mv (.c (.bool false)))]) .ret) .skip))))))))))))))))),
 [.tmp 4]⟩
/-- (*lex.Lexer).emit -/
def c_lex_Lexer_emit : DFunc := ⟨24, 
(.seq 
(.region [v 3 (.box (.t 1) 10)]) 
(.seq 
(.region [m 4 0, v 5 (.call (.f 69) [(.t 4)] false)]) 
(.seq 
(.seq 
(.region [v 6 (.faddr 0 (.t 3)), v 7 (.load none (.t 6)), v 8 (.bin .eql .any (.t 7) (.c (.int .i64 2)))]) 
(.cond (.t 8) 
(.region [m 9 0, v 10 (.faddr 1 (.t 3)), v 11 (.load none (.t 10)), v 12 (.nilc (.t 9)), v 13 (.faddr 3 (.t 12)), u (.store 1 (.t 13) (.t 11))]) .skip)) 
(.region [m 14 0, m 15 0, v 16 (.nilc (.t 15)), v 17 (.faddr 5 (.t 16)), v 18 (.load none (.t 17)), v 19 (.load (some 10) (.t 3)), v 20 (.mks false (some 10) (.agg [(.int .i64 0), (.str []), (.lst 0 0 []), (.bool false), (.str []), (.str []), (.str []), (.bool false), (.bool false), (.bool false)]) 1 [(0, (.t 19))]), v 21 (.append false (some 10) 112 (.t 18) (.t 20)), v 22 (.nilc (.t 14)), v 23 (.faddr 5 (.t 22)), u (.store 1 (.t 23) (.t 21))])))),
 []⟩
/-- text.Small -/
def c_text_Small : DFunc := ⟨12, 
(.seq 
(.region [v 2 (.mv (.c (.int .i32 0)))]) 
(.seq 
(.seq 
(.region [m 3 0, v 4 (.bin .geq .any (.t 3) (.c (.int .i32 65))), m 5 4, w 6 (.mv (.t 0)) 5 true, w 7 (.bin .leq .any (.t 6) (.c (.int .i32 90))) 5 true, v 8 (.pick (.t 5) (.t 7) (.c (.bool false)))]) 
(.cond (.t 8) 
(.seq 
(.region [m 9 0, v 10 (.bin .add .any (.t 9) (.c (.int .i32 32))), m 2 10]) .ret) .skip)) 
(.seq 
(.region [m 11 0, m 2 11]) .ret))),
 [.tmp 2]⟩
/-- text.Blank -/
def c_text_Blank : DFunc := ⟨21, 
(.seq 
(.region [v 2 (.mv (.c (.bool false)))]) 
(.seq 
(.region [m 3 0, v 4 (.bin .eql .any (.t 3) (.c (.int .i32 9))), m 5 4, w 6 (.mv (.t 0)) 5 false, w 7 (.bin .eql .any (.t 6) (.c (.int .i32 10))) 5 false, v 8 (.pick (.t 5) (.c (.bool true)) (.t 7)), m 9 8, w 10 (.mv (.t 0)) 9 false, w 11 (.bin .eql .any (.t 10) (.c (.int .i32 12))) 9 false, v 12 (.pick (.t 9) (.c (.bool true)) (.t 11)), m 13 12, w 14 (.mv (.t 0)) 13 false, w 15 (.bin .eql .any (.t 14) (.c (.int .i32 13))) 13 false, v 16 (.pick (.t 13) (.c (.bool true)) (.t 15)), m 17 16, w 18 (.mv (.t 0)) 17 false, w 19 (.bin .eql .any (.t 18) (.c (.int .i32 32))) 17 false, v 20 (.pick (.t 17) (.c (.bool true)) (.t 19)), m 2 20]) .ret)),
 [.tmp 2]⟩
/-- (*lex.Lexer).comment$1 -/
def c_lex_Lexer_comment_1 : DFunc := ⟨8, 
(.region [v 2 (.load none (.t 0)), v 3 (.load none (.t 1)), ⟨(some 4), .call (.f 17) [(.t 3)] false, none, [((.t 0), none, 2, none)]⟩, v 5 (.conv .bytesStr false (.t 4)), v 6 (.build [(.int .i64 0), (.str []), (.lst 0 0 []), (.bool false), (.str []), (.str []), (.str []), (.bool false), (.bool false), (.bool false)] [(0, 1, (.c (.int .i64 4))), (4, 1, (.t 5))]), v 7 (.call (.f 107) [(.t 2), (.t 6)] false)]),
 []⟩
/-- strings.HasSuffix -/
def c_strings_HasSuffix : DFunc := ⟨8, 
(.seq 
(.region [v 4 (.mv (.c (.bool false)))]) 
(.seq 
(.region [m 5 0, m 6 1, v 7 (.call (.f 117) [(.t 5), (.t 6)] false), m 4 7]) .ret)),
 [.tmp 4]⟩
/-- (*lex.Lexer).doctype$1 -/
def c_lex_Lexer_doctype_1 : DFunc := ⟨13, 
(.seq 
(.region [v 4 (.faddr 9 (.t 1)), v 5 (.load none (.t 4)), m 6 5, w 7 (.mv (.t 0)) 6 false, v 8 (.pick (.t 6) (.c (.bool true)) (.t 7)), v 9 (.faddr 9 (.t 1)), u (.store 1 (.t 9) (.t 8))]) 
(.region [v 10 (.load none (.t 2)), v 11 (.load (some 10) (.t 1)), v 12 (.call (.f 107) [(.t 10), (.t 11)] false)])),
 []⟩
/-- (*lex.Lexer).blanks -/
def c_lex_Lexer_blanks : DFunc := ⟨12, 
(.block 0 
(.loop 
(.seq 
(.seq 
(.region [m 2 0, v 3 (.call (.f 75) [(.t 2), (.c (.int .i64 0))] false), v 4 (.call (.f 109) [(.t 3)] false)]) 
(.cond (.t 4) .skip (.exit 0))) 
(.block 1 
(.region [m 5 0, v 6 (.nilc (.t 5)), v 7 (.faddr 1 (.t 6)), v 8 (.load none (.t 7)), v 9 (.bin .add .any (.t 8) (.c (.int .i64 1))), v 10 (.nilc (.t 5)), v 11 (.faddr 1 (.t 10)), u (.store 1 (.t 11) (.t 9))]))))),
 []⟩
/-- (*lex.Lexer).skip -/
def c_lex_Lexer_skip : DFunc := ⟨10, 
(.block 0 
(.loop 
(.block 1 
(.seq 
(.region [m 2 0, v 3 (.call (.f 68) [(.t 2)] false)]) 
(.block 2 
(.seq 
(.region [v 5 (.bin .eql .any (.t 3) (.c (.int .i32 62))), m 4 5]) 
(.cond (.t 4) .ret 
(.seq 
(.region [v 7 (.bin .eql .any (.t 3) (.c (.int .i32 (-1)))), m 6 7]) 
(.cond (.t 6) 
(.seq 
(.region [m 8 0, v 9 (.call (.f 90) [(.t 8)] false)]) .ret) .skip))))))))),
 []⟩
/-- (*lex.Lexer).quoted -/
def c_lex_Lexer_quoted : DFunc := ⟨55, 
(.seq 
(.region [v 2 (.mv (.c (.str []))), v 3 (.mv (.c (.bool false))), v 4 (.mv (.c (.bool false)))]) 
(.seq 
(.region [m 8 0, v 9 (.call (.f 75) [(.t 8), (.c (.int .i64 0))] false), m 5 9]) 
(.seq 
(.seq 
(.region [m 10 5, v 11 (.bin .neq .any (.t 10) (.c (.int .i32 34))), m 12 11, w 13 (.mv (.t 5)) 12 true, w 14 (.bin .neq .any (.t 13) (.c (.int .i32 39))) 12 true, v 15 (.pick (.t 12) (.t 14) (.c (.bool false)))]) 
(.cond (.t 15) 
(.seq 
(.region [m 16 0, v 17 (.call (.f 114) [(.t 16)] false)]) 
(.seq 
(.region [v 2 (.mv (.c (.str []))), v 3 (.mv (.c (.bool false))), v 4 (.mv (.c (.bool false)))]) .ret)) .skip)) 
(.seq 
(.region [m 18 0, v 19 (.nilc (.t 18)), v 20 (.faddr 1 (.t 19)), v 21 (.load none (.t 20)), v 22 (.bin .add .any (.t 21) (.c (.int .i64 1))), v 23 (.nilc (.t 18)), v 24 (.faddr 1 (.t 23)), u (.store 1 (.t 24) (.t 22))]) 
(.seq 
(.region [v 6 (.mv (.c (.lst 0 0 [])))]) 
(.block 0 
(.loop 
(.block 1 
(.seq 
(.region [m 25 0, v 26 (.call (.f 68) [(.t 25)] false), m 7 26]) 
(.seq 
(.region [m 27 7]) 
(.block 2 
(.seq 
(.region [m 33 5, v 34 (.bin .eql .any (.t 27) (.t 33)), m 32 34]) 
(.cond (.t 32) 
(.seq 
(.region [m 35 6, v 36 (.call (.f 17) [(.t 35)] false), v 37 (.conv .bytesStr false (.t 36)), m 2 37, v 3 (.mv (.c (.bool true))), v 4 (.mv (.c (.bool true)))]) .ret) 
(.seq 
(.region [v 39 (.bin .eql .any (.t 27) (.c (.int .i32 62))), m 38 39]) 
(.cond (.t 38) 
(.seq 
(.region [m 40 6, v 41 (.call (.f 17) [(.t 40)] false), v 42 (.conv .bytesStr false (.t 41)), m 2 42, v 3 (.mv (.c (.bool true))), v 4 (.mv (.c (.bool false)))]) .ret) 
(.seq 
(.region [v 44 (.bin .eql .any (.t 27) (.c (.int .i32 (-1)))), m 43 44]) 
(.cond (.t 43) 
(.seq 
(.region [m 45 0, v 46 (.call (.f 90) [(.t 45)] false)]) 
(.seq 
(.region [m 47 6, v 48 (.call (.f 17) [(.t 47)] false), v 49 (.conv .bytesStr false (.t 48)), m 2 49, v 3 (.mv (.c (.bool true))), v 4 (.mv (.c (.bool false)))]) .ret)) 
(.seq 
(.region [v 51 (.bin .eql .any (.t 27) (.c (.int .i32 0))), m 50 51]) 
(.cond (.t 50) 
(.region [m 52 6, v 53 (.mks false none (.int .i32 0) 1 [(0, (.c (.int .i32 65533)))]), v 54 (.append false none 4 (.t 52) (.t 53)), m 6 54]) 
(.region [m 28 6, m 29 7, v 30 (.mks false none (.int .i32 0) 1 [(0, (.t 29))]), v 31 (.append false none 4 (.t 28) (.t 30)), m 6 31])))))))))))))))))))),
 [.tmp 2, .tmp 3, .tmp 4]⟩
/-- (*lex.Lexer).attr -/
def c_lex_Lexer_attr : DFunc := ⟨87, 
(.seq 
(.region [v 4 (.mv (.c (.bool false)))]) 
(.seq 
(.region [v 5 (.mv (.c (.lst 0 0 [])))]) 
(.seq 
(.seq 
(.region [v 6 (.mv (.c (.bool true)))]) 
(.block 0 
(.loop 
(.seq 
(.block 1 
(.seq 
(.region [m 12 0, v 13 (.call (.f 68) [(.t 12)] false), m 7 13]) 
(.seq 
(.seq 
(.region [m 14 7, v 15 (.call (.f 109) [(.t 14)] false), m 16 15, w 17 (.mv (.t 7)) 16 false, w 18 (.bin .eql .any (.t 17) (.c (.int .i32 47))) 16 false, v 19 (.pick (.t 16) (.c (.bool true)) (.t 18)), m 20 19, w 21 (.mv (.t 7)) 20 false, w 22 (.bin .eql .any (.t 21) (.c (.int .i32 62))) 20 false, v 23 (.pick (.t 20) (.c (.bool true)) (.t 22)), m 24 23, w 25 (.mv (.t 7)) 24 false, w 26 (.bin .eql .any (.t 25) (.c (.int .i32 (-1)))) 24 false, v 27 (.pick (.t 24) (.c (.bool true)) (.t 26)), m 28 27, w 29 (.mv (.t 7)) 28 false, w 30 (.bin .eql .any (.t 29) (.c (.int .i32 61))) 28 false, w 31 (.mv (.t 30)) 28 false, w 32 (.mv (.t 6)) 31 true, w 33 (.un .not (.t 32)) 31 true, w 34 (.pick (.t 31) (.t 33) (.c (.bool false))) 28 false, v 35 (.pick (.t 28) (.c (.bool true)) (.t 34))]) 
(.cond (.t 35) 
(.seq 
(.region [m 36 0, v 37 (.call (.f 90) [(.t 36)] false)]) (.exit 0)) .skip)) 
(.seq 
(.seq 
(.region [m 38 7, v 39 (.bin .eql .any (.t 38) (.c (.int .i32 0)))]) 
(.cond (.t 39) 
(.region [v 7 (.mv (.c (.int .i32 65533)))]) .skip)) 
(.region [m 40 5, m 41 7, v 42 (.call (.f 108) [(.t 41)] false), v 43 (.mks false none (.int .i32 0) 1 [(0, (.t 42))]), v 44 (.append false none 4 (.t 40) (.t 43)), m 5 44]))))) 
(.region [v 6 (.mv (.c (.bool false)))]))))) 
(.seq 
(.region [m 45 5, v 46 (.call (.f 17) [(.t 45)] false), v 47 (.conv .bytesStr false (.t 46)), v 48 (.build [(.str []), (.str [])] [(0, 1, (.t 47))]), v 8 (.alloc [(.str []), (.str [])] none), u (.store 2 (.t 8) (.t 48))]) 
(.seq 
(.block 2 
(.loop 
(.seq 
(.seq 
(.region [m 49 0, v 50 (.call (.f 75) [(.t 49), (.c (.int .i64 0))] false), v 51 (.call (.f 109) [(.t 50)] false)]) 
(.cond (.t 51) .skip (.exit 2))) 
(.block 3 
(.region [m 52 0, v 53 (.call (.f 68) [(.t 52)] false)]))))) 
(.seq 
(.region [v 9 (.mv (.c (.bool true)))]) 
(.seq 
(.seq 
(.region [m 54 0, v 55 (.call (.f 75) [(.t 54), (.c (.int .i64 0))] false), v 56 (.bin .eql .any (.t 55) (.c (.int .i32 61)))]) 
(.cond (.t 56) 
(.seq 
(.region [m 57 0, v 58 (.call (.f 68) [(.t 57)] false)]) 
(.region [m 60 0, v 61 (.call (.f 118) [(.t 60)] false), m 59 61, v 62 (.extract (.t 59) 0), v 63 (.extract (.t 59) 1), v 64 (.faddr 1 (.t 8)), u (.store 1 (.t 64) (.t 62)), m 9 63])) .skip)) 
(.seq 
(.seq 
(.region [m 66 1, v 67 (.nilc (.t 66)), v 68 (.load (some 10) (.t 67)), v 69 (.faddr 0 (.t 8)), v 70 (.load none (.t 69)), v 71 (.call (.f 119) [(.t 68), (.t 70)] false), m 65 71, v 72 (.extract (.t 65) 0), v 73 (.extract (.t 65) 1), m 10 72, m 11 73]) 
(.seq 
(.region [m 74 11, v 75 (.un .not (.t 74))]) 
(.cond (.t 75) 
(.region [m 76 1, m 77 1, v 78 (.nilc (.t 77)), v 79 (.faddr 2 (.t 78)), v 80 (.load none (.t 79)), v 81 (.load (some 2) (.t 8)), v 82 (.mks false (some 2) (.agg [(.str []), (.str [])]) 1 [(0, (.t 81))]), v 83 (.append false (some 2) 32 (.t 80) (.t 82)), v 84 (.nilc (.t 76)), v 85 (.faddr 2 (.t 84)), u (.store 1 (.t 85) (.t 83))]) .skip))) 
(.seq 
(.region [m 86 9, m 4 86]) .ret))))))))),
 [.tmp 4]⟩
/-- internal/stringslite.HasSuffix -/
def c_internal_stringslite_HasSuffix : DFunc := ⟨21, 
(.seq 
(.region [v 4 (.mv (.c (.bool false)))]) 
(.seq 
(.region [m 5 0, v 6 (.len false (.t 5)), m 7 1, v 8 (.len false (.t 7)), v 9 (.bin .geq .any (.t 6) (.t 8)), m 10 9, w 11 (.mv (.t 0)) 10 true, w 12 (.mv (.t 0)) 10 true, w 13 (.len false (.t 12)) 10 true, w 14 (.mv (.t 1)) 10 true, w 15 (.len false (.t 14)) 10 true, w 16 (.bin .sub .any (.t 13) (.t 15)) 10 true, w 17 (.sliceStr (.t 11) (some (.t 16)) none) 10 true, w 18 (.mv (.t 1)) 10 true, w 19 (.bin .eql .any (.t 17) (.t 18)) 10 true, v 20 (.pick (.t 10) (.t 19) (.c (.bool false))), m 4 20]) .ret)),
 [.tmp 4]⟩
/-- (*lex.Lexer).value -/
def c_lex_Lexer_value : DFunc := ⟨91, 
(.seq 
(.region [v 1 (.box (.t 0) 1), v 2 (.mv (.c (.str []))), v 3 (.mv (.c (.bool false)))]) 
(.seq 
(.block 0 
(.loop 
(.seq 
(.seq 
(.region [v 7 (.load none (.t 1)), v 8 (.call (.f 75) [(.t 7), (.c (.int .i64 0))] false), v 9 (.call (.f 109) [(.t 8)] false)]) 
(.cond (.t 9) .skip (.exit 0))) 
(.block 1 
(.region [v 10 (.load none (.t 1)), v 11 (.call (.f 68) [(.t 10)] false)]))))) 
(.seq 
(.region [v 12 (.load none (.t 1)), v 13 (.call (.f 75) [(.t 12), (.c (.int .i64 0))] false), m 4 13]) 
(.seq 
(.seq 
(.region [m 14 4]) 
(.block 2 
(.seq 
(.seq 
(.region [v 16 (.bin .eql .any (.t 14) (.c (.int .i32 34))), m 15 16]) 
(.cond (.t 15) .skip 
(.region [v 17 (.bin .eql .any (.t 14) (.c (.int .i32 39))), m 15 17]))) 
(.cond (.t 15) 
(.region [v 18 (.load none (.t 1)), v 19 (.call (.f 68) [(.t 18)] false)]) 
(.seq 
(.region [v 21 (.bin .eql .any (.t 14) (.c (.int .i32 62))), m 20 21]) 
(.cond (.t 20) 
(.seq 
(.region [v 2 (.mv (.c (.str []))), v 3 (.mv (.c (.bool true)))]) .ret) 
(.region [v 4 (.mv (.c (.int .i32 0)))]))))))) 
(.seq 
(.region [v 22 (.load none (.t 1)), v 23 (.nilc (.t 22)), v 24 (.faddr 6 (.t 23)), v 25 (.load none (.t 24)), v 5 (.alloc [(.lst 0 0 [])] none), u (.store 1 (.t 5) (.t 25))]) 
(.seq 
(.region [v 26 (.load none (.t 1)), v 27 (.nilc (.t 26)), v 28 (.faddr 6 (.t 27)), u (.store 1 (.t 28) (.c (.lst 0 0 [])))]) 
(.seq 
(.region [v 29 (.mkfn (.func 120) [] [(.t 5), (.t 1)]), u (.defr (.t 29) [])]) 
(.block 3 
(.loop 
(.block 4 
(.seq 
(.region [v 30 (.load none (.t 1)), v 31 (.call (.f 68) [(.t 30)] false), m 6 31]) 
(.block 5 
(.seq 
(.region [m 37 6, v 38 (.bin .eql .any (.t 37) (.c (.int .i32 (-1)))), m 36 38]) 
(.cond (.t 36) 
(.seq 
(.region [v 39 (.load none (.t 1)), v 40 (.call (.f 90) [(.t 39)] false)]) 
(.seq 
(.region [v 41 (.load none (.t 1)), v 42 (.nilc (.t 41)), v 43 (.faddr 6 (.t 42)), v 44 (.load none (.t 43)), v 45 (.call (.f 17) [(.t 44)] false), v 46 (.conv .bytesStr false (.t 45)), m 2 46, v 3 (.mv (.c (.bool false)))]) .ret)) 
(.seq 
(.region [m 48 4, v 49 (.bin .neq .any (.t 48) (.c (.int .i32 0))), m 50 49, w 51 (.mv (.t 6)) 50 true, w 52 (.mv (.t 4)) 50 true, w 53 (.bin .eql .any (.t 51) (.t 52)) 50 true, v 54 (.pick (.t 50) (.t 53) (.c (.bool false))), m 47 54]) 
(.cond (.t 47) 
(.seq 
(.region [v 55 (.load none (.t 1)), v 56 (.nilc (.t 55)), v 57 (.faddr 6 (.t 56)), v 58 (.load none (.t 57)), v 59 (.call (.f 17) [(.t 58)] false), v 60 (.conv .bytesStr false (.t 59)), m 2 60, v 3 (.mv (.c (.bool true)))]) .ret) 
(.seq 
(.region [m 62 4, v 63 (.bin .eql .any (.t 62) (.c (.int .i32 0))), m 64 63, w 65 (.mv (.t 6)) 64 true, w 66 (.call (.f 109) [(.t 65)] false) 64 true, w 67 (.mv (.t 66)) 64 true, w 68 (.mv (.t 6)) 67 false, w 69 (.bin .eql .any (.t 68) (.c (.int .i32 62))) 67 false, w 70 (.pick (.t 67) (.c (.bool true)) (.t 69)) 64 true, v 71 (.pick (.t 64) (.t 70) (.c (.bool false))), m 61 71]) 
(.cond (.t 61) 
(.seq 
(.region [v 72 (.load none (.t 1)), v 73 (.call (.f 90) [(.t 72)] false)]) 
(.seq 
(.region [v 74 (.load none (.t 1)), v 75 (.nilc (.t 74)), v 76 (.faddr 6 (.t 75)), v 77 (.load none (.t 76)), v 78 (.call (.f 17) [(.t 77)] false), v 79 (.conv .bytesStr false (.t 78)), m 2 79, v 3 (.mv (.c (.bool true)))]) .ret)) 
(.seq 
(.region [m 81 6, v 82 (.bin .eql .any (.t 81) (.c (.int .i32 38))), m 80 82]) 
(.cond (.t 80) 
(.region [v 83 (.load none (.t 1)), v 84 (.call (.f 70) [(.t 83), (.c (.bool true))] false)]) 
(.seq 
(.region [m 86 6, v 87 (.bin .eql .any (.t 86) (.c (.int .i32 0))), m 85 87]) 
(.cond (.t 85) 
(.region [v 88 (.load none (.t 1)), v 89 (.mks false none (.int .i32 0) 1 [(0, (.c (.int .i32 65533)))]), v 90 (.call (.f 74) [(.t 88), (.t 89)] false)]) 
(.region [v 32 (.load none (.t 1)), m 33 6, v 34 (.mks false none (.int .i32 0) 1 [(0, (.t 33))]), v 35 (.call (.f 74) [(.t 32), (.t 34)] false)]))))))))))))))))))))))),
 [.tmp 2, .tmp 3]⟩
/-- (token.Token).Get -/
def c_token_Token_Get : DFunc := ⟨12, 
(.seq 
(.region [v 2 (.box (.t 0) 10), v 4 (.mv (.c (.str []))), v 5 (.mv (.c (.bool false)))]) 
(.seq 
(.region [v 6 (.faddr 2 (.t 2)), v 7 (.load none (.t 6)), m 8 1, v 9 (.call (.f 121) [(.t 7), (.t 8)] false), v 10 (.extract (.t 9) 0), v 11 (.extract (.t 9) 1), m 4 10, m 5 11]) .ret)),
 [.tmp 4, .tmp 5]⟩
/-- (*lex.Lexer).value$1 -/
def c_lex_Lexer_value_1 : DFunc := ⟨6, 
(.region [v 2 (.load none (.t 1)), v 3 (.load none (.t 0)), v 4 (.nilc (.t 2)), v 5 (.faddr 6 (.t 4)), u (.store 1 (.t 5) (.t 3))]),
 []⟩
/-- token.Get -/
def c_token_Get : DFunc := ⟨17, 
(.seq 
(.region [v 3 (.box (.t 1) 1), v 4 (.mv (.c (.str []))), v 5 (.mv (.c (.bool false)))]) 
(.seq 
(.region [m 7 0, v 8 (.mkfn (.func 122) [] [(.t 3)]), v 9 (.call (.f 76) [(.t 7), (.t 8)] false), m 6 9]) 
(.seq 
(.seq 
(.region [m 10 6, v 11 (.bin .lss .any (.t 10) (.c (.int .i64 0)))]) 
(.cond (.t 11) 
(.seq 
(.region [v 4 (.mv (.c (.str []))), v 5 (.mv (.c (.bool false)))]) .ret) .skip)) 
(.seq 
(.region [m 12 0, m 13 6, v 14 (.iaddr 2 (.t 12) (.t 13)), v 15 (.faddr 1 (.t 14)), v 16 (.load none (.t 15)), m 4 16, v 5 (.mv (.c (.bool true)))]) .ret)))),
 [.tmp 4, .tmp 5]⟩
/-- token.Get$1 -/
def c_token_Get_1 : DFunc := ⟨8, 
(.seq 
(.region [v 2 (.box (.t 0) 2), v 3 (.mv (.c (.bool false)))]) 
(.seq 
(.region [v 4 (.faddr 0 (.t 2)), v 5 (.load none (.t 4)), v 6 (.load none (.t 1)), v 7 (.bin .eql .any (.t 5) (.t 6)), m 3 7]) .ret)),
 [.tmp 3]⟩
theorem ok_text_need : compF Tryd.prog cfg4 86 = some c_text_need := by kernel_rfl
theorem ok_chars_Number : compF Tryd.prog cfg4 87 = some c_chars_Number := by kernel_rfl
theorem ok_lex_Lexer_declare : compF Tryd.prog cfg4 88 = some c_lex_Lexer_declare := by kernel_rfl
theorem ok_lex_Lexer_ending : compF Tryd.prog cfg4 89 = some c_lex_Lexer_ending := by kernel_rfl
theorem ok_lex_Lexer_back : compF Tryd.prog cfg4 90 = some c_lex_Lexer_back := by kernel_rfl
theorem ok_lex_Lexer_tag : compF Tryd.prog cfg4 91 = some c_lex_Lexer_tag := by kernel_rfl
theorem ok_lex_Lexer_bogus : compF Tryd.prog cfg4 92 = some c_lex_Lexer_bogus := by kernel_rfl
theorem ok_lex_Lexer_closes : compF Tryd.prog cfg4 93 = some c_lex_Lexer_closes := by kernel_rfl
theorem ok_lex_Lexer_exact : compF Tryd.prog cfg4 94 = some c_lex_Lexer_exact := by kernel_rfl
theorem ok_lex_Lexer_word : compF Tryd.prog cfg4 95 = some c_lex_Lexer_word := by kernel_rfl
theorem ok_lex_Lexer_take : compF Tryd.prog cfg4 96 = some c_lex_Lexer_take := by kernel_rfl
theorem ok_slices_rotateLeft_int : compF Tryd.prog cfg4 97 = some c_slices_rotateLeft_int := by kernel_rfl
theorem ok_slices_Clone_int_int : compF Tryd.prog cfg4 98 = some c_slices_Clone_int_int := by kernel_rfl
theorem ok_ser_Raw : compF Tryd.prog cfg4 99 = some c_ser_Raw := by kernel_rfl
theorem ok_text_Hex : compF Tryd.prog cfg4 100 = some c_text_Hex := by kernel_rfl
theorem ok_lex_Lexer_stands : compF Tryd.prog cfg4 101 = some c_lex_Lexer_stands := by kernel_rfl
theorem ok_lex_Lexer_comment : compF Tryd.prog cfg4 102 = some c_lex_Lexer_comment := by kernel_rfl
theorem ok_lex_Lexer_doctype : compF Tryd.prog cfg4 103 = some c_lex_Lexer_doctype := by kernel_rfl
theorem ok_lex_Lexer_section : compF Tryd.prog cfg4 104 = some c_lex_Lexer_section := by kernel_rfl
theorem ok_lex_Lexer_name : compF Tryd.prog cfg4 105 = some c_lex_Lexer_name := by kernel_rfl
theorem ok_lex_Lexer_attrs : compF Tryd.prog cfg4 106 = some c_lex_Lexer_attrs := by kernel_rfl
theorem ok_lex_Lexer_emit : compF Tryd.prog cfg4 107 = some c_lex_Lexer_emit := by kernel_rfl
theorem ok_text_Small : compF Tryd.prog cfg4 108 = some c_text_Small := by kernel_rfl
theorem ok_text_Blank : compF Tryd.prog cfg4 109 = some c_text_Blank := by kernel_rfl
theorem ok_lex_Lexer_comment_1 : compF Tryd.prog cfg4 110 = some c_lex_Lexer_comment_1 := by kernel_rfl
theorem ok_strings_HasSuffix : compF Tryd.prog cfg4 111 = some c_strings_HasSuffix := by kernel_rfl
theorem ok_lex_Lexer_doctype_1 : compF Tryd.prog cfg4 112 = some c_lex_Lexer_doctype_1 := by kernel_rfl
theorem ok_lex_Lexer_blanks : compF Tryd.prog cfg4 113 = some c_lex_Lexer_blanks := by kernel_rfl
theorem ok_lex_Lexer_skip : compF Tryd.prog cfg4 114 = some c_lex_Lexer_skip := by kernel_rfl
theorem ok_lex_Lexer_quoted : compF Tryd.prog cfg4 115 = some c_lex_Lexer_quoted := by kernel_rfl
theorem ok_lex_Lexer_attr : compF Tryd.prog cfg4 116 = some c_lex_Lexer_attr := by kernel_rfl
theorem ok_internal_stringslite_HasSuffix : compF Tryd.prog cfg4 117 = some c_internal_stringslite_HasSuffix := by kernel_rfl
theorem ok_lex_Lexer_value : compF Tryd.prog cfg4 118 = some c_lex_Lexer_value := by kernel_rfl
theorem ok_token_Token_Get : compF Tryd.prog cfg4 119 = some c_token_Token_Get := by kernel_rfl
theorem ok_lex_Lexer_value_1 : compF Tryd.prog cfg4 120 = some c_lex_Lexer_value_1 := by kernel_rfl
theorem ok_token_Get : compF Tryd.prog cfg4 121 = some c_token_Get := by kernel_rfl
theorem ok_token_Get_1 : compF Tryd.prog cfg4 122 = some c_token_Get_1 := by kernel_rfl
end Go.Proofs.YticnenofiibpgaaDoor.Code
