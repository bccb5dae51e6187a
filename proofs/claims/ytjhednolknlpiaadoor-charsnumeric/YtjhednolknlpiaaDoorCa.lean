/- The functions of this seat's law, as code of the D-machine: PRINTED BY PROGRAM (Print.lean); each is checked to be what the program's own compiles to. -/
import Derived.Test.YtjhednolknlpiaaDoorChecked
import Derived.Test.YtjhednolknlpiaaDoorDmTop
import Derived.KernelRfl
namespace Go.Proofs.YtjhednolknlpiaaDoor.Code
set_option linter.unusedSimpArgs false
set_option linter.unusedVariables false
set_option linter.unnecessarySimpa false
open Go.Dm

def cfg : Cfg := ⟨fun _ => false, fun _ => false⟩
/-- woodcut/woodcutlaw02.CharsNumeric -/
def f3 : DFunc := ⟨76,
 (.seq
  (.region [⟨(some 2), .mv (.c (.bool false)), none, []⟩])
  (.seq
   (.seq
    (.region [⟨(some 6), .call (.f 5) [] false, none, []⟩,
      ⟨(some 7), .un .not (.t 6), none, []⟩])
    (.cond (.t 7)
     (.seq
      (.region [⟨(some 2), .mv (.c (.bool false)), none, []⟩])
      .ret)
     .skip))
   (.seq
    (.region [⟨(some 8), .mv (.t 0), none, []⟩,
      ⟨(some 9), .call (.f 6) [(.t 8)] false, none, []⟩,
      ⟨(some 3), .mv (.t 9), none, []⟩])
    (.seq
     (.seq
      (.region [⟨(some 10), .mv (.t 0), none, []⟩,
        ⟨(some 11), .bin .leq .any (.t 10) (.c (.int .i64 0)), none, []⟩,
        ⟨(some 12), .mv (.t 11), none, []⟩,
        ⟨(some 13), .mv (.t 0), (some (12, false)), []⟩,
        ⟨(some 14), .bin .gtr .any (.t 13) (.c (.int .i64 1114111)), (some (12, false)), []⟩,
        ⟨(some 15), .pick (.t 12) (.c (.bool true)) (.t 14), none, []⟩,
        ⟨(some 16), .mv (.t 15), none, []⟩,
        ⟨(some 17), .mv (.t 0), (some (16, false)), []⟩,
        ⟨(some 18), .bin .geq .any (.t 17) (.c (.int .i64 55296)), (some (16, false)), []⟩,
        ⟨(some 19), .mv (.t 18), (some (16, false)), []⟩,
        ⟨(some 20), .mv (.t 0), (some (19, true)), []⟩,
        ⟨(some 21), .bin .leq .any (.t 20) (.c (.int .i64 57343)), (some (19, true)), []⟩,
        ⟨(some 22), .pick (.t 19) (.t 21) (.c (.bool false)), (some (16, false)), []⟩,
        ⟨(some 23), .pick (.t 16) (.c (.bool true)) (.t 22), none, []⟩])
      (.cond (.t 23)
       (.seq
        (.region [⟨(some 24), .mv (.t 3), none, []⟩,
          ⟨(some 25), .bin .eql .any (.t 24) (.c (.int .i32 65533)), none, []⟩,
          ⟨(some 2), .mv (.t 25), none, []⟩])
        .ret)
       .skip))
     (.seq
      (.seq
       (.region [⟨(some 26), .mv (.t 0), none, []⟩,
         ⟨(some 27), .bin .lss .any (.t 26) (.c (.int .i64 128)), none, []⟩,
         ⟨(some 28), .mv (.t 27), none, []⟩,
         ⟨(some 29), .mv (.t 0), (some (28, false)), []⟩,
         ⟨(some 30), .bin .gtr .any (.t 29) (.c (.int .i64 159)), (some (28, false)), []⟩,
         ⟨(some 31), .pick (.t 28) (.c (.bool true)) (.t 30), none, []⟩])
       (.cond (.t 31)
        (.seq
         (.region [⟨(some 32), .mv (.t 3), none, []⟩,
           ⟨(some 33), .conv (.int .i64) false (.t 32), none, []⟩,
           ⟨(some 34), .mv (.t 0), none, []⟩,
           ⟨(some 35), .bin .eql .any (.t 33) (.t 34), none, []⟩,
           ⟨(some 2), .mv (.t 35), none, []⟩])
         .ret)
        .skip))
      (.seq
       (.seq
        (.region [⟨(some 36), .mks false none (.int .i64 0) 5 [(0, (.c (.int .i64 129))), (1, (.c (.int .i64 141))), (2, (.c (.int .i64 143))), (3, (.c (.int .i64 144))), (4, (.c (.int .i64 157)))], none, []⟩,
          ⟨(some 37), .len true (.t 36), none, []⟩,
          ⟨(some 38), .mv (.c (.int .i64 0)), none, []⟩])
        (.block 0
         (.loop
          (.seq
           (.region [⟨(some 39), .bin .lss .any (.t 38) (.t 37), none, []⟩])
           (.seq
            (.cond (.t 39)
             .skip
             (.exit 0))
            (.seq
             (.block 1
              (.seq
               (.region [⟨(some 40), .iaddr 1 (.t 36) (.t 38), none, []⟩,
                 ⟨(some 41), .load none (.t 40), none, []⟩,
                 ⟨(some 5), .mv (.t 41), none, []⟩])
               (.seq
                (.region [⟨(some 42), .mv (.t 0), none, []⟩,
                  ⟨(some 43), .mv (.t 5), none, []⟩,
                  ⟨(some 44), .bin .eql .any (.t 42) (.t 43), none, []⟩])
                (.cond (.t 44)
                 (.seq
                  (.region [⟨(some 45), .mv (.t 3), none, []⟩,
                    ⟨(some 46), .conv (.int .i64) false (.t 45), none, []⟩,
                    ⟨(some 47), .mv (.t 0), none, []⟩,
                    ⟨(some 48), .bin .eql .any (.t 46) (.t 47), none, []⟩,
                    ⟨(some 2), .mv (.t 48), none, []⟩])
                  .ret)
                 .skip))))
             (.region [⟨(some 49), .bin .add .any (.t 38) (.c (.int .i64 1)), none, []⟩,
               ⟨(some 38), .mv (.t 49), none, []⟩])))))))
       (.seq
        (.region [⟨(some 50), .mv (.t 3), none, []⟩,
          ⟨(some 51), .bin .gtr .any (.t 50) (.c (.int .i32 255)), none, []⟩,
          ⟨(some 52), .mv (.t 51), none, []⟩,
          ⟨(some 53), .mv (.t 0), (some (52, true)), []⟩,
          ⟨(some 54), .bin .neq .any (.t 53) (.c (.int .i64 128)), (some (52, true)), []⟩,
          ⟨(some 55), .mv (.t 54), (some (52, true)), []⟩,
          ⟨(some 56), .mv (.t 3), (some (55, false)), []⟩,
          ⟨(some 57), .bin .eql .any (.t 56) (.c (.int .i32 8364)), (some (55, false)), []⟩,
          ⟨(some 58), .pick (.t 55) (.c (.bool true)) (.t 57), (some (52, true)), []⟩,
          ⟨(some 59), .pick (.t 52) (.t 58) (.c (.bool false)), none, []⟩,
          ⟨(some 60), .mv (.t 59), none, []⟩,
          ⟨(some 61), .mv (.t 0), (some (60, true)), []⟩,
          ⟨(some 62), .bin .neq .any (.t 61) (.c (.int .i64 159)), (some (60, true)), []⟩,
          ⟨(some 63), .mv (.t 62), (some (60, true)), []⟩,
          ⟨(some 64), .mv (.t 3), (some (63, false)), []⟩,
          ⟨(some 65), .bin .eql .any (.t 64) (.c (.int .i32 376)), (some (63, false)), []⟩,
          ⟨(some 66), .pick (.t 63) (.c (.bool true)) (.t 65), (some (60, true)), []⟩,
          ⟨(some 67), .pick (.t 60) (.t 66) (.c (.bool false)), none, []⟩,
          ⟨(some 68), .mv (.t 67), none, []⟩,
          ⟨(some 69), .mv (.t 0), (some (68, true)), []⟩,
          ⟨(some 70), .bin .neq .any (.t 69) (.c (.int .i64 146)), (some (68, true)), []⟩,
          ⟨(some 71), .mv (.t 70), (some (68, true)), []⟩,
          ⟨(some 72), .mv (.t 3), (some (71, false)), []⟩,
          ⟨(some 73), .bin .eql .any (.t 72) (.c (.int .i32 8217)), (some (71, false)), []⟩,
          ⟨(some 74), .pick (.t 71) (.c (.bool true)) (.t 73), (some (68, true)), []⟩,
          ⟨(some 75), .pick (.t 68) (.t 74) (.c (.bool false)), none, []⟩,
          ⟨(some 2), .mv (.t 75), none, []⟩])
        .ret))))))),
 [.tmp 2]⟩

/-- woodcut/woodcutlaw02.CharsNumbers -/
def f4 : DFunc := ⟨84,
 (.seq
  (.region [⟨(some 4), .mv (.c (.bool false)), none, []⟩])
  (.seq
   (.seq
    (.region [⟨(some 11), .call (.f 5) [] false, none, []⟩,
      ⟨(some 12), .un .not (.t 11), none, []⟩])
    (.cond (.t 12)
     (.seq
      (.region [⟨(some 4), .mv (.c (.bool false)), none, []⟩])
      .ret)
     .skip))
   (.seq
    (.seq
     (.region [⟨(some 13), .mv (.t 0), none, []⟩,
       ⟨(some 14), .len true (.t 13), none, []⟩,
       ⟨(some 15), .bin .gtr .any (.t 14) (.c (.int .i64 60)), none, []⟩])
     (.cond (.t 15)
      (.seq
       (.region [⟨(some 4), .mv (.c (.bool true)), none, []⟩])
       .ret)
      .skip))
    (.seq
     (.region [⟨(some 5), .mv (.c (.int .i64 10)), none, []⟩])
     (.seq
      (.seq
       (.region [⟨(some 16), .mv (.t 1), none, []⟩])
       (.cond (.t 16)
        (.region [⟨(some 5), .mv (.c (.int .i64 16)), none, []⟩])
        .skip))
      (.seq
       (.region [⟨(some 6), .mv (.c (.int .i64 0)), none, []⟩])
       (.seq
        (.region [⟨(some 7), .mv (.c (.int .i64 0)), none, []⟩])
        (.seq
         (.block 0
          (.loop
           (.seq
            (.seq
             (.region [⟨(some 17), .mv (.t 7), none, []⟩,
               ⟨(some 18), .mv (.t 0), none, []⟩,
               ⟨(some 19), .len true (.t 18), none, []⟩,
               ⟨(some 20), .bin .lss .any (.t 17) (.t 19), none, []⟩,
               ⟨(some 21), .mv (.t 20), none, []⟩,
               ⟨(some 22), .mv (.t 0), (some (21, true)), []⟩,
               ⟨(some 23), .mv (.t 7), (some (21, true)), []⟩,
               ⟨(some 24), .iaddr 1 (.t 22) (.t 23), (some (21, true)), []⟩,
               ⟨(some 25), .load none (.t 24), (some (21, true)), []⟩,
               ⟨(some 26), .call (.f 7) [(.t 25)] false, (some (21, true)), []⟩,
               ⟨(some 27), .bin .geq .any (.t 26) (.c (.int .i64 0)), (some (21, true)), []⟩,
               ⟨(some 28), .pick (.t 21) (.t 27) (.c (.bool false)), none, []⟩,
               ⟨(some 29), .mv (.t 28), none, []⟩,
               ⟨(some 30), .mv (.t 0), (some (29, true)), []⟩,
               ⟨(some 31), .mv (.t 7), (some (29, true)), []⟩,
               ⟨(some 32), .iaddr 1 (.t 30) (.t 31), (some (29, true)), []⟩,
               ⟨(some 33), .load none (.t 32), (some (29, true)), []⟩,
               ⟨(some 34), .call (.f 7) [(.t 33)] false, (some (29, true)), []⟩,
               ⟨(some 35), .mv (.t 5), (some (29, true)), []⟩,
               ⟨(some 36), .bin .lss .any (.t 34) (.t 35), (some (29, true)), []⟩,
               ⟨(some 37), .pick (.t 29) (.t 36) (.c (.bool false)), none, []⟩])
             (.cond (.t 37)
              .skip
              (.exit 0)))
            (.block 1
             (.seq
              (.region [⟨(some 38), .mv (.t 6), none, []⟩,
                ⟨(some 39), .mv (.t 5), none, []⟩,
                ⟨(some 40), .bin .mul .any (.t 38) (.t 39), none, []⟩,
                ⟨(some 41), .mv (.t 0), none, []⟩,
                ⟨(some 42), .mv (.t 7), none, []⟩,
                ⟨(some 43), .iaddr 1 (.t 41) (.t 42), none, []⟩,
                ⟨(some 44), .load none (.t 43), none, []⟩,
                ⟨(some 45), .call (.f 7) [(.t 44)] false, none, []⟩,
                ⟨(some 46), .bin .add .any (.t 40) (.t 45), none, []⟩,
                ⟨(some 6), .mv (.t 46), none, []⟩])
              (.seq
               (.seq
                (.region [⟨(some 47), .mv (.t 6), none, []⟩,
                  ⟨(some 48), .bin .gtr .any (.t 47) (.c (.int .i64 1114112)), none, []⟩])
                (.cond (.t 48)
                 (.region [⟨(some 6), .mv (.c (.int .i64 1114112)), none, []⟩])
                 .skip))
               (.region [⟨(some 49), .mv (.t 7), none, []⟩,
                 ⟨(some 50), .bin .add .any (.t 49) (.c (.int .i64 1)), none, []⟩,
                 ⟨(some 7), .mv (.t 50), none, []⟩])))))))
         (.seq
          (.region [⟨(some 52), .mv (.t 0), none, []⟩,
            ⟨(some 53), .mv (.t 5), none, []⟩,
            ⟨(some 54), .call (.f 8) [(.t 52), (.t 53)] false, none, []⟩,
            ⟨(some 51), .mv (.t 54), none, []⟩,
            ⟨(some 55), .extract (.t 51) 0, none, []⟩,
            ⟨(some 56), .extract (.t 51) 1, none, []⟩,
            ⟨(some 8), .mv (.t 55), none, []⟩,
            ⟨(some 9), .mv (.t 56), none, []⟩])
          (.seq
           (.region [⟨(some 57), .mv (.t 8), none, []⟩,
             ⟨(some 58), .call (.f 6) [(.t 57)] false, none, []⟩,
             ⟨(some 10), .mv (.t 58), none, []⟩])
           (.seq
            (.region [⟨(some 59), .mv (.t 8), none, []⟩,
              ⟨(some 60), .mv (.t 6), none, []⟩,
              ⟨(some 61), .bin .eql .any (.t 59) (.t 60), none, []⟩,
              ⟨(some 62), .mv (.t 61), none, []⟩,
              ⟨(some 63), .mv (.t 9), (some (62, true)), []⟩,
              ⟨(some 64), .mv (.t 7), (some (62, true)), []⟩,
              ⟨(some 65), .bin .eql .any (.t 63) (.t 64), (some (62, true)), []⟩,
              ⟨(some 66), .pick (.t 62) (.t 65) (.c (.bool false)), none, []⟩,
              ⟨(some 67), .mv (.t 66), none, []⟩,
              ⟨(some 68), .mv (.t 10), (some (67, true)), []⟩,
              ⟨(some 69), .bin .geq .any (.t 68) (.c (.int .i32 0)), (some (67, true)), []⟩,
              ⟨(some 70), .pick (.t 67) (.t 69) (.c (.bool false)), none, []⟩,
              ⟨(some 71), .mv (.t 70), none, []⟩,
              ⟨(some 72), .mv (.t 10), (some (71, true)), []⟩,
              ⟨(some 73), .bin .leq .any (.t 72) (.c (.int .i32 1114111)), (some (71, true)), []⟩,
              ⟨(some 74), .pick (.t 71) (.t 73) (.c (.bool false)), none, []⟩,
              ⟨(some 75), .mv (.t 74), none, []⟩,
              ⟨(some 76), .mv (.t 10), (some (75, true)), []⟩,
              ⟨(some 77), .bin .geq .any (.t 76) (.c (.int .i32 55296)), (some (75, true)), []⟩,
              ⟨(some 78), .mv (.t 77), (some (75, true)), []⟩,
              ⟨(some 79), .mv (.t 10), (some (78, true)), []⟩,
              ⟨(some 80), .bin .leq .any (.t 79) (.c (.int .i32 57343)), (some (78, true)), []⟩,
              ⟨(some 81), .pick (.t 78) (.t 80) (.c (.bool false)), (some (75, true)), []⟩,
              ⟨(some 82), .un .not (.t 81), (some (75, true)), []⟩,
              ⟨(some 83), .pick (.t 75) (.t 82) (.c (.bool false)), none, []⟩,
              ⟨(some 4), .mv (.t 83), none, []⟩])
            .ret))))))))))),
 [.tmp 4]⟩

/-- woodcut/woodcutlaw02.head -/
def f5 : DFunc := ⟨43,
 (.seq
  (.region [⟨(some 0), .mv (.c (.bool false)), none, []⟩])
  (.seq
   (.region [⟨(some 8), .mks false none (.int .i32 0) 6 [(0, (.c (.int .i32 110))), (1, (.c (.int .i32 111))), (2, (.c (.int .i32 116))), (3, (.c (.int .i32 105))), (4, (.c (.int .i32 110))), (5, (.c (.int .i32 59)))], none, []⟩,
     ⟨(some 9), .call (.f 9) [(.t 8)] false, none, []⟩,
     ⟨(some 7), .mv (.t 9), none, []⟩,
     ⟨(some 10), .extract (.t 7) 0, none, []⟩,
     ⟨(some 11), .extract (.t 7) 1, none, []⟩,
     ⟨(some 12), .extract (.t 7) 2, none, []⟩,
     ⟨(some 1), .mv (.t 10), none, []⟩,
     ⟨(some 2), .mv (.t 11), none, []⟩,
     ⟨(some 3), .mv (.t 12), none, []⟩])
   (.seq
    (.region [⟨(some 14), .mks false none (.int .i32 0) 5 [(0, (.c (.int .i32 110))), (1, (.c (.int .i32 111))), (2, (.c (.int .i32 116))), (3, (.c (.int .i32 105))), (4, (.c (.int .i32 116)))], none, []⟩,
      ⟨(some 15), .call (.f 9) [(.t 14)] false, none, []⟩,
      ⟨(some 13), .mv (.t 15), none, []⟩,
      ⟨(some 16), .extract (.t 13) 0, none, []⟩,
      ⟨(some 17), .extract (.t 13) 1, none, []⟩,
      ⟨(some 18), .extract (.t 13) 2, none, []⟩,
      ⟨(some 4), .mv (.t 16), none, []⟩,
      ⟨(some 5), .mv (.t 17), none, []⟩,
      ⟨(some 6), .mv (.t 18), none, []⟩])
    (.seq
     (.region [⟨(some 19), .mv (.t 2), none, []⟩,
       ⟨(some 20), .bin .eql .any (.t 19) (.c (.int .i64 6)), none, []⟩,
       ⟨(some 21), .mv (.t 20), none, []⟩,
       ⟨(some 22), .mv (.t 3), (some (21, true)), []⟩,
       ⟨(some 23), .pick (.t 21) (.t 22) (.c (.bool false)), none, []⟩,
       ⟨(some 24), .mv (.t 23), none, []⟩,
       ⟨(some 25), .mv (.t 5), (some (24, true)), []⟩,
       ⟨(some 26), .bin .eql .any (.t 25) (.c (.int .i64 3)), (some (24, true)), []⟩,
       ⟨(some 27), .pick (.t 24) (.t 26) (.c (.bool false)), none, []⟩,
       ⟨(some 28), .mv (.t 27), none, []⟩,
       ⟨(some 29), .mv (.t 6), (some (28, true)), []⟩,
       ⟨(some 30), .un .not (.t 29), (some (28, true)), []⟩,
       ⟨(some 31), .pick (.t 28) (.t 30) (.c (.bool false)), none, []⟩,
       ⟨(some 32), .mv (.t 31), none, []⟩,
       ⟨(some 33), .mv (.t 4), (some (32, true)), []⟩,
       ⟨(some 34), .len true (.t 33), (some (32, true)), []⟩,
       ⟨(some 35), .bin .eql .any (.t 34) (.c (.int .i64 1)), (some (32, true)), []⟩,
       ⟨(some 36), .pick (.t 32) (.t 35) (.c (.bool false)), none, []⟩,
       ⟨(some 37), .mv (.t 36), none, []⟩,
       ⟨(some 38), .mv (.t 4), (some (37, true)), []⟩,
       ⟨(some 39), .iaddr 1 (.t 38) (.c (.int .i64 0)), (some (37, true)), []⟩,
       ⟨(some 40), .load none (.t 39), (some (37, true)), []⟩,
       ⟨(some 41), .bin .eql .any (.t 40) (.c (.int .i32 172)), (some (37, true)), []⟩,
       ⟨(some 42), .pick (.t 37) (.t 41) (.c (.bool false)), none, []⟩,
       ⟨(some 0), .mv (.t 42), none, []⟩])
     .ret)))),
 [.tmp 0]⟩

/-- woodcut/chars.Numeric -/
def f6 : DFunc := ⟨31,
 (.seq
  (.region [⟨(some 2), .mv (.c (.int .i32 0)), none, []⟩])
  (.seq
   (.block 0
    (.seq
     (.region [⟨(some 4), .mv (.t 0), none, []⟩,
       ⟨(some 5), .bin .leq .any (.t 4) (.c (.int .i64 0)), none, []⟩,
       ⟨(some 6), .mv (.t 5), none, []⟩,
       ⟨(some 7), .mv (.t 0), (some (6, false)), []⟩,
       ⟨(some 8), .bin .gtr .any (.t 7) (.c (.int .i64 1114111)), (some (6, false)), []⟩,
       ⟨(some 9), .pick (.t 6) (.c (.bool true)) (.t 8), none, []⟩,
       ⟨(some 10), .mv (.t 9), none, []⟩,
       ⟨(some 11), .mv (.t 0), (some (10, false)), []⟩,
       ⟨(some 12), .bin .geq .any (.t 11) (.c (.int .i64 55296)), (some (10, false)), []⟩,
       ⟨(some 13), .mv (.t 12), (some (10, false)), []⟩,
       ⟨(some 14), .mv (.t 0), (some (13, true)), []⟩,
       ⟨(some 15), .bin .leq .any (.t 14) (.c (.int .i64 57343)), (some (13, true)), []⟩,
       ⟨(some 16), .pick (.t 13) (.t 15) (.c (.bool false)), (some (10, false)), []⟩,
       ⟨(some 17), .pick (.t 10) (.c (.bool true)) (.t 16), none, []⟩,
       ⟨(some 3), .mv (.t 17), none, []⟩])
     (.cond (.t 3)
      (.seq
       (.region [⟨(some 2), .mv (.c (.int .i32 65533)), none, []⟩])
       .ret)
      (.seq
       (.region [⟨(some 19), .mv (.t 0), none, []⟩,
         ⟨(some 20), .bin .geq .any (.t 19) (.c (.int .i64 128)), none, []⟩,
         ⟨(some 21), .mv (.t 20), none, []⟩,
         ⟨(some 22), .mv (.t 0), (some (21, true)), []⟩,
         ⟨(some 23), .bin .lss .any (.t 22) (.c (.int .i64 160)), (some (21, true)), []⟩,
         ⟨(some 24), .pick (.t 21) (.t 23) (.c (.bool false)), none, []⟩,
         ⟨(some 18), .mv (.t 24), none, []⟩])
       (.cond (.t 18)
        (.seq
         (.region [⟨(some 25), .mv (.t 0), none, []⟩,
           ⟨(some 26), .bin .sub .any (.t 25) (.c (.int .i64 128)), none, []⟩,
           ⟨(some 27), .iaddrArr 1 32 (.g 0) (.t 26), none, []⟩,
           ⟨(some 28), .load none (.t 27), none, []⟩,
           ⟨(some 2), .mv (.t 28), none, []⟩])
         .ret)
        .skip)))))
   (.seq
    (.region [⟨(some 29), .mv (.t 0), none, []⟩,
      ⟨(some 30), .conv (.int .i32) false (.t 29), none, []⟩,
      ⟨(some 2), .mv (.t 30), none, []⟩])
    .ret))),
 [.tmp 2]⟩

/-- woodcut/text.Hex -/
def f7 : DFunc := ⟨31,
 (.seq
  (.region [⟨(some 2), .mv (.c (.int .i64 0)), none, []⟩])
  (.seq
   (.block 0
    (.seq
     (.region [⟨(some 4), .mv (.t 0), none, []⟩,
       ⟨(some 5), .call (.f 10) [(.t 4)] false, none, []⟩,
       ⟨(some 3), .mv (.t 5), none, []⟩])
     (.cond (.t 3)
      (.seq
       (.region [⟨(some 6), .mv (.t 0), none, []⟩,
         ⟨(some 7), .bin .sub .any (.t 6) (.c (.int .i32 48)), none, []⟩,
         ⟨(some 8), .conv (.int .i64) false (.t 7), none, []⟩,
         ⟨(some 2), .mv (.t 8), none, []⟩])
       .ret)
      (.seq
       (.region [⟨(some 10), .mv (.t 0), none, []⟩,
         ⟨(some 11), .bin .geq .any (.t 10) (.c (.int .i32 97)), none, []⟩,
         ⟨(some 12), .mv (.t 11), none, []⟩,
         ⟨(some 13), .mv (.t 0), (some (12, true)), []⟩,
         ⟨(some 14), .bin .leq .any (.t 13) (.c (.int .i32 102)), (some (12, true)), []⟩,
         ⟨(some 15), .pick (.t 12) (.t 14) (.c (.bool false)), none, []⟩,
         ⟨(some 9), .mv (.t 15), none, []⟩])
       (.cond (.t 9)
        (.seq
         (.region [⟨(some 16), .mv (.t 0), none, []⟩,
           ⟨(some 17), .bin .sub .any (.t 16) (.c (.int .i32 97)), none, []⟩,
           ⟨(some 18), .conv (.int .i64) false (.t 17), none, []⟩,
           ⟨(some 19), .bin .add .any (.t 18) (.c (.int .i64 10)), none, []⟩,
           ⟨(some 2), .mv (.t 19), none, []⟩])
         .ret)
        (.seq
         (.region [⟨(some 21), .mv (.t 0), none, []⟩,
           ⟨(some 22), .bin .geq .any (.t 21) (.c (.int .i32 65)), none, []⟩,
           ⟨(some 23), .mv (.t 22), none, []⟩,
           ⟨(some 24), .mv (.t 0), (some (23, true)), []⟩,
           ⟨(some 25), .bin .leq .any (.t 24) (.c (.int .i32 70)), (some (23, true)), []⟩,
           ⟨(some 26), .pick (.t 23) (.t 25) (.c (.bool false)), none, []⟩,
           ⟨(some 20), .mv (.t 26), none, []⟩])
         (.cond (.t 20)
          (.seq
           (.region [⟨(some 27), .mv (.t 0), none, []⟩,
             ⟨(some 28), .bin .sub .any (.t 27) (.c (.int .i32 65)), none, []⟩,
             ⟨(some 29), .conv (.int .i64) false (.t 28), none, []⟩,
             ⟨(some 30), .bin .add .any (.t 29) (.c (.int .i64 10)), none, []⟩,
             ⟨(some 2), .mv (.t 30), none, []⟩])
           .ret)
          .skip)))))))
   (.seq
    (.region [⟨(some 2), .mv (.c (.int .i64 (-1))), none, []⟩])
    .ret))),
 [.tmp 2]⟩

/-- woodcut/chars.Number -/
def f8 : DFunc := ⟨35,
 (.seq
  (.region [⟨(some 4), .mv (.c (.int .i64 0)), none, []⟩,
    ⟨(some 5), .mv (.c (.int .i64 0)), none, []⟩])
  (.seq
   (.region [⟨(some 6), .mv (.c (.int .i64 0)), none, []⟩,
     ⟨(some 7), .mv (.c (.int .i64 0)), none, []⟩])
   (.seq
    (.block 0
     (.loop
      (.seq
       (.seq
        (.region [⟨(some 9), .mv (.t 7), none, []⟩,
          ⟨(some 10), .mv (.t 0), none, []⟩,
          ⟨(some 11), .len true (.t 10), none, []⟩,
          ⟨(some 12), .bin .lss .any (.t 9) (.t 11), none, []⟩])
        (.cond (.t 12)
         .skip
         (.exit 0)))
       (.block 1
        (.seq
         (.region [⟨(some 13), .mv (.t 0), none, []⟩,
           ⟨(some 14), .mv (.t 7), none, []⟩,
           ⟨(some 15), .iaddr 1 (.t 13) (.t 14), none, []⟩,
           ⟨(some 16), .load none (.t 15), none, []⟩,
           ⟨(some 17), .call (.f 7) [(.t 16)] false, none, []⟩,
           ⟨(some 8), .mv (.t 17), none, []⟩])
         (.seq
          (.seq
           (.region [⟨(some 18), .mv (.t 8), none, []⟩,
             ⟨(some 19), .bin .lss .any (.t 18) (.c (.int .i64 0)), none, []⟩,
             ⟨(some 20), .mv (.t 19), none, []⟩,
             ⟨(some 21), .mv (.t 8), (some (20, false)), []⟩,
             ⟨(some 22), .mv (.t 1), (some (20, false)), []⟩,
             ⟨(some 23), .bin .geq .any (.t 21) (.t 22), (some (20, false)), []⟩,
             ⟨(some 24), .pick (.t 20) (.c (.bool true)) (.t 23), none, []⟩])
           (.cond (.t 24)
            (.exit 0)
            .skip))
          (.seq
           (.region [⟨(some 25), .mv (.t 6), none, []⟩,
             ⟨(some 26), .mv (.t 1), none, []⟩,
             ⟨(some 27), .bin .mul .any (.t 25) (.t 26), none, []⟩,
             ⟨(some 28), .mv (.t 8), none, []⟩,
             ⟨(some 29), .bin .add .any (.t 27) (.t 28), none, []⟩,
             ⟨(some 30), .minmax false (.t 29) (.c (.int .i64 1114112)), none, []⟩,
             ⟨(some 6), .mv (.t 30), none, []⟩])
           (.region [⟨(some 31), .mv (.t 7), none, []⟩,
             ⟨(some 32), .bin .add .any (.t 31) (.c (.int .i64 1)), none, []⟩,
             ⟨(some 7), .mv (.t 32), none, []⟩]))))))))
    (.seq
     (.region [⟨(some 33), .mv (.t 6), none, []⟩,
       ⟨(some 34), .mv (.t 7), none, []⟩,
       ⟨(some 4), .mv (.t 33), none, []⟩,
       ⟨(some 5), .mv (.t 34), none, []⟩])
     .ret)))),
 [.tmp 4, .tmp 5]⟩

/-- woodcut/chars.Match -/
def f9 : DFunc := ⟨84,
 (.seq
  (.region [⟨(some 2), .mv (.c (.lst 0 0 [])), none, []⟩,
    ⟨(some 3), .mv (.c (.int .i64 0)), none, []⟩,
    ⟨(some 4), .mv (.c (.bool false)), none, []⟩])
  (.seq
   (.region [⟨(some 5), .mv (.c (.int .i64 (-1))), none, []⟩,
     ⟨(some 6), .mv (.c (.int .i64 0)), none, []⟩,
     ⟨(some 7), .mv (.c (.bool false)), none, []⟩])
   (.seq
    (.seq
     (.region [⟨(some 13), .call (.f 11) [] false, none, []⟩,
       ⟨(some 14), .len true (.t 13), none, []⟩,
       ⟨(some 15), .mv (.c (.int .i64 0)), none, []⟩])
     (.block 0
      (.loop
       (.seq
        (.region [⟨(some 16), .bin .lss .any (.t 15) (.t 14), none, []⟩])
        (.seq
         (.cond (.t 16)
          .skip
          (.exit 0))
         (.seq
          (.block 1
           (.seq
            (.region [⟨(some 17), .mv (.t 15), none, []⟩,
              ⟨(some 18), .iaddr 3 (.t 13) (.t 15), none, []⟩,
              ⟨(some 19), .load (some 3) (.t 18), none, []⟩,
              ⟨(some 9), .alloc [(.str []), (.int .i32 0), (.bool false)] none, none, []⟩,
              ⟨(some 8), .mv (.t 17), none, []⟩,
              ⟨none, .store 3 (.t 9) (.t 19), none, []⟩])
            (.seq
             (.region [⟨(some 20), .faddr 0 (.t 9), none, []⟩,
               ⟨(some 21), .load none (.t 20), none, []⟩,
               ⟨(some 22), .len false (.t 21), none, []⟩,
               ⟨(some 10), .mv (.t 22), none, []⟩])
             (.seq
              (.seq
               (.region [⟨(some 23), .mv (.t 10), none, []⟩,
                 ⟨(some 24), .mv (.t 0), none, []⟩,
                 ⟨(some 25), .len true (.t 24), none, []⟩,
                 ⟨(some 26), .bin .gtr .any (.t 23) (.t 25), none, []⟩,
                 ⟨(some 27), .mv (.t 26), none, []⟩,
                 ⟨(some 28), .mv (.t 0), (some (27, false)), []⟩,
                 ⟨(some 29), .mv (.t 10), (some (27, false)), []⟩,
                 ⟨(some 30), .slice 1 (.t 28) none (some (.t 29)) none, (some (27, false)), []⟩,
                 ⟨(some 31), .conv .runesStr false (.t 30), (some (27, false)), []⟩,
                 ⟨(some 32), .faddr 0 (.t 9), (some (27, false)), []⟩,
                 ⟨(some 33), .load none (.t 32), (some (27, false)), []⟩,
                 ⟨(some 34), .bin .neq .any (.t 31) (.t 33), (some (27, false)), []⟩,
                 ⟨(some 35), .pick (.t 27) (.c (.bool true)) (.t 34), none, []⟩])
               (.cond (.t 35)
                (.exit 1)
                .skip))
              (.seq
               (.region [⟨(some 36), .mv (.t 10), none, []⟩,
                 ⟨(some 37), .mv (.t 0), none, []⟩,
                 ⟨(some 38), .len true (.t 37), none, []⟩,
                 ⟨(some 39), .bin .lss .any (.t 36) (.t 38), none, []⟩,
                 ⟨(some 40), .mv (.t 39), none, []⟩,
                 ⟨(some 41), .mv (.t 0), (some (40, true)), []⟩,
                 ⟨(some 42), .mv (.t 10), (some (40, true)), []⟩,
                 ⟨(some 43), .iaddr 1 (.t 41) (.t 42), (some (40, true)), []⟩,
                 ⟨(some 44), .load none (.t 43), (some (40, true)), []⟩,
                 ⟨(some 45), .bin .eql .any (.t 44) (.c (.int .i32 59)), (some (40, true)), []⟩,
                 ⟨(some 46), .pick (.t 40) (.t 45) (.c (.bool false)), none, []⟩,
                 ⟨(some 11), .mv (.t 46), none, []⟩])
               (.seq
                (.seq
                 (.region [⟨(some 47), .mv (.t 11), none, []⟩])
                 (.cond (.t 47)
                  (.region [⟨(some 48), .mv (.t 10), none, []⟩,
                    ⟨(some 49), .bin .add .any (.t 48) (.c (.int .i64 1)), none, []⟩,
                    ⟨(some 10), .mv (.t 49), none, []⟩])
                  .skip))
                (.seq
                 (.region [⟨(some 50), .mv (.t 11), none, []⟩,
                   ⟨(some 51), .mv (.t 50), none, []⟩,
                   ⟨(some 52), .faddr 2 (.t 9), (some (51, false)), []⟩,
                   ⟨(some 53), .load none (.t 52), (some (51, false)), []⟩,
                   ⟨(some 54), .pick (.t 51) (.c (.bool true)) (.t 53), none, []⟩,
                   ⟨(some 55), .mv (.t 54), none, []⟩,
                   ⟨(some 56), .mv (.t 10), (some (55, true)), []⟩,
                   ⟨(some 57), .mv (.t 6), (some (55, true)), []⟩,
                   ⟨(some 58), .bin .gtr .any (.t 56) (.t 57), (some (55, true)), []⟩,
                   ⟨(some 59), .pick (.t 55) (.t 58) (.c (.bool false)), none, []⟩])
                 (.cond (.t 59)
                  (.region [⟨(some 60), .mv (.t 8), none, []⟩,
                    ⟨(some 61), .mv (.t 10), none, []⟩,
                    ⟨(some 62), .mv (.t 11), none, []⟩,
                    ⟨(some 5), .mv (.t 60), none, []⟩,
                    ⟨(some 6), .mv (.t 61), none, []⟩,
                    ⟨(some 7), .mv (.t 62), none, []⟩])
                  .skip))))))))
          (.region [⟨(some 63), .bin .add .any (.t 15) (.c (.int .i64 1)), none, []⟩,
            ⟨(some 15), .mv (.t 63), none, []⟩])))))))
    (.seq
     (.seq
      (.region [⟨(some 64), .mv (.t 5), none, []⟩,
        ⟨(some 65), .bin .lss .any (.t 64) (.c (.int .i64 0)), none, []⟩])
      (.cond (.t 65)
       (.seq
        (.region [⟨(some 2), .mv (.c (.lst 0 0 [])), none, []⟩,
          ⟨(some 3), .mv (.c (.int .i64 0)), none, []⟩,
          ⟨(some 4), .mv (.c (.bool false)), none, []⟩])
        .ret)
       .skip))
     (.seq
      (.region [⟨(some 66), .call (.f 11) [] false, none, []⟩,
        ⟨(some 67), .mv (.t 5), none, []⟩,
        ⟨(some 68), .iaddr 3 (.t 66) (.t 67), none, []⟩,
        ⟨(some 69), .faddr 1 (.t 68), none, []⟩,
        ⟨(some 70), .load none (.t 69), none, []⟩,
        ⟨(some 71), .mks false none (.int .i32 0) 1 [(0, (.t 70))], none, []⟩,
        ⟨(some 12), .mv (.t 71), none, []⟩])
      (.seq
       (.seq
        (.region [⟨(some 72), .call (.f 11) [] false, none, []⟩,
          ⟨(some 73), .mv (.t 5), none, []⟩,
          ⟨(some 74), .iaddr 3 (.t 72) (.t 73), none, []⟩,
          ⟨(some 75), .faddr 0 (.t 74), none, []⟩,
          ⟨(some 76), .load none (.t 75), none, []⟩,
          ⟨(some 77), .bin .eql .any (.t 76) (.c (.str [110, 118, 108, 116])), none, []⟩])
        (.cond (.t 77)
         (.region [⟨(some 78), .mv (.t 12), none, []⟩,
           ⟨(some 79), .mks false none (.int .i32 0) 1 [(0, (.c (.int .i32 8402)))], none, []⟩,
           ⟨(some 80), .append false none 4 (.t 78) (.t 79), none, []⟩,
           ⟨(some 12), .mv (.t 80), none, []⟩])
         .skip))
       (.seq
        (.region [⟨(some 81), .mv (.t 12), none, []⟩,
          ⟨(some 82), .mv (.t 6), none, []⟩,
          ⟨(some 83), .mv (.t 7), none, []⟩,
          ⟨(some 2), .mv (.t 81), none, []⟩,
          ⟨(some 3), .mv (.t 82), none, []⟩,
          ⟨(some 4), .mv (.t 83), none, []⟩])
        .ret))))))),
 [.tmp 2, .tmp 3, .tmp 4]⟩

/-- woodcut/text.Digit -/
def f10 : DFunc := ⟨9,
 (.seq
  (.region [⟨(some 2), .mv (.c (.bool false)), none, []⟩])
  (.seq
   (.region [⟨(some 3), .mv (.t 0), none, []⟩,
     ⟨(some 4), .bin .geq .any (.t 3) (.c (.int .i32 48)), none, []⟩,
     ⟨(some 5), .mv (.t 4), none, []⟩,
     ⟨(some 6), .mv (.t 0), (some (5, true)), []⟩,
     ⟨(some 7), .bin .leq .any (.t 6) (.c (.int .i32 57)), (some (5, true)), []⟩,
     ⟨(some 8), .pick (.t 5) (.t 7) (.c (.bool false)), none, []⟩,
     ⟨(some 2), .mv (.t 8), none, []⟩])
   .ret)),
 [.tmp 2]⟩

/-- woodcut/chars.table -/
def f11 : DFunc := ⟨63,
 (.seq
  (.region [⟨(some 0), .mv (.c (.lst 0 0 [])), none, []⟩])
  (.seq
   (.region [⟨(some 1), .build [(.str []), (.int .i32 0), (.bool false)] [(0, 1, (.c (.str [97, 109, 112]))), (1, 1, (.c (.int .i32 38))), (2, 1, (.c (.bool true)))], none, []⟩,
     ⟨(some 2), .build [(.str []), (.int .i32 0), (.bool false)] [(0, 1, (.c (.str [108, 116]))), (1, 1, (.c (.int .i32 60))), (2, 1, (.c (.bool true)))], none, []⟩,
     ⟨(some 3), .build [(.str []), (.int .i32 0), (.bool false)] [(0, 1, (.c (.str [103, 116]))), (1, 1, (.c (.int .i32 62))), (2, 1, (.c (.bool true)))], none, []⟩,
     ⟨(some 4), .build [(.str []), (.int .i32 0), (.bool false)] [(0, 1, (.c (.str [113, 117, 111, 116]))), (1, 1, (.c (.int .i32 34))), (2, 1, (.c (.bool true)))], none, []⟩,
     ⟨(some 5), .build [(.str []), (.int .i32 0), (.bool false)] [(0, 1, (.c (.str [65, 77, 80]))), (1, 1, (.c (.int .i32 38))), (2, 1, (.c (.bool true)))], none, []⟩,
     ⟨(some 6), .build [(.str []), (.int .i32 0), (.bool false)] [(0, 1, (.c (.str [76, 84]))), (1, 1, (.c (.int .i32 60))), (2, 1, (.c (.bool true)))], none, []⟩,
     ⟨(some 7), .build [(.str []), (.int .i32 0), (.bool false)] [(0, 1, (.c (.str [71, 84]))), (1, 1, (.c (.int .i32 62))), (2, 1, (.c (.bool true)))], none, []⟩,
     ⟨(some 8), .build [(.str []), (.int .i32 0), (.bool false)] [(0, 1, (.c (.str [110, 98, 115, 112]))), (1, 1, (.c (.int .i32 160))), (2, 1, (.c (.bool true)))], none, []⟩,
     ⟨(some 9), .build [(.str []), (.int .i32 0), (.bool false)] [(0, 1, (.c (.str [105, 101, 120, 99, 108]))), (1, 1, (.c (.int .i32 161))), (2, 1, (.c (.bool true)))], none, []⟩,
     ⟨(some 10), .build [(.str []), (.int .i32 0), (.bool false)] [(0, 1, (.c (.str [99, 101, 110, 116]))), (1, 1, (.c (.int .i32 162))), (2, 1, (.c (.bool true)))], none, []⟩,
     ⟨(some 11), .build [(.str []), (.int .i32 0), (.bool false)] [(0, 1, (.c (.str [112, 111, 117, 110, 100]))), (1, 1, (.c (.int .i32 163))), (2, 1, (.c (.bool true)))], none, []⟩,
     ⟨(some 12), .build [(.str []), (.int .i32 0), (.bool false)] [(0, 1, (.c (.str [121, 101, 110]))), (1, 1, (.c (.int .i32 165))), (2, 1, (.c (.bool true)))], none, []⟩,
     ⟨(some 13), .build [(.str []), (.int .i32 0), (.bool false)] [(0, 1, (.c (.str [115, 101, 99, 116]))), (1, 1, (.c (.int .i32 167))), (2, 1, (.c (.bool true)))], none, []⟩,
     ⟨(some 14), .build [(.str []), (.int .i32 0), (.bool false)] [(0, 1, (.c (.str [99, 111, 112, 121]))), (1, 1, (.c (.int .i32 169))), (2, 1, (.c (.bool true)))], none, []⟩,
     ⟨(some 15), .build [(.str []), (.int .i32 0), (.bool false)] [(0, 1, (.c (.str [108, 97, 113, 117, 111]))), (1, 1, (.c (.int .i32 171))), (2, 1, (.c (.bool true)))], none, []⟩,
     ⟨(some 16), .build [(.str []), (.int .i32 0), (.bool false)] [(0, 1, (.c (.str [110, 111, 116]))), (1, 1, (.c (.int .i32 172))), (2, 1, (.c (.bool true)))], none, []⟩,
     ⟨(some 17), .build [(.str []), (.int .i32 0), (.bool false)] [(0, 1, (.c (.str [115, 104, 121]))), (1, 1, (.c (.int .i32 173))), (2, 1, (.c (.bool true)))], none, []⟩,
     ⟨(some 18), .build [(.str []), (.int .i32 0), (.bool false)] [(0, 1, (.c (.str [114, 101, 103]))), (1, 1, (.c (.int .i32 174))), (2, 1, (.c (.bool true)))], none, []⟩,
     ⟨(some 19), .build [(.str []), (.int .i32 0), (.bool false)] [(0, 1, (.c (.str [100, 101, 103]))), (1, 1, (.c (.int .i32 176))), (2, 1, (.c (.bool true)))], none, []⟩,
     ⟨(some 20), .build [(.str []), (.int .i32 0), (.bool false)] [(0, 1, (.c (.str [112, 108, 117, 115, 109, 110]))), (1, 1, (.c (.int .i32 177))), (2, 1, (.c (.bool true)))], none, []⟩,
     ⟨(some 21), .build [(.str []), (.int .i32 0), (.bool false)] [(0, 1, (.c (.str [115, 117, 112, 50]))), (1, 1, (.c (.int .i32 178))), (2, 1, (.c (.bool true)))], none, []⟩,
     ⟨(some 22), .build [(.str []), (.int .i32 0), (.bool false)] [(0, 1, (.c (.str [109, 105, 99, 114, 111]))), (1, 1, (.c (.int .i32 181))), (2, 1, (.c (.bool true)))], none, []⟩,
     ⟨(some 23), .build [(.str []), (.int .i32 0), (.bool false)] [(0, 1, (.c (.str [112, 97, 114, 97]))), (1, 1, (.c (.int .i32 182))), (2, 1, (.c (.bool true)))], none, []⟩,
     ⟨(some 24), .build [(.str []), (.int .i32 0), (.bool false)] [(0, 1, (.c (.str [109, 105, 100, 100, 111, 116]))), (1, 1, (.c (.int .i32 183))), (2, 1, (.c (.bool true)))], none, []⟩,
     ⟨(some 25), .build [(.str []), (.int .i32 0), (.bool false)] [(0, 1, (.c (.str [114, 97, 113, 117, 111]))), (1, 1, (.c (.int .i32 187))), (2, 1, (.c (.bool true)))], none, []⟩,
     ⟨(some 26), .build [(.str []), (.int .i32 0), (.bool false)] [(0, 1, (.c (.str [102, 114, 97, 99, 49, 50]))), (1, 1, (.c (.int .i32 189))), (2, 1, (.c (.bool true)))], none, []⟩,
     ⟨(some 27), .build [(.str []), (.int .i32 0), (.bool false)] [(0, 1, (.c (.str [105, 113, 117, 101, 115, 116]))), (1, 1, (.c (.int .i32 191))), (2, 1, (.c (.bool true)))], none, []⟩,
     ⟨(some 28), .build [(.str []), (.int .i32 0), (.bool false)] [(0, 1, (.c (.str [65, 117, 109, 108]))), (1, 1, (.c (.int .i32 196))), (2, 1, (.c (.bool true)))], none, []⟩,
     ⟨(some 29), .build [(.str []), (.int .i32 0), (.bool false)] [(0, 1, (.c (.str [69, 97, 99, 117, 116, 101]))), (1, 1, (.c (.int .i32 201))), (2, 1, (.c (.bool true)))], none, []⟩,
     ⟨(some 30), .build [(.str []), (.int .i32 0), (.bool false)] [(0, 1, (.c (.str [79, 117, 109, 108]))), (1, 1, (.c (.int .i32 214))), (2, 1, (.c (.bool true)))], none, []⟩,
     ⟨(some 31), .build [(.str []), (.int .i32 0), (.bool false)] [(0, 1, (.c (.str [116, 105, 109, 101, 115]))), (1, 1, (.c (.int .i32 215))), (2, 1, (.c (.bool true)))], none, []⟩,
     ⟨(some 32), .build [(.str []), (.int .i32 0), (.bool false)] [(0, 1, (.c (.str [85, 117, 109, 108]))), (1, 1, (.c (.int .i32 220))), (2, 1, (.c (.bool true)))], none, []⟩,
     ⟨(some 33), .build [(.str []), (.int .i32 0), (.bool false)] [(0, 1, (.c (.str [115, 122, 108, 105, 103]))), (1, 1, (.c (.int .i32 223))), (2, 1, (.c (.bool true)))], none, []⟩,
     ⟨(some 34), .build [(.str []), (.int .i32 0), (.bool false)] [(0, 1, (.c (.str [97, 103, 114, 97, 118, 101]))), (1, 1, (.c (.int .i32 224))), (2, 1, (.c (.bool true)))], none, []⟩,
     ⟨(some 35), .build [(.str []), (.int .i32 0), (.bool false)] [(0, 1, (.c (.str [97, 117, 109, 108]))), (1, 1, (.c (.int .i32 228))), (2, 1, (.c (.bool true)))], none, []⟩,
     ⟨(some 36), .build [(.str []), (.int .i32 0), (.bool false)] [(0, 1, (.c (.str [99, 99, 101, 100, 105, 108]))), (1, 1, (.c (.int .i32 231))), (2, 1, (.c (.bool true)))], none, []⟩,
     ⟨(some 37), .build [(.str []), (.int .i32 0), (.bool false)] [(0, 1, (.c (.str [101, 97, 99, 117, 116, 101]))), (1, 1, (.c (.int .i32 233))), (2, 1, (.c (.bool true)))], none, []⟩,
     ⟨(some 38), .build [(.str []), (.int .i32 0), (.bool false)] [(0, 1, (.c (.str [110, 116, 105, 108, 100, 101]))), (1, 1, (.c (.int .i32 241))), (2, 1, (.c (.bool true)))], none, []⟩,
     ⟨(some 39), .build [(.str []), (.int .i32 0), (.bool false)] [(0, 1, (.c (.str [111, 117, 109, 108]))), (1, 1, (.c (.int .i32 246))), (2, 1, (.c (.bool true)))], none, []⟩,
     ⟨(some 40), .build [(.str []), (.int .i32 0), (.bool false)] [(0, 1, (.c (.str [100, 105, 118, 105, 100, 101]))), (1, 1, (.c (.int .i32 247))), (2, 1, (.c (.bool true)))], none, []⟩,
     ⟨(some 41), .build [(.str []), (.int .i32 0), (.bool false)] [(0, 1, (.c (.str [117, 117, 109, 108]))), (1, 1, (.c (.int .i32 252))), (2, 1, (.c (.bool true)))], none, []⟩,
     ⟨(some 42), .build [(.str []), (.int .i32 0), (.bool false)] [(0, 1, (.c (.str [97, 112, 111, 115]))), (1, 1, (.c (.int .i32 39))), (2, 1, (.c (.bool false)))], none, []⟩,
     ⟨(some 43), .build [(.str []), (.int .i32 0), (.bool false)] [(0, 1, (.c (.str [104, 101, 108, 108, 105, 112]))), (1, 1, (.c (.int .i32 8230))), (2, 1, (.c (.bool false)))], none, []⟩,
     ⟨(some 44), .build [(.str []), (.int .i32 0), (.bool false)] [(0, 1, (.c (.str [109, 100, 97, 115, 104]))), (1, 1, (.c (.int .i32 8212))), (2, 1, (.c (.bool false)))], none, []⟩,
     ⟨(some 45), .build [(.str []), (.int .i32 0), (.bool false)] [(0, 1, (.c (.str [110, 100, 97, 115, 104]))), (1, 1, (.c (.int .i32 8211))), (2, 1, (.c (.bool false)))], none, []⟩,
     ⟨(some 46), .build [(.str []), (.int .i32 0), (.bool false)] [(0, 1, (.c (.str [101, 117, 114, 111]))), (1, 1, (.c (.int .i32 8364))), (2, 1, (.c (.bool false)))], none, []⟩,
     ⟨(some 47), .build [(.str []), (.int .i32 0), (.bool false)] [(0, 1, (.c (.str [116, 114, 97, 100, 101]))), (1, 1, (.c (.int .i32 8482))), (2, 1, (.c (.bool false)))], none, []⟩,
     ⟨(some 48), .build [(.str []), (.int .i32 0), (.bool false)] [(0, 1, (.c (.str [108, 97, 114, 114]))), (1, 1, (.c (.int .i32 8592))), (2, 1, (.c (.bool false)))], none, []⟩,
     ⟨(some 49), .build [(.str []), (.int .i32 0), (.bool false)] [(0, 1, (.c (.str [114, 97, 114, 114]))), (1, 1, (.c (.int .i32 8594))), (2, 1, (.c (.bool false)))], none, []⟩,
     ⟨(some 50), .build [(.str []), (.int .i32 0), (.bool false)] [(0, 1, (.c (.str [110, 111, 116, 105, 110]))), (1, 1, (.c (.int .i32 8713))), (2, 1, (.c (.bool false)))], none, []⟩,
     ⟨(some 51), .build [(.str []), (.int .i32 0), (.bool false)] [(0, 1, (.c (.str [97, 108, 112, 104, 97]))), (1, 1, (.c (.int .i32 945))), (2, 1, (.c (.bool false)))], none, []⟩,
     ⟨(some 52), .build [(.str []), (.int .i32 0), (.bool false)] [(0, 1, (.c (.str [111, 109, 101, 103, 97]))), (1, 1, (.c (.int .i32 969))), (2, 1, (.c (.bool false)))], none, []⟩,
     ⟨(some 53), .build [(.str []), (.int .i32 0), (.bool false)] [(0, 1, (.c (.str [105, 110, 102, 105, 110]))), (1, 1, (.c (.int .i32 8734))), (2, 1, (.c (.bool false)))], none, []⟩,
     ⟨(some 54), .build [(.str []), (.int .i32 0), (.bool false)] [(0, 1, (.c (.str [98, 117, 108, 108]))), (1, 1, (.c (.int .i32 8226))), (2, 1, (.c (.bool false)))], none, []⟩,
     ⟨(some 55), .build [(.str []), (.int .i32 0), (.bool false)] [(0, 1, (.c (.str [108, 115, 113, 117, 111]))), (1, 1, (.c (.int .i32 8216))), (2, 1, (.c (.bool false)))], none, []⟩,
     ⟨(some 56), .build [(.str []), (.int .i32 0), (.bool false)] [(0, 1, (.c (.str [114, 115, 113, 117, 111]))), (1, 1, (.c (.int .i32 8217))), (2, 1, (.c (.bool false)))], none, []⟩,
     ⟨(some 57), .build [(.str []), (.int .i32 0), (.bool false)] [(0, 1, (.c (.str [108, 100, 113, 117, 111]))), (1, 1, (.c (.int .i32 8220))), (2, 1, (.c (.bool false)))], none, []⟩,
     ⟨(some 58), .build [(.str []), (.int .i32 0), (.bool false)] [(0, 1, (.c (.str [114, 100, 113, 117, 111]))), (1, 1, (.c (.int .i32 8221))), (2, 1, (.c (.bool false)))], none, []⟩,
     ⟨(some 59), .build [(.str []), (.int .i32 0), (.bool false)] [(0, 1, (.c (.str [110, 101]))), (1, 1, (.c (.int .i32 8800))), (2, 1, (.c (.bool false)))], none, []⟩,
     ⟨(some 60), .build [(.str []), (.int .i32 0), (.bool false)] [(0, 1, (.c (.str [108, 101]))), (1, 1, (.c (.int .i32 8804))), (2, 1, (.c (.bool false)))], none, []⟩,
     ⟨(some 61), .build [(.str []), (.int .i32 0), (.bool false)] [(0, 1, (.c (.str [110, 118, 108, 116]))), (1, 1, (.c (.int .i32 60))), (2, 1, (.c (.bool false)))], none, []⟩,
     ⟨(some 62), .mks false (some 3) (.agg [(.str []), (.int .i32 0), (.bool false)]) 61 [(0, (.t 1)), (1, (.t 2)), (2, (.t 3)), (3, (.t 4)), (4, (.t 5)), (5, (.t 6)), (6, (.t 7)), (7, (.t 8)), (8, (.t 9)), (9, (.t 10)), (10, (.t 11)), (11, (.t 12)), (12, (.t 13)), (13, (.t 14)), (14, (.t 15)), (15, (.t 16)), (16, (.t 17)), (17, (.t 18)), (18, (.t 19)), (19, (.t 20)), (20, (.t 21)), (21, (.t 22)), (22, (.t 23)), (23, (.t 24)), (24, (.t 25)), (25, (.t 26)), (26, (.t 27)), (27, (.t 28)), (28, (.t 29)), (29, (.t 30)), (30, (.t 31)), (31, (.t 32)), (32, (.t 33)), (33, (.t 34)), (34, (.t 35)), (35, (.t 36)), (36, (.t 37)), (37, (.t 38)), (38, (.t 39)), (39, (.t 40)), (40, (.t 41)), (41, (.t 42)), (42, (.t 43)), (43, (.t 44)), (44, (.t 45)), (45, (.t 46)), (46, (.t 47)), (47, (.t 48)), (48, (.t 49)), (49, (.t 50)), (50, (.t 51)), (51, (.t 52)), (52, (.t 53)), (53, (.t 54)), (54, (.t 55)), (55, (.t 56)), (56, (.t 57)), (57, (.t 58)), (58, (.t 59)), (59, (.t 60)), (60, (.t 61))], none, []⟩,
     ⟨(some 0), .mv (.t 62), none, []⟩])
   .ret)),
 [.tmp 0]⟩

theorem ok3 : compF Tryd.prog cfg 3 = some f3 := by kernel_rfl
theorem ok4 : compF Tryd.prog cfg 4 = some f4 := by kernel_rfl
theorem ok5 : compF Tryd.prog cfg 5 = some f5 := by kernel_rfl
theorem ok6 : compF Tryd.prog cfg 6 = some f6 := by kernel_rfl
theorem ok7 : compF Tryd.prog cfg 7 = some f7 := by kernel_rfl
theorem ok8 : compF Tryd.prog cfg 8 = some f8 := by kernel_rfl
theorem ok9 : compF Tryd.prog cfg 9 = some f9 := by kernel_rfl
theorem ok10 : compF Tryd.prog cfg 10 = some f10 := by kernel_rfl
theorem ok11 : compF Tryd.prog cfg 11 = some f11 := by kernel_rfl
def tab (f : Nat) : Option DFunc := if f = 3 then some f3 else if f = 4 then some f4 else if f = 5 then some f5 else if f = 6 then some f6 else if f = 7 then some f7 else if f = 8 then some f8 else if f = 9 then some f9 else if f = 10 then some f10 else if f = 11 then some f11 else none
def windows : List Int := [8364, 129, 8218, 402, 8222, 8230, 8224, 8225, 710, 8240, 352, 8249, 338, 141, 381, 143, 144, 8216, 8217, 8220, 8221, 8226, 8211, 8212, 732, 8482, 353, 8250, 339, 157, 382, 376]
def glob (g : Nat) : Option (List DV) := if g = 0 then some (windows.map (DV.int .i32)) else none
def D : DProg := ⟨tab, glob, fun _ => none⟩
theorem hD : ∀ f df, D.fn f = some df → compF Tryd.prog cfg f = some df := by
  intro f df h
  simp only [D, tab] at h
  repeat' split at h
  · cases h; subst_vars; exact ok3
  · cases h; subst_vars; exact ok4
  · cases h; subst_vars; exact ok5
  · cases h; subst_vars; exact ok6
  · cases h; subst_vars; exact ok7
  · cases h; subst_vars; exact ok8
  · cases h; subst_vars; exact ok9
  · cases h; subst_vars; exact ok10
  · cases h; subst_vars; exact ok11
  · cases h
theorem hm : Tryd.prog.follows .mixedOrders = true := by kernel_rfl
theorem headRuns : (run D 400 5 [] Heap.start).map (·.1) = some (.bool true) := by kernel_rfl
end Go.Proofs.YtjhednolknlpiaaDoor.Code
