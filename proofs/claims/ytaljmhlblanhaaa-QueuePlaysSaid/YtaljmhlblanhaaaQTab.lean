/-
  The code of the functions, as the evaluator takes it; the table. Printed by a program of the session out of the program itself; that it is the program is proved here. No condition.
-/
import Derived.Test.YtaljmhlblanhaaaEngP
import Derived.Test.YtaljmhlblanhaaaProg
import Derived.KernelRfl
namespace Go.Proofs.Ytaljmhlblanhaaa.Eng
open Go

/-- cascade/cascadelaw25.QueueSoon -/
def af3l0 : ACode :=
  (.seq
          (.seq
           (.reg [⟨(some 96), .mov (.tmp 13)⟩,
             ⟨(some 97), .mov (.tmp 7)⟩,
             ⟨(some 98), .len 1 (.tmp 97)⟩,
             ⟨(some 99), .bin .lss (.tmp 96) (.tmp 98)⟩])
          (.cond (.tmp 99)
           .skip
           (.exit 2)))
         (.seq
          (.blk 3
           (.seq
            (.reg [⟨(some 102), .mov (.tmp 8)⟩,
              ⟨(some 103), .mov (.tmp 13)⟩,
              ⟨(some 104), .iadr 1 (.tmp 102) (.tmp 103)⟩,
              ⟨(some 105), .load none (.tmp 104)⟩,
              ⟨(some 106), .un .not (.tmp 105)⟩,
              ⟨(some 114), .sc 107 true (.tmp 106) [⟨(some 108), .mov (.tmp 9)⟩, ⟨(some 109), .mov (.tmp 7)⟩, ⟨(some 110), .mov (.tmp 13)⟩, ⟨(some 111), .iadr 1 (.tmp 109) (.tmp 110)⟩, ⟨(some 112), .load none (.tmp 111)⟩, ⟨(some 113), .bin .geq (.tmp 108) (.tmp 112)⟩] (.tmp 113)⟩])
           (.cond (.tmp 114)
            (.seq
             (.reg [⟨(some 4), .mov (.c (.bool false))⟩])
            .ret)
            .skip)))
         (.reg [⟨(some 100), .mov (.tmp 13)⟩,
           ⟨(some 101), .bin .add (.tmp 100) (.c (.int .i64 1))⟩,
           ⟨(some 13), .mov (.tmp 101)⟩])))
def af3l1 : ACode :=
  (.seq
      (.seq
       (.reg [⟨(some 27), .mov (.tmp 10)⟩,
         ⟨(some 28), .mov (.tmp 1)⟩,
         ⟨(some 29), .len 1 (.tmp 28)⟩,
         ⟨(some 30), .bin .lss (.tmp 27) (.tmp 29)⟩])
      (.cond (.tmp 30)
       .skip
       (.exit 0)))
     (.seq
      (.blk 1
       (.seq
        (.seq
         (.reg [⟨(some 33), .mov (.tmp 1)⟩,
           ⟨(some 34), .mov (.tmp 10)⟩,
           ⟨(some 35), .iadr 3 (.tmp 33) (.tmp 34)⟩,
           ⟨(some 36), .fadr 0 (.tmp 35)⟩,
           ⟨(some 37), .load none (.tmp 36)⟩,
           ⟨(some 38), .un .not (.tmp 37)⟩])
        (.cond (.tmp 38)
         (.seq
          (.reg [⟨(some 39), .mov (.tmp 7)⟩,
            ⟨(some 40), .mov (.tmp 9)⟩,
            ⟨(some 41), .mov (.tmp 5)⟩,
            ⟨(some 42), .bin .add (.tmp 40) (.tmp 41)⟩,
            ⟨(some 43), .mov (.tmp 6)⟩,
            ⟨(some 44), .call false false (.c (.fn (.func 8) [] [])) [(.tmp 43)]⟩,
            ⟨(some 45), .bin .add (.tmp 42) (.tmp 44)⟩,
            ⟨(some 46), .bin .add (.tmp 45) (.c (.int .i64 1))⟩,
            ⟨(some 47), .bsl 1 (.int .i64 0) 1 [(0, (.tmp 46))]⟩,
            ⟨(some 48), .app false 1 (8, 3) (.tmp 39) (.tmp 47)⟩,
            ⟨(some 7), .mov (.tmp 48)⟩])
         (.seq
          (.reg [⟨(some 49), .mov (.tmp 8)⟩,
            ⟨(some 50), .bsl 1 (.bool false) 1 [(0, (.c (.bool false)))]⟩,
            ⟨(some 51), .appm 1 (1, 4) (.tmp 49) (.tmp 50)⟩,
            ⟨(some 8), .mov (.tmp 51)⟩])
         (.seq
          (.reg [⟨(some 52), .mov (.tmp 6)⟩,
            ⟨(some 53), .mov (.tmp 7)⟩,
            ⟨(some 54), .len 1 (.tmp 53)⟩,
            ⟨(some 55), .bin .sub (.tmp 54) (.c (.int .i64 1))⟩,
            ⟨(some 56), .call false false (.c (.fn (.func 9) [] [])) [(.tmp 52), (.tmp 55)]⟩])
         (.exit 1))))
         .skip))
       (.seq
        (.reg [⟨(some 58), .mov (.tmp 6)⟩,
          ⟨(some 59), .mov (.tmp 1)⟩,
          ⟨(some 60), .mov (.tmp 10)⟩,
          ⟨(some 61), .iadr 3 (.tmp 59) (.tmp 60)⟩,
          ⟨(some 62), .fadr 1 (.tmp 61)⟩,
          ⟨(some 63), .load none (.tmp 62)⟩,
          ⟨(some 64), .call false false (.c (.fn (.func 10) [] [])) [(.tmp 58), (.tmp 63)]⟩,
          ⟨(some 57), .mov (.tmp 64)⟩,
          ⟨(some 65), .ext (.tmp 57) 0⟩,
          ⟨(some 66), .ext (.tmp 57) 1⟩,
          ⟨(some 11), .mov (.tmp 65)⟩,
          ⟨(some 12), .mov (.tmp 66)⟩])
       (.seq
        (.seq
         (.reg [⟨(some 67), .mov (.tmp 12)⟩,
           ⟨(some 68), .un .not (.tmp 67)⟩])
        (.cond (.tmp 68)
         (.exit 1)
         .skip))
       (.seq
        (.reg [⟨(some 69), .mov (.tmp 9)⟩,
          ⟨(some 70), .bin .add (.tmp 69) (.c (.int .i64 1))⟩,
          ⟨(some 9), .mov (.tmp 70)⟩])
       (.seq
        (.seq
         (.reg [⟨(some 71), .mov (.tmp 11)⟩,
           ⟨(some 72), .bin .lss (.tmp 71) (.c (.int .i64 0))⟩,
           ⟨(some 78), .sc 73 false (.tmp 72) [⟨(some 74), .mov (.tmp 11)⟩, ⟨(some 75), .mov (.tmp 7)⟩, ⟨(some 76), .len 1 (.tmp 75)⟩, ⟨(some 77), .bin .geq (.tmp 74) (.tmp 76)⟩] (.tmp 77)⟩,
           ⟨(some 84), .sc 79 false (.tmp 78) [⟨(some 80), .mov (.tmp 8)⟩, ⟨(some 81), .mov (.tmp 11)⟩, ⟨(some 82), .iadr 1 (.tmp 80) (.tmp 81)⟩, ⟨(some 83), .load none (.tmp 82)⟩] (.tmp 83)⟩,
           ⟨(some 92), .sc 85 false (.tmp 84) [⟨(some 86), .mov (.tmp 9)⟩, ⟨(some 87), .mov (.tmp 7)⟩, ⟨(some 88), .mov (.tmp 11)⟩, ⟨(some 89), .iadr 1 (.tmp 87) (.tmp 88)⟩, ⟨(some 90), .load none (.tmp 89)⟩, ⟨(some 91), .bin .gtr (.tmp 86) (.tmp 90)⟩] (.tmp 91)⟩])
        (.cond (.tmp 92)
         (.seq
          (.reg [⟨(some 4), .mov (.c (.bool false))⟩])
         .ret)
         .skip))
       (.seq
        (.reg [⟨(some 93), .mov (.tmp 8)⟩,
          ⟨(some 94), .mov (.tmp 11)⟩,
          ⟨(some 95), .iadr 1 (.tmp 93) (.tmp 94)⟩,
          ⟨none, .store 1 (.tmp 95) (.c (.bool true))⟩])
       (.seq
        (.reg [⟨(some 13), .mov (.c (.int .i64 0))⟩])
       (.blk 2
        (.loop false af3l0))))))))))
     (.reg [⟨(some 31), .mov (.tmp 10)⟩,
       ⟨(some 32), .bin .add (.tmp 31) (.c (.int .i64 1))⟩,
       ⟨(some 10), .mov (.tmp 32)⟩])))
def af3b : ACode :=
  (.seq
   (.reg [⟨(some 4), .mov (.c (.bool false))⟩])
  (.seq
   (.seq
    (.reg [⟨(some 14), .call false false (.c (.fn (.func 6) [] [])) []⟩,
      ⟨(some 15), .un .not (.tmp 14)⟩,
      ⟨(some 20), .sc 16 false (.tmp 15) [⟨(some 17), .mov (.tmp 1)⟩, ⟨(some 18), .len 1 (.tmp 17)⟩, ⟨(some 19), .bin .gtr (.tmp 18) (.c (.int .i64 60))⟩] (.tmp 19)⟩])
   (.cond (.tmp 20)
    (.seq
     (.reg [⟨(some 21), .call false false (.c (.fn (.func 6) [] [])) []⟩,
       ⟨(some 4), .mov (.tmp 21)⟩])
    .ret)
    .skip))
  (.seq
   (.reg [⟨(some 22), .mov (.tmp 0)⟩,
     ⟨(some 23), .bin .rem (.tmp 22) (.c (.int .u8 11))⟩,
     ⟨(some 24), .cvI .i64 (.tmp 23)⟩,
     ⟨(some 5), .mov (.tmp 24)⟩])
  (.seq
   (.reg [⟨(some 25), .mov (.tmp 5)⟩,
     ⟨(some 26), .call false false (.c (.fn (.func 7) [] [])) [(.tmp 25)]⟩,
     ⟨(some 6), .mov (.tmp 26)⟩])
  (.seq
   (.reg [⟨(some 7), .mov (.c (.sl .nil []))⟩])
  (.seq
   (.reg [⟨(some 8), .mov (.c (.sl .nil []))⟩])
  (.seq
   (.reg [⟨(some 9), .mov (.c (.int .i64 0))⟩])
  (.seq
   (.seq
    (.reg [⟨(some 10), .mov (.c (.int .i64 0))⟩])
   (.blk 0
    (.loop false af3l1)))
  (.seq
   (.reg [⟨(some 4), .mov (.c (.bool true))⟩])
  .ret)))))))))
def af3 : AFunc := ⟨115, [.tmp 4], af3b, true⟩

/-- cascade/cascadelaw25.QueueAll -/
def af4l0 : ACode :=
  (.seq
      (.seq
       (.reg [⟨(some 29), .mov (.tmp 10)⟩,
         ⟨(some 30), .mov (.tmp 7)⟩,
         ⟨(some 31), .bin .lss (.tmp 29) (.tmp 30)⟩])
      (.cond (.tmp 31)
       .skip
       (.exit 0)))
     (.seq
      (.blk 1
       (.seq
        (.reg [⟨(some 34), .mov (.tmp 8)⟩,
          ⟨(some 35), .mov (.tmp 10)⟩,
          ⟨(some 36), .call false false (.c (.fn (.func 9) [] [])) [(.tmp 34), (.tmp 35)]⟩])
       (.reg [⟨(some 37), .mov (.tmp 9)⟩,
         ⟨(some 38), .mov (.tmp 10)⟩,
         ⟨(some 39), .call false false (.c (.fn (.func 9) [] [])) [(.tmp 37), (.tmp 38)]⟩])))
     (.reg [⟨(some 32), .mov (.tmp 10)⟩,
       ⟨(some 33), .bin .add (.tmp 32) (.c (.int .i64 1))⟩,
       ⟨(some 10), .mov (.tmp 33)⟩])))
def af4l1 : ACode :=
  (.seq
      (.seq
       (.reg [⟨(some 42), .mov (.tmp 12)⟩,
         ⟨(some 43), .mov (.tmp 7)⟩,
         ⟨(some 44), .bin .lss (.tmp 42) (.tmp 43)⟩])
      (.cond (.tmp 44)
       .skip
       (.exit 2)))
     (.seq
      (.blk 3
       (.seq
        (.reg [⟨(some 13), .mov (.c (.int .i64 0))⟩])
       (.seq
        (.seq
         (.reg [⟨(some 47), .mov (.tmp 12)⟩,
           ⟨(some 48), .mov (.tmp 2)⟩,
           ⟨(some 49), .len 1 (.tmp 48)⟩,
           ⟨(some 50), .bin .lss (.tmp 47) (.tmp 49)⟩])
        (.cond (.tmp 50)
         (.reg [⟨(some 51), .mov (.tmp 2)⟩,
           ⟨(some 52), .mov (.tmp 12)⟩,
           ⟨(some 53), .iadr 1 (.tmp 51) (.tmp 52)⟩,
           ⟨(some 54), .load none (.tmp 53)⟩,
           ⟨(some 13), .mov (.tmp 54)⟩])
         .skip))
       (.seq
        (.reg [⟨(some 56), .mov (.tmp 8)⟩,
          ⟨(some 57), .mov (.tmp 13)⟩,
          ⟨(some 58), .call false false (.c (.fn (.func 10) [] [])) [(.tmp 56), (.tmp 57)]⟩,
          ⟨(some 55), .mov (.tmp 58)⟩,
          ⟨(some 59), .ext (.tmp 55) 0⟩,
          ⟨(some 60), .ext (.tmp 55) 1⟩,
          ⟨(some 14), .mov (.tmp 59)⟩,
          ⟨(some 15), .mov (.tmp 60)⟩])
       (.seq
        (.reg [⟨(some 62), .mov (.tmp 9)⟩,
          ⟨(some 63), .mov (.tmp 13)⟩,
          ⟨(some 64), .call false false (.c (.fn (.func 10) [] [])) [(.tmp 62), (.tmp 63)]⟩,
          ⟨(some 61), .mov (.tmp 64)⟩,
          ⟨(some 65), .ext (.tmp 61) 0⟩,
          ⟨(some 66), .ext (.tmp 61) 1⟩,
          ⟨(some 16), .mov (.tmp 65)⟩,
          ⟨(some 17), .mov (.tmp 66)⟩])
       (.seq
        (.seq
         (.reg [⟨(some 67), .mov (.tmp 15)⟩,
           ⟨(some 68), .un .not (.tmp 67)⟩,
           ⟨(some 72), .sc 69 false (.tmp 68) [⟨(some 70), .mov (.tmp 17)⟩, ⟨(some 71), .un .not (.tmp 70)⟩] (.tmp 71)⟩,
           ⟨(some 77), .sc 73 false (.tmp 72) [⟨(some 74), .mov (.tmp 16)⟩, ⟨(some 75), .mov (.tmp 12)⟩, ⟨(some 76), .bin .neq (.tmp 74) (.tmp 75)⟩] (.tmp 76)⟩,
           ⟨(some 81), .sc 78 false (.tmp 77) [⟨(some 79), .mov (.tmp 14)⟩, ⟨(some 80), .bin .lss (.tmp 79) (.c (.int .i64 0))⟩] (.tmp 80)⟩,
           ⟨(some 86), .sc 82 false (.tmp 81) [⟨(some 83), .mov (.tmp 14)⟩, ⟨(some 84), .mov (.tmp 7)⟩, ⟨(some 85), .bin .geq (.tmp 83) (.tmp 84)⟩] (.tmp 85)⟩,
           ⟨(some 92), .sc 87 false (.tmp 86) [⟨(some 88), .mov (.tmp 11)⟩, ⟨(some 89), .mov (.tmp 14)⟩, ⟨(some 90), .iadr 1 (.tmp 88) (.tmp 89)⟩, ⟨(some 91), .load none (.tmp 90)⟩] (.tmp 91)⟩])
        (.cond (.tmp 92)
         (.seq
          (.reg [⟨(some 6), .mov (.c (.bool false))⟩])
         .ret)
         .skip))
       (.reg [⟨(some 93), .mov (.tmp 11)⟩,
         ⟨(some 94), .mov (.tmp 14)⟩,
         ⟨(some 95), .iadr 1 (.tmp 93) (.tmp 94)⟩,
         ⟨none, .store 1 (.tmp 95) (.c (.bool true))⟩])))))))
     (.reg [⟨(some 45), .mov (.tmp 12)⟩,
       ⟨(some 46), .bin .add (.tmp 45) (.c (.int .i64 1))⟩,
       ⟨(some 12), .mov (.tmp 46)⟩])))
def af4b : ACode :=
  (.seq
   (.reg [⟨(some 6), .mov (.c (.bool false))⟩])
  (.seq
   (.seq
    (.reg [⟨(some 20), .call false false (.c (.fn (.func 6) [] [])) []⟩,
      ⟨(some 21), .un .not (.tmp 20)⟩])
   (.cond (.tmp 21)
    (.seq
     (.reg [⟨(some 6), .mov (.c (.bool false))⟩])
    .ret)
    .skip))
  (.seq
   (.reg [⟨(some 22), .mov (.tmp 0)⟩,
     ⟨(some 23), .bin .rem (.tmp 22) (.c (.int .u8 41))⟩,
     ⟨(some 24), .cvI .i64 (.tmp 23)⟩,
     ⟨(some 7), .mov (.tmp 24)⟩])
  (.seq
   (.reg [⟨(some 25), .mov (.tmp 1)⟩,
     ⟨(some 26), .cvI .i64 (.tmp 25)⟩,
     ⟨(some 27), .call false false (.c (.fn (.func 7) [] [])) [(.tmp 26)]⟩,
     ⟨(some 28), .call false false (.c (.fn (.func 7) [] [])) [(.c (.int .i64 0))]⟩,
     ⟨(some 8), .mov (.tmp 27)⟩,
     ⟨(some 9), .mov (.tmp 28)⟩])
  (.seq
   (.seq
    (.reg [⟨(some 10), .mov (.c (.int .i64 0))⟩])
   (.blk 0
    (.loop false af4l0)))
  (.seq
   (.reg [⟨(some 40), .mov (.tmp 7)⟩,
     ⟨(some 41), .mks 1 (1, 4) (.bool false) (.tmp 40) (.tmp 40)⟩,
     ⟨(some 11), .mov (.tmp 41)⟩])
  (.seq
   (.seq
    (.reg [⟨(some 12), .mov (.c (.int .i64 0))⟩])
   (.blk 2
    (.loop false af4l1)))
  (.seq
   (.reg [⟨(some 97), .mov (.tmp 8)⟩,
     ⟨(some 98), .call false false (.c (.fn (.func 10) [] [])) [(.tmp 97), (.c (.int .i64 0))]⟩,
     ⟨(some 96), .mov (.tmp 98)⟩,
     ⟨(some 99), .ext (.tmp 96) 0⟩,
     ⟨(some 100), .ext (.tmp 96) 1⟩,
     ⟨(some 18), .mov (.tmp 99)⟩,
     ⟨(some 19), .mov (.tmp 100)⟩])
  (.seq
   (.reg [⟨(some 101), .mov (.tmp 19)⟩,
     ⟨(some 102), .un .not (.tmp 101)⟩,
     ⟨(some 107), .sc 103 true (.tmp 102) [⟨(some 104), .mov (.tmp 8)⟩, ⟨(some 105), .call false false (.c (.fn (.func 8) [] [])) [(.tmp 104)]⟩, ⟨(some 106), .bin .eql (.tmp 105) (.c (.int .i64 0))⟩] (.tmp 106)⟩,
     ⟨(some 112), .sc 108 true (.tmp 107) [⟨(some 109), .mov (.tmp 9)⟩, ⟨(some 110), .call false false (.c (.fn (.func 8) [] [])) [(.tmp 109)]⟩, ⟨(some 111), .bin .eql (.tmp 110) (.c (.int .i64 0))⟩] (.tmp 111)⟩,
     ⟨(some 6), .mov (.tmp 112)⟩])
  .ret)))))))))
def af4 : AFunc := ⟨113, [.tmp 6], af4b, true⟩

/-- cascade/cascadelaw25.QueuePlays -/
def af5l0 : ACode :=
  (.seq
          (.seq
           (.reg [⟨(some 99), .mov (.tmp 14)⟩,
             ⟨(some 100), .mov (.tmp 13)⟩,
             ⟨(some 101), .len 1 (.tmp 100)⟩,
             ⟨(some 102), .bin .lss (.tmp 99) (.tmp 101)⟩])
          (.cond (.tmp 102)
           .skip
           (.exit 2)))
         (.seq
          (.blk 3
           (.seq
            (.regD [] [⟨(some 105), .mov (.tmp 13)⟩,
              ⟨(some 106), .mov (.tmp 14)⟩,
              ⟨(some 107), .iadr 1 (.tmp 105) (.tmp 106)⟩,
              ⟨(some 108), .load none (.tmp 107)⟩,
              ⟨(some 109), .fadr 2 (.tmp 6)⟩,
              ⟨(some 110), .load none (.tmp 109)⟩,
              ⟨(some 111), .fadr 1 (.tmp 6)⟩,
              ⟨(some 112), .load none (.tmp 111)⟩,
              ⟨(some 113), .mov (.tmp 14)⟩,
              ⟨(some 114), .iadr 2 (.tmp 112) (.tmp 113)⟩,
              ⟨(some 115), .fadr 1 (.tmp 114)⟩,
              ⟨(some 116), .load none (.tmp 115)⟩,
              ⟨(some 117), .bin .sub (.tmp 110) (.tmp 116)⟩,
              ⟨(some 118), .bin .neq (.tmp 108) (.tmp 117)⟩])
           (.cond (.tmp 118)
            (.seq
             (.reg [⟨(some 4), .mov (.c (.bool false))⟩])
            .ret)
            .skip)))
         (.reg [⟨(some 103), .mov (.tmp 14)⟩,
           ⟨(some 104), .bin .add (.tmp 103) (.c (.int .i64 1))⟩,
           ⟨(some 14), .mov (.tmp 104)⟩])))
def af5l1 : ACode :=
  (.seq
      (.seq
       (.reg [⟨(some 27), .mov (.tmp 7)⟩,
         ⟨(some 28), .mov (.tmp 1)⟩,
         ⟨(some 29), .len 1 (.tmp 28)⟩,
         ⟨(some 30), .bin .lss (.tmp 27) (.tmp 29)⟩])
      (.cond (.tmp 30)
       .skip
       (.exit 0)))
     (.seq
      (.blk 1
       (.seq
        (.seq
         (.reg [⟨(some 33), .mov (.tmp 1)⟩,
           ⟨(some 34), .mov (.tmp 7)⟩,
           ⟨(some 35), .iadr 3 (.tmp 33) (.tmp 34)⟩,
           ⟨(some 36), .fadr 0 (.tmp 35)⟩,
           ⟨(some 37), .load none (.tmp 36)⟩,
           ⟨(some 38), .un .not (.tmp 37)⟩])
        (.cond (.tmp 38)
         (.seq
          (.reg [⟨(some 39), .mov (.tmp 5)⟩,
            ⟨(some 40), .mov (.tmp 1)⟩,
            ⟨(some 41), .mov (.tmp 7)⟩,
            ⟨(some 42), .iadr 3 (.tmp 40) (.tmp 41)⟩,
            ⟨(some 43), .fadr 2 (.tmp 42)⟩,
            ⟨(some 44), .load none (.tmp 43)⟩,
            ⟨(some 45), .call false false (.c (.fn (.func 13) [] [])) [(.tmp 39), (.tmp 44)]⟩])
         (.regD [] [⟨(some 46), .load (some 3) (.tmp 6)⟩,
           ⟨(some 47), .mov (.tmp 1)⟩,
           ⟨(some 48), .mov (.tmp 7)⟩,
           ⟨(some 49), .iadr 3 (.tmp 47) (.tmp 48)⟩,
           ⟨(some 50), .fadr 2 (.tmp 49)⟩,
           ⟨(some 51), .load none (.tmp 50)⟩,
           ⟨(some 52), .call false true (.c (.fn (.func 14) [] [])) [(.tmp 46), (.tmp 51)]⟩,
           ⟨none, .store 3 (.tmp 6) (.tmp 52)⟩]))
         (.seq
          (.regD [] [⟨(some 54), .load (some 3) (.tmp 6)⟩,
            ⟨(some 55), .mov (.tmp 1)⟩,
            ⟨(some 56), .mov (.tmp 7)⟩,
            ⟨(some 57), .iadr 3 (.tmp 55) (.tmp 56)⟩,
            ⟨(some 58), .fadr 1 (.tmp 57)⟩,
            ⟨(some 59), .load none (.tmp 58)⟩,
            ⟨(some 60), .call false true (.c (.fn (.func 15) [] [])) [(.tmp 54), (.tmp 59)]⟩,
            ⟨(some 53), .mov (.tmp 60)⟩,
            ⟨(some 61), .ext (.tmp 53) 0⟩,
            ⟨(some 62), .ext (.tmp 53) 1⟩,
            ⟨(some 63), .ext (.tmp 53) 2⟩,
            ⟨(some 8), .new 40 [(.int .i64 0), (.sl .nil []), (.int .i64 0)]⟩,
            ⟨none, .store 3 (.tmp 8) (.tmp 61)⟩,
            ⟨(some 9), .mov (.tmp 62)⟩,
            ⟨(some 10), .mov (.tmp 63)⟩])
         (.seq
          (.reg [⟨(some 64), .load (some 3) (.tmp 8)⟩,
            ⟨none, .store 3 (.tmp 6) (.tmp 64)⟩])
         (.seq
          (.reg [⟨(some 66), .mov (.tmp 5)⟩,
            ⟨(some 67), .mov (.tmp 1)⟩,
            ⟨(some 68), .mov (.tmp 7)⟩,
            ⟨(some 69), .iadr 3 (.tmp 67) (.tmp 68)⟩,
            ⟨(some 70), .fadr 1 (.tmp 69)⟩,
            ⟨(some 71), .load none (.tmp 70)⟩,
            ⟨(some 72), .call false false (.c (.fn (.func 16) [] [])) [(.tmp 66), (.tmp 71)]⟩,
            ⟨(some 65), .mov (.tmp 72)⟩,
            ⟨(some 73), .ext (.tmp 65) 0⟩,
            ⟨(some 74), .ext (.tmp 65) 1⟩,
            ⟨(some 11), .mov (.tmp 73)⟩,
            ⟨(some 12), .mov (.tmp 74)⟩])
         (.seq
          (.reg [⟨(some 75), .mov (.tmp 9)⟩,
            ⟨(some 76), .mov (.tmp 11)⟩,
            ⟨(some 77), .bin .neq (.tmp 75) (.tmp 76)⟩,
            ⟨(some 82), .sc 78 false (.tmp 77) [⟨(some 79), .mov (.tmp 10)⟩, ⟨(some 80), .mov (.tmp 12)⟩, ⟨(some 81), .eqb true (.tmp 79) (.tmp 80)⟩] (.tmp 81)⟩])
         (.cond (.tmp 82)
          (.seq
           (.reg [⟨(some 4), .mov (.c (.bool false))⟩])
          .ret)
          .skip)))))))
       (.seq
        (.reg [⟨(some 83), .mov (.tmp 5)⟩,
          ⟨(some 84), .call false false (.c (.fn (.func 17) [] [])) [(.tmp 83)]⟩,
          ⟨(some 13), .mov (.tmp 84)⟩])
       (.seq
        (.seq
         (.regD [] [⟨(some 85), .mov (.tmp 5)⟩,
           ⟨(some 86), .call false true (.c (.fn (.func 18) [] [])) [(.tmp 85)]⟩,
           ⟨(some 87), .fadr 1 (.tmp 6)⟩,
           ⟨(some 88), .load none (.tmp 87)⟩,
           ⟨(some 89), .len 1 (.tmp 88)⟩,
           ⟨(some 90), .bin .neq (.tmp 86) (.tmp 89)⟩,
           ⟨(some 98), .sc 91 false (.tmp 90) [⟨(some 92), .mov (.tmp 13)⟩, ⟨(some 93), .len 1 (.tmp 92)⟩, ⟨(some 94), .fadr 1 (.tmp 6)⟩, ⟨(some 95), .load none (.tmp 94)⟩, ⟨(some 96), .len 1 (.tmp 95)⟩, ⟨(some 97), .bin .neq (.tmp 93) (.tmp 96)⟩] (.tmp 97)⟩])
        (.cond (.tmp 98)
         (.seq
          (.reg [⟨(some 4), .mov (.c (.bool false))⟩])
         .ret)
         .skip))
       (.seq
        (.reg [⟨(some 14), .mov (.c (.int .i64 0))⟩])
       (.blk 2
        (.loop false af5l0)))))))
     (.reg [⟨(some 31), .mov (.tmp 7)⟩,
       ⟨(some 32), .bin .add (.tmp 31) (.c (.int .i64 1))⟩,
       ⟨(some 7), .mov (.tmp 32)⟩])))
def af5b : ACode :=
  (.seq
   (.reg [⟨(some 4), .mov (.c (.bool false))⟩])
  (.seq
   (.seq
    (.reg [⟨(some 15), .call false false (.c (.fn (.func 6) [] [])) []⟩,
      ⟨(some 16), .un .not (.tmp 15)⟩,
      ⟨(some 21), .sc 17 false (.tmp 16) [⟨(some 18), .mov (.tmp 1)⟩, ⟨(some 19), .len 1 (.tmp 18)⟩, ⟨(some 20), .bin .gtr (.tmp 19) (.c (.int .i64 80))⟩] (.tmp 20)⟩])
   (.cond (.tmp 21)
    (.seq
     (.reg [⟨(some 22), .call false false (.c (.fn (.func 6) [] [])) []⟩,
       ⟨(some 4), .mov (.tmp 22)⟩])
    .ret)
    .skip))
  (.seq
   (.reg [⟨(some 23), .mov (.tmp 0)⟩,
     ⟨(some 24), .call false false (.c (.fn (.func 11) [] [])) [(.tmp 23)]⟩,
     ⟨(some 5), .mov (.tmp 24)⟩])
  (.seq
   (.reg [⟨(some 25), .mov (.tmp 0)⟩,
     ⟨(some 26), .call false false (.c (.fn (.func 12) [] [])) [(.tmp 25)]⟩,
     ⟨(some 6), .new 40 [(.int .i64 0), (.sl .nil []), (.int .i64 0)]⟩,
     ⟨none, .store 3 (.tmp 6) (.tmp 26)⟩])
  (.seq
   (.seq
    (.reg [⟨(some 7), .mov (.c (.int .i64 0))⟩])
   (.blk 0
    (.loop false af5l1)))
  (.seq
   (.reg [⟨(some 4), .mov (.c (.bool true))⟩])
  .ret))))))
def af5 : AFunc := ⟨119, [.tmp 4], af5b, true⟩

/-- cascade/cascadelaw25.awake -/
def af6b : ACode :=
  (.seq
   (.reg [⟨(some 0), .mov (.c (.bool false))⟩])
  (.seq
   (.reg [⟨(some 4), .call false false (.c (.fn (.func 7) [] [])) [(.c (.int .i64 2))]⟩,
     ⟨(some 1), .mov (.tmp 4)⟩])
  (.seq
   (.seq
    (.reg [⟨(some 5), .mov (.tmp 1)⟩,
      ⟨(some 6), .eqp false (.tmp 5) (.c .pnil)⟩])
   (.cond (.tmp 6)
    (.seq
     (.reg [⟨(some 0), .mov (.c (.bool false))⟩])
    .ret)
    .skip))
  (.seq
   (.reg [⟨(some 7), .mov (.tmp 1)⟩,
     ⟨(some 8), .call false false (.c (.fn (.func 9) [] [])) [(.tmp 7), (.c (.int .i64 7))]⟩])
  (.seq
   (.reg [⟨(some 10), .mov (.tmp 1)⟩,
     ⟨(some 11), .call false false (.c (.fn (.func 10) [] [])) [(.tmp 10), (.c (.int .i64 0))]⟩,
     ⟨(some 9), .mov (.tmp 11)⟩,
     ⟨(some 12), .ext (.tmp 9) 0⟩,
     ⟨(some 13), .ext (.tmp 9) 1⟩,
     ⟨(some 2), .mov (.tmp 12)⟩,
     ⟨(some 3), .mov (.tmp 13)⟩])
  (.seq
   (.reg [⟨(some 14), .mov (.tmp 3)⟩,
     ⟨(some 18), .sc 15 true (.tmp 14) [⟨(some 16), .mov (.tmp 2)⟩, ⟨(some 17), .bin .eql (.tmp 16) (.c (.int .i64 7))⟩] (.tmp 17)⟩,
     ⟨(some 0), .mov (.tmp 18)⟩])
  .ret))))))
def af6 : AFunc := ⟨19, [.tmp 0], af6b, true⟩

/-- cascade/queue.New[int] -/
def af7b : ACode :=
  (.seq
   (.reg [⟨(some 2), .mov (.c .pnil)⟩])
  (.seq
   (.reg [⟨(some 3), .mov (.tmp 0)⟩,
     ⟨(some 4), .mxn true (.tmp 3) (.c (.int .i64 0))⟩,
     ⟨(some 5), .build [(.int .i64 0), (.sl .nil [])] [(0, 1, (.tmp 4))]⟩,
     ⟨(some 6), .box 54 (.tmp 5)⟩,
     ⟨(some 2), .mov (.tmp 6)⟩])
  .ret))
def af7 : AFunc := ⟨7, [.tmp 2], af7b, true⟩

/-- (*cascade/queue.Queue[int]).Len -/
def af8b : ACode :=
  (.seq
   (.reg [⟨(some 2), .mov (.c (.int .i64 0))⟩])
  (.seq
   (.reg [⟨(some 3), .mov (.tmp 0)⟩,
     ⟨(some 4), .nilchk (.tmp 3)⟩,
     ⟨(some 5), .fadr 1 (.tmp 4)⟩,
     ⟨(some 6), .load none (.tmp 5)⟩,
     ⟨(some 7), .len 1 (.tmp 6)⟩,
     ⟨(some 2), .mov (.tmp 7)⟩])
  .ret))
def af8 : AFunc := ⟨8, [.tmp 2], af8b, false⟩

/-- (*cascade/queue.Queue[int]).Put -/
def af9b : ACode :=
  (.reg [⟨(some 4), .mov (.tmp 0)⟩,
    ⟨(some 5), .mov (.tmp 0)⟩,
    ⟨(some 6), .nilchk (.tmp 5)⟩,
    ⟨(some 7), .fadr 1 (.tmp 6)⟩,
    ⟨(some 8), .load none (.tmp 7)⟩,
    ⟨(some 9), .mov (.tmp 1)⟩,
    ⟨(some 10), .build [(.int .i64 0), (.int .i64 0)] [(0, 1, (.tmp 9))]⟩,
    ⟨(some 11), .bsl 2 (.agg [(.int .i64 0), (.int .i64 0)]) 1 [(0, (.tmp 10))]⟩,
    ⟨(some 12), .appm 2 (16, 56) (.tmp 8) (.tmp 11)⟩,
    ⟨(some 13), .nilchk (.tmp 4)⟩,
    ⟨(some 14), .fadr 1 (.tmp 13)⟩,
    ⟨none, .store 1 (.tmp 14) (.tmp 12)⟩])
def af9 : AFunc := ⟨15, [], af9b, true⟩

/-- (*cascade/queue.Queue[int]).Take -/
def af10l0 : ACode :=
  (.seq
      (.reg [⟨(some 45), .bin .lss (.tmp 44) (.tmp 43)⟩])
     (.seq
      (.cond (.tmp 45)
       .skip
       (.exit 0))
     (.seq
      (.blk 1
       (.seq
        (.reg [⟨(some 46), .mov (.tmp 44)⟩,
          ⟨(some 9), .mov (.tmp 46)⟩])
       (.reg [⟨(some 47), .mov (.tmp 0)⟩,
         ⟨(some 48), .nilchk (.tmp 47)⟩,
         ⟨(some 49), .fadr 1 (.tmp 48)⟩,
         ⟨(some 50), .load none (.tmp 49)⟩,
         ⟨(some 51), .mov (.tmp 9)⟩,
         ⟨(some 52), .iadr 2 (.tmp 50) (.tmp 51)⟩,
         ⟨(some 53), .fadr 1 (.tmp 52)⟩,
         ⟨(some 54), .load none (.tmp 53)⟩,
         ⟨(some 55), .bin .add (.tmp 54) (.c (.int .i64 1))⟩,
         ⟨(some 56), .iadr 2 (.tmp 50) (.tmp 51)⟩,
         ⟨(some 57), .fadr 1 (.tmp 56)⟩,
         ⟨none, .store 1 (.tmp 57) (.tmp 55)⟩])))
     (.reg [⟨(some 58), .bin .add (.tmp 44) (.c (.int .i64 1))⟩,
       ⟨(some 44), .mov (.tmp 58)⟩]))))
def af10b : ACode :=
  (.seq
   (.reg [⟨(some 4), .mov (.c (.int .i64 0))⟩,
     ⟨(some 5), .mov (.c (.bool false))⟩])
  (.seq
   (.seq
    (.reg [⟨(some 10), .mov (.tmp 0)⟩,
      ⟨(some 11), .nilchk (.tmp 10)⟩,
      ⟨(some 12), .fadr 1 (.tmp 11)⟩,
      ⟨(some 13), .load none (.tmp 12)⟩,
      ⟨(some 14), .len 1 (.tmp 13)⟩,
      ⟨(some 15), .bin .eql (.tmp 14) (.c (.int .i64 0))⟩])
   (.cond (.tmp 15)
    (.seq
     (.reg [⟨(some 6), .mov (.c (.int .i64 0))⟩])
    (.seq
     (.reg [⟨(some 16), .mov (.tmp 6)⟩,
       ⟨(some 4), .mov (.tmp 16)⟩,
       ⟨(some 5), .mov (.c (.bool false))⟩])
    .ret))
    .skip))
  (.seq
   (.reg [⟨(some 17), .mov (.tmp 0)⟩,
     ⟨(some 18), .mov (.tmp 1)⟩,
     ⟨(some 19), .call false false (.c (.fn (.func 19) [] [])) [(.tmp 17), (.tmp 18)]⟩,
     ⟨(some 7), .mov (.tmp 19)⟩])
  (.seq
   (.reg [⟨(some 20), .mov (.tmp 0)⟩,
     ⟨(some 21), .nilchk (.tmp 20)⟩,
     ⟨(some 22), .fadr 1 (.tmp 21)⟩,
     ⟨(some 23), .load none (.tmp 22)⟩,
     ⟨(some 24), .mov (.tmp 7)⟩,
     ⟨(some 25), .iadr 2 (.tmp 23) (.tmp 24)⟩,
     ⟨(some 26), .fadr 0 (.tmp 25)⟩,
     ⟨(some 27), .load none (.tmp 26)⟩,
     ⟨(some 8), .mov (.tmp 27)⟩])
  (.seq
   (.reg [⟨(some 28), .mov (.tmp 0)⟩,
     ⟨(some 29), .mov (.tmp 0)⟩,
     ⟨(some 30), .nilchk (.tmp 29)⟩,
     ⟨(some 31), .fadr 1 (.tmp 30)⟩,
     ⟨(some 32), .load none (.tmp 31)⟩,
     ⟨(some 33), .mov (.tmp 7)⟩,
     ⟨(some 34), .mov (.tmp 7)⟩,
     ⟨(some 35), .bin .add (.tmp 34) (.c (.int .i64 1))⟩,
     ⟨(some 36), .call false false (.c (.fn (.func 20) [] [])) [(.tmp 32), (.tmp 33), (.tmp 35)]⟩,
     ⟨(some 37), .nilchk (.tmp 28)⟩,
     ⟨(some 38), .fadr 1 (.tmp 37)⟩,
     ⟨none, .store 1 (.tmp 38) (.tmp 36)⟩])
  (.seq
   (.seq
    (.reg [⟨(some 39), .mov (.tmp 0)⟩,
      ⟨(some 40), .nilchk (.tmp 39)⟩,
      ⟨(some 41), .fadr 1 (.tmp 40)⟩,
      ⟨(some 42), .load none (.tmp 41)⟩,
      ⟨(some 43), .len 1 (.tmp 42)⟩,
      ⟨(some 44), .mov (.c (.int .i64 0))⟩])
   (.blk 0
    (.loop false af10l0)))
  (.seq
   (.reg [⟨(some 59), .mov (.tmp 8)⟩,
     ⟨(some 4), .mov (.tmp 59)⟩,
     ⟨(some 5), .mov (.c (.bool true))⟩])
  .ret)))))))
def af10 : AFunc := ⟨60, [.tmp 4, .tmp 5], af10b, true⟩

/-- cascade/queue.New[string] -/
def af11b : ACode :=
  (.seq
   (.reg [⟨(some 2), .mov (.c .pnil)⟩])
  (.seq
   (.reg [⟨(some 3), .mov (.tmp 0)⟩,
     ⟨(some 4), .mxn true (.tmp 3) (.c (.int .i64 0))⟩,
     ⟨(some 5), .build [(.int .i64 0), (.sl .nil [])] [(0, 1, (.tmp 4))]⟩,
     ⟨(some 6), .box 61 (.tmp 5)⟩,
     ⟨(some 2), .mov (.tmp 6)⟩])
  .ret))
def af11 : AFunc := ⟨7, [.tmp 2], af11b, true⟩

/-- cascade/cascaderef25.New -/
def af12b : ACode :=
  (.seq
   (.reg [⟨(some 2), .new 40 [(.int .i64 0), (.sl .nil []), (.int .i64 0)]⟩])
  (.seq
   (.reg [⟨(some 3), .mov (.tmp 0)⟩,
     ⟨(some 4), .mxn true (.tmp 3) (.c (.int .i64 0))⟩,
     ⟨(some 5), .build [(.int .i64 0), (.sl .nil []), (.int .i64 0)] [(0, 1, (.tmp 4))]⟩,
     ⟨none, .store 3 (.tmp 2) (.tmp 5)⟩])
  .ret))
def af12 : AFunc := ⟨6, [.cell 2 (some 3)], af12b, false⟩

/-- (*cascade/queue.Queue[string]).Put -/
def af13b : ACode :=
  (.reg [⟨(some 4), .mov (.tmp 0)⟩,
    ⟨(some 5), .mov (.tmp 0)⟩,
    ⟨(some 6), .nilchk (.tmp 5)⟩,
    ⟨(some 7), .fadr 1 (.tmp 6)⟩,
    ⟨(some 8), .load none (.tmp 7)⟩,
    ⟨(some 9), .mov (.tmp 1)⟩,
    ⟨(some 10), .build [(.str []), (.int .i64 0)] [(0, 1, (.tmp 9))]⟩,
    ⟨(some 11), .bsl 2 (.agg [(.str []), (.int .i64 0)]) 1 [(0, (.tmp 10))]⟩,
    ⟨(some 12), .appm 2 (24, 63) (.tmp 8) (.tmp 11)⟩,
    ⟨(some 13), .nilchk (.tmp 4)⟩,
    ⟨(some 14), .fadr 1 (.tmp 13)⟩,
    ⟨none, .store 1 (.tmp 14) (.tmp 12)⟩])
def af13 : AFunc := ⟨15, [], af13b, true⟩

/-- (cascade/cascaderef25.Queue).Put -/
def af14b : ACode :=
  (.seq
   (.reg [⟨(some 2), .box 40 (.tmp 0)⟩,
     ⟨(some 4), .new 40 [(.int .i64 0), (.sl .nil []), (.int .i64 0)]⟩])
  (.seq
   (.regD [] [⟨(some 5), .bsl 2 (.agg [(.str []), (.int .i64 0)]) 0 []⟩,
     ⟨(some 6), .fadr 1 (.tmp 2)⟩,
     ⟨(some 7), .load none (.tmp 6)⟩,
     ⟨(some 8), .app false 2 (24, 50) (.tmp 5) (.tmp 7)⟩,
     ⟨(some 9), .mov (.tmp 1)⟩,
     ⟨(some 10), .fadr 2 (.tmp 2)⟩,
     ⟨(some 11), .load none (.tmp 10)⟩,
     ⟨(some 12), .build [(.str []), (.int .i64 0)] [(0, 1, (.tmp 9)), (1, 1, (.tmp 11))]⟩,
     ⟨(some 13), .bsl 2 (.agg [(.str []), (.int .i64 0)]) 1 [(0, (.tmp 12))]⟩,
     ⟨(some 14), .app false 2 (24, 50) (.tmp 8) (.tmp 13)⟩,
     ⟨(some 15), .fadr 1 (.tmp 2)⟩,
     ⟨none, .store 1 (.tmp 15) (.tmp 14)⟩])
  (.seq
   (.reg [⟨(some 16), .load (some 3) (.tmp 2)⟩,
     ⟨none, .store 3 (.tmp 4) (.tmp 16)⟩])
  .ret)))
def af14 : AFunc := ⟨17, [.cell 4 (some 3)], af14b, false⟩

/-- (cascade/cascaderef25.Queue).Take -/
def af15l0 : ACode :=
  (.seq
      (.seq
       (.reg [⟨(some 28), .mov (.tmp 9)⟩,
         ⟨(some 29), .bin .geq (.tmp 28) (.c (.int .i64 0))⟩])
      (.cond (.tmp 29)
       .skip
       (.exit 0)))
     (.seq
      (.blk 1
       (.seq
        (.regD [] [⟨(some 32), .fadr 2 (.tmp 2)⟩,
          ⟨(some 33), .load none (.tmp 32)⟩,
          ⟨(some 34), .fadr 1 (.tmp 2)⟩,
          ⟨(some 35), .load none (.tmp 34)⟩,
          ⟨(some 36), .mov (.tmp 9)⟩,
          ⟨(some 37), .iadr 2 (.tmp 35) (.tmp 36)⟩,
          ⟨(some 38), .fadr 1 (.tmp 37)⟩,
          ⟨(some 39), .load none (.tmp 38)⟩,
          ⟨(some 40), .bin .sub (.tmp 33) (.tmp 39)⟩,
          ⟨(some 41), .fadr 0 (.tmp 2)⟩,
          ⟨(some 42), .load none (.tmp 41)⟩,
          ⟨(some 43), .bin .geq (.tmp 40) (.tmp 42)⟩])
       (.cond (.tmp 43)
        (.reg [⟨(some 44), .mov (.tmp 9)⟩,
          ⟨(some 8), .mov (.tmp 44)⟩])
        .skip)))
     (.reg [⟨(some 30), .mov (.tmp 9)⟩,
       ⟨(some 31), .bin .sub (.tmp 30) (.c (.int .i64 1))⟩,
       ⟨(some 9), .mov (.tmp 31)⟩])))
def af15b : ACode :=
  (.seq
   (.reg [⟨(some 2), .box 40 (.tmp 0)⟩,
     ⟨(some 4), .new 40 [(.int .i64 0), (.sl .nil []), (.int .i64 0)]⟩,
     ⟨(some 5), .mov (.c (.str []))⟩,
     ⟨(some 6), .mov (.c (.bool false))⟩])
  (.seq
   (.reg [⟨(some 12), .fadr 1 (.tmp 2)⟩,
     ⟨(some 13), .load none (.tmp 12)⟩,
     ⟨(some 14), .len 1 (.tmp 13)⟩,
     ⟨(some 7), .mov (.tmp 14)⟩])
  (.seq
   (.seq
    (.reg [⟨(some 15), .mov (.tmp 7)⟩,
      ⟨(some 16), .bin .eql (.tmp 15) (.c (.int .i64 0))⟩])
   (.cond (.tmp 16)
    (.seq
     (.reg [⟨(some 17), .load (some 3) (.tmp 2)⟩,
       ⟨none, .store 3 (.tmp 4) (.tmp 17)⟩,
       ⟨(some 5), .mov (.c (.str []))⟩,
       ⟨(some 6), .mov (.c (.bool false))⟩])
    .ret)
    .skip))
  (.seq
   (.reg [⟨(some 18), .mov (.tmp 1)⟩,
     ⟨(some 19), .mov (.tmp 7)⟩,
     ⟨(some 20), .bin .rem (.tmp 18) (.tmp 19)⟩,
     ⟨(some 8), .mov (.tmp 20)⟩])
  (.seq
   (.seq
    (.reg [⟨(some 21), .mov (.tmp 8)⟩,
      ⟨(some 22), .bin .lss (.tmp 21) (.c (.int .i64 0))⟩])
   (.cond (.tmp 22)
    (.reg [⟨(some 23), .mov (.tmp 8)⟩,
      ⟨(some 24), .mov (.tmp 7)⟩,
      ⟨(some 25), .bin .add (.tmp 23) (.tmp 24)⟩,
      ⟨(some 8), .mov (.tmp 25)⟩])
    .skip))
  (.seq
   (.seq
    (.reg [⟨(some 26), .mov (.tmp 7)⟩,
      ⟨(some 27), .bin .sub (.tmp 26) (.c (.int .i64 1))⟩,
      ⟨(some 9), .mov (.tmp 27)⟩])
   (.blk 0
    (.loop false af15l0)))
  (.seq
   (.reg [⟨(some 45), .fadr 1 (.tmp 2)⟩,
     ⟨(some 46), .load none (.tmp 45)⟩,
     ⟨(some 47), .mov (.tmp 8)⟩,
     ⟨(some 48), .iadr 2 (.tmp 46) (.tmp 47)⟩,
     ⟨(some 49), .fadr 0 (.tmp 48)⟩,
     ⟨(some 50), .load none (.tmp 49)⟩,
     ⟨(some 10), .mov (.tmp 50)⟩])
  (.seq
   (.reg [⟨(some 11), .mov (.c (.sl .nil []))⟩])
  (.seq
   (.reg [⟨(some 51), .mov (.tmp 11)⟩,
     ⟨(some 52), .fadr 1 (.tmp 2)⟩,
     ⟨(some 53), .load none (.tmp 52)⟩,
     ⟨(some 54), .mov (.tmp 8)⟩,
     ⟨(some 55), .slc 2 (.tmp 53) none (some (.tmp 54))⟩,
     ⟨(some 56), .app false 2 (24, 50) (.tmp 51) (.tmp 55)⟩,
     ⟨(some 11), .mov (.tmp 56)⟩])
  (.seq
   (.reg [⟨(some 57), .mov (.tmp 11)⟩,
     ⟨(some 58), .fadr 1 (.tmp 2)⟩,
     ⟨(some 59), .load none (.tmp 58)⟩,
     ⟨(some 60), .mov (.tmp 8)⟩,
     ⟨(some 61), .bin .add (.tmp 60) (.c (.int .i64 1))⟩,
     ⟨(some 62), .slc 2 (.tmp 59) (some (.tmp 61)) none⟩,
     ⟨(some 63), .app false 2 (24, 50) (.tmp 57) (.tmp 62)⟩,
     ⟨(some 11), .mov (.tmp 63)⟩])
  (.seq
   (.reg [⟨(some 64), .mov (.tmp 11)⟩,
     ⟨(some 65), .fadr 1 (.tmp 2)⟩,
     ⟨none, .store 1 (.tmp 65) (.tmp 64)⟩])
  (.seq
   (.reg [⟨(some 66), .fadr 2 (.tmp 2)⟩,
     ⟨(some 67), .load none (.tmp 66)⟩,
     ⟨(some 68), .bin .add (.tmp 67) (.c (.int .i64 1))⟩,
     ⟨(some 69), .fadr 2 (.tmp 2)⟩,
     ⟨none, .store 1 (.tmp 69) (.tmp 68)⟩])
  (.seq
   (.reg [⟨(some 70), .load (some 3) (.tmp 2)⟩,
     ⟨(some 71), .mov (.tmp 10)⟩,
     ⟨none, .store 3 (.tmp 4) (.tmp 70)⟩,
     ⟨(some 5), .mov (.tmp 71)⟩,
     ⟨(some 6), .mov (.c (.bool true))⟩])
  .ret)))))))))))))
def af15 : AFunc := ⟨72, [.cell 4 (some 3), .tmp 5, .tmp 6], af15b, false⟩

/-- (*cascade/queue.Queue[string]).Take -/
def af16l0 : ACode :=
  (.seq
      (.reg [⟨(some 45), .bin .lss (.tmp 44) (.tmp 43)⟩])
     (.seq
      (.cond (.tmp 45)
       .skip
       (.exit 0))
     (.seq
      (.blk 1
       (.seq
        (.reg [⟨(some 46), .mov (.tmp 44)⟩,
          ⟨(some 9), .mov (.tmp 46)⟩])
       (.reg [⟨(some 47), .mov (.tmp 0)⟩,
         ⟨(some 48), .nilchk (.tmp 47)⟩,
         ⟨(some 49), .fadr 1 (.tmp 48)⟩,
         ⟨(some 50), .load none (.tmp 49)⟩,
         ⟨(some 51), .mov (.tmp 9)⟩,
         ⟨(some 52), .iadr 2 (.tmp 50) (.tmp 51)⟩,
         ⟨(some 53), .fadr 1 (.tmp 52)⟩,
         ⟨(some 54), .load none (.tmp 53)⟩,
         ⟨(some 55), .bin .add (.tmp 54) (.c (.int .i64 1))⟩,
         ⟨(some 56), .iadr 2 (.tmp 50) (.tmp 51)⟩,
         ⟨(some 57), .fadr 1 (.tmp 56)⟩,
         ⟨none, .store 1 (.tmp 57) (.tmp 55)⟩])))
     (.reg [⟨(some 58), .bin .add (.tmp 44) (.c (.int .i64 1))⟩,
       ⟨(some 44), .mov (.tmp 58)⟩]))))
def af16b : ACode :=
  (.seq
   (.reg [⟨(some 4), .mov (.c (.str []))⟩,
     ⟨(some 5), .mov (.c (.bool false))⟩])
  (.seq
   (.seq
    (.reg [⟨(some 10), .mov (.tmp 0)⟩,
      ⟨(some 11), .nilchk (.tmp 10)⟩,
      ⟨(some 12), .fadr 1 (.tmp 11)⟩,
      ⟨(some 13), .load none (.tmp 12)⟩,
      ⟨(some 14), .len 1 (.tmp 13)⟩,
      ⟨(some 15), .bin .eql (.tmp 14) (.c (.int .i64 0))⟩])
   (.cond (.tmp 15)
    (.seq
     (.reg [⟨(some 6), .mov (.c (.str []))⟩])
    (.seq
     (.reg [⟨(some 16), .mov (.tmp 6)⟩,
       ⟨(some 4), .mov (.tmp 16)⟩,
       ⟨(some 5), .mov (.c (.bool false))⟩])
    .ret))
    .skip))
  (.seq
   (.reg [⟨(some 17), .mov (.tmp 0)⟩,
     ⟨(some 18), .mov (.tmp 1)⟩,
     ⟨(some 19), .call false false (.c (.fn (.func 21) [] [])) [(.tmp 17), (.tmp 18)]⟩,
     ⟨(some 7), .mov (.tmp 19)⟩])
  (.seq
   (.reg [⟨(some 20), .mov (.tmp 0)⟩,
     ⟨(some 21), .nilchk (.tmp 20)⟩,
     ⟨(some 22), .fadr 1 (.tmp 21)⟩,
     ⟨(some 23), .load none (.tmp 22)⟩,
     ⟨(some 24), .mov (.tmp 7)⟩,
     ⟨(some 25), .iadr 2 (.tmp 23) (.tmp 24)⟩,
     ⟨(some 26), .fadr 0 (.tmp 25)⟩,
     ⟨(some 27), .load none (.tmp 26)⟩,
     ⟨(some 8), .mov (.tmp 27)⟩])
  (.seq
   (.reg [⟨(some 28), .mov (.tmp 0)⟩,
     ⟨(some 29), .mov (.tmp 0)⟩,
     ⟨(some 30), .nilchk (.tmp 29)⟩,
     ⟨(some 31), .fadr 1 (.tmp 30)⟩,
     ⟨(some 32), .load none (.tmp 31)⟩,
     ⟨(some 33), .mov (.tmp 7)⟩,
     ⟨(some 34), .mov (.tmp 7)⟩,
     ⟨(some 35), .bin .add (.tmp 34) (.c (.int .i64 1))⟩,
     ⟨(some 36), .call false false (.c (.fn (.func 22) [] [])) [(.tmp 32), (.tmp 33), (.tmp 35)]⟩,
     ⟨(some 37), .nilchk (.tmp 28)⟩,
     ⟨(some 38), .fadr 1 (.tmp 37)⟩,
     ⟨none, .store 1 (.tmp 38) (.tmp 36)⟩])
  (.seq
   (.seq
    (.reg [⟨(some 39), .mov (.tmp 0)⟩,
      ⟨(some 40), .nilchk (.tmp 39)⟩,
      ⟨(some 41), .fadr 1 (.tmp 40)⟩,
      ⟨(some 42), .load none (.tmp 41)⟩,
      ⟨(some 43), .len 1 (.tmp 42)⟩,
      ⟨(some 44), .mov (.c (.int .i64 0))⟩])
   (.blk 0
    (.loop false af16l0)))
  (.seq
   (.reg [⟨(some 59), .mov (.tmp 8)⟩,
     ⟨(some 4), .mov (.tmp 59)⟩,
     ⟨(some 5), .mov (.c (.bool true))⟩])
  .ret)))))))
def af16 : AFunc := ⟨60, [.tmp 4, .tmp 5], af16b, true⟩

/-- (*cascade/queue.Queue[string]).Ages -/
def af17l0 : ACode :=
  (.seq
      (.reg [⟨(some 12), .bin .lss (.tmp 11) (.tmp 10)⟩])
     (.seq
      (.cond (.tmp 12)
       .skip
       (.exit 0))
     (.seq
      (.blk 1
       (.seq
        (.reg [⟨(some 13), .iadr 2 (.tmp 9) (.tmp 11)⟩,
          ⟨(some 14), .load (some 2) (.tmp 13)⟩,
          ⟨(some 5), .new 63 [(.str []), (.int .i64 0)]⟩,
          ⟨none, .store 2 (.tmp 5) (.tmp 14)⟩])
       (.reg [⟨(some 15), .mov (.tmp 3)⟩,
         ⟨(some 16), .fadr 1 (.tmp 5)⟩,
         ⟨(some 17), .load none (.tmp 16)⟩,
         ⟨(some 18), .bsl 1 (.int .i64 0) 1 [(0, (.tmp 17))]⟩,
         ⟨(some 19), .app false 1 (8, 3) (.tmp 15) (.tmp 18)⟩,
         ⟨(some 3), .mov (.tmp 19)⟩])))
     (.reg [⟨(some 20), .bin .add (.tmp 11) (.c (.int .i64 1))⟩,
       ⟨(some 11), .mov (.tmp 20)⟩]))))
def af17b : ACode :=
  (.seq
   (.reg [⟨(some 2), .mov (.c (.sl .nil []))⟩])
  (.seq
   (.reg [⟨(some 3), .mov (.c (.sl .nil []))⟩])
  (.seq
   (.seq
    (.reg [⟨(some 6), .mov (.tmp 0)⟩,
      ⟨(some 7), .nilchk (.tmp 6)⟩,
      ⟨(some 8), .fadr 1 (.tmp 7)⟩,
      ⟨(some 9), .load none (.tmp 8)⟩,
      ⟨(some 10), .len 1 (.tmp 9)⟩,
      ⟨(some 11), .mov (.c (.int .i64 0))⟩])
   (.blk 0
    (.loop false af17l0)))
  (.seq
   (.reg [⟨(some 21), .mov (.tmp 3)⟩,
     ⟨(some 2), .mov (.tmp 21)⟩])
  .ret))))
def af17 : AFunc := ⟨22, [.tmp 2], af17b, false⟩

/-- (*cascade/queue.Queue[string]).Len -/
def af18b : ACode :=
  (.seq
   (.reg [⟨(some 2), .mov (.c (.int .i64 0))⟩])
  (.seq
   (.reg [⟨(some 3), .mov (.tmp 0)⟩,
     ⟨(some 4), .nilchk (.tmp 3)⟩,
     ⟨(some 5), .fadr 1 (.tmp 4)⟩,
     ⟨(some 6), .load none (.tmp 5)⟩,
     ⟨(some 7), .len 1 (.tmp 6)⟩,
     ⟨(some 2), .mov (.tmp 7)⟩])
  .ret))
def af18 : AFunc := ⟨8, [.tmp 2], af18b, false⟩

/-- (*cascade/queue.Queue[int]).next -/
def af19b : ACode :=
  (.seq
   (.reg [⟨(some 2), .box 24 (.tmp 0)⟩,
     ⟨(some 4), .mov (.c (.int .i64 0))⟩])
  (.seq
   (.reg [⟨(some 7), .load none (.tmp 2)⟩,
     ⟨(some 8), .nilchk (.tmp 7)⟩,
     ⟨(some 9), .fadr 1 (.tmp 8)⟩,
     ⟨(some 10), .load none (.tmp 9)⟩,
     ⟨(some 11), .mkfn (.func 24) [] [(.tmp 2)]⟩,
     ⟨(some 12), .call false false (.c (.fn (.func 23) [] [])) [(.tmp 10), (.tmp 11)]⟩,
     ⟨(some 5), .mov (.tmp 12)⟩])
  (.seq
   (.seq
    (.reg [⟨(some 13), .mov (.tmp 5)⟩,
      ⟨(some 14), .bin .geq (.tmp 13) (.c (.int .i64 0))⟩])
   (.cond (.tmp 14)
    (.seq
     (.reg [⟨(some 15), .mov (.tmp 5)⟩,
       ⟨(some 4), .mov (.tmp 15)⟩])
    .ret)
    .skip))
  (.seq
   (.reg [⟨(some 16), .load none (.tmp 2)⟩,
     ⟨(some 17), .nilchk (.tmp 16)⟩,
     ⟨(some 18), .fadr 1 (.tmp 17)⟩,
     ⟨(some 19), .load none (.tmp 18)⟩,
     ⟨(some 20), .len 1 (.tmp 19)⟩,
     ⟨(some 6), .mov (.tmp 20)⟩])
  (.seq
   (.reg [⟨(some 21), .mov (.tmp 1)⟩,
     ⟨(some 22), .mov (.tmp 6)⟩,
     ⟨(some 23), .bin .rem (.tmp 21) (.tmp 22)⟩,
     ⟨(some 24), .mov (.tmp 6)⟩,
     ⟨(some 25), .bin .add (.tmp 23) (.tmp 24)⟩,
     ⟨(some 26), .mov (.tmp 6)⟩,
     ⟨(some 27), .bin .rem (.tmp 25) (.tmp 26)⟩,
     ⟨(some 4), .mov (.tmp 27)⟩])
  .ret)))))
def af19 : AFunc := ⟨28, [.tmp 4], af19b, false⟩

/-- slices.Delete[[]cascade/queue.entry[int],cascade/queue.entry[int]] -/
def af20b : ACode :=
  (.seq
   (.reg [⟨(some 6), .mov (.c (.sl .nil []))⟩])
  (.seq
   (.reg [⟨(some 8), .mov (.tmp 0)⟩,
     ⟨(some 9), .mov (.tmp 1)⟩,
     ⟨(some 10), .mov (.tmp 2)⟩,
     ⟨(some 11), .mov (.tmp 0)⟩,
     ⟨(some 12), .len 1 (.tmp 11)⟩,
     ⟨(some 13), .slc3 2 (.tmp 8) (.tmp 9) (.tmp 10) (.tmp 12)⟩])
  (.seq
   (.seq
    (.reg [⟨(some 14), .mov (.tmp 1)⟩,
      ⟨(some 15), .mov (.tmp 2)⟩,
      ⟨(some 16), .bin .eql (.tmp 14) (.tmp 15)⟩])
   (.cond (.tmp 16)
    (.seq
     (.reg [⟨(some 17), .mov (.tmp 0)⟩,
       ⟨(some 6), .mov (.tmp 17)⟩])
    .ret)
    .skip))
  (.seq
   (.reg [⟨(some 18), .mov (.tmp 0)⟩,
     ⟨(some 19), .len 1 (.tmp 18)⟩,
     ⟨(some 7), .mov (.tmp 19)⟩])
  (.seq
   (.regD [] [⟨(some 20), .mov (.tmp 0)⟩,
     ⟨(some 21), .mov (.tmp 1)⟩,
     ⟨(some 22), .slc 2 (.tmp 20) none (some (.tmp 21))⟩,
     ⟨(some 23), .mov (.tmp 0)⟩,
     ⟨(some 24), .mov (.tmp 2)⟩,
     ⟨(some 25), .slc 2 (.tmp 23) (some (.tmp 24)) none⟩,
     ⟨(some 26), .appm 2 (16, 56) (.tmp 22) (.tmp 25)⟩,
     ⟨(some 0), .mov (.tmp 26)⟩])
  (.seq
   (.reg [⟨(some 27), .mov (.tmp 0)⟩,
     ⟨(some 28), .mov (.tmp 0)⟩,
     ⟨(some 29), .len 1 (.tmp 28)⟩,
     ⟨(some 30), .mov (.tmp 7)⟩,
     ⟨(some 31), .slc 2 (.tmp 27) (some (.tmp 29)) (some (.tmp 30))⟩,
     ⟨none, .clr 2 (.agg [(.int .i64 0), (.int .i64 0)]) (.tmp 31)⟩])
  (.seq
   (.reg [⟨(some 32), .mov (.tmp 0)⟩,
     ⟨(some 6), .mov (.tmp 32)⟩])
  .ret)))))))
def af20 : AFunc := ⟨33, [.tmp 6], af20b, true⟩

/-- (*cascade/queue.Queue[string]).next -/
def af21b : ACode :=
  (.seq
   (.reg [⟨(some 2), .box 36 (.tmp 0)⟩,
     ⟨(some 4), .mov (.c (.int .i64 0))⟩])
  (.seq
   (.reg [⟨(some 7), .load none (.tmp 2)⟩,
     ⟨(some 8), .nilchk (.tmp 7)⟩,
     ⟨(some 9), .fadr 1 (.tmp 8)⟩,
     ⟨(some 10), .load none (.tmp 9)⟩,
     ⟨(some 11), .mkfn (.func 26) [] [(.tmp 2)]⟩,
     ⟨(some 12), .call false false (.c (.fn (.func 25) [] [])) [(.tmp 10), (.tmp 11)]⟩,
     ⟨(some 5), .mov (.tmp 12)⟩])
  (.seq
   (.seq
    (.reg [⟨(some 13), .mov (.tmp 5)⟩,
      ⟨(some 14), .bin .geq (.tmp 13) (.c (.int .i64 0))⟩])
   (.cond (.tmp 14)
    (.seq
     (.reg [⟨(some 15), .mov (.tmp 5)⟩,
       ⟨(some 4), .mov (.tmp 15)⟩])
    .ret)
    .skip))
  (.seq
   (.reg [⟨(some 16), .load none (.tmp 2)⟩,
     ⟨(some 17), .nilchk (.tmp 16)⟩,
     ⟨(some 18), .fadr 1 (.tmp 17)⟩,
     ⟨(some 19), .load none (.tmp 18)⟩,
     ⟨(some 20), .len 1 (.tmp 19)⟩,
     ⟨(some 6), .mov (.tmp 20)⟩])
  (.seq
   (.reg [⟨(some 21), .mov (.tmp 1)⟩,
     ⟨(some 22), .mov (.tmp 6)⟩,
     ⟨(some 23), .bin .rem (.tmp 21) (.tmp 22)⟩,
     ⟨(some 24), .mov (.tmp 6)⟩,
     ⟨(some 25), .bin .add (.tmp 23) (.tmp 24)⟩,
     ⟨(some 26), .mov (.tmp 6)⟩,
     ⟨(some 27), .bin .rem (.tmp 25) (.tmp 26)⟩,
     ⟨(some 4), .mov (.tmp 27)⟩])
  .ret)))))
def af21 : AFunc := ⟨28, [.tmp 4], af21b, false⟩

/-- slices.Delete[[]cascade/queue.entry[string],cascade/queue.entry[string]] -/
def af22b : ACode :=
  (.seq
   (.reg [⟨(some 6), .mov (.c (.sl .nil []))⟩])
  (.seq
   (.reg [⟨(some 8), .mov (.tmp 0)⟩,
     ⟨(some 9), .mov (.tmp 1)⟩,
     ⟨(some 10), .mov (.tmp 2)⟩,
     ⟨(some 11), .mov (.tmp 0)⟩,
     ⟨(some 12), .len 1 (.tmp 11)⟩,
     ⟨(some 13), .slc3 2 (.tmp 8) (.tmp 9) (.tmp 10) (.tmp 12)⟩])
  (.seq
   (.seq
    (.reg [⟨(some 14), .mov (.tmp 1)⟩,
      ⟨(some 15), .mov (.tmp 2)⟩,
      ⟨(some 16), .bin .eql (.tmp 14) (.tmp 15)⟩])
   (.cond (.tmp 16)
    (.seq
     (.reg [⟨(some 17), .mov (.tmp 0)⟩,
       ⟨(some 6), .mov (.tmp 17)⟩])
    .ret)
    .skip))
  (.seq
   (.reg [⟨(some 18), .mov (.tmp 0)⟩,
     ⟨(some 19), .len 1 (.tmp 18)⟩,
     ⟨(some 7), .mov (.tmp 19)⟩])
  (.seq
   (.regD [] [⟨(some 20), .mov (.tmp 0)⟩,
     ⟨(some 21), .mov (.tmp 1)⟩,
     ⟨(some 22), .slc 2 (.tmp 20) none (some (.tmp 21))⟩,
     ⟨(some 23), .mov (.tmp 0)⟩,
     ⟨(some 24), .mov (.tmp 2)⟩,
     ⟨(some 25), .slc 2 (.tmp 23) (some (.tmp 24)) none⟩,
     ⟨(some 26), .appm 2 (24, 63) (.tmp 22) (.tmp 25)⟩,
     ⟨(some 0), .mov (.tmp 26)⟩])
  (.seq
   (.reg [⟨(some 27), .mov (.tmp 0)⟩,
     ⟨(some 28), .mov (.tmp 0)⟩,
     ⟨(some 29), .len 1 (.tmp 28)⟩,
     ⟨(some 30), .mov (.tmp 7)⟩,
     ⟨(some 31), .slc 2 (.tmp 27) (some (.tmp 29)) (some (.tmp 30))⟩,
     ⟨none, .clr 2 (.agg [(.str []), (.int .i64 0)]) (.tmp 31)⟩])
  (.seq
   (.reg [⟨(some 32), .mov (.tmp 0)⟩,
     ⟨(some 6), .mov (.tmp 32)⟩])
  .ret)))))))
def af22 : AFunc := ⟨33, [.tmp 6], af22b, true⟩

/-- slices.IndexFunc[[]cascade/queue.entry[int],cascade/queue.entry[int]] -/
def af23l0 : ACode :=
  (.seq
      (.reg [⟨(some 9), .bin .lss (.tmp 8) (.tmp 7)⟩])
     (.seq
      (.cond (.tmp 9)
       .skip
       (.exit 0))
     (.seq
      (.blk 1
       (.seq
        (.reg [⟨(some 10), .mov (.tmp 8)⟩,
          ⟨(some 5), .mov (.tmp 10)⟩])
       (.seq
        (.reg [⟨(some 11), .mov (.tmp 1)⟩,
          ⟨(some 12), .mov (.tmp 0)⟩,
          ⟨(some 13), .mov (.tmp 5)⟩,
          ⟨(some 14), .iadr 2 (.tmp 12) (.tmp 13)⟩,
          ⟨(some 15), .load (some 2) (.tmp 14)⟩,
          ⟨(some 16), .call false false (.tmp 11) [(.tmp 15)]⟩])
       (.cond (.tmp 16)
        (.seq
         (.reg [⟨(some 17), .mov (.tmp 5)⟩,
           ⟨(some 4), .mov (.tmp 17)⟩])
        .ret)
        .skip))))
     (.reg [⟨(some 18), .bin .add (.tmp 8) (.c (.int .i64 1))⟩,
       ⟨(some 8), .mov (.tmp 18)⟩]))))
def af23b : ACode :=
  (.seq
   (.reg [⟨(some 4), .mov (.c (.int .i64 0))⟩])
  (.seq
   (.seq
    (.reg [⟨(some 6), .mov (.tmp 0)⟩,
      ⟨(some 7), .len 1 (.tmp 6)⟩,
      ⟨(some 8), .mov (.c (.int .i64 0))⟩])
   (.blk 0
    (.loop false af23l0)))
  (.seq
   (.reg [⟨(some 4), .mov (.c (.int .i64 (-1)))⟩])
  .ret)))
def af23 : AFunc := ⟨19, [.tmp 4], af23b, false⟩

/-- (*cascade/queue.Queue[int]).next$1 -/
def af24b : ACode :=
  (.seq
   (.reg [⟨(some 2), .box 56 (.tmp 0)⟩,
     ⟨(some 3), .mov (.c (.bool false))⟩])
  (.seq
   (.regD [] [⟨(some 4), .fadr 1 (.tmp 2)⟩,
     ⟨(some 5), .load none (.tmp 4)⟩,
     ⟨(some 6), .load none (.tmp 1)⟩,
     ⟨(some 7), .nilchk (.tmp 6)⟩,
     ⟨(some 8), .fadr 0 (.tmp 7)⟩,
     ⟨(some 9), .load none (.tmp 8)⟩,
     ⟨(some 10), .bin .geq (.tmp 5) (.tmp 9)⟩,
     ⟨(some 3), .mov (.tmp 10)⟩])
  .ret))
def af24 : AFunc := ⟨11, [.tmp 3], af24b, false⟩

/-- slices.IndexFunc[[]cascade/queue.entry[string],cascade/queue.entry[string]] -/
def af25l0 : ACode :=
  (.seq
      (.reg [⟨(some 9), .bin .lss (.tmp 8) (.tmp 7)⟩])
     (.seq
      (.cond (.tmp 9)
       .skip
       (.exit 0))
     (.seq
      (.blk 1
       (.seq
        (.reg [⟨(some 10), .mov (.tmp 8)⟩,
          ⟨(some 5), .mov (.tmp 10)⟩])
       (.seq
        (.reg [⟨(some 11), .mov (.tmp 1)⟩,
          ⟨(some 12), .mov (.tmp 0)⟩,
          ⟨(some 13), .mov (.tmp 5)⟩,
          ⟨(some 14), .iadr 2 (.tmp 12) (.tmp 13)⟩,
          ⟨(some 15), .load (some 2) (.tmp 14)⟩,
          ⟨(some 16), .call false false (.tmp 11) [(.tmp 15)]⟩])
       (.cond (.tmp 16)
        (.seq
         (.reg [⟨(some 17), .mov (.tmp 5)⟩,
           ⟨(some 4), .mov (.tmp 17)⟩])
        .ret)
        .skip))))
     (.reg [⟨(some 18), .bin .add (.tmp 8) (.c (.int .i64 1))⟩,
       ⟨(some 8), .mov (.tmp 18)⟩]))))
def af25b : ACode :=
  (.seq
   (.reg [⟨(some 4), .mov (.c (.int .i64 0))⟩])
  (.seq
   (.seq
    (.reg [⟨(some 6), .mov (.tmp 0)⟩,
      ⟨(some 7), .len 1 (.tmp 6)⟩,
      ⟨(some 8), .mov (.c (.int .i64 0))⟩])
   (.blk 0
    (.loop false af25l0)))
  (.seq
   (.reg [⟨(some 4), .mov (.c (.int .i64 (-1)))⟩])
  .ret)))
def af25 : AFunc := ⟨19, [.tmp 4], af25b, false⟩

/-- (*cascade/queue.Queue[string]).next$1 -/
def af26b : ACode :=
  (.seq
   (.reg [⟨(some 2), .box 63 (.tmp 0)⟩,
     ⟨(some 3), .mov (.c (.bool false))⟩])
  (.seq
   (.regD [] [⟨(some 4), .fadr 1 (.tmp 2)⟩,
     ⟨(some 5), .load none (.tmp 4)⟩,
     ⟨(some 6), .load none (.tmp 1)⟩,
     ⟨(some 7), .nilchk (.tmp 6)⟩,
     ⟨(some 8), .fadr 0 (.tmp 7)⟩,
     ⟨(some 9), .load none (.tmp 8)⟩,
     ⟨(some 10), .bin .geq (.tmp 5) (.tmp 9)⟩,
     ⟨(some 3), .mov (.tmp 10)⟩])
  .ret))
def af26 : AFunc := ⟨11, [.tmp 3], af26b, false⟩

def tabL : List (FuncId × AFunc) := [(3, af3), (4, af4), (5, af5), (6, af6), (7, af7), (8, af8), (9, af9), (10, af10), (11, af11), (12, af12), (13, af13), (14, af14), (15, af15), (16, af16), (17, af17), (18, af18), (19, af19), (20, af20), (21, af21), (22, af22), (23, af23), (24, af24), (25, af25), (26, af26)]
set_option maxRecDepth 100000
theorem of3 : Of Try.prog 3 af3 := ⟨{grow := [51]}, by kernel_rfl⟩
theorem of4 : Of Try.prog 4 af4 := ⟨{}, by kernel_rfl⟩
theorem of5 : Of Try.prog 5 af5 := ⟨{quiet := [52, 60, 86]}, by kernel_rfl⟩
theorem of6 : Of Try.prog 6 af6 := ⟨{}, by kernel_rfl⟩
theorem of7 : Of Try.prog 7 af7 := ⟨{}, by kernel_rfl⟩
theorem of8 : Of Try.prog 8 af8 := ⟨{}, by kernel_rfl⟩
theorem of9 : Of Try.prog 9 af9 := ⟨{grow := [12]}, by kernel_rfl⟩
theorem of10 : Of Try.prog 10 af10 := ⟨{}, by kernel_rfl⟩
theorem of11 : Of Try.prog 11 af11 := ⟨{}, by kernel_rfl⟩
theorem of12 : Of Try.prog 12 af12 := ⟨{}, by kernel_rfl⟩
theorem of13 : Of Try.prog 13 af13 := ⟨{grow := [12]}, by kernel_rfl⟩
theorem of14 : Of Try.prog 14 af14 := ⟨{}, by kernel_rfl⟩
theorem of15 : Of Try.prog 15 af15 := ⟨{}, by kernel_rfl⟩
theorem of16 : Of Try.prog 16 af16 := ⟨{}, by kernel_rfl⟩
theorem of17 : Of Try.prog 17 af17 := ⟨{}, by kernel_rfl⟩
theorem of18 : Of Try.prog 18 af18 := ⟨{}, by kernel_rfl⟩
theorem of19 : Of Try.prog 19 af19 := ⟨{}, by kernel_rfl⟩
theorem of20 : Of Try.prog 20 af20 := ⟨{grow := [26]}, by kernel_rfl⟩
theorem of21 : Of Try.prog 21 af21 := ⟨{}, by kernel_rfl⟩
theorem of22 : Of Try.prog 22 af22 := ⟨{grow := [26]}, by kernel_rfl⟩
theorem of23 : Of Try.prog 23 af23 := ⟨{}, by kernel_rfl⟩
theorem of24 : Of Try.prog 24 af24 := ⟨{}, by kernel_rfl⟩
theorem of25 : Of Try.prog 25 af25 := ⟨{}, by kernel_rfl⟩
theorem of26 : Of Try.prog 26 af26 := ⟨{}, by kernel_rfl⟩
theorem tabL_ok : ∀ p ∈ tabL, Of Try.prog p.1 p.2 ∧ okC p.2.body = true := by
  intro p hp
  simp only [tabL, List.mem_cons, List.not_mem_nil, or_false] at hp
  rcases hp with rfl | rfl | rfl | rfl | rfl | rfl | rfl | rfl | rfl | rfl | rfl | rfl | rfl | rfl | rfl | rfl | rfl | rfl | rfl | rfl | rfl | rfl | rfl | rfl
  · exact ⟨of3, by kernel_rfl⟩
  · exact ⟨of4, by kernel_rfl⟩
  · exact ⟨of5, by kernel_rfl⟩
  · exact ⟨of6, by kernel_rfl⟩
  · exact ⟨of7, by kernel_rfl⟩
  · exact ⟨of8, by kernel_rfl⟩
  · exact ⟨of9, by kernel_rfl⟩
  · exact ⟨of10, by kernel_rfl⟩
  · exact ⟨of11, by kernel_rfl⟩
  · exact ⟨of12, by kernel_rfl⟩
  · exact ⟨of13, by kernel_rfl⟩
  · exact ⟨of14, by kernel_rfl⟩
  · exact ⟨of15, by kernel_rfl⟩
  · exact ⟨of16, by kernel_rfl⟩
  · exact ⟨of17, by kernel_rfl⟩
  · exact ⟨of18, by kernel_rfl⟩
  · exact ⟨of19, by kernel_rfl⟩
  · exact ⟨of20, by kernel_rfl⟩
  · exact ⟨of21, by kernel_rfl⟩
  · exact ⟨of22, by kernel_rfl⟩
  · exact ⟨of23, by kernel_rfl⟩
  · exact ⟨of24, by kernel_rfl⟩
  · exact ⟨of25, by kernel_rfl⟩
  · exact ⟨of26, by kernel_rfl⟩
def tab (f : FuncId) : Option AFunc := (tabL.find? (fun p => p.1 == f)).map (·.2)
theorem tab_3 : tab 3 = some af3 := rfl
theorem tab_4 : tab 4 = some af4 := rfl
theorem tab_5 : tab 5 = some af5 := rfl
theorem tab_6 : tab 6 = some af6 := rfl
theorem tab_7 : tab 7 = some af7 := rfl
theorem tab_8 : tab 8 = some af8 := rfl
theorem tab_9 : tab 9 = some af9 := rfl
theorem tab_10 : tab 10 = some af10 := rfl
theorem tab_11 : tab 11 = some af11 := rfl
theorem tab_12 : tab 12 = some af12 := rfl
theorem tab_13 : tab 13 = some af13 := rfl
theorem tab_14 : tab 14 = some af14 := rfl
theorem tab_15 : tab 15 = some af15 := rfl
theorem tab_16 : tab 16 = some af16 := rfl
theorem tab_17 : tab 17 = some af17 := rfl
theorem tab_18 : tab 18 = some af18 := rfl
theorem tab_19 : tab 19 = some af19 := rfl
theorem tab_20 : tab 20 = some af20 := rfl
theorem tab_21 : tab 21 = some af21 := rfl
theorem tab_22 : tab 22 = some af22 := rfl
theorem tab_23 : tab 23 = some af23 := rfl
theorem tab_24 : tab 24 = some af24 := rfl
theorem tab_25 : tab 25 = some af25 := rfl
theorem tab_26 : tab 26 = some af26 := rfl
theorem tab_ok {f : FuncId} {F : AFunc} (h : tab f = some F) : Of Try.prog f F ∧ okC F.body = true := by
  simp only [tab, Option.map_eq_some_iff] at h
  obtain ⟨p, hp, rfl⟩ := h
  have hm := List.mem_of_find?_eq_some hp
  have he := List.find?_some hp
  have : p.1 = f := by simpa using he
  subst this
  exact tabL_ok p hm

end Go.Proofs.Ytaljmhlblanhaaa.Eng
