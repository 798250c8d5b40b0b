/-
  The code of the functions, as the evaluator takes it; the table. Printed by a program of the session out of the program itself; that it is the program is proved here. No condition.
-/
import Derived.Test.YtadpobnajjocnaaDoorEngP
import Derived.Test.YtadpobnajjocnaaDoorProg
import Derived.KernelRfl
namespace Go.Proofs.YtadpobnajjocnaaDoor.Eng
open Go

/-- cascade/cascadelaw08.TokenMany -/
def af3l0 : ACode :=
  (.seq
      (.seq
       (.reg [⟨(some 19), .mov (.tmp 7)⟩,
         ⟨(some 20), .mov (.tmp 5)⟩,
         ⟨(some 21), .bin .lss (.tmp 19) (.tmp 20)⟩])
      (.cond (.tmp 21)
       .skip
       (.exit 0)))
     (.seq
      (.blk 1
       (.reg [⟨(some 24), .mov (.tmp 6)⟩,
         ⟨(some 25), .bin .add (.tmp 24) (.c (.str [97, 32]))⟩,
         ⟨(some 6), .mov (.tmp 25)⟩]))
     (.reg [⟨(some 22), .mov (.tmp 7)⟩,
       ⟨(some 23), .bin .add (.tmp 22) (.c (.int .i64 1))⟩,
       ⟨(some 7), .mov (.tmp 23)⟩])))
def af3b : ACode :=
  (.seq
   (.reg [⟨(some 4), .mov (.c (.bool false))⟩])
  (.seq
   (.seq
    (.reg [⟨(some 13), .call false false (.c (.fn (.func 5) [] [])) []⟩,
      ⟨(some 14), .un .not (.tmp 13)⟩])
   (.cond (.tmp 14)
    (.seq
     (.reg [⟨(some 4), .mov (.c (.bool false))⟩])
    .ret)
    .skip))
  (.seq
   (.reg [⟨(some 15), .mov (.tmp 0)⟩,
     ⟨(some 16), .bin .rem (.tmp 15) (.c (.int .u16 40))⟩,
     ⟨(some 17), .cvI .i64 (.tmp 16)⟩,
     ⟨(some 18), .bin .add (.c (.int .i64 880)) (.tmp 17)⟩,
     ⟨(some 5), .mov (.tmp 18)⟩])
  (.seq
   (.reg [⟨(some 6), .mov (.c (.str []))⟩])
  (.seq
   (.seq
    (.reg [⟨(some 7), .mov (.c (.int .i64 0))⟩])
   (.blk 0
    (.loop false af3l0)))
  (.seq
   (.reg [⟨(some 27), .mov (.tmp 6)⟩,
     ⟨(some 28), .call false false (.c (.fn (.func 6) [] [])) [(.tmp 27)]⟩,
     ⟨(some 26), .mov (.tmp 28)⟩,
     ⟨(some 29), .ext (.tmp 26) 0⟩,
     ⟨(some 30), .ext (.tmp 26) 1⟩,
     ⟨(some 9), .new 27 [(.int .i64 0), (.int .i64 0)]⟩,
     ⟨(some 8), .mov (.tmp 29)⟩,
     ⟨none, .store 2 (.tmp 9) (.tmp 30)⟩])
  (.seq
   (.seq
    (.reg [⟨(some 31), .mov (.tmp 5)⟩,
      ⟨(some 32), .bin .leq (.tmp 31) (.c (.int .i64 900))⟩,
      ⟨(some 43), .sc 33 true (.tmp 32) [⟨(some 34), .load (some 2) (.tmp 9)⟩, ⟨(some 35), .build [(.int .i64 0), (.int .i64 0)] []⟩, ⟨(some 36), .eqs true [0, 0] (.tmp 34) (.tmp 35)⟩, ⟨(some 42), .sc 37 false (.tmp 36) [⟨(some 38), .mov (.tmp 8)⟩, ⟨(some 39), .len 1 (.tmp 38)⟩, ⟨(some 40), .mov (.tmp 5)⟩, ⟨(some 41), .bin .neq (.tmp 39) (.tmp 40)⟩] (.tmp 41)⟩] (.tmp 42)⟩,
      ⟨(some 52), .sc 44 false (.tmp 43) [⟨(some 45), .mov (.tmp 5)⟩, ⟨(some 46), .bin .gtr (.tmp 45) (.c (.int .i64 900))⟩, ⟨(some 51), .sc 47 true (.tmp 46) [⟨(some 48), .load (some 2) (.tmp 9)⟩, ⟨(some 49), .build [(.int .i64 0), (.int .i64 0)] [(0, 1, (.c (.int .i64 6))), (1, 1, (.c (.int .i64 1800)))]⟩, ⟨(some 50), .eqs true [0, 0] (.tmp 48) (.tmp 49)⟩] (.tmp 50)⟩] (.tmp 51)⟩])
   (.cond (.tmp 52)
    (.seq
     (.reg [⟨(some 4), .mov (.c (.bool false))⟩])
    .ret)
    .skip))
  (.seq
   (.reg [⟨(some 53), .mov (.tmp 1)⟩,
     ⟨(some 54), .bin .rem (.tmp 53) (.c (.int .u8 20))⟩,
     ⟨(some 55), .cvI .i64 (.tmp 54)⟩,
     ⟨(some 56), .bin .add (.c (.int .i64 3990)) (.tmp 55)⟩,
     ⟨(some 57), .call false false (.c (.fn (.func 7) [] [])) [(.tmp 56)]⟩,
     ⟨(some 58), .b2s (.tmp 57)⟩,
     ⟨(some 59), .bin .add (.c (.str [35])) (.tmp 58)⟩,
     ⟨(some 10), .mov (.tmp 59)⟩])
  (.seq
   (.reg [⟨(some 61), .mov (.tmp 10)⟩,
     ⟨(some 62), .call false false (.c (.fn (.func 6) [] [])) [(.tmp 61)]⟩,
     ⟨(some 60), .mov (.tmp 62)⟩,
     ⟨(some 63), .ext (.tmp 60) 0⟩,
     ⟨(some 64), .ext (.tmp 60) 1⟩,
     ⟨(some 12), .new 27 [(.int .i64 0), (.int .i64 0)]⟩,
     ⟨(some 11), .mov (.tmp 63)⟩,
     ⟨none, .store 2 (.tmp 12) (.tmp 64)⟩])
  (.seq
   (.reg [⟨(some 65), .load (some 2) (.tmp 12)⟩,
     ⟨(some 66), .build [(.int .i64 0), (.int .i64 0)] [(0, 1, (.c (.int .i64 6)))]⟩,
     ⟨(some 67), .eqs false [0, 0] (.tmp 65) (.tmp 66)⟩,
     ⟨(some 68), .mov (.tmp 10)⟩,
     ⟨(some 69), .len 0 (.tmp 68)⟩,
     ⟨(some 70), .bin .gtr (.tmp 69) (.c (.int .i64 4000))⟩,
     ⟨(some 71), .eqb false (.tmp 67) (.tmp 70)⟩,
     ⟨(some 80), .sc 72 true (.tmp 71) [⟨(some 73), .fadr 0 (.tmp 12)⟩, ⟨(some 74), .load none (.tmp 73)⟩, ⟨(some 75), .bin .eql (.tmp 74) (.c (.int .i64 0))⟩, ⟨(some 76), .mov (.tmp 10)⟩, ⟨(some 77), .len 0 (.tmp 76)⟩, ⟨(some 78), .bin .leq (.tmp 77) (.c (.int .i64 4000))⟩, ⟨(some 79), .eqb false (.tmp 75) (.tmp 78)⟩] (.tmp 79)⟩,
     ⟨(some 4), .mov (.tmp 80)⟩])
  .ret))))))))))
def af3 : AFunc := ⟨81, [.tmp 4], af3b, false⟩

/-- cascade/cascadelaw08.TokenPlaces -/
def af4l0 : ACode :=
  (.seq
      (.seq
       (.reg [⟨(some 40), .mov (.tmp 6)⟩,
         ⟨(some 41), .mov (.tmp 3)⟩,
         ⟨(some 42), .len 1 (.tmp 41)⟩,
         ⟨(some 43), .bin .lss (.tmp 40) (.tmp 42)⟩])
      (.cond (.tmp 43)
       .skip
       (.exit 0)))
     (.seq
      (.blk 1
       (.seq
        (.reg [⟨(some 46), .mov (.tmp 3)⟩,
          ⟨(some 47), .mov (.tmp 6)⟩,
          ⟨(some 48), .iadr 3 (.tmp 46) (.tmp 47)⟩,
          ⟨(some 49), .fadr 2 (.tmp 48)⟩,
          ⟨(some 50), .load none (.tmp 49)⟩,
          ⟨(some 7), .mov (.tmp 50)⟩])
       (.seq
        (.seq
         (.reg [⟨(some 51), .mov (.tmp 7)⟩,
           ⟨(some 52), .mov (.tmp 5)⟩,
           ⟨(some 53), .bin .lss (.tmp 51) (.tmp 52)⟩,
           ⟨(some 59), .sc 54 false (.tmp 53) [⟨(some 55), .mov (.tmp 7)⟩, ⟨(some 56), .mov (.tmp 0)⟩, ⟨(some 57), .len 0 (.tmp 56)⟩, ⟨(some 58), .bin .geq (.tmp 55) (.tmp 57)⟩] (.tmp 58)⟩])
        (.cond (.tmp 59)
         (.seq
          (.reg [⟨(some 2), .mov (.c (.bool false))⟩])
         .ret)
         .skip))
       (.seq
        (.reg [⟨(some 60), .mov (.tmp 7)⟩,
          ⟨(some 61), .bin .add (.tmp 60) (.c (.int .i64 1))⟩,
          ⟨(some 5), .mov (.tmp 61)⟩])
       (.seq
        (.seq
         (.reg [⟨(some 62), .mov (.tmp 3)⟩,
           ⟨(some 63), .mov (.tmp 6)⟩,
           ⟨(some 64), .iadr 3 (.tmp 62) (.tmp 63)⟩,
           ⟨(some 65), .fadr 0 (.tmp 64)⟩,
           ⟨(some 66), .load none (.tmp 65)⟩,
           ⟨(some 67), .bin .eql (.tmp 66) (.c (.int .i64 4))⟩])
        (.cond (.tmp 67)
         (.seq
          (.seq
           (.reg [⟨(some 68), .mov (.tmp 0)⟩,
             ⟨(some 69), .mov (.tmp 7)⟩,
             ⟨(some 70), .idx (.tmp 68) (.tmp 69)⟩,
             ⟨(some 71), .bin .neq (.tmp 70) (.c (.int .u8 34))⟩])
          (.cond (.tmp 71)
           (.seq
            (.reg [⟨(some 2), .mov (.c (.bool false))⟩])
           .ret)
           .skip))
         (.exit 1))
         .skip))
       (.seq
        (.reg [⟨(some 72), .mov (.tmp 3)⟩,
          ⟨(some 73), .mov (.tmp 6)⟩,
          ⟨(some 74), .iadr 3 (.tmp 72) (.tmp 73)⟩,
          ⟨(some 75), .fadr 1 (.tmp 74)⟩,
          ⟨(some 76), .load none (.tmp 75)⟩,
          ⟨(some 77), .len 0 (.tmp 76)⟩,
          ⟨(some 8), .mov (.tmp 77)⟩])
       (.seq
        (.seq
         (.regD [] [⟨(some 78), .mov (.tmp 8)⟩,
           ⟨(some 79), .bin .eql (.tmp 78) (.c (.int .i64 0))⟩,
           ⟨(some 87), .sc 80 false (.tmp 79) [⟨(some 81), .mov (.tmp 8)⟩, ⟨(some 82), .mov (.tmp 0)⟩, ⟨(some 83), .len 0 (.tmp 82)⟩, ⟨(some 84), .mov (.tmp 7)⟩, ⟨(some 85), .bin .sub (.tmp 83) (.tmp 84)⟩, ⟨(some 86), .bin .gtr (.tmp 81) (.tmp 85)⟩] (.tmp 86)⟩,
           ⟨(some 101), .sc 88 false (.tmp 87) [⟨(some 89), .mov (.tmp 0)⟩, ⟨(some 90), .mov (.tmp 7)⟩, ⟨(some 91), .mov (.tmp 7)⟩, ⟨(some 92), .mov (.tmp 8)⟩, ⟨(some 93), .bin .add (.tmp 91) (.tmp 92)⟩, ⟨(some 94), .slcS (.tmp 89) (some (.tmp 90)) (some (.tmp 93))⟩, ⟨(some 95), .mov (.tmp 3)⟩, ⟨(some 96), .mov (.tmp 6)⟩, ⟨(some 97), .iadr 3 (.tmp 95) (.tmp 96)⟩, ⟨(some 98), .fadr 1 (.tmp 97)⟩, ⟨(some 99), .load none (.tmp 98)⟩, ⟨(some 100), .bin .neq (.tmp 94) (.tmp 99)⟩] (.tmp 100)⟩])
        (.cond (.tmp 101)
         (.seq
          (.reg [⟨(some 2), .mov (.c (.bool false))⟩])
         .ret)
         .skip))
       (.reg [⟨(some 102), .mov (.tmp 7)⟩,
         ⟨(some 103), .mov (.tmp 8)⟩,
         ⟨(some 104), .bin .add (.tmp 102) (.tmp 103)⟩,
         ⟨(some 5), .mov (.tmp 104)⟩]))))))))
     (.reg [⟨(some 44), .mov (.tmp 6)⟩,
       ⟨(some 45), .bin .add (.tmp 44) (.c (.int .i64 1))⟩,
       ⟨(some 6), .mov (.tmp 45)⟩])))
def af4b : ACode :=
  (.seq
   (.reg [⟨(some 2), .mov (.c (.bool false))⟩])
  (.seq
   (.seq
    (.reg [⟨(some 9), .call false false (.c (.fn (.func 5) [] [])) []⟩,
      ⟨(some 10), .un .not (.tmp 9)⟩,
      ⟨(some 15), .sc 11 false (.tmp 10) [⟨(some 12), .mov (.tmp 0)⟩, ⟨(some 13), .len 0 (.tmp 12)⟩, ⟨(some 14), .bin .gtr (.tmp 13) (.c (.int .i64 600))⟩] (.tmp 14)⟩])
   (.cond (.tmp 15)
    (.seq
     (.reg [⟨(some 16), .call false false (.c (.fn (.func 5) [] [])) []⟩,
       ⟨(some 2), .mov (.tmp 16)⟩])
    .ret)
    .skip))
  (.seq
   (.reg [⟨(some 18), .mov (.tmp 0)⟩,
     ⟨(some 19), .call false false (.c (.fn (.func 6) [] [])) [(.tmp 18)]⟩,
     ⟨(some 17), .mov (.tmp 19)⟩,
     ⟨(some 20), .ext (.tmp 17) 0⟩,
     ⟨(some 21), .ext (.tmp 17) 1⟩,
     ⟨(some 4), .new 27 [(.int .i64 0), (.int .i64 0)]⟩,
     ⟨(some 3), .mov (.tmp 20)⟩,
     ⟨none, .store 2 (.tmp 4) (.tmp 21)⟩])
  (.seq
   (.seq
    (.reg [⟨(some 22), .fadr 0 (.tmp 4)⟩,
      ⟨(some 23), .load none (.tmp 22)⟩,
      ⟨(some 24), .bin .neq (.tmp 23) (.c (.int .i64 0))⟩])
   (.cond (.tmp 24)
    (.seq
     (.reg [⟨(some 25), .mov (.tmp 3)⟩,
       ⟨(some 26), .len 1 (.tmp 25)⟩,
       ⟨(some 27), .bin .eql (.tmp 26) (.c (.int .i64 0))⟩,
       ⟨(some 32), .sc 28 true (.tmp 27) [⟨(some 29), .fadr 1 (.tmp 4)⟩, ⟨(some 30), .load none (.tmp 29)⟩, ⟨(some 31), .bin .geq (.tmp 30) (.c (.int .i64 0))⟩] (.tmp 31)⟩,
       ⟨(some 39), .sc 33 true (.tmp 32) [⟨(some 34), .fadr 1 (.tmp 4)⟩, ⟨(some 35), .load none (.tmp 34)⟩, ⟨(some 36), .mov (.tmp 0)⟩, ⟨(some 37), .len 0 (.tmp 36)⟩, ⟨(some 38), .bin .leq (.tmp 35) (.tmp 37)⟩] (.tmp 38)⟩,
       ⟨(some 2), .mov (.tmp 39)⟩])
    .ret)
    .skip))
  (.seq
   (.reg [⟨(some 5), .mov (.c (.int .i64 0))⟩])
  (.seq
   (.seq
    (.reg [⟨(some 6), .mov (.c (.int .i64 0))⟩])
   (.blk 0
    (.loop false af4l0)))
  (.seq
   (.reg [⟨(some 2), .mov (.c (.bool true))⟩])
  .ret)))))))
def af4 : AFunc := ⟨105, [.tmp 2], af4b, false⟩

/-- cascade/cascadelaw08.awake -/
def af5b : ACode :=
  (.seq
   (.reg [⟨(some 0), .mov (.c (.bool false))⟩])
  (.seq
   (.reg [⟨(some 4), .call false false (.c (.fn (.func 6) [] [])) [(.c (.str [123, 97, 125]))]⟩,
     ⟨(some 3), .mov (.tmp 4)⟩,
     ⟨(some 5), .ext (.tmp 3) 0⟩,
     ⟨(some 6), .ext (.tmp 3) 1⟩,
     ⟨(some 2), .new 27 [(.int .i64 0), (.int .i64 0)]⟩,
     ⟨(some 1), .mov (.tmp 5)⟩,
     ⟨none, .store 2 (.tmp 2) (.tmp 6)⟩])
  (.seq
   (.reg [⟨(some 7), .fadr 0 (.tmp 2)⟩,
     ⟨(some 8), .load none (.tmp 7)⟩,
     ⟨(some 9), .bin .eql (.tmp 8) (.c (.int .i64 0))⟩,
     ⟨(some 14), .sc 10 true (.tmp 9) [⟨(some 11), .mov (.tmp 1)⟩, ⟨(some 12), .len 1 (.tmp 11)⟩, ⟨(some 13), .bin .eql (.tmp 12) (.c (.int .i64 3))⟩] (.tmp 13)⟩,
     ⟨(some 21), .sc 15 true (.tmp 14) [⟨(some 16), .mov (.tmp 1)⟩, ⟨(some 17), .iadr 3 (.tmp 16) (.c (.int .i64 1))⟩, ⟨(some 18), .fadr 1 (.tmp 17)⟩, ⟨(some 19), .load none (.tmp 18)⟩, ⟨(some 20), .bin .eql (.tmp 19) (.c (.str [97]))⟩] (.tmp 20)⟩,
     ⟨(some 0), .mov (.tmp 21)⟩])
  .ret)))
def af5 : AFunc := ⟨22, [.tmp 0], af5b, false⟩

/-- cascade/token.Lex -/
def af6l0 : ACode :=
  (.seq
      (.seq
       (.reg [⟨(some 21), .mov (.tmp 5)⟩,
         ⟨(some 22), .nilchk (.tmp 21)⟩,
         ⟨(some 23), .fadr 1 (.tmp 22)⟩,
         ⟨(some 24), .load none (.tmp 23)⟩,
         ⟨(some 25), .mov (.tmp 0)⟩,
         ⟨(some 26), .len 0 (.tmp 25)⟩,
         ⟨(some 27), .bin .lss (.tmp 24) (.tmp 26)⟩,
         ⟨(some 35), .sc 28 true (.tmp 27) [⟨(some 29), .mov (.tmp 5)⟩, ⟨(some 30), .nilchk (.tmp 29)⟩, ⟨(some 31), .fadr 3 (.tmp 30)⟩, ⟨(some 32), .fadr 0 (.tmp 31)⟩, ⟨(some 33), .load none (.tmp 32)⟩, ⟨(some 34), .bin .eql (.tmp 33) (.c (.int .i64 0))⟩] (.tmp 34)⟩])
      (.cond (.tmp 35)
       .skip
       (.exit 0)))
     (.seq
      (.blk 1
       (.reg [⟨(some 38), .mov (.tmp 5)⟩,
         ⟨(some 39), .call false false (.c (.fn (.func 10) [] [])) [(.tmp 38)]⟩]))
     (.reg [⟨(some 36), .mov (.tmp 5)⟩,
       ⟨(some 37), .call false false (.c (.fn (.func 9) [] [])) [(.tmp 36)]⟩])))
def af6b : ACode :=
  (.seq
   (.reg [⟨(some 2), .mov (.c (.sl .nil []))⟩,
     ⟨(some 3), .new 27 [(.int .i64 0), (.int .i64 0)]⟩])
  (.seq
   (.seq
    (.reg [⟨(some 6), .mov (.tmp 0)⟩,
      ⟨(some 7), .len 0 (.tmp 6)⟩,
      ⟨(some 8), .bin .gtr (.tmp 7) (.c (.int .i64 4000))⟩])
   (.cond (.tmp 8)
    (.seq
     (.reg [⟨(some 9), .build [(.int .i64 0), (.int .i64 0)] [(0, 1, (.c (.int .i64 6)))]⟩,
       ⟨(some 2), .mov (.c (.sl .nil []))⟩,
       ⟨none, .store 2 (.tmp 3) (.tmp 9)⟩])
    .ret)
    .skip))
  (.seq
   (.seq
    (.reg [⟨(some 10), .mov (.tmp 0)⟩,
      ⟨(some 11), .call false false (.c (.fn (.func 8) [] [])) [(.tmp 10)]⟩,
      ⟨(some 4), .mov (.tmp 11)⟩])
   (.seq
    (.reg [⟨(some 12), .mov (.tmp 4)⟩,
      ⟨(some 13), .bin .geq (.tmp 12) (.c (.int .i64 0))⟩])
   (.cond (.tmp 13)
    (.seq
     (.reg [⟨(some 14), .mov (.tmp 4)⟩,
       ⟨(some 15), .build [(.int .i64 0), (.int .i64 0)] [(0, 1, (.c (.int .i64 2))), (1, 1, (.tmp 14))]⟩,
       ⟨(some 2), .mov (.c (.sl .nil []))⟩,
       ⟨none, .store 2 (.tmp 3) (.tmp 15)⟩])
    .ret)
    .skip)))
  (.seq
   (.reg [⟨(some 16), .mov (.tmp 0)⟩,
     ⟨(some 17), .build [(.str []), (.int .i64 0), (.sl .nil []), (.int .i64 0), (.int .i64 0)] [(0, 1, (.tmp 16))]⟩,
     ⟨(some 18), .box 39 (.tmp 17)⟩,
     ⟨(some 5), .mov (.tmp 18)⟩])
  (.seq
   (.seq
    (.reg [⟨(some 19), .mov (.tmp 5)⟩,
      ⟨(some 20), .call false false (.c (.fn (.func 9) [] [])) [(.tmp 19)]⟩])
   (.blk 0
    (.loop false af6l0)))
  (.seq
   (.seq
    (.reg [⟨(some 40), .mov (.tmp 5)⟩,
      ⟨(some 41), .nilchk (.tmp 40)⟩,
      ⟨(some 42), .fadr 3 (.tmp 41)⟩,
      ⟨(some 43), .fadr 0 (.tmp 42)⟩,
      ⟨(some 44), .load none (.tmp 43)⟩,
      ⟨(some 45), .bin .neq (.tmp 44) (.c (.int .i64 0))⟩])
   (.cond (.tmp 45)
    (.seq
     (.regD [] [⟨(some 46), .mov (.tmp 5)⟩,
       ⟨(some 47), .nilchk (.tmp 46)⟩,
       ⟨(some 48), .fadr 3 (.tmp 47)⟩,
       ⟨(some 49), .load (some 2) (.tmp 48)⟩,
       ⟨(some 2), .mov (.c (.sl .nil []))⟩,
       ⟨none, .store 2 (.tmp 3) (.tmp 49)⟩])
    .ret)
    .skip))
  (.seq
   (.reg [⟨(some 50), .mov (.tmp 5)⟩,
     ⟨(some 51), .nilchk (.tmp 50)⟩,
     ⟨(some 52), .fadr 2 (.tmp 51)⟩,
     ⟨(some 53), .load none (.tmp 52)⟩,
     ⟨(some 54), .build [(.int .i64 0), (.int .i64 0)] []⟩,
     ⟨(some 2), .mov (.tmp 53)⟩,
     ⟨none, .store 2 (.tmp 3) (.tmp 54)⟩])
  .ret)))))))
def af6 : AFunc := ⟨55, [.tmp 2, .cell 3 (some 2)], af6b, false⟩

/-- cascade/cascadelaw08.zeros -/
def af7l0 : ACode :=
  (.seq
      (.seq
       (.reg [⟨(some 7), .mov (.tmp 4)⟩,
         ⟨(some 8), .mov (.tmp 0)⟩,
         ⟨(some 9), .bin .lss (.tmp 7) (.tmp 8)⟩])
      (.cond (.tmp 9)
       .skip
       (.exit 0)))
     (.seq
      (.blk 1
       (.reg [⟨(some 12), .mov (.tmp 3)⟩,
         ⟨(some 13), .mov (.tmp 4)⟩,
         ⟨(some 14), .iadr 1 (.tmp 12) (.tmp 13)⟩,
         ⟨none, .store 1 (.tmp 14) (.c (.int .u8 120))⟩]))
     (.reg [⟨(some 10), .mov (.tmp 4)⟩,
       ⟨(some 11), .bin .add (.tmp 10) (.c (.int .i64 1))⟩,
       ⟨(some 4), .mov (.tmp 11)⟩])))
def af7b : ACode :=
  (.seq
   (.reg [⟨(some 2), .mov (.c (.sl .nil []))⟩])
  (.seq
   (.reg [⟨(some 5), .mov (.tmp 0)⟩,
     ⟨(some 6), .mks 1 (1, 5) (.int .u8 0) (.tmp 5) (.tmp 5)⟩,
     ⟨(some 3), .mov (.tmp 6)⟩])
  (.seq
   (.seq
    (.reg [⟨(some 4), .mov (.c (.int .i64 0))⟩])
   (.blk 0
    (.loop false af7l0)))
  (.seq
   (.reg [⟨(some 15), .mov (.tmp 3)⟩,
     ⟨(some 2), .mov (.tmp 15)⟩])
  .ret))))
def af7 : AFunc := ⟨16, [.tmp 2], af7b, false⟩

/-- cascade/text.Bad -/
def af8l0 : ACode :=
  (.seq
      (.reg [⟨(some 9), .nxt (.tmp 8)⟩,
        ⟨(some 10), .ext (.tmp 9) 0⟩])
     (.seq
      (.cond (.tmp 10)
       .skip
       (.exit 0))
     (.blk 1
      (.seq
       (.reg [⟨(some 11), .ext (.tmp 9) 1⟩,
         ⟨(some 12), .ext (.tmp 9) 2⟩,
         ⟨(some 3), .mov (.tmp 11)⟩,
         ⟨(some 4), .mov (.tmp 12)⟩])
      (.seq
       (.seq
        (.reg [⟨(some 13), .mov (.tmp 4)⟩,
          ⟨(some 14), .bin .neq (.tmp 13) (.c (.int .i32 65533))⟩])
       (.cond (.tmp 14)
        (.exit 1)
        .skip))
      (.seq
       (.reg [⟨(some 16), .mov (.tmp 0)⟩,
         ⟨(some 17), .mov (.tmp 3)⟩,
         ⟨(some 18), .slcS (.tmp 16) (some (.tmp 17)) none⟩,
         ⟨(some 19), .call false false (.c (.fn (.func 11) [] [])) [(.tmp 18)]⟩,
         ⟨(some 15), .mov (.tmp 19)⟩,
         ⟨(some 20), .ext (.tmp 15) 0⟩,
         ⟨(some 21), .ext (.tmp 15) 1⟩,
         ⟨(some 5), .mov (.tmp 20)⟩,
         ⟨(some 6), .mov (.tmp 21)⟩])
      (.seq
       (.reg [⟨(some 22), .mov (.tmp 6)⟩,
         ⟨(some 23), .bin .eql (.tmp 22) (.c (.int .i64 1))⟩])
      (.cond (.tmp 23)
       (.seq
        (.reg [⟨(some 24), .mov (.tmp 3)⟩,
          ⟨(some 2), .mov (.tmp 24)⟩])
       .ret)
       .skip))))))))
def af8b : ACode :=
  (.seq
   (.reg [⟨(some 2), .mov (.c (.int .i64 0))⟩])
  (.seq
   (.seq
    (.reg [⟨(some 7), .mov (.tmp 0)⟩,
      ⟨(some 8), .rng (.tmp 7)⟩])
   (.blk 0
    (.loop false af8l0)))
  (.seq
   (.reg [⟨(some 2), .mov (.c (.int .i64 (-1)))⟩])
  .ret)))
def af8 : AFunc := ⟨25, [.tmp 2], af8b, false⟩

/-- (*cascade/token.lexer).skip -/
def af9l0 : ACode :=
  (.seq
     (.seq
      (.regD [] [⟨(some 3), .mov (.tmp 0)⟩,
        ⟨(some 4), .nilchk (.tmp 3)⟩,
        ⟨(some 5), .fadr 1 (.tmp 4)⟩,
        ⟨(some 6), .load none (.tmp 5)⟩,
        ⟨(some 7), .mov (.tmp 0)⟩,
        ⟨(some 8), .nilchk (.tmp 7)⟩,
        ⟨(some 9), .fadr 0 (.tmp 8)⟩,
        ⟨(some 10), .load none (.tmp 9)⟩,
        ⟨(some 11), .len 0 (.tmp 10)⟩,
        ⟨(some 12), .bin .lss (.tmp 6) (.tmp 11)⟩])
     (.cond (.tmp 12)
      .skip
      (.exit 0)))
    (.blk 1
     (.seq
      (.regD [] [⟨(some 13), .mov (.tmp 0)⟩,
        ⟨(some 14), .nilchk (.tmp 13)⟩,
        ⟨(some 15), .fadr 0 (.tmp 14)⟩,
        ⟨(some 16), .load none (.tmp 15)⟩,
        ⟨(some 17), .mov (.tmp 0)⟩,
        ⟨(some 18), .nilchk (.tmp 17)⟩,
        ⟨(some 19), .fadr 1 (.tmp 18)⟩,
        ⟨(some 20), .load none (.tmp 19)⟩,
        ⟨(some 21), .idx (.tmp 16) (.tmp 20)⟩,
        ⟨(some 2), .mov (.tmp 21)⟩])
     (.blk 2
      (.seq
       (.reg [⟨(some 23), .mov (.tmp 2)⟩,
         ⟨(some 24), .call false false (.c (.fn (.func 12) [] [])) [(.c (.str [32, 9, 10, 13, 44])), (.tmp 23)]⟩,
         ⟨(some 25), .bin .geq (.tmp 24) (.c (.int .i64 0))⟩,
         ⟨(some 22), .mov (.tmp 25)⟩])
      (.cond (.tmp 22)
       (.reg [⟨(some 26), .mov (.tmp 0)⟩,
         ⟨(some 27), .nilchk (.tmp 26)⟩,
         ⟨(some 28), .fadr 1 (.tmp 27)⟩,
         ⟨(some 29), .load none (.tmp 28)⟩,
         ⟨(some 30), .bin .add (.tmp 29) (.c (.int .i64 1))⟩,
         ⟨(some 31), .nilchk (.tmp 26)⟩,
         ⟨(some 32), .fadr 1 (.tmp 31)⟩,
         ⟨none, .store 1 (.tmp 32) (.tmp 30)⟩])
       (.seq
        (.reg [⟨(some 34), .mov (.tmp 2)⟩,
          ⟨(some 35), .bin .eql (.tmp 34) (.c (.int .u8 35))⟩,
          ⟨(some 33), .mov (.tmp 35)⟩])
       (.cond (.tmp 33)
        (.reg [⟨(some 36), .mov (.tmp 0)⟩,
          ⟨(some 37), .mov (.tmp 0)⟩,
          ⟨(some 38), .mov (.tmp 0)⟩,
          ⟨(some 39), .nilchk (.tmp 38)⟩,
          ⟨(some 40), .fadr 1 (.tmp 39)⟩,
          ⟨(some 41), .load none (.tmp 40)⟩,
          ⟨(some 42), .call false false (.c (.fn (.func 13) [] [])) [(.tmp 37), (.tmp 41), (.c (.fn (.func 14) [] []))]⟩,
          ⟨(some 43), .nilchk (.tmp 36)⟩,
          ⟨(some 44), .fadr 1 (.tmp 43)⟩,
          ⟨none, .store 1 (.tmp 44) (.tmp 42)⟩])
        .ret))))))))
def af9b : ACode :=
  (.blk 0
   (.loop false af9l0))
def af9 : AFunc := ⟨45, [], af9b, false⟩

/-- (*cascade/token.lexer).next -/
def af10b : ACode :=
  (.seq
   (.regD [] [⟨(some 5), .mov (.tmp 0)⟩,
     ⟨(some 6), .nilchk (.tmp 5)⟩,
     ⟨(some 7), .fadr 0 (.tmp 6)⟩,
     ⟨(some 8), .load none (.tmp 7)⟩,
     ⟨(some 9), .mov (.tmp 0)⟩,
     ⟨(some 10), .nilchk (.tmp 9)⟩,
     ⟨(some 11), .fadr 1 (.tmp 10)⟩,
     ⟨(some 12), .load none (.tmp 11)⟩,
     ⟨(some 13), .slcS (.tmp 8) (some (.tmp 12)) none⟩,
     ⟨(some 2), .mov (.tmp 13)⟩])
  (.seq
   (.reg [⟨(some 14), .mov (.tmp 2)⟩,
     ⟨(some 15), .idx (.tmp 14) (.c (.int .i64 0))⟩,
     ⟨(some 3), .mov (.tmp 15)⟩])
  (.blk 0
   (.seq
    (.reg [⟨(some 23), .mov (.tmp 0)⟩,
      ⟨(some 24), .nilchk (.tmp 23)⟩,
      ⟨(some 25), .fadr 2 (.tmp 24)⟩,
      ⟨(some 26), .load none (.tmp 25)⟩,
      ⟨(some 27), .len 1 (.tmp 26)⟩,
      ⟨(some 28), .bin .eql (.tmp 27) (.c (.int .i64 900))⟩,
      ⟨(some 22), .mov (.tmp 28)⟩])
   (.cond (.tmp 22)
    (.reg [⟨(some 29), .mov (.tmp 0)⟩,
      ⟨(some 30), .mov (.tmp 0)⟩,
      ⟨(some 31), .nilchk (.tmp 30)⟩,
      ⟨(some 32), .fadr 1 (.tmp 31)⟩,
      ⟨(some 33), .load none (.tmp 32)⟩,
      ⟨(some 34), .call false false (.c (.fn (.func 15) [] [])) [(.tmp 29), (.tmp 33), (.c (.int .i64 6))]⟩])
    (.seq
     (.reg [⟨(some 36), .mov (.tmp 3)⟩,
       ⟨(some 37), .call false false (.c (.fn (.func 12) [] [])) [(.c (.str [33, 36, 38, 40, 41, 58, 61, 64, 91, 93, 123, 124, 125])), (.tmp 36)]⟩,
       ⟨(some 38), .bin .geq (.tmp 37) (.c (.int .i64 0))⟩,
       ⟨(some 35), .mov (.tmp 38)⟩])
    (.cond (.tmp 35)
     (.regD [] [⟨(some 39), .mov (.tmp 0)⟩,
       ⟨(some 40), .mov (.tmp 2)⟩,
       ⟨(some 41), .slcS (.tmp 40) none (some (.c (.int .i64 1)))⟩,
       ⟨(some 42), .mov (.tmp 0)⟩,
       ⟨(some 43), .nilchk (.tmp 42)⟩,
       ⟨(some 44), .fadr 1 (.tmp 43)⟩,
       ⟨(some 45), .load none (.tmp 44)⟩,
       ⟨(some 46), .bin .add (.tmp 45) (.c (.int .i64 1))⟩,
       ⟨(some 47), .call false false (.c (.fn (.func 16) [] [])) [(.tmp 39), (.c (.int .i64 1)), (.tmp 41), (.tmp 46)]⟩])
     (.seq
      (.reg [⟨(some 49), .mov (.tmp 2)⟩,
        ⟨(some 50), .call false false (.c (.fn (.func 17) [] [])) [(.tmp 49), (.c (.str [46, 46, 46]))]⟩,
        ⟨(some 48), .mov (.tmp 50)⟩])
     (.cond (.tmp 48)
      (.reg [⟨(some 51), .mov (.tmp 0)⟩,
        ⟨(some 52), .mov (.tmp 0)⟩,
        ⟨(some 53), .nilchk (.tmp 52)⟩,
        ⟨(some 54), .fadr 1 (.tmp 53)⟩,
        ⟨(some 55), .load none (.tmp 54)⟩,
        ⟨(some 56), .bin .add (.tmp 55) (.c (.int .i64 3))⟩,
        ⟨(some 57), .call false false (.c (.fn (.func 16) [] [])) [(.tmp 51), (.c (.int .i64 1)), (.c (.str [46, 46, 46])), (.tmp 56)]⟩])
      (.seq
       (.reg [⟨(some 59), .mov (.tmp 3)⟩,
         ⟨(some 60), .call false false (.c (.fn (.func 18) [] [])) [(.tmp 59)]⟩,
         ⟨(some 58), .mov (.tmp 60)⟩])
      (.cond (.tmp 58)
       (.seq
        (.reg [⟨(some 61), .mov (.tmp 0)⟩,
          ⟨(some 62), .mov (.tmp 0)⟩,
          ⟨(some 63), .nilchk (.tmp 62)⟩,
          ⟨(some 64), .fadr 1 (.tmp 63)⟩,
          ⟨(some 65), .load none (.tmp 64)⟩,
          ⟨(some 66), .call false false (.c (.fn (.func 13) [] [])) [(.tmp 61), (.tmp 65), (.c (.fn (.func 19) [] []))]⟩,
          ⟨(some 4), .mov (.tmp 66)⟩])
       (.regD [] [⟨(some 67), .mov (.tmp 0)⟩,
         ⟨(some 68), .mov (.tmp 0)⟩,
         ⟨(some 69), .nilchk (.tmp 68)⟩,
         ⟨(some 70), .fadr 0 (.tmp 69)⟩,
         ⟨(some 71), .load none (.tmp 70)⟩,
         ⟨(some 72), .mov (.tmp 0)⟩,
         ⟨(some 73), .nilchk (.tmp 72)⟩,
         ⟨(some 74), .fadr 1 (.tmp 73)⟩,
         ⟨(some 75), .load none (.tmp 74)⟩,
         ⟨(some 76), .mov (.tmp 4)⟩,
         ⟨(some 77), .slcS (.tmp 71) (some (.tmp 75)) (some (.tmp 76))⟩,
         ⟨(some 78), .mov (.tmp 4)⟩,
         ⟨(some 79), .call false false (.c (.fn (.func 16) [] [])) [(.tmp 67), (.c (.int .i64 2)), (.tmp 77), (.tmp 78)]⟩]))
       (.seq
        (.reg [⟨(some 81), .mov (.tmp 3)⟩,
          ⟨(some 82), .call false false (.c (.fn (.func 20) [] [])) [(.tmp 81)]⟩,
          ⟨(some 86), .sc 83 false (.tmp 82) [⟨(some 84), .mov (.tmp 3)⟩, ⟨(some 85), .bin .eql (.tmp 84) (.c (.int .u8 45))⟩] (.tmp 85)⟩,
          ⟨(some 80), .mov (.tmp 86)⟩])
       (.cond (.tmp 80)
        (.reg [⟨(some 87), .mov (.tmp 0)⟩,
          ⟨(some 88), .call false false (.c (.fn (.func 21) [] [])) [(.tmp 87)]⟩])
        (.seq
         (.reg [⟨(some 90), .mov (.tmp 2)⟩,
           ⟨(some 91), .call false false (.c (.fn (.func 17) [] [])) [(.tmp 90), (.c (.str [34, 34, 34]))]⟩,
           ⟨(some 89), .mov (.tmp 91)⟩])
        (.cond (.tmp 89)
         (.reg [⟨(some 92), .mov (.tmp 0)⟩,
           ⟨(some 93), .call false false (.c (.fn (.func 22) [] [])) [(.tmp 92)]⟩])
         (.seq
          (.reg [⟨(some 95), .mov (.tmp 3)⟩,
            ⟨(some 96), .bin .eql (.tmp 95) (.c (.int .u8 34))⟩,
            ⟨(some 94), .mov (.tmp 96)⟩])
         (.cond (.tmp 94)
          (.reg [⟨(some 97), .mov (.tmp 0)⟩,
            ⟨(some 98), .call false false (.c (.fn (.func 23) [] [])) [(.tmp 97)]⟩])
          (.reg [⟨(some 16), .mov (.tmp 0)⟩,
            ⟨(some 17), .mov (.tmp 0)⟩,
            ⟨(some 18), .nilchk (.tmp 17)⟩,
            ⟨(some 19), .fadr 1 (.tmp 18)⟩,
            ⟨(some 20), .load none (.tmp 19)⟩,
            ⟨(some 21), .call false false (.c (.fn (.func 15) [] [])) [(.tmp 16), (.tmp 20), (.c (.int .i64 3))]⟩]))))))))))))))))))
def af10 : AFunc := ⟨99, [], af10b, false⟩

/-- (*cascade/token.lexer).while -/
def af13l0 : ACode :=
  (.seq
      (.seq
       (.reg [⟨(some 7), .mov (.tmp 1)⟩,
         ⟨(some 8), .mov (.tmp 0)⟩,
         ⟨(some 9), .nilchk (.tmp 8)⟩,
         ⟨(some 10), .fadr 0 (.tmp 9)⟩,
         ⟨(some 11), .load none (.tmp 10)⟩,
         ⟨(some 12), .len 0 (.tmp 11)⟩,
         ⟨(some 13), .bin .lss (.tmp 7) (.tmp 12)⟩,
         ⟨(some 23), .sc 14 true (.tmp 13) [⟨(some 15), .mov (.tmp 2)⟩, ⟨(some 16), .mov (.tmp 0)⟩, ⟨(some 17), .nilchk (.tmp 16)⟩, ⟨(some 18), .fadr 0 (.tmp 17)⟩, ⟨(some 19), .load none (.tmp 18)⟩, ⟨(some 20), .mov (.tmp 1)⟩, ⟨(some 21), .idx (.tmp 19) (.tmp 20)⟩, ⟨(some 22), .call false false (.tmp 15) [(.tmp 21)]⟩] (.tmp 22)⟩])
      (.cond (.tmp 23)
       .skip
       (.exit 0)))
     (.blk 1
      (.reg [⟨(some 24), .mov (.tmp 1)⟩,
        ⟨(some 25), .bin .add (.tmp 24) (.c (.int .i64 1))⟩,
        ⟨(some 1), .mov (.tmp 25)⟩])))
def af13b : ACode :=
  (.seq
   (.reg [⟨(some 6), .mov (.c (.int .i64 0))⟩])
  (.seq
   (.blk 0
    (.loop false af13l0))
  (.seq
   (.reg [⟨(some 26), .mov (.tmp 1)⟩,
     ⟨(some 6), .mov (.tmp 26)⟩])
  .ret)))
def af13 : AFunc := ⟨27, [.tmp 6], af13b, false⟩

/-- (*cascade/token.lexer).skip$1 -/
def af14b : ACode :=
  (.seq
   (.reg [⟨(some 2), .mov (.c (.bool false))⟩])
  (.seq
   (.reg [⟨(some 3), .mov (.tmp 0)⟩,
     ⟨(some 4), .bin .neq (.tmp 3) (.c (.int .u8 10))⟩,
     ⟨(some 8), .sc 5 true (.tmp 4) [⟨(some 6), .mov (.tmp 0)⟩, ⟨(some 7), .bin .neq (.tmp 6) (.c (.int .u8 13))⟩] (.tmp 7)⟩,
     ⟨(some 2), .mov (.tmp 8)⟩])
  .ret))
def af14 : AFunc := ⟨9, [.tmp 2], af14b, false⟩

/-- (*cascade/token.lexer).fail -/
def af15b : ACode :=
  (.seq
   (.reg [⟨(some 6), .mov (.tmp 0)⟩,
     ⟨(some 7), .nilchk (.tmp 6)⟩,
     ⟨(some 8), .fadr 3 (.tmp 7)⟩,
     ⟨(some 9), .fadr 0 (.tmp 8)⟩,
     ⟨(some 10), .load none (.tmp 9)⟩,
     ⟨(some 11), .bin .eql (.tmp 10) (.c (.int .i64 0))⟩])
  (.cond (.tmp 11)
   (.reg [⟨(some 12), .mov (.tmp 0)⟩,
     ⟨(some 13), .mov (.tmp 2)⟩,
     ⟨(some 14), .mov (.tmp 1)⟩,
     ⟨(some 15), .build [(.int .i64 0), (.int .i64 0)] [(0, 1, (.tmp 13)), (1, 1, (.tmp 14))]⟩,
     ⟨(some 16), .nilchk (.tmp 12)⟩,
     ⟨(some 17), .fadr 3 (.tmp 16)⟩,
     ⟨none, .store 2 (.tmp 17) (.tmp 15)⟩])
   .skip))
def af15 : AFunc := ⟨18, [], af15b, false⟩

/-- (*cascade/token.lexer).take -/
def af16b : ACode :=
  (.seq
   (.regD [] [⟨(some 8), .mov (.tmp 0)⟩,
     ⟨(some 9), .mov (.tmp 0)⟩,
     ⟨(some 10), .nilchk (.tmp 9)⟩,
     ⟨(some 11), .fadr 2 (.tmp 10)⟩,
     ⟨(some 12), .load none (.tmp 11)⟩,
     ⟨(some 13), .mov (.tmp 1)⟩,
     ⟨(some 14), .mov (.tmp 2)⟩,
     ⟨(some 15), .mov (.tmp 0)⟩,
     ⟨(some 16), .nilchk (.tmp 15)⟩,
     ⟨(some 17), .fadr 1 (.tmp 16)⟩,
     ⟨(some 18), .load none (.tmp 17)⟩,
     ⟨(some 19), .build [(.int .i64 0), (.str []), (.int .i64 0)] [(0, 1, (.tmp 13)), (1, 1, (.tmp 14)), (2, 1, (.tmp 18))]⟩,
     ⟨(some 20), .bsl 3 (.agg [(.int .i64 0), (.str []), (.int .i64 0)]) 1 [(0, (.tmp 19))]⟩,
     ⟨(some 21), .app false 3 (32, 34) (.tmp 12) (.tmp 20)⟩,
     ⟨(some 22), .nilchk (.tmp 8)⟩,
     ⟨(some 23), .fadr 2 (.tmp 22)⟩,
     ⟨none, .store 1 (.tmp 23) (.tmp 21)⟩])
  (.reg [⟨(some 24), .mov (.tmp 0)⟩,
    ⟨(some 25), .mov (.tmp 3)⟩,
    ⟨(some 26), .nilchk (.tmp 24)⟩,
    ⟨(some 27), .fadr 1 (.tmp 26)⟩,
    ⟨none, .store 1 (.tmp 27) (.tmp 25)⟩]))
def af16 : AFunc := ⟨28, [], af16b, false⟩

/-- strings.HasPrefix -/
def af17b : ACode :=
  (.seq
   (.reg [⟨(some 4), .mov (.c (.bool false))⟩])
  (.seq
   (.reg [⟨(some 5), .mov (.tmp 0)⟩,
     ⟨(some 6), .mov (.tmp 1)⟩,
     ⟨(some 7), .call false false (.c (.fn (.func 26) [] [])) [(.tmp 5), (.tmp 6)]⟩,
     ⟨(some 4), .mov (.tmp 7)⟩])
  .ret))
def af17 : AFunc := ⟨8, [.tmp 4], af17b, false⟩

/-- cascade/token.letter -/
def af18b : ACode :=
  (.seq
   (.reg [⟨(some 2), .mov (.c (.bool false))⟩])
  (.seq
   (.reg [⟨(some 3), .mov (.tmp 0)⟩,
     ⟨(some 4), .bin .geq (.tmp 3) (.c (.int .u8 97))⟩,
     ⟨(some 8), .sc 5 true (.tmp 4) [⟨(some 6), .mov (.tmp 0)⟩, ⟨(some 7), .bin .leq (.tmp 6) (.c (.int .u8 122))⟩] (.tmp 7)⟩,
     ⟨(some 16), .sc 9 false (.tmp 8) [⟨(some 10), .mov (.tmp 0)⟩, ⟨(some 11), .bin .geq (.tmp 10) (.c (.int .u8 65))⟩, ⟨(some 15), .sc 12 true (.tmp 11) [⟨(some 13), .mov (.tmp 0)⟩, ⟨(some 14), .bin .leq (.tmp 13) (.c (.int .u8 90))⟩] (.tmp 14)⟩] (.tmp 15)⟩,
     ⟨(some 20), .sc 17 false (.tmp 16) [⟨(some 18), .mov (.tmp 0)⟩, ⟨(some 19), .bin .eql (.tmp 18) (.c (.int .u8 95))⟩] (.tmp 19)⟩,
     ⟨(some 2), .mov (.tmp 20)⟩])
  .ret))
def af18 : AFunc := ⟨21, [.tmp 2], af18b, false⟩

/-- (*cascade/token.lexer).next$1 -/
def af19b : ACode :=
  (.seq
   (.reg [⟨(some 2), .mov (.c (.bool false))⟩])
  (.seq
   (.reg [⟨(some 3), .mov (.tmp 0)⟩,
     ⟨(some 4), .call false false (.c (.fn (.func 18) [] [])) [(.tmp 3)]⟩,
     ⟨(some 8), .sc 5 false (.tmp 4) [⟨(some 6), .mov (.tmp 0)⟩, ⟨(some 7), .call false false (.c (.fn (.func 20) [] [])) [(.tmp 6)]⟩] (.tmp 7)⟩,
     ⟨(some 2), .mov (.tmp 8)⟩])
  .ret))
def af19 : AFunc := ⟨9, [.tmp 2], af19b, false⟩

/-- cascade/token.digit -/
def af20b : ACode :=
  (.seq
   (.reg [⟨(some 2), .mov (.c (.bool false))⟩])
  (.seq
   (.reg [⟨(some 3), .mov (.tmp 0)⟩,
     ⟨(some 4), .bin .geq (.tmp 3) (.c (.int .u8 48))⟩,
     ⟨(some 8), .sc 5 true (.tmp 4) [⟨(some 6), .mov (.tmp 0)⟩, ⟨(some 7), .bin .leq (.tmp 6) (.c (.int .u8 57))⟩] (.tmp 7)⟩,
     ⟨(some 2), .mov (.tmp 8)⟩])
  .ret))
def af20 : AFunc := ⟨9, [.tmp 2], af20b, false⟩

/-- (*cascade/token.lexer).number -/
def af21b : ACode :=
  (.seq
   (.reg [⟨(some 7), .mov (.tmp 0)⟩,
     ⟨(some 8), .nilchk (.tmp 7)⟩,
     ⟨(some 9), .fadr 1 (.tmp 8)⟩,
     ⟨(some 10), .load none (.tmp 9)⟩,
     ⟨(some 2), .mov (.tmp 10)⟩])
  (.seq
   (.seq
    (.reg [⟨(some 11), .mov (.tmp 0)⟩,
      ⟨(some 12), .nilchk (.tmp 11)⟩,
      ⟨(some 13), .fadr 0 (.tmp 12)⟩,
      ⟨(some 14), .load none (.tmp 13)⟩,
      ⟨(some 15), .mov (.tmp 2)⟩,
      ⟨(some 16), .idx (.tmp 14) (.tmp 15)⟩,
      ⟨(some 17), .bin .eql (.tmp 16) (.c (.int .u8 45))⟩])
   (.cond (.tmp 17)
    (.reg [⟨(some 18), .mov (.tmp 2)⟩,
      ⟨(some 19), .bin .add (.tmp 18) (.c (.int .i64 1))⟩,
      ⟨(some 2), .mov (.tmp 19)⟩])
    .skip))
  (.seq
   (.reg [⟨(some 20), .mov (.tmp 0)⟩,
     ⟨(some 21), .mov (.tmp 2)⟩,
     ⟨(some 22), .call false false (.c (.fn (.func 13) [] [])) [(.tmp 20), (.tmp 21), (.c (.fn (.func 20) [] []))]⟩,
     ⟨(some 3), .mov (.tmp 22)⟩])
  (.seq
   (.seq
    (.reg [⟨(some 23), .mov (.tmp 2)⟩,
      ⟨(some 24), .mov (.tmp 0)⟩,
      ⟨(some 25), .nilchk (.tmp 24)⟩,
      ⟨(some 26), .fadr 0 (.tmp 25)⟩,
      ⟨(some 27), .load none (.tmp 26)⟩,
      ⟨(some 28), .len 0 (.tmp 27)⟩,
      ⟨(some 29), .bin .lss (.tmp 23) (.tmp 28)⟩,
      ⟨(some 38), .sc 30 true (.tmp 29) [⟨(some 31), .mov (.tmp 0)⟩, ⟨(some 32), .nilchk (.tmp 31)⟩, ⟨(some 33), .fadr 0 (.tmp 32)⟩, ⟨(some 34), .load none (.tmp 33)⟩, ⟨(some 35), .mov (.tmp 2)⟩, ⟨(some 36), .idx (.tmp 34) (.tmp 35)⟩, ⟨(some 37), .bin .eql (.tmp 36) (.c (.int .u8 48))⟩] (.tmp 37)⟩])
   (.cond (.tmp 38)
    (.reg [⟨(some 39), .mov (.tmp 2)⟩,
      ⟨(some 40), .bin .add (.tmp 39) (.c (.int .i64 1))⟩,
      ⟨(some 3), .mov (.tmp 40)⟩])
    .skip))
  (.seq
   (.regD [] [⟨(some 41), .mov (.tmp 0)⟩,
     ⟨(some 42), .nilchk (.tmp 41)⟩,
     ⟨(some 43), .fadr 0 (.tmp 42)⟩,
     ⟨(some 44), .load none (.tmp 43)⟩,
     ⟨(some 45), .mov (.tmp 0)⟩,
     ⟨(some 46), .nilchk (.tmp 45)⟩,
     ⟨(some 47), .fadr 1 (.tmp 46)⟩,
     ⟨(some 48), .load none (.tmp 47)⟩,
     ⟨(some 49), .mov (.tmp 3)⟩,
     ⟨(some 50), .slcS (.tmp 44) (some (.tmp 48)) (some (.tmp 49))⟩,
     ⟨(some 4), .mov (.tmp 50)⟩])
  (.seq
   (.reg [⟨(some 52), .mov (.tmp 4)⟩,
     ⟨(some 53), .call false false (.c (.fn (.func 27) [] [])) [(.tmp 52), (.c (.int .i64 10)), (.c (.int .i64 64))]⟩,
     ⟨(some 51), .mov (.tmp 53)⟩,
     ⟨(some 54), .ext (.tmp 51) 0⟩,
     ⟨(some 55), .ext (.tmp 51) 1⟩,
     ⟨(some 5), .mov (.tmp 54)⟩,
     ⟨(some 6), .mov (.tmp 55)⟩])
  (.seq
   (.blk 0
    (.seq
     (.seq
      (.reg [⟨(some 57), .mov (.tmp 3)⟩,
        ⟨(some 58), .mov (.tmp 2)⟩,
        ⟨(some 59), .bin .eql (.tmp 57) (.tmp 58)⟩,
        ⟨(some 56), .mov (.tmp 59)⟩])
     (.cond (.tmp 56)
      .skip
      (.seq
       (.reg [⟨(some 60), .mov (.tmp 4)⟩,
         ⟨(some 61), .bin .eql (.tmp 60) (.c (.str [45, 48]))⟩,
         ⟨(some 56), .mov (.tmp 61)⟩])
      (.cond (.tmp 56)
       .skip
       (.seq
        (.reg [⟨(some 62), .mov (.tmp 4)⟩,
          ⟨(some 63), .len 0 (.tmp 62)⟩,
          ⟨(some 64), .bin .gtr (.tmp 63) (.c (.int .i64 17))⟩,
          ⟨(some 56), .mov (.tmp 64)⟩])
       (.cond (.tmp 56)
        .skip
        (.seq
         (.reg [⟨(some 65), .mov (.tmp 6)⟩,
           ⟨(some 66), .eqn false true (.tmp 65)⟩,
           ⟨(some 56), .mov (.tmp 66)⟩])
        (.cond (.tmp 56)
         .skip
         (.seq
          (.reg [⟨(some 67), .mov (.tmp 5)⟩,
            ⟨(some 68), .bin .lss (.tmp 67) (.c (.int .i64 (-9007199254740991)))⟩,
            ⟨(some 56), .mov (.tmp 68)⟩])
         (.cond (.tmp 56)
          .skip
          (.reg [⟨(some 69), .mov (.tmp 5)⟩,
            ⟨(some 70), .bin .gtr (.tmp 69) (.c (.int .i64 9007199254740991))⟩,
            ⟨(some 56), .mov (.tmp 70)⟩])))))))))))
    (.cond (.tmp 56)
     (.reg [⟨(some 71), .mov (.tmp 0)⟩,
       ⟨(some 72), .mov (.tmp 0)⟩,
       ⟨(some 73), .nilchk (.tmp 72)⟩,
       ⟨(some 74), .fadr 1 (.tmp 73)⟩,
       ⟨(some 75), .load none (.tmp 74)⟩,
       ⟨(some 76), .call false false (.c (.fn (.func 15) [] [])) [(.tmp 71), (.tmp 75), (.c (.int .i64 3))]⟩])
     (.seq
      (.reg [⟨(some 78), .mov (.tmp 3)⟩,
        ⟨(some 79), .mov (.tmp 0)⟩,
        ⟨(some 80), .nilchk (.tmp 79)⟩,
        ⟨(some 81), .fadr 0 (.tmp 80)⟩,
        ⟨(some 82), .load none (.tmp 81)⟩,
        ⟨(some 83), .len 0 (.tmp 82)⟩,
        ⟨(some 84), .bin .lss (.tmp 78) (.tmp 83)⟩,
        ⟨(some 111), .sc 85 true (.tmp 84) [⟨(some 86), .mov (.tmp 0)⟩, ⟨(some 87), .nilchk (.tmp 86)⟩, ⟨(some 88), .fadr 0 (.tmp 87)⟩, ⟨(some 89), .load none (.tmp 88)⟩, ⟨(some 90), .mov (.tmp 3)⟩, ⟨(some 91), .idx (.tmp 89) (.tmp 90)⟩, ⟨(some 92), .call false false (.c (.fn (.func 18) [] [])) [(.tmp 91)]⟩, ⟨(some 101), .sc 93 false (.tmp 92) [⟨(some 94), .mov (.tmp 0)⟩, ⟨(some 95), .nilchk (.tmp 94)⟩, ⟨(some 96), .fadr 0 (.tmp 95)⟩, ⟨(some 97), .load none (.tmp 96)⟩, ⟨(some 98), .mov (.tmp 3)⟩, ⟨(some 99), .idx (.tmp 97) (.tmp 98)⟩, ⟨(some 100), .call false false (.c (.fn (.func 20) [] [])) [(.tmp 99)]⟩] (.tmp 100)⟩, ⟨(some 110), .sc 102 false (.tmp 101) [⟨(some 103), .mov (.tmp 0)⟩, ⟨(some 104), .nilchk (.tmp 103)⟩, ⟨(some 105), .fadr 0 (.tmp 104)⟩, ⟨(some 106), .load none (.tmp 105)⟩, ⟨(some 107), .mov (.tmp 3)⟩, ⟨(some 108), .idx (.tmp 106) (.tmp 107)⟩, ⟨(some 109), .bin .eql (.tmp 108) (.c (.int .u8 46))⟩] (.tmp 109)⟩] (.tmp 110)⟩,
        ⟨(some 77), .mov (.tmp 111)⟩])
     (.cond (.tmp 77)
      (.reg [⟨(some 112), .mov (.tmp 0)⟩,
        ⟨(some 113), .mov (.tmp 3)⟩,
        ⟨(some 114), .call false false (.c (.fn (.func 15) [] [])) [(.tmp 112), (.tmp 113), (.c (.int .i64 3))]⟩])
      .skip)))))
  (.reg [⟨(some 115), .mov (.tmp 0)⟩,
    ⟨(some 116), .mov (.tmp 4)⟩,
    ⟨(some 117), .mov (.tmp 3)⟩,
    ⟨(some 118), .call false false (.c (.fn (.func 16) [] [])) [(.tmp 115), (.c (.int .i64 3)), (.tmp 116), (.tmp 117)]⟩]))))))))
def af21 : AFunc := ⟨119, [], af21b, false⟩

/-- (*cascade/token.lexer).raw -/
def af22b : ACode :=
  (.seq
   (.reg [⟨(some 5), .mov (.tmp 0)⟩,
     ⟨(some 6), .nilchk (.tmp 5)⟩,
     ⟨(some 7), .fadr 1 (.tmp 6)⟩,
     ⟨(some 8), .load none (.tmp 7)⟩,
     ⟨(some 9), .bin .add (.tmp 8) (.c (.int .i64 3))⟩,
     ⟨(some 2), .mov (.tmp 9)⟩])
  (.seq
   (.reg [⟨(some 10), .mov (.tmp 0)⟩,
     ⟨(some 11), .mov (.tmp 2)⟩,
     ⟨(some 12), .call false false (.c (.fn (.func 28) [] [])) [(.tmp 10), (.tmp 11)]⟩,
     ⟨(some 3), .mov (.tmp 12)⟩])
  (.seq
   (.seq
    (.reg [⟨(some 13), .mov (.tmp 3)⟩,
      ⟨(some 14), .bin .lss (.tmp 13) (.c (.int .i64 0))⟩])
   (.cond (.tmp 14)
    (.seq
     (.reg [⟨(some 15), .mov (.tmp 0)⟩,
       ⟨(some 16), .mov (.tmp 0)⟩,
       ⟨(some 17), .nilchk (.tmp 16)⟩,
       ⟨(some 18), .fadr 1 (.tmp 17)⟩,
       ⟨(some 19), .load none (.tmp 18)⟩,
       ⟨(some 20), .call false false (.c (.fn (.func 15) [] [])) [(.tmp 15), (.tmp 19), (.c (.int .i64 3))]⟩])
    .ret)
    .skip))
  (.seq
   (.reg [⟨(some 21), .mov (.tmp 0)⟩,
     ⟨(some 22), .nilchk (.tmp 21)⟩,
     ⟨(some 23), .fadr 0 (.tmp 22)⟩,
     ⟨(some 24), .load none (.tmp 23)⟩,
     ⟨(some 25), .mov (.tmp 2)⟩,
     ⟨(some 26), .mov (.tmp 3)⟩,
     ⟨(some 27), .slcS (.tmp 24) (some (.tmp 25)) (some (.tmp 26))⟩,
     ⟨(some 4), .mov (.tmp 27)⟩])
  (.seq
   (.seq
    (.reg [⟨(some 28), .mov (.tmp 4)⟩,
      ⟨(some 29), .call false false (.c (.fn (.func 29) [] [])) [(.tmp 28), (.c (.fn (.func 30) [] []))]⟩])
   (.cond (.tmp 29)
    (.reg [⟨(some 30), .mov (.tmp 0)⟩,
      ⟨(some 31), .mov (.tmp 0)⟩,
      ⟨(some 32), .nilchk (.tmp 31)⟩,
      ⟨(some 33), .fadr 1 (.tmp 32)⟩,
      ⟨(some 34), .load none (.tmp 33)⟩,
      ⟨(some 35), .call false false (.c (.fn (.func 15) [] [])) [(.tmp 30), (.tmp 34), (.c (.int .i64 3))]⟩])
    .skip))
  (.reg [⟨(some 36), .mov (.tmp 0)⟩,
    ⟨(some 37), .mov (.tmp 4)⟩,
    ⟨(some 38), .call false false (.c (.fn (.func 31) [] [])) [(.tmp 37)]⟩,
    ⟨(some 39), .mov (.tmp 3)⟩,
    ⟨(some 40), .bin .add (.tmp 39) (.c (.int .i64 3))⟩,
    ⟨(some 41), .call false false (.c (.fn (.func 16) [] [])) [(.tmp 36), (.c (.int .i64 4)), (.tmp 38), (.tmp 40)]⟩]))))))
def af22 : AFunc := ⟨42, [], af22b, false⟩

/-- (*cascade/token.lexer).quoted -/
def af23b : ACode :=
  (.seq
   (.regD [] [⟨(some 6), .mov (.tmp 0)⟩,
     ⟨(some 7), .nilchk (.tmp 6)⟩,
     ⟨(some 8), .fadr 0 (.tmp 7)⟩,
     ⟨(some 9), .load none (.tmp 8)⟩,
     ⟨(some 10), .mov (.tmp 0)⟩,
     ⟨(some 11), .nilchk (.tmp 10)⟩,
     ⟨(some 12), .fadr 1 (.tmp 11)⟩,
     ⟨(some 13), .load none (.tmp 12)⟩,
     ⟨(some 14), .slcS (.tmp 9) (some (.tmp 13)) none⟩,
     ⟨(some 15), .call false false (.c (.fn (.func 32) [] [])) [(.tmp 14)]⟩,
     ⟨(some 5), .mov (.tmp 15)⟩,
     ⟨(some 16), .ext (.tmp 5) 0⟩,
     ⟨(some 17), .ext (.tmp 5) 1⟩,
     ⟨(some 18), .ext (.tmp 5) 2⟩,
     ⟨(some 2), .mov (.tmp 16)⟩,
     ⟨(some 3), .mov (.tmp 17)⟩,
     ⟨(some 4), .mov (.tmp 18)⟩])
  (.seq
   (.seq
    (.reg [⟨(some 19), .mov (.tmp 4)⟩,
      ⟨(some 20), .bin .neq (.tmp 19) (.c (.int .i64 0))⟩])
   (.cond (.tmp 20)
    (.reg [⟨(some 21), .mov (.tmp 0)⟩,
      ⟨(some 22), .mov (.tmp 0)⟩,
      ⟨(some 23), .nilchk (.tmp 22)⟩,
      ⟨(some 24), .fadr 1 (.tmp 23)⟩,
      ⟨(some 25), .load none (.tmp 24)⟩,
      ⟨(some 26), .mov (.tmp 3)⟩,
      ⟨(some 27), .bin .add (.tmp 25) (.tmp 26)⟩,
      ⟨(some 28), .call false false (.c (.fn (.func 15) [] [])) [(.tmp 21), (.tmp 27), (.c (.int .i64 3))]⟩])
    .skip))
  (.reg [⟨(some 29), .mov (.tmp 0)⟩,
    ⟨(some 30), .mov (.tmp 2)⟩,
    ⟨(some 31), .mov (.tmp 0)⟩,
    ⟨(some 32), .nilchk (.tmp 31)⟩,
    ⟨(some 33), .fadr 1 (.tmp 32)⟩,
    ⟨(some 34), .load none (.tmp 33)⟩,
    ⟨(some 35), .mov (.tmp 3)⟩,
    ⟨(some 36), .bin .add (.tmp 34) (.tmp 35)⟩,
    ⟨(some 37), .call false false (.c (.fn (.func 16) [] [])) [(.tmp 29), (.c (.int .i64 4)), (.tmp 30), (.tmp 36)]⟩])))
def af23 : AFunc := ⟨38, [], af23b, false⟩

/-- internal/stringslite.HasPrefix -/
def af26b : ACode :=
  (.seq
   (.reg [⟨(some 4), .mov (.c (.bool false))⟩])
  (.seq
   (.reg [⟨(some 5), .mov (.tmp 0)⟩,
     ⟨(some 6), .len 0 (.tmp 5)⟩,
     ⟨(some 7), .mov (.tmp 1)⟩,
     ⟨(some 8), .len 0 (.tmp 7)⟩,
     ⟨(some 9), .bin .geq (.tmp 6) (.tmp 8)⟩,
     ⟨(some 17), .sc 10 true (.tmp 9) [⟨(some 11), .mov (.tmp 0)⟩, ⟨(some 12), .mov (.tmp 1)⟩, ⟨(some 13), .len 0 (.tmp 12)⟩, ⟨(some 14), .slcS (.tmp 11) none (some (.tmp 13))⟩, ⟨(some 15), .mov (.tmp 1)⟩, ⟨(some 16), .bin .eql (.tmp 14) (.tmp 15)⟩] (.tmp 16)⟩,
     ⟨(some 4), .mov (.tmp 17)⟩])
  .ret))
def af26 : AFunc := ⟨18, [.tmp 4], af26b, false⟩

/-- (*cascade/token.lexer).rawEnd -/
def af28l0 : ACode :=
  (.blk 1
     (.seq
      (.reg [⟨(some 6), .mov (.tmp 0)⟩,
        ⟨(some 7), .nilchk (.tmp 6)⟩,
        ⟨(some 8), .fadr 0 (.tmp 7)⟩,
        ⟨(some 9), .load none (.tmp 8)⟩,
        ⟨(some 10), .mov (.tmp 1)⟩,
        ⟨(some 11), .slcS (.tmp 9) (some (.tmp 10)) none⟩,
        ⟨(some 12), .call false false (.c (.fn (.func 36) [] [])) [(.tmp 11), (.c (.str [34, 34, 34]))]⟩,
        ⟨(some 5), .mov (.tmp 12)⟩])
     (.seq
      (.seq
       (.reg [⟨(some 13), .mov (.tmp 5)⟩,
         ⟨(some 14), .bin .lss (.tmp 13) (.c (.int .i64 0))⟩])
      (.cond (.tmp 14)
       (.seq
        (.reg [⟨(some 4), .mov (.c (.int .i64 (-1)))⟩])
       .ret)
       .skip))
     (.seq
      (.seq
       (.reg [⟨(some 15), .mov (.tmp 1)⟩,
         ⟨(some 16), .mov (.tmp 5)⟩,
         ⟨(some 17), .bin .add (.tmp 15) (.tmp 16)⟩,
         ⟨(some 1), .mov (.tmp 17)⟩])
      (.seq
       (.reg [⟨(some 18), .mov (.tmp 0)⟩,
         ⟨(some 19), .nilchk (.tmp 18)⟩,
         ⟨(some 20), .fadr 0 (.tmp 19)⟩,
         ⟨(some 21), .load none (.tmp 20)⟩,
         ⟨(some 22), .mov (.tmp 1)⟩,
         ⟨(some 23), .bin .sub (.tmp 22) (.c (.int .i64 1))⟩,
         ⟨(some 24), .idx (.tmp 21) (.tmp 23)⟩,
         ⟨(some 25), .bin .neq (.tmp 24) (.c (.int .u8 92))⟩])
      (.cond (.tmp 25)
       (.seq
        (.reg [⟨(some 26), .mov (.tmp 1)⟩,
          ⟨(some 4), .mov (.tmp 26)⟩])
       .ret)
       .skip)))
     (.reg [⟨(some 27), .mov (.tmp 1)⟩,
       ⟨(some 28), .bin .add (.tmp 27) (.c (.int .i64 3))⟩,
       ⟨(some 1), .mov (.tmp 28)⟩])))))
def af28b : ACode :=
  (.seq
   (.reg [⟨(some 4), .mov (.c (.int .i64 0))⟩])
  (.blk 0
   (.loop false af28l0)))
def af28 : AFunc := ⟨29, [.tmp 4], af28b, false⟩

/-- strings.ContainsFunc -/
def af29b : ACode :=
  (.seq
   (.reg [⟨(some 4), .mov (.c (.bool false))⟩])
  (.seq
   (.reg [⟨(some 5), .mov (.tmp 0)⟩,
     ⟨(some 6), .mov (.tmp 1)⟩,
     ⟨(some 7), .call false false (.c (.fn (.func 37) [] [])) [(.tmp 5), (.tmp 6)]⟩,
     ⟨(some 8), .bin .geq (.tmp 7) (.c (.int .i64 0))⟩,
     ⟨(some 4), .mov (.tmp 8)⟩])
  .ret))
def af29 : AFunc := ⟨9, [.tmp 4], af29b, false⟩

/-- (*cascade/token.lexer).raw$1 -/
def af30b : ACode :=
  (.seq
   (.reg [⟨(some 2), .mov (.c (.bool false))⟩])
  (.seq
   (.reg [⟨(some 3), .mov (.tmp 0)⟩,
     ⟨(some 4), .bin .lss (.tmp 3) (.c (.int .i32 32))⟩,
     ⟨(some 8), .sc 5 true (.tmp 4) [⟨(some 6), .mov (.tmp 0)⟩, ⟨(some 7), .bin .neq (.tmp 6) (.c (.int .i32 9))⟩] (.tmp 7)⟩,
     ⟨(some 12), .sc 9 true (.tmp 8) [⟨(some 10), .mov (.tmp 0)⟩, ⟨(some 11), .bin .neq (.tmp 10) (.c (.int .i32 10))⟩] (.tmp 11)⟩,
     ⟨(some 16), .sc 13 true (.tmp 12) [⟨(some 14), .mov (.tmp 0)⟩, ⟨(some 15), .bin .neq (.tmp 14) (.c (.int .i32 13))⟩] (.tmp 15)⟩,
     ⟨(some 2), .mov (.tmp 16)⟩])
  .ret))
def af30 : AFunc := ⟨17, [.tmp 2], af30b, false⟩

/-- cascade/block.Value -/
def af31l0 : ACode :=
  (.seq
      (.reg [⟨(some 14), .bin .lss (.tmp 13) (.tmp 12)⟩])
     (.seq
      (.cond (.tmp 14)
       .skip
       (.exit 0))
     (.seq
      (.blk 1
       (.seq
        (.reg [⟨(some 15), .mov (.tmp 13)⟩,
          ⟨(some 5), .mov (.tmp 15)⟩])
       (.seq
        (.reg [⟨(some 16), .mov (.tmp 5)⟩,
          ⟨(some 17), .bin .gtr (.tmp 16) (.c (.int .i64 0))⟩])
       (.cond (.tmp 17)
        (.regD [] [⟨(some 18), .mov (.tmp 3)⟩,
          ⟨(some 19), .mov (.tmp 5)⟩,
          ⟨(some 20), .mov (.tmp 3)⟩,
          ⟨(some 21), .mov (.tmp 5)⟩,
          ⟨(some 22), .iadr 1 (.tmp 20) (.tmp 21)⟩,
          ⟨(some 23), .load none (.tmp 22)⟩,
          ⟨(some 24), .mov (.tmp 4)⟩,
          ⟨(some 25), .mov (.tmp 3)⟩,
          ⟨(some 26), .mov (.tmp 5)⟩,
          ⟨(some 27), .iadr 1 (.tmp 25) (.tmp 26)⟩,
          ⟨(some 28), .load none (.tmp 27)⟩,
          ⟨(some 29), .len 0 (.tmp 28)⟩,
          ⟨(some 30), .mxn false (.tmp 24) (.tmp 29)⟩,
          ⟨(some 31), .slcS (.tmp 23) (some (.tmp 30)) none⟩,
          ⟨(some 32), .iadr 1 (.tmp 18) (.tmp 19)⟩,
          ⟨none, .store 1 (.tmp 32) (.tmp 31)⟩])
        .skip))))
     (.reg [⟨(some 33), .bin .add (.tmp 13) (.c (.int .i64 1))⟩,
       ⟨(some 13), .mov (.tmp 33)⟩]))))
def af31l1 : ACode :=
  (.seq
      (.seq
       (.reg [⟨(some 34), .mov (.tmp 3)⟩,
         ⟨(some 35), .len 1 (.tmp 34)⟩,
         ⟨(some 36), .bin .gtr (.tmp 35) (.c (.int .i64 0))⟩,
         ⟨(some 42), .sc 37 true (.tmp 36) [⟨(some 38), .mov (.tmp 3)⟩, ⟨(some 39), .iadr 1 (.tmp 38) (.c (.int .i64 0))⟩, ⟨(some 40), .load none (.tmp 39)⟩, ⟨(some 41), .call false false (.c (.fn (.func 41) [] [])) [(.tmp 40)]⟩] (.tmp 41)⟩])
      (.cond (.tmp 42)
       .skip
       (.exit 2)))
     (.blk 3
      (.reg [⟨(some 43), .mov (.tmp 3)⟩,
        ⟨(some 44), .slc 1 (.tmp 43) (some (.c (.int .i64 1))) none⟩,
        ⟨(some 3), .mov (.tmp 44)⟩])))
def af31l2 : ACode :=
  (.seq
      (.seq
       (.reg [⟨(some 45), .mov (.tmp 3)⟩,
         ⟨(some 46), .len 1 (.tmp 45)⟩,
         ⟨(some 47), .bin .gtr (.tmp 46) (.c (.int .i64 0))⟩,
         ⟨(some 56), .sc 48 true (.tmp 47) [⟨(some 49), .mov (.tmp 3)⟩, ⟨(some 50), .mov (.tmp 3)⟩, ⟨(some 51), .len 1 (.tmp 50)⟩, ⟨(some 52), .bin .sub (.tmp 51) (.c (.int .i64 1))⟩, ⟨(some 53), .iadr 1 (.tmp 49) (.tmp 52)⟩, ⟨(some 54), .load none (.tmp 53)⟩, ⟨(some 55), .call false false (.c (.fn (.func 41) [] [])) [(.tmp 54)]⟩] (.tmp 55)⟩])
      (.cond (.tmp 56)
       .skip
       (.exit 4)))
     (.blk 5
      (.reg [⟨(some 57), .mov (.tmp 3)⟩,
        ⟨(some 58), .mov (.tmp 3)⟩,
        ⟨(some 59), .len 1 (.tmp 58)⟩,
        ⟨(some 60), .bin .sub (.tmp 59) (.c (.int .i64 1))⟩,
        ⟨(some 61), .slc 1 (.tmp 57) none (some (.tmp 60))⟩,
        ⟨(some 3), .mov (.tmp 61)⟩])))
def af31b : ACode :=
  (.seq
   (.reg [⟨(some 2), .mov (.c (.str []))⟩])
  (.seq
   (.reg [⟨(some 6), .mov (.tmp 0)⟩,
     ⟨(some 7), .call false false (.c (.fn (.func 39) [] [])) [(.tmp 6), (.c (.str [92, 34, 34, 34])), (.c (.str [34, 34, 34]))]⟩,
     ⟨(some 8), .call false false (.c (.fn (.func 38) [] [])) [(.tmp 7)]⟩,
     ⟨(some 3), .mov (.tmp 8)⟩])
  (.seq
   (.reg [⟨(some 9), .mov (.tmp 3)⟩,
     ⟨(some 10), .call false false (.c (.fn (.func 40) [] [])) [(.tmp 9)]⟩,
     ⟨(some 4), .mov (.tmp 10)⟩])
  (.seq
   (.seq
    (.reg [⟨(some 11), .mov (.tmp 3)⟩,
      ⟨(some 12), .len 1 (.tmp 11)⟩,
      ⟨(some 13), .mov (.c (.int .i64 0))⟩])
   (.blk 0
    (.loop false af31l0)))
  (.seq
   (.blk 2
    (.loop false af31l1))
  (.seq
   (.blk 4
    (.loop false af31l2))
  (.seq
   (.reg [⟨(some 62), .mov (.tmp 3)⟩,
     ⟨(some 63), .call false false (.c (.fn (.func 42) [] [])) [(.tmp 62), (.c (.str [10]))]⟩,
     ⟨(some 2), .mov (.tmp 63)⟩])
  .ret)))))))
def af31 : AFunc := ⟨64, [.tmp 2], af31b, false⟩

/-- cascade/quote.Unquote -/
def af32l0 : ACode :=
  (.seq
      (.seq
       (.reg [⟨(some 12), .mov (.tmp 6)⟩,
         ⟨(some 13), .mov (.tmp 0)⟩,
         ⟨(some 14), .len 0 (.tmp 13)⟩,
         ⟨(some 15), .bin .lss (.tmp 12) (.tmp 14)⟩])
      (.cond (.tmp 15)
       .skip
       (.exit 0)))
     (.blk 1
      (.seq
       (.reg [⟨(some 17), .mov (.tmp 0)⟩,
         ⟨(some 18), .mov (.tmp 6)⟩,
         ⟨(some 19), .slcS (.tmp 17) (some (.tmp 18)) none⟩,
         ⟨(some 20), .call false false (.c (.fn (.func 11) [] [])) [(.tmp 19)]⟩,
         ⟨(some 16), .mov (.tmp 20)⟩,
         ⟨(some 21), .ext (.tmp 16) 0⟩,
         ⟨(some 22), .ext (.tmp 16) 1⟩,
         ⟨(some 7), .mov (.tmp 21)⟩,
         ⟨(some 8), .mov (.tmp 22)⟩])
      (.seq
       (.blk 2
        (.seq
         (.reg [⟨(some 24), .mov (.tmp 7)⟩,
           ⟨(some 25), .bin .eql (.tmp 24) (.c (.int .i32 34))⟩,
           ⟨(some 23), .mov (.tmp 25)⟩])
        (.cond (.tmp 23)
         (.seq
          (.reg [⟨(some 26), .call false false (.c (.fn (.func 43) [] [])) [(.tmp 5)]⟩,
            ⟨(some 27), .mov (.tmp 6)⟩,
            ⟨(some 28), .bin .add (.tmp 27) (.c (.int .i64 1))⟩,
            ⟨(some 2), .mov (.tmp 26)⟩,
            ⟨(some 3), .mov (.tmp 28)⟩,
            ⟨(some 4), .mov (.c (.int .i64 0))⟩])
         .ret)
         (.seq
          (.reg [⟨(some 30), .mov (.tmp 7)⟩,
            ⟨(some 31), .bin .lss (.tmp 30) (.c (.int .i32 32))⟩,
            ⟨(some 29), .mov (.tmp 31)⟩])
         (.cond (.tmp 29)
          (.seq
           (.reg [⟨(some 32), .mov (.tmp 6)⟩,
             ⟨(some 2), .mov (.c (.str []))⟩,
             ⟨(some 3), .mov (.tmp 32)⟩,
             ⟨(some 4), .mov (.c (.int .i64 4))⟩])
          .ret)
          (.seq
           (.reg [⟨(some 34), .mov (.tmp 7)⟩,
             ⟨(some 35), .bin .eql (.tmp 34) (.c (.int .i32 65533))⟩,
             ⟨(some 39), .sc 36 true (.tmp 35) [⟨(some 37), .mov (.tmp 8)⟩, ⟨(some 38), .bin .eql (.tmp 37) (.c (.int .i64 1))⟩] (.tmp 38)⟩,
             ⟨(some 33), .mov (.tmp 39)⟩])
          (.cond (.tmp 33)
           (.seq
            (.reg [⟨(some 40), .mov (.tmp 6)⟩,
              ⟨(some 2), .mov (.c (.str []))⟩,
              ⟨(some 3), .mov (.tmp 40)⟩,
              ⟨(some 4), .mov (.c (.int .i64 2))⟩])
           .ret)
           (.seq
            (.reg [⟨(some 42), .mov (.tmp 7)⟩,
              ⟨(some 43), .bin .eql (.tmp 42) (.c (.int .i32 92))⟩,
              ⟨(some 41), .mov (.tmp 43)⟩])
           (.cond (.tmp 41)
            (.seq
             (.reg [⟨(some 45), .mov (.tmp 0)⟩,
               ⟨(some 46), .mov (.tmp 6)⟩,
               ⟨(some 47), .slcS (.tmp 45) (some (.tmp 46)) none⟩,
               ⟨(some 48), .call false false (.c (.fn (.func 44) [] [])) [(.tmp 47)]⟩,
               ⟨(some 44), .mov (.tmp 48)⟩,
               ⟨(some 49), .ext (.tmp 44) 0⟩,
               ⟨(some 50), .ext (.tmp 44) 1⟩,
               ⟨(some 7), .mov (.tmp 49)⟩,
               ⟨(some 8), .mov (.tmp 50)⟩])
            (.seq
             (.reg [⟨(some 51), .mov (.tmp 8)⟩,
               ⟨(some 52), .bin .eql (.tmp 51) (.c (.int .i64 0))⟩])
            (.cond (.tmp 52)
             (.seq
              (.reg [⟨(some 53), .mov (.tmp 6)⟩,
                ⟨(some 2), .mov (.c (.str []))⟩,
                ⟨(some 3), .mov (.tmp 53)⟩,
                ⟨(some 4), .mov (.c (.int .i64 4))⟩])
             .ret)
             .skip)))
            .skip)))))))))
      (.seq
       (.reg [⟨(some 54), .mov (.tmp 7)⟩,
         ⟨(some 55), .call false false (.c (.fn (.func 45) [] [])) [(.tmp 5), (.tmp 54)]⟩])
      (.reg [⟨(some 56), .mov (.tmp 6)⟩,
        ⟨(some 57), .mov (.tmp 8)⟩,
        ⟨(some 58), .bin .add (.tmp 56) (.tmp 57)⟩,
        ⟨(some 6), .mov (.tmp 58)⟩]))))))
def af32b : ACode :=
  (.seq
   (.reg [⟨(some 2), .mov (.c (.str []))⟩,
     ⟨(some 3), .mov (.c (.int .i64 0))⟩,
     ⟨(some 4), .mov (.c (.int .i64 0))⟩])
  (.seq
   (.seq
    (.reg [⟨(some 9), .mov (.tmp 0)⟩,
      ⟨(some 10), .call false false (.c (.fn (.func 17) [] [])) [(.tmp 9), (.c (.str [34]))]⟩,
      ⟨(some 11), .un .not (.tmp 10)⟩])
   (.cond (.tmp 11)
    (.seq
     (.reg [⟨(some 2), .mov (.c (.str []))⟩,
       ⟨(some 3), .mov (.c (.int .i64 0))⟩,
       ⟨(some 4), .mov (.c (.int .i64 4))⟩])
    .ret)
    .skip))
  (.seq
   (.reg [⟨(some 5), .new 73 [.pnil, (.sl .nil [])]⟩])
  (.seq
   (.seq
    (.reg [⟨(some 6), .mov (.c (.int .i64 1))⟩])
   (.blk 0
    (.loop false af32l0)))
  (.seq
   (.reg [⟨(some 59), .mov (.tmp 0)⟩,
     ⟨(some 60), .len 0 (.tmp 59)⟩,
     ⟨(some 2), .mov (.c (.str []))⟩,
     ⟨(some 3), .mov (.tmp 60)⟩,
     ⟨(some 4), .mov (.c (.int .i64 4))⟩])
  .ret)))))
def af32 : AFunc := ⟨61, [.tmp 2, .tmp 3, .tmp 4], af32b, false⟩

/-- strings.IndexFunc -/
def af37b : ACode :=
  (.seq
   (.reg [⟨(some 4), .mov (.c (.int .i64 0))⟩])
  (.seq
   (.reg [⟨(some 5), .mov (.tmp 0)⟩,
     ⟨(some 6), .mov (.tmp 1)⟩,
     ⟨(some 7), .call false false (.c (.fn (.func 52) [] [])) [(.tmp 5), (.tmp 6), (.c (.bool true))]⟩,
     ⟨(some 4), .mov (.tmp 7)⟩])
  .ret))
def af37 : AFunc := ⟨8, [.tmp 4], af37b, false⟩

/-- cascade/text.Lines -/
def af38l0 : ACode :=
  (.blk 1
     (.seq
      (.reg [⟨(some 6), .mov (.tmp 0)⟩,
        ⟨(some 7), .call false false (.c (.fn (.func 12) [] [])) [(.tmp 6), (.c (.int .u8 10))]⟩,
        ⟨(some 4), .mov (.tmp 7)⟩])
     (.seq
      (.seq
       (.reg [⟨(some 8), .mov (.tmp 0)⟩,
         ⟨(some 9), .call false false (.c (.fn (.func 12) [] [])) [(.tmp 8), (.c (.int .u8 13))]⟩,
         ⟨(some 5), .mov (.tmp 9)⟩])
      (.seq
       (.reg [⟨(some 10), .mov (.tmp 5)⟩,
         ⟨(some 11), .bin .geq (.tmp 10) (.c (.int .i64 0))⟩,
         ⟨(some 20), .sc 12 true (.tmp 11) [⟨(some 13), .mov (.tmp 4)⟩, ⟨(some 14), .bin .lss (.tmp 13) (.c (.int .i64 0))⟩, ⟨(some 19), .sc 15 false (.tmp 14) [⟨(some 16), .mov (.tmp 5)⟩, ⟨(some 17), .mov (.tmp 4)⟩, ⟨(some 18), .bin .lss (.tmp 16) (.tmp 17)⟩] (.tmp 18)⟩] (.tmp 19)⟩])
      (.cond (.tmp 20)
       (.reg [⟨(some 21), .mov (.tmp 5)⟩,
         ⟨(some 4), .mov (.tmp 21)⟩])
       .skip)))
     (.seq
      (.seq
       (.reg [⟨(some 22), .mov (.tmp 4)⟩,
         ⟨(some 23), .bin .lss (.tmp 22) (.c (.int .i64 0))⟩])
      (.cond (.tmp 23)
       (.seq
        (.reg [⟨(some 24), .mov (.tmp 3)⟩,
          ⟨(some 25), .mov (.tmp 0)⟩,
          ⟨(some 26), .bsl 1 (.str []) 1 [(0, (.tmp 25))]⟩,
          ⟨(some 27), .appm 1 (16, 9) (.tmp 24) (.tmp 26)⟩,
          ⟨(some 2), .mov (.tmp 27)⟩])
       .ret)
       .skip))
     (.seq
      (.reg [⟨(some 28), .mov (.tmp 3)⟩,
        ⟨(some 29), .mov (.tmp 0)⟩,
        ⟨(some 30), .mov (.tmp 4)⟩,
        ⟨(some 31), .slcS (.tmp 29) none (some (.tmp 30))⟩,
        ⟨(some 32), .bsl 1 (.str []) 1 [(0, (.tmp 31))]⟩,
        ⟨(some 33), .appm 1 (16, 9) (.tmp 28) (.tmp 32)⟩,
        ⟨(some 3), .mov (.tmp 33)⟩])
     (.seq
      (.seq
       (.reg [⟨(some 34), .mov (.tmp 0)⟩,
         ⟨(some 35), .mov (.tmp 4)⟩,
         ⟨(some 36), .slcS (.tmp 34) (some (.tmp 35)) none⟩,
         ⟨(some 37), .call false false (.c (.fn (.func 17) [] [])) [(.tmp 36), (.c (.str [13, 10]))]⟩])
      (.cond (.tmp 37)
       (.reg [⟨(some 38), .mov (.tmp 4)⟩,
         ⟨(some 39), .bin .add (.tmp 38) (.c (.int .i64 1))⟩,
         ⟨(some 4), .mov (.tmp 39)⟩])
       .skip))
     (.reg [⟨(some 40), .mov (.tmp 0)⟩,
       ⟨(some 41), .mov (.tmp 4)⟩,
       ⟨(some 42), .bin .add (.tmp 41) (.c (.int .i64 1))⟩,
       ⟨(some 43), .slcS (.tmp 40) (some (.tmp 42)) none⟩,
       ⟨(some 0), .mov (.tmp 43)⟩])))))))
def af38b : ACode :=
  (.seq
   (.reg [⟨(some 2), .mov (.c (.sl .nil []))⟩])
  (.seq
   (.reg [⟨(some 3), .mov (.c (.sl .nil []))⟩])
  (.blk 0
   (.loop false af38l0))))
def af38 : AFunc := ⟨44, [.tmp 2], af38b, false⟩

/-- cascade/block.Indent -/
def af40l0 : ACode :=
  (.seq
      (.reg [⟨(some 12), .bin .lss (.tmp 11) (.tmp 10)⟩])
     (.seq
      (.cond (.tmp 12)
       .skip
       (.exit 0))
     (.seq
      (.blk 1
       (.seq
        (.reg [⟨(some 13), .mov (.tmp 11)⟩,
          ⟨(some 14), .iadr 1 (.tmp 9) (.tmp 11)⟩,
          ⟨(some 15), .load none (.tmp 14)⟩,
          ⟨(some 5), .mov (.tmp 13)⟩,
          ⟨(some 6), .mov (.tmp 15)⟩])
       (.seq
        (.reg [⟨(some 17), .mov (.tmp 6)⟩,
          ⟨(some 18), .call false false (.c (.fn (.func 54) [] [])) [(.tmp 17)]⟩,
          ⟨(some 16), .mov (.tmp 18)⟩,
          ⟨(some 19), .ext (.tmp 16) 0⟩,
          ⟨(some 20), .ext (.tmp 16) 1⟩,
          ⟨(some 7), .mov (.tmp 19)⟩,
          ⟨(some 8), .mov (.tmp 20)⟩])
       (.seq
        (.seq
         (.reg [⟨(some 21), .mov (.tmp 5)⟩,
           ⟨(some 22), .bin .eql (.tmp 21) (.c (.int .i64 0))⟩,
           ⟨(some 26), .sc 23 false (.tmp 22) [⟨(some 24), .mov (.tmp 8)⟩, ⟨(some 25), .un .not (.tmp 24)⟩] (.tmp 25)⟩])
        (.cond (.tmp 26)
         (.exit 1)
         .skip))
       (.seq
        (.seq
         (.reg [⟨(some 27), .mov (.tmp 4)⟩,
           ⟨(some 28), .un .not (.tmp 27)⟩,
           ⟨(some 33), .sc 29 false (.tmp 28) [⟨(some 30), .mov (.tmp 7)⟩, ⟨(some 31), .mov (.tmp 3)⟩, ⟨(some 32), .bin .lss (.tmp 30) (.tmp 31)⟩] (.tmp 32)⟩])
        (.cond (.tmp 33)
         (.reg [⟨(some 34), .mov (.tmp 7)⟩,
           ⟨(some 3), .mov (.tmp 34)⟩])
         .skip))
       (.reg [⟨(some 4), .mov (.c (.bool true))⟩]))))))
     (.reg [⟨(some 35), .bin .add (.tmp 11) (.c (.int .i64 1))⟩,
       ⟨(some 11), .mov (.tmp 35)⟩]))))
def af40b : ACode :=
  (.seq
   (.reg [⟨(some 2), .mov (.c (.int .i64 0))⟩])
  (.seq
   (.reg [⟨(some 3), .mov (.c (.int .i64 0))⟩,
     ⟨(some 4), .mov (.c (.bool false))⟩])
  (.seq
   (.seq
    (.reg [⟨(some 9), .mov (.tmp 0)⟩,
      ⟨(some 10), .len 1 (.tmp 9)⟩,
      ⟨(some 11), .mov (.c (.int .i64 0))⟩])
   (.blk 0
    (.loop false af40l0)))
  (.seq
   (.reg [⟨(some 36), .mov (.tmp 3)⟩,
     ⟨(some 2), .mov (.tmp 36)⟩])
  .ret))))
def af40 : AFunc := ⟨37, [.tmp 2], af40b, false⟩

/-- cascade/block.empty -/
def af41b : ACode :=
  (.seq
   (.reg [⟨(some 2), .mov (.c (.bool false))⟩])
  (.seq
   (.reg [⟨(some 6), .mov (.tmp 0)⟩,
     ⟨(some 7), .call false false (.c (.fn (.func 54) [] [])) [(.tmp 6)]⟩,
     ⟨(some 5), .mov (.tmp 7)⟩,
     ⟨(some 8), .ext (.tmp 5) 0⟩,
     ⟨(some 9), .ext (.tmp 5) 1⟩,
     ⟨(some 3), .mov (.tmp 8)⟩,
     ⟨(some 4), .mov (.tmp 9)⟩])
  (.seq
   (.reg [⟨(some 10), .mov (.tmp 4)⟩,
     ⟨(some 11), .un .not (.tmp 10)⟩,
     ⟨(some 2), .mov (.tmp 11)⟩])
  .ret)))
def af41 : AFunc := ⟨12, [.tmp 2], af41b, false⟩

/-- (*strings.Builder).String -/
def af43b : ACode :=
  (.seq
   (.reg [⟨(some 2), .mov (.c (.str []))⟩])
  (.seq
   (.regD [] [⟨(some 3), .mov (.tmp 0)⟩,
     ⟨(some 4), .nilchk (.tmp 3)⟩,
     ⟨(some 5), .fadr 1 (.tmp 4)⟩,
     ⟨(some 6), .load none (.tmp 5)⟩,
     ⟨(some 7), .sdata (.tmp 6)⟩,
     ⟨(some 8), .mov (.tmp 0)⟩,
     ⟨(some 9), .nilchk (.tmp 8)⟩,
     ⟨(some 10), .fadr 1 (.tmp 9)⟩,
     ⟨(some 11), .load none (.tmp 10)⟩,
     ⟨(some 12), .len 1 (.tmp 11)⟩,
     ⟨(some 13), .ustr 5 (.tmp 7) (.tmp 12)⟩,
     ⟨(some 2), .mov (.tmp 13)⟩])
  .ret))
def af43 : AFunc := ⟨14, [.tmp 2], af43b, false⟩

/-- cascade/quote.escaped -/
def af44b : ACode :=
  (.seq
   (.reg [⟨(some 2), .mov (.c (.int .i32 0))⟩,
     ⟨(some 3), .mov (.c (.int .i64 0))⟩])
  (.seq
   (.seq
    (.reg [⟨(some 8), .mov (.tmp 0)⟩,
      ⟨(some 9), .len 0 (.tmp 8)⟩,
      ⟨(some 10), .bin .gtr (.tmp 9) (.c (.int .i64 1))⟩])
   (.cond (.tmp 10)
    (.seq
     (.reg [⟨(some 12), .mov (.tmp 0)⟩,
       ⟨(some 13), .idx (.tmp 12) (.c (.int .i64 1))⟩,
       ⟨(some 14), .call false false (.c (.fn (.func 57) [] [])) [(.tmp 13)]⟩,
       ⟨(some 11), .mov (.tmp 14)⟩,
       ⟨(some 15), .ext (.tmp 11) 0⟩,
       ⟨(some 16), .ext (.tmp 11) 1⟩,
       ⟨(some 4), .mov (.tmp 15)⟩,
       ⟨(some 5), .mov (.tmp 16)⟩])
    (.seq
     (.reg [⟨(some 17), .mov (.tmp 5)⟩])
    (.cond (.tmp 17)
     (.seq
      (.reg [⟨(some 18), .mov (.tmp 4)⟩,
        ⟨(some 2), .mov (.tmp 18)⟩,
        ⟨(some 3), .mov (.c (.int .i64 2))⟩])
     .ret)
     .skip)))
    .skip))
  (.seq
   (.reg [⟨(some 19), .mov (.tmp 0)⟩,
     ⟨(some 20), .call false false (.c (.fn (.func 58) [] [])) [(.tmp 19)]⟩,
     ⟨(some 6), .mov (.tmp 20)⟩])
  (.seq
   (.blk 0
    (.seq
     (.reg [⟨(some 22), .mov (.tmp 6)⟩,
       ⟨(some 23), .bin .lss (.tmp 22) (.c (.int .i32 0))⟩,
       ⟨(some 31), .sc 24 false (.tmp 23) [⟨(some 25), .mov (.tmp 6)⟩, ⟨(some 26), .bin .geq (.tmp 25) (.c (.int .i32 56320))⟩, ⟨(some 30), .sc 27 true (.tmp 26) [⟨(some 28), .mov (.tmp 6)⟩, ⟨(some 29), .bin .leq (.tmp 28) (.c (.int .i32 57343))⟩] (.tmp 29)⟩] (.tmp 30)⟩,
       ⟨(some 21), .mov (.tmp 31)⟩])
    (.cond (.tmp 21)
     (.seq
      (.reg [⟨(some 2), .mov (.c (.int .i32 0))⟩,
        ⟨(some 3), .mov (.c (.int .i64 0))⟩])
     .ret)
     (.seq
      (.reg [⟨(some 33), .mov (.tmp 6)⟩,
        ⟨(some 34), .bin .lss (.tmp 33) (.c (.int .i32 55296))⟩,
        ⟨(some 38), .sc 35 false (.tmp 34) [⟨(some 36), .mov (.tmp 6)⟩, ⟨(some 37), .bin .gtr (.tmp 36) (.c (.int .i32 57343))⟩] (.tmp 37)⟩,
        ⟨(some 32), .mov (.tmp 38)⟩])
     (.cond (.tmp 32)
      (.seq
       (.reg [⟨(some 39), .mov (.tmp 6)⟩,
         ⟨(some 2), .mov (.tmp 39)⟩,
         ⟨(some 3), .mov (.c (.int .i64 6))⟩])
      .ret)
      .skip)))))
  (.seq
   (.reg [⟨(some 40), .mov (.tmp 0)⟩,
     ⟨(some 41), .slcS (.tmp 40) (some (.c (.int .i64 6))) none⟩,
     ⟨(some 42), .call false false (.c (.fn (.func 58) [] [])) [(.tmp 41)]⟩,
     ⟨(some 7), .mov (.tmp 42)⟩])
  (.seq
   (.seq
    (.reg [⟨(some 43), .mov (.tmp 7)⟩,
      ⟨(some 44), .bin .lss (.tmp 43) (.c (.int .i32 56320))⟩,
      ⟨(some 48), .sc 45 false (.tmp 44) [⟨(some 46), .mov (.tmp 7)⟩, ⟨(some 47), .bin .gtr (.tmp 46) (.c (.int .i32 57343))⟩] (.tmp 47)⟩])
   (.cond (.tmp 48)
    (.seq
     (.reg [⟨(some 2), .mov (.c (.int .i32 0))⟩,
       ⟨(some 3), .mov (.c (.int .i64 0))⟩])
    .ret)
    .skip))
  (.seq
   (.reg [⟨(some 49), .mov (.tmp 6)⟩,
     ⟨(some 50), .bin .sub (.tmp 49) (.c (.int .i32 55296))⟩,
     ⟨(some 51), .bin .shl (.tmp 50) (.c (.int .u64 10))⟩,
     ⟨(some 52), .bin .add (.c (.int .i32 65536)) (.tmp 51)⟩,
     ⟨(some 53), .mov (.tmp 7)⟩,
     ⟨(some 54), .bin .add (.tmp 52) (.tmp 53)⟩,
     ⟨(some 55), .bin .sub (.tmp 54) (.c (.int .i32 56320))⟩,
     ⟨(some 2), .mov (.tmp 55)⟩,
     ⟨(some 3), .mov (.c (.int .i64 12))⟩])
  .ret)))))))
def af44 : AFunc := ⟨56, [.tmp 2, .tmp 3], af44b, false⟩

/-- (*strings.Builder).WriteRune -/
def af45b : ACode :=
  (.seq
   (.reg [⟨(some 4), .mov (.c (.int .i64 0))⟩,
     ⟨(some 5), .mov (.c .nilI)⟩])
  (.seq
   (.reg [⟨(some 7), .mov (.tmp 0)⟩,
     ⟨(some 8), .call false false (.c (.fn (.func 59) [] [])) [(.tmp 7)]⟩])
  (.seq
   (.reg [⟨(some 9), .mov (.tmp 0)⟩,
     ⟨(some 10), .nilchk (.tmp 9)⟩,
     ⟨(some 11), .fadr 1 (.tmp 10)⟩,
     ⟨(some 12), .load none (.tmp 11)⟩,
     ⟨(some 13), .len 1 (.tmp 12)⟩,
     ⟨(some 6), .mov (.tmp 13)⟩])
  (.seq
   (.reg [⟨(some 14), .mov (.tmp 0)⟩,
     ⟨(some 15), .mov (.tmp 0)⟩,
     ⟨(some 16), .nilchk (.tmp 15)⟩,
     ⟨(some 17), .fadr 1 (.tmp 16)⟩,
     ⟨(some 18), .load none (.tmp 17)⟩,
     ⟨(some 19), .mov (.tmp 1)⟩,
     ⟨(some 20), .call true false (.c (.fn (.func 60) [] [])) [(.tmp 18), (.tmp 19)]⟩,
     ⟨(some 21), .nilchk (.tmp 14)⟩,
     ⟨(some 22), .fadr 1 (.tmp 21)⟩,
     ⟨none, .store 1 (.tmp 22) (.tmp 20)⟩])
  (.seq
   (.reg [⟨(some 23), .mov (.tmp 0)⟩,
     ⟨(some 24), .nilchk (.tmp 23)⟩,
     ⟨(some 25), .fadr 1 (.tmp 24)⟩,
     ⟨(some 26), .load none (.tmp 25)⟩,
     ⟨(some 27), .len 1 (.tmp 26)⟩,
     ⟨(some 28), .mov (.tmp 6)⟩,
     ⟨(some 29), .bin .sub (.tmp 27) (.tmp 28)⟩,
     ⟨(some 4), .mov (.tmp 29)⟩,
     ⟨(some 5), .mov (.c .nilI)⟩])
  .ret)))))
def af45 : AFunc := ⟨30, [.tmp 4, .tmp 5], af45b, true⟩

/-- strings.indexFunc -/
def af52l0 : ACode :=
  (.seq
      (.reg [⟨(some 11), .nxt (.tmp 10)⟩,
        ⟨(some 12), .ext (.tmp 11) 0⟩])
     (.seq
      (.cond (.tmp 12)
       .skip
       (.exit 0))
     (.blk 1
      (.seq
       (.reg [⟨(some 13), .ext (.tmp 11) 1⟩,
         ⟨(some 14), .ext (.tmp 11) 2⟩,
         ⟨(some 7), .mov (.tmp 13)⟩,
         ⟨(some 8), .mov (.tmp 14)⟩])
      (.seq
       (.reg [⟨(some 15), .mov (.tmp 1)⟩,
         ⟨(some 16), .mov (.tmp 8)⟩,
         ⟨(some 17), .call false false (.tmp 15) [(.tmp 16)]⟩,
         ⟨(some 18), .mov (.tmp 2)⟩,
         ⟨(some 19), .eqb false (.tmp 17) (.tmp 18)⟩])
      (.cond (.tmp 19)
       (.seq
        (.reg [⟨(some 20), .mov (.tmp 7)⟩,
          ⟨(some 6), .mov (.tmp 20)⟩])
       .ret)
       .skip))))))
def af52b : ACode :=
  (.seq
   (.reg [⟨(some 6), .mov (.c (.int .i64 0))⟩])
  (.seq
   (.seq
    (.reg [⟨(some 9), .mov (.tmp 0)⟩,
      ⟨(some 10), .rng (.tmp 9)⟩])
   (.blk 0
    (.loop false af52l0)))
  (.seq
   (.reg [⟨(some 6), .mov (.c (.int .i64 (-1)))⟩])
  .ret)))
def af52 : AFunc := ⟨21, [.tmp 6], af52b, false⟩

/-- cascade/block.lead -/
def af54b : ACode :=
  (.seq
   (.reg [⟨(some 2), .mov (.c (.int .i64 0))⟩,
     ⟨(some 3), .mov (.c (.bool false))⟩])
  (.seq
   (.reg [⟨(some 5), .mov (.tmp 0)⟩,
     ⟨(some 6), .call false false (.c (.fn (.func 70) [] [])) [(.tmp 5), (.c (.str [32, 9]))]⟩,
     ⟨(some 4), .mov (.tmp 6)⟩])
  (.seq
   (.reg [⟨(some 7), .mov (.tmp 0)⟩,
     ⟨(some 8), .len 0 (.tmp 7)⟩,
     ⟨(some 9), .mov (.tmp 4)⟩,
     ⟨(some 10), .len 0 (.tmp 9)⟩,
     ⟨(some 11), .bin .sub (.tmp 8) (.tmp 10)⟩,
     ⟨(some 12), .mov (.tmp 4)⟩,
     ⟨(some 13), .bin .neq (.tmp 12) (.c (.str []))⟩,
     ⟨(some 2), .mov (.tmp 11)⟩,
     ⟨(some 3), .mov (.tmp 13)⟩])
  .ret)))
def af54 : AFunc := ⟨14, [.tmp 2, .tmp 3], af54b, false⟩

/-- cascade/quote.short -/
def af57b : ACode :=
  (.seq
   (.reg [⟨(some 2), .mov (.c (.int .i32 0))⟩,
     ⟨(some 3), .mov (.c (.bool false))⟩])
  (.seq
   (.seq
    (.reg [⟨(some 4), .mov (.tmp 0)⟩])
   (.blk 0
    (.seq
     (.seq
      (.reg [⟨(some 6), .bin .eql (.tmp 4) (.c (.int .u8 34))⟩,
        ⟨(some 5), .mov (.tmp 6)⟩])
     (.cond (.tmp 5)
      .skip
      (.seq
       (.reg [⟨(some 7), .bin .eql (.tmp 4) (.c (.int .u8 92))⟩,
         ⟨(some 5), .mov (.tmp 7)⟩])
      (.cond (.tmp 5)
       .skip
       (.reg [⟨(some 8), .bin .eql (.tmp 4) (.c (.int .u8 47))⟩,
         ⟨(some 5), .mov (.tmp 8)⟩])))))
    (.cond (.tmp 5)
     (.seq
      (.reg [⟨(some 9), .mov (.tmp 0)⟩,
        ⟨(some 10), .cvI .i32 (.tmp 9)⟩,
        ⟨(some 2), .mov (.tmp 10)⟩,
        ⟨(some 3), .mov (.c (.bool true))⟩])
     .ret)
     (.seq
      (.reg [⟨(some 12), .bin .eql (.tmp 4) (.c (.int .u8 98))⟩,
        ⟨(some 11), .mov (.tmp 12)⟩])
     (.cond (.tmp 11)
      (.seq
       (.reg [⟨(some 2), .mov (.c (.int .i32 8))⟩,
         ⟨(some 3), .mov (.c (.bool true))⟩])
      .ret)
      (.seq
       (.reg [⟨(some 14), .bin .eql (.tmp 4) (.c (.int .u8 102))⟩,
         ⟨(some 13), .mov (.tmp 14)⟩])
      (.cond (.tmp 13)
       (.seq
        (.reg [⟨(some 2), .mov (.c (.int .i32 12))⟩,
          ⟨(some 3), .mov (.c (.bool true))⟩])
       .ret)
       (.seq
        (.reg [⟨(some 16), .bin .eql (.tmp 4) (.c (.int .u8 110))⟩,
          ⟨(some 15), .mov (.tmp 16)⟩])
       (.cond (.tmp 15)
        (.seq
         (.reg [⟨(some 2), .mov (.c (.int .i32 10))⟩,
           ⟨(some 3), .mov (.c (.bool true))⟩])
        .ret)
        (.seq
         (.reg [⟨(some 18), .bin .eql (.tmp 4) (.c (.int .u8 114))⟩,
           ⟨(some 17), .mov (.tmp 18)⟩])
        (.cond (.tmp 17)
         (.seq
          (.reg [⟨(some 2), .mov (.c (.int .i32 13))⟩,
            ⟨(some 3), .mov (.c (.bool true))⟩])
         .ret)
         (.seq
          (.reg [⟨(some 20), .bin .eql (.tmp 4) (.c (.int .u8 116))⟩,
            ⟨(some 19), .mov (.tmp 20)⟩])
         (.cond (.tmp 19)
          (.seq
           (.reg [⟨(some 2), .mov (.c (.int .i32 9))⟩,
             ⟨(some 3), .mov (.c (.bool true))⟩])
          .ret)
          .skip))))))))))))))
  (.seq
   (.reg [⟨(some 2), .mov (.c (.int .i32 0))⟩,
     ⟨(some 3), .mov (.c (.bool false))⟩])
  .ret)))
def af57 : AFunc := ⟨21, [.tmp 2, .tmp 3], af57b, false⟩

/-- cascade/quote.unit -/
def af58l0 : ACode :=
  (.seq
      (.reg [⟨(some 20), .bin .lss (.tmp 19) (.c (.int .i64 4))⟩])
     (.seq
      (.cond (.tmp 20)
       .skip
       (.exit 0))
     (.seq
      (.blk 1
       (.seq
        (.reg [⟨(some 21), .mov (.tmp 19)⟩,
          ⟨(some 4), .mov (.tmp 21)⟩])
       (.seq
        (.reg [⟨(some 22), .mov (.tmp 0)⟩,
          ⟨(some 23), .mov (.tmp 4)⟩,
          ⟨(some 24), .bin .add (.c (.int .i64 2)) (.tmp 23)⟩,
          ⟨(some 25), .idx (.tmp 22) (.tmp 24)⟩,
          ⟨(some 26), .call false false (.c (.fn (.func 72) [] [])) [(.tmp 25)]⟩,
          ⟨(some 5), .mov (.tmp 26)⟩])
       (.seq
        (.seq
         (.reg [⟨(some 27), .mov (.tmp 5)⟩,
           ⟨(some 28), .bin .lss (.tmp 27) (.c (.int .i32 0))⟩])
        (.cond (.tmp 28)
         (.seq
          (.reg [⟨(some 2), .mov (.c (.int .i32 (-1)))⟩])
         .ret)
         .skip))
       (.reg [⟨(some 29), .mov (.tmp 3)⟩,
         ⟨(some 30), .bin .shl (.tmp 29) (.c (.int .u64 4))⟩,
         ⟨(some 31), .mov (.tmp 5)⟩,
         ⟨(some 32), .bin .or (.tmp 30) (.tmp 31)⟩,
         ⟨(some 3), .mov (.tmp 32)⟩])))))
     (.reg [⟨(some 33), .bin .add (.tmp 19) (.c (.int .i64 1))⟩,
       ⟨(some 19), .mov (.tmp 33)⟩]))))
def af58b : ACode :=
  (.seq
   (.reg [⟨(some 2), .mov (.c (.int .i32 0))⟩])
  (.seq
   (.seq
    (.reg [⟨(some 6), .mov (.tmp 0)⟩,
      ⟨(some 7), .len 0 (.tmp 6)⟩,
      ⟨(some 8), .bin .lss (.tmp 7) (.c (.int .i64 6))⟩,
      ⟨(some 13), .sc 9 false (.tmp 8) [⟨(some 10), .mov (.tmp 0)⟩, ⟨(some 11), .idx (.tmp 10) (.c (.int .i64 0))⟩, ⟨(some 12), .bin .neq (.tmp 11) (.c (.int .u8 92))⟩] (.tmp 12)⟩,
      ⟨(some 18), .sc 14 false (.tmp 13) [⟨(some 15), .mov (.tmp 0)⟩, ⟨(some 16), .idx (.tmp 15) (.c (.int .i64 1))⟩, ⟨(some 17), .bin .neq (.tmp 16) (.c (.int .u8 117))⟩] (.tmp 17)⟩])
   (.cond (.tmp 18)
    (.seq
     (.reg [⟨(some 2), .mov (.c (.int .i32 (-1)))⟩])
    .ret)
    .skip))
  (.seq
   (.reg [⟨(some 3), .mov (.c (.int .i32 0))⟩])
  (.seq
   (.seq
    (.reg [⟨(some 19), .mov (.c (.int .i64 0))⟩])
   (.blk 0
    (.loop false af58l0)))
  (.seq
   (.reg [⟨(some 34), .mov (.tmp 3)⟩,
     ⟨(some 2), .mov (.tmp 34)⟩])
  .ret)))))
def af58 : AFunc := ⟨35, [.tmp 2], af58b, false⟩

/-- (*strings.Builder).copyCheck -/
def af59b : ACode :=
  (.seq
   (.reg [⟨(some 2), .mov (.tmp 0)⟩,
     ⟨(some 3), .nilchk (.tmp 2)⟩,
     ⟨(some 4), .fadr 0 (.tmp 3)⟩,
     ⟨(some 5), .load none (.tmp 4)⟩,
     ⟨(some 6), .eqp false (.tmp 5) (.c .pnil)⟩])
  (.cond (.tmp 6)
   (.reg [⟨(some 7), .mov (.tmp 0)⟩,
     ⟨(some 8), .mov (.tmp 0)⟩,
     ⟨(some 9), .pu (.tmp 8)⟩,
     ⟨(some 10), .call false false (.c (.fn (.func 73) [] [])) [(.tmp 9)]⟩,
     ⟨(some 11), .up 73 2 (.tmp 10)⟩,
     ⟨(some 12), .nilchk (.tmp 7)⟩,
     ⟨(some 13), .fadr 0 (.tmp 12)⟩,
     ⟨none, .store 1 (.tmp 13) (.tmp 11)⟩])
   (.seq
    (.reg [⟨(some 14), .mov (.tmp 0)⟩,
      ⟨(some 15), .nilchk (.tmp 14)⟩,
      ⟨(some 16), .fadr 0 (.tmp 15)⟩,
      ⟨(some 17), .load none (.tmp 16)⟩,
      ⟨(some 18), .mov (.tmp 0)⟩,
      ⟨(some 19), .eqp true (.tmp 17) (.tmp 18)⟩])
   (.cond (.tmp 19)
    .halt
    .skip))))
def af59 : AFunc := ⟨20, [], af59b, true⟩

/-- unicode/utf8.AppendRune -/
def af60b : ACode :=
  (.seq
   (.reg [⟨(some 4), .mov (.c (.sl .nil []))⟩])
  (.seq
   (.seq
    (.reg [⟨(some 5), .mov (.tmp 1)⟩,
      ⟨(some 6), .cvI .u32 (.tmp 5)⟩,
      ⟨(some 7), .bin .leq (.tmp 6) (.c (.int .u32 127))⟩])
   (.cond (.tmp 7)
    (.seq
     (.reg [⟨(some 8), .mov (.tmp 0)⟩,
       ⟨(some 9), .mov (.tmp 1)⟩,
       ⟨(some 10), .cvI .u8 (.tmp 9)⟩,
       ⟨(some 11), .bsl 1 (.int .u8 0) 1 [(0, (.tmp 10))]⟩,
       ⟨(some 12), .app false 1 (1, 5) (.tmp 8) (.tmp 11)⟩,
       ⟨(some 4), .mov (.tmp 12)⟩])
    .ret)
    .skip))
  (.seq
   (.reg [⟨(some 13), .mov (.tmp 0)⟩,
     ⟨(some 14), .mov (.tmp 1)⟩,
     ⟨(some 15), .call true false (.c (.fn (.func 74) [] [])) [(.tmp 13), (.tmp 14)]⟩,
     ⟨(some 4), .mov (.tmp 15)⟩])
  .ret)))
def af60 : AFunc := ⟨16, [.tmp 4], af60b, true⟩

/-- cascade/quote.digit -/
def af72b : ACode :=
  (.seq
   (.reg [⟨(some 2), .mov (.c (.int .i32 0))⟩])
  (.seq
   (.blk 0
    (.seq
     (.reg [⟨(some 4), .mov (.tmp 0)⟩,
       ⟨(some 5), .bin .geq (.tmp 4) (.c (.int .u8 48))⟩,
       ⟨(some 9), .sc 6 true (.tmp 5) [⟨(some 7), .mov (.tmp 0)⟩, ⟨(some 8), .bin .leq (.tmp 7) (.c (.int .u8 57))⟩] (.tmp 8)⟩,
       ⟨(some 3), .mov (.tmp 9)⟩])
    (.cond (.tmp 3)
     (.seq
      (.reg [⟨(some 10), .mov (.tmp 0)⟩,
        ⟨(some 11), .bin .sub (.tmp 10) (.c (.int .u8 48))⟩,
        ⟨(some 12), .cvI .i32 (.tmp 11)⟩,
        ⟨(some 2), .mov (.tmp 12)⟩])
     .ret)
     (.seq
      (.reg [⟨(some 14), .mov (.tmp 0)⟩,
        ⟨(some 15), .bin .geq (.tmp 14) (.c (.int .u8 97))⟩,
        ⟨(some 19), .sc 16 true (.tmp 15) [⟨(some 17), .mov (.tmp 0)⟩, ⟨(some 18), .bin .leq (.tmp 17) (.c (.int .u8 102))⟩] (.tmp 18)⟩,
        ⟨(some 13), .mov (.tmp 19)⟩])
     (.cond (.tmp 13)
      (.seq
       (.reg [⟨(some 20), .mov (.tmp 0)⟩,
         ⟨(some 21), .bin .sub (.tmp 20) (.c (.int .u8 97))⟩,
         ⟨(some 22), .cvI .i32 (.tmp 21)⟩,
         ⟨(some 23), .bin .add (.tmp 22) (.c (.int .i32 10))⟩,
         ⟨(some 2), .mov (.tmp 23)⟩])
      .ret)
      (.seq
       (.reg [⟨(some 25), .mov (.tmp 0)⟩,
         ⟨(some 26), .bin .geq (.tmp 25) (.c (.int .u8 65))⟩,
         ⟨(some 30), .sc 27 true (.tmp 26) [⟨(some 28), .mov (.tmp 0)⟩, ⟨(some 29), .bin .leq (.tmp 28) (.c (.int .u8 70))⟩] (.tmp 29)⟩,
         ⟨(some 24), .mov (.tmp 30)⟩])
      (.cond (.tmp 24)
       (.seq
        (.reg [⟨(some 31), .mov (.tmp 0)⟩,
          ⟨(some 32), .bin .sub (.tmp 31) (.c (.int .u8 65))⟩,
          ⟨(some 33), .cvI .i32 (.tmp 32)⟩,
          ⟨(some 34), .bin .add (.tmp 33) (.c (.int .i32 10))⟩,
          ⟨(some 2), .mov (.tmp 34)⟩])
       .ret)
       .skip)))))))
  (.seq
   (.reg [⟨(some 2), .mov (.c (.int .i32 (-1)))⟩])
  .ret)))
def af72 : AFunc := ⟨35, [.tmp 2], af72b, false⟩

/-- unicode/utf8.appendRuneNonASCII -/
def af74b : ACode :=
  (.seq
   (.reg [⟨(some 4), .mov (.c (.sl .nil []))⟩])
  (.seq
   (.reg [⟨(some 6), .mov (.tmp 1)⟩,
     ⟨(some 7), .cvI .u32 (.tmp 6)⟩,
     ⟨(some 5), .mov (.tmp 7)⟩])
  (.blk 0
   (.seq
    (.reg [⟨(some 12), .mov (.tmp 5)⟩,
      ⟨(some 13), .bin .leq (.tmp 12) (.c (.int .u32 2047))⟩,
      ⟨(some 11), .mov (.tmp 13)⟩])
   (.cond (.tmp 11)
    (.seq
     (.reg [⟨(some 14), .mov (.tmp 0)⟩,
       ⟨(some 15), .mov (.tmp 1)⟩,
       ⟨(some 16), .bin .shr (.tmp 15) (.c (.int .u64 6))⟩,
       ⟨(some 17), .cvI .u8 (.tmp 16)⟩,
       ⟨(some 18), .bin .or (.c (.int .u8 192)) (.tmp 17)⟩,
       ⟨(some 19), .mov (.tmp 1)⟩,
       ⟨(some 20), .cvI .u8 (.tmp 19)⟩,
       ⟨(some 21), .bin .and (.tmp 20) (.c (.int .u8 63))⟩,
       ⟨(some 22), .bin .or (.c (.int .u8 128)) (.tmp 21)⟩,
       ⟨(some 23), .bsl 1 (.int .u8 0) 2 [(0, (.tmp 18)), (1, (.tmp 22))]⟩,
       ⟨(some 24), .app false 1 (1, 5) (.tmp 14) (.tmp 23)⟩,
       ⟨(some 4), .mov (.tmp 24)⟩])
    .ret)
    (.seq
     (.seq
      (.reg [⟨(some 26), .mov (.tmp 5)⟩,
        ⟨(some 27), .bin .lss (.tmp 26) (.c (.int .u32 55296))⟩,
        ⟨(some 25), .mov (.tmp 27)⟩])
     (.cond (.tmp 25)
      .skip
      (.reg [⟨(some 28), .mov (.tmp 5)⟩,
        ⟨(some 29), .bin .lss (.c (.int .u32 57343)) (.tmp 28)⟩,
        ⟨(some 33), .sc 30 true (.tmp 29) [⟨(some 31), .mov (.tmp 5)⟩, ⟨(some 32), .bin .leq (.tmp 31) (.c (.int .u32 65535))⟩] (.tmp 32)⟩,
        ⟨(some 25), .mov (.tmp 33)⟩])))
    (.cond (.tmp 25)
     (.seq
      (.reg [⟨(some 34), .mov (.tmp 0)⟩,
        ⟨(some 35), .mov (.tmp 1)⟩,
        ⟨(some 36), .bin .shr (.tmp 35) (.c (.int .u64 12))⟩,
        ⟨(some 37), .cvI .u8 (.tmp 36)⟩,
        ⟨(some 38), .bin .or (.c (.int .u8 224)) (.tmp 37)⟩,
        ⟨(some 39), .mov (.tmp 1)⟩,
        ⟨(some 40), .bin .shr (.tmp 39) (.c (.int .u64 6))⟩,
        ⟨(some 41), .cvI .u8 (.tmp 40)⟩,
        ⟨(some 42), .bin .and (.tmp 41) (.c (.int .u8 63))⟩,
        ⟨(some 43), .bin .or (.c (.int .u8 128)) (.tmp 42)⟩,
        ⟨(some 44), .mov (.tmp 1)⟩,
        ⟨(some 45), .cvI .u8 (.tmp 44)⟩,
        ⟨(some 46), .bin .and (.tmp 45) (.c (.int .u8 63))⟩,
        ⟨(some 47), .bin .or (.c (.int .u8 128)) (.tmp 46)⟩,
        ⟨(some 48), .bsl 1 (.int .u8 0) 3 [(0, (.tmp 38)), (1, (.tmp 43)), (2, (.tmp 47))]⟩,
        ⟨(some 49), .app false 1 (1, 5) (.tmp 34) (.tmp 48)⟩,
        ⟨(some 4), .mov (.tmp 49)⟩])
     .ret)
     (.seq
      (.reg [⟨(some 51), .mov (.tmp 5)⟩,
        ⟨(some 52), .bin .gtr (.tmp 51) (.c (.int .u32 65535))⟩,
        ⟨(some 56), .sc 53 true (.tmp 52) [⟨(some 54), .mov (.tmp 5)⟩, ⟨(some 55), .bin .leq (.tmp 54) (.c (.int .u32 1114111))⟩] (.tmp 55)⟩,
        ⟨(some 50), .mov (.tmp 56)⟩])
     (.cond (.tmp 50)
      (.seq
       (.reg [⟨(some 57), .mov (.tmp 0)⟩,
         ⟨(some 58), .mov (.tmp 1)⟩,
         ⟨(some 59), .bin .shr (.tmp 58) (.c (.int .u64 18))⟩,
         ⟨(some 60), .cvI .u8 (.tmp 59)⟩,
         ⟨(some 61), .bin .or (.c (.int .u8 240)) (.tmp 60)⟩,
         ⟨(some 62), .mov (.tmp 1)⟩,
         ⟨(some 63), .bin .shr (.tmp 62) (.c (.int .u64 12))⟩,
         ⟨(some 64), .cvI .u8 (.tmp 63)⟩,
         ⟨(some 65), .bin .and (.tmp 64) (.c (.int .u8 63))⟩,
         ⟨(some 66), .bin .or (.c (.int .u8 128)) (.tmp 65)⟩,
         ⟨(some 67), .mov (.tmp 1)⟩,
         ⟨(some 68), .bin .shr (.tmp 67) (.c (.int .u64 6))⟩,
         ⟨(some 69), .cvI .u8 (.tmp 68)⟩,
         ⟨(some 70), .bin .and (.tmp 69) (.c (.int .u8 63))⟩,
         ⟨(some 71), .bin .or (.c (.int .u8 128)) (.tmp 70)⟩,
         ⟨(some 72), .mov (.tmp 1)⟩,
         ⟨(some 73), .cvI .u8 (.tmp 72)⟩,
         ⟨(some 74), .bin .and (.tmp 73) (.c (.int .u8 63))⟩,
         ⟨(some 75), .bin .or (.c (.int .u8 128)) (.tmp 74)⟩,
         ⟨(some 76), .bsl 1 (.int .u8 0) 4 [(0, (.tmp 61)), (1, (.tmp 66)), (2, (.tmp 71)), (3, (.tmp 75))]⟩,
         ⟨(some 77), .app false 1 (1, 5) (.tmp 57) (.tmp 76)⟩,
         ⟨(some 4), .mov (.tmp 77)⟩])
      .ret)
      (.seq
       (.reg [⟨(some 8), .mov (.tmp 0)⟩,
         ⟨(some 9), .bsl 1 (.int .u8 0) 3 [(0, (.c (.int .u8 239))), (1, (.c (.int .u8 191))), (2, (.c (.int .u8 189)))]⟩,
         ⟨(some 10), .app false 1 (1, 5) (.tmp 8) (.tmp 9)⟩,
         ⟨(some 4), .mov (.tmp 10)⟩])
      .ret))))))))))
def af74 : AFunc := ⟨78, [.tmp 4], af74b, true⟩

def tabL : List (FuncId × AFunc) := [(3, af3), (4, af4), (5, af5), (6, af6), (7, af7), (8, af8), (9, af9), (10, af10), (13, af13), (14, af14), (15, af15), (16, af16), (17, af17), (18, af18), (19, af19), (20, af20), (21, af21), (22, af22), (23, af23), (26, af26), (28, af28), (29, af29), (30, af30), (31, af31), (32, af32), (37, af37), (38, af38), (40, af40), (41, af41), (43, af43), (44, af44), (45, af45), (52, af52), (54, af54), (57, af57), (58, af58), (59, af59), (60, af60), (72, af72), (74, af74)]
set_option maxRecDepth 100000
theorem of3 : Of Tryd.prog 3 af3 := ⟨{}, by kernel_rfl⟩
theorem of4 : Of Tryd.prog 4 af4 := ⟨{}, by kernel_rfl⟩
theorem of5 : Of Tryd.prog 5 af5 := ⟨{}, by kernel_rfl⟩
theorem of6 : Of Tryd.prog 6 af6 := ⟨{}, by kernel_rfl⟩
theorem of7 : Of Tryd.prog 7 af7 := ⟨{}, by kernel_rfl⟩
theorem of8 : Of Tryd.prog 8 af8 := ⟨{}, by kernel_rfl⟩
theorem of9 : Of Tryd.prog 9 af9 := ⟨{}, by kernel_rfl⟩
theorem of10 : Of Tryd.prog 10 af10 := ⟨{}, by kernel_rfl⟩
theorem of13 : Of Tryd.prog 13 af13 := ⟨{}, by kernel_rfl⟩
theorem of14 : Of Tryd.prog 14 af14 := ⟨{}, by kernel_rfl⟩
theorem of15 : Of Tryd.prog 15 af15 := ⟨{}, by kernel_rfl⟩
theorem of16 : Of Tryd.prog 16 af16 := ⟨{}, by kernel_rfl⟩
theorem of17 : Of Tryd.prog 17 af17 := ⟨{}, by kernel_rfl⟩
theorem of18 : Of Tryd.prog 18 af18 := ⟨{}, by kernel_rfl⟩
theorem of19 : Of Tryd.prog 19 af19 := ⟨{}, by kernel_rfl⟩
theorem of20 : Of Tryd.prog 20 af20 := ⟨{}, by kernel_rfl⟩
theorem of21 : Of Tryd.prog 21 af21 := ⟨{}, by kernel_rfl⟩
theorem of22 : Of Tryd.prog 22 af22 := ⟨{}, by kernel_rfl⟩
theorem of23 : Of Tryd.prog 23 af23 := ⟨{}, by kernel_rfl⟩
theorem of26 : Of Tryd.prog 26 af26 := ⟨{}, by kernel_rfl⟩
theorem of28 : Of Tryd.prog 28 af28 := ⟨{}, by kernel_rfl⟩
theorem of29 : Of Tryd.prog 29 af29 := ⟨{}, by kernel_rfl⟩
theorem of30 : Of Tryd.prog 30 af30 := ⟨{}, by kernel_rfl⟩
theorem of31 : Of Tryd.prog 31 af31 := ⟨{}, by kernel_rfl⟩
theorem of32 : Of Tryd.prog 32 af32 := ⟨{}, by kernel_rfl⟩
theorem of37 : Of Tryd.prog 37 af37 := ⟨{}, by kernel_rfl⟩
theorem of38 : Of Tryd.prog 38 af38 := ⟨{grow := [27, 33]}, by kernel_rfl⟩
theorem of40 : Of Tryd.prog 40 af40 := ⟨{}, by kernel_rfl⟩
theorem of41 : Of Tryd.prog 41 af41 := ⟨{}, by kernel_rfl⟩
theorem of43 : Of Tryd.prog 43 af43 := ⟨{}, by kernel_rfl⟩
theorem of44 : Of Tryd.prog 44 af44 := ⟨{}, by kernel_rfl⟩
theorem of45 : Of Tryd.prog 45 af45 := ⟨{own := [20]}, by kernel_rfl⟩
theorem of52 : Of Tryd.prog 52 af52 := ⟨{}, by kernel_rfl⟩
theorem of54 : Of Tryd.prog 54 af54 := ⟨{}, by kernel_rfl⟩
theorem of57 : Of Tryd.prog 57 af57 := ⟨{}, by kernel_rfl⟩
theorem of58 : Of Tryd.prog 58 af58 := ⟨{}, by kernel_rfl⟩
theorem of59 : Of Tryd.prog 59 af59 := ⟨{}, by kernel_rfl⟩
theorem of60 : Of Tryd.prog 60 af60 := ⟨{own := [15]}, by kernel_rfl⟩
theorem of72 : Of Tryd.prog 72 af72 := ⟨{}, by kernel_rfl⟩
theorem of74 : Of Tryd.prog 74 af74 := ⟨{}, by kernel_rfl⟩
theorem tabL_ok : ∀ p ∈ tabL, Of Tryd.prog p.1 p.2 ∧ okC p.2.body = true := by
  intro p hp
  simp only [tabL, List.mem_cons, List.not_mem_nil, or_false] at hp
  rcases hp with rfl | rfl | rfl | rfl | rfl | rfl | rfl | rfl | rfl | rfl | rfl | rfl | rfl | rfl | rfl | rfl | rfl | rfl | rfl | rfl | rfl | rfl | rfl | rfl | rfl | rfl | rfl | rfl | rfl | rfl | rfl | rfl | rfl | rfl | rfl | rfl | rfl | rfl | rfl | rfl
  · exact ⟨of3, by kernel_rfl⟩
  · exact ⟨of4, by kernel_rfl⟩
  · exact ⟨of5, by kernel_rfl⟩
  · exact ⟨of6, by kernel_rfl⟩
  · exact ⟨of7, by kernel_rfl⟩
  · exact ⟨of8, by kernel_rfl⟩
  · exact ⟨of9, by kernel_rfl⟩
  · exact ⟨of10, by kernel_rfl⟩
  · exact ⟨of13, by kernel_rfl⟩
  · exact ⟨of14, by kernel_rfl⟩
  · exact ⟨of15, by kernel_rfl⟩
  · exact ⟨of16, by kernel_rfl⟩
  · exact ⟨of17, by kernel_rfl⟩
  · exact ⟨of18, by kernel_rfl⟩
  · exact ⟨of19, by kernel_rfl⟩
  · exact ⟨of20, by kernel_rfl⟩
  · exact ⟨of21, by kernel_rfl⟩
  · exact ⟨of22, by kernel_rfl⟩
  · exact ⟨of23, by kernel_rfl⟩
  · exact ⟨of26, by kernel_rfl⟩
  · exact ⟨of28, by kernel_rfl⟩
  · exact ⟨of29, by kernel_rfl⟩
  · exact ⟨of30, by kernel_rfl⟩
  · exact ⟨of31, by kernel_rfl⟩
  · exact ⟨of32, by kernel_rfl⟩
  · exact ⟨of37, by kernel_rfl⟩
  · exact ⟨of38, by kernel_rfl⟩
  · exact ⟨of40, by kernel_rfl⟩
  · exact ⟨of41, by kernel_rfl⟩
  · exact ⟨of43, by kernel_rfl⟩
  · exact ⟨of44, by kernel_rfl⟩
  · exact ⟨of45, by kernel_rfl⟩
  · exact ⟨of52, by kernel_rfl⟩
  · exact ⟨of54, by kernel_rfl⟩
  · exact ⟨of57, by kernel_rfl⟩
  · exact ⟨of58, by kernel_rfl⟩
  · exact ⟨of59, by kernel_rfl⟩
  · exact ⟨of60, by kernel_rfl⟩
  · exact ⟨of72, by kernel_rfl⟩
  · exact ⟨of74, by kernel_rfl⟩
def tab (f : FuncId) : Option AFunc := (tabL.find? (fun p => p.1 == f)).map (·.2)
theorem tab_3 : tab 3 = some af3 := rfl
theorem tab_4 : tab 4 = some af4 := rfl
theorem tab_5 : tab 5 = some af5 := rfl
theorem tab_6 : tab 6 = some af6 := rfl
theorem tab_7 : tab 7 = some af7 := rfl
theorem tab_8 : tab 8 = some af8 := rfl
theorem tab_9 : tab 9 = some af9 := rfl
theorem tab_10 : tab 10 = some af10 := rfl
theorem tab_13 : tab 13 = some af13 := rfl
theorem tab_14 : tab 14 = some af14 := rfl
theorem tab_15 : tab 15 = some af15 := rfl
theorem tab_16 : tab 16 = some af16 := rfl
theorem tab_17 : tab 17 = some af17 := rfl
theorem tab_18 : tab 18 = some af18 := rfl
theorem tab_19 : tab 19 = some af19 := rfl
theorem tab_20 : tab 20 = some af20 := rfl
theorem tab_21 : tab 21 = some af21 := rfl
theorem tab_22 : tab 22 = some af22 := rfl
theorem tab_23 : tab 23 = some af23 := rfl
theorem tab_26 : tab 26 = some af26 := rfl
theorem tab_28 : tab 28 = some af28 := rfl
theorem tab_29 : tab 29 = some af29 := rfl
theorem tab_30 : tab 30 = some af30 := rfl
theorem tab_31 : tab 31 = some af31 := rfl
theorem tab_32 : tab 32 = some af32 := rfl
theorem tab_37 : tab 37 = some af37 := rfl
theorem tab_38 : tab 38 = some af38 := rfl
theorem tab_40 : tab 40 = some af40 := rfl
theorem tab_41 : tab 41 = some af41 := rfl
theorem tab_43 : tab 43 = some af43 := rfl
theorem tab_44 : tab 44 = some af44 := rfl
theorem tab_45 : tab 45 = some af45 := rfl
theorem tab_52 : tab 52 = some af52 := rfl
theorem tab_54 : tab 54 = some af54 := rfl
theorem tab_57 : tab 57 = some af57 := rfl
theorem tab_58 : tab 58 = some af58 := rfl
theorem tab_59 : tab 59 = some af59 := rfl
theorem tab_60 : tab 60 = some af60 := rfl
theorem tab_72 : tab 72 = some af72 := rfl
theorem tab_74 : tab 74 = some af74 := rfl
theorem tab_ok {f : FuncId} {F : AFunc} (h : tab f = some F) : Of Tryd.prog f F ∧ okC F.body = true := by
  simp only [tab, Option.map_eq_some_iff] at h
  obtain ⟨p, hp, rfl⟩ := h
  have hm := List.mem_of_find?_eq_some hp
  have he := List.find?_some hp
  have : p.1 = f := by simpa using he
  subst this
  exact tabL_ok p hm

end Go.Proofs.YtadpobnajjocnaaDoor.Eng
