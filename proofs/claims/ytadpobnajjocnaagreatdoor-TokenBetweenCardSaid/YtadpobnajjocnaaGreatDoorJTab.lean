/-
  The code of the functions, as the evaluator takes it; the table. Printed by a program of the session out of the program itself; that it is the program is proved here. No condition.
-/
import Derived.Test.YtadpobnajjocnaaGreatDoorEngP
import Derived.Test.YtadpobnajjocnaaGreatDoorProg
import Derived.KernelRfl
namespace Go.Proofs.YtadpobnajjocnaaGreatDoor.Eng
open Go

/-- cascade/cascadelaw08.TokenCuts -/
def af3b : ACode :=
  (.seq
   (.reg [⟨(some 2), .mov (.c (.bool false))⟩])
  (.seq
   (.seq
    (.reg [⟨(some 7), .call false false (.c (.fn (.func 7) [] [])) []⟩,
      ⟨(some 8), .un .not (.tmp 7)⟩,
      ⟨(some 13), .sc 9 false (.tmp 8) [⟨(some 10), .mov (.tmp 0)⟩, ⟨(some 11), .len 0 (.tmp 10)⟩, ⟨(some 12), .bin .gtr (.tmp 11) (.c (.int .i64 600))⟩] (.tmp 12)⟩])
   (.cond (.tmp 13)
    (.seq
     (.reg [⟨(some 14), .call false false (.c (.fn (.func 7) [] [])) []⟩,
       ⟨(some 2), .mov (.tmp 14)⟩])
    .ret)
    .skip))
  (.seq
   (.reg [⟨(some 16), .mov (.tmp 0)⟩,
     ⟨(some 17), .call false false (.c (.fn (.func 8) [] [])) [(.tmp 16)]⟩,
     ⟨(some 15), .mov (.tmp 17)⟩,
     ⟨(some 18), .ext (.tmp 15) 0⟩,
     ⟨(some 19), .ext (.tmp 15) 1⟩,
     ⟨(some 4), .new 26 [(.int .i64 0), (.int .i64 0)]⟩,
     ⟨(some 3), .mov (.tmp 18)⟩,
     ⟨none, .store 2 (.tmp 4) (.tmp 19)⟩])
  (.seq
   (.reg [⟨(some 21), .mov (.tmp 0)⟩,
     ⟨(some 22), .call false false (.c (.fn (.func 9) [] [])) [(.tmp 21)]⟩,
     ⟨(some 20), .mov (.tmp 22)⟩,
     ⟨(some 23), .ext (.tmp 20) 0⟩,
     ⟨(some 24), .ext (.tmp 20) 1⟩,
     ⟨(some 6), .new 26 [(.int .i64 0), (.int .i64 0)]⟩,
     ⟨(some 5), .mov (.tmp 23)⟩,
     ⟨none, .store 2 (.tmp 6) (.tmp 24)⟩])
  (.seq
   (.reg [⟨(some 25), .load (some 2) (.tmp 4)⟩,
     ⟨(some 26), .load (some 2) (.tmp 6)⟩,
     ⟨(some 27), .eqs false [0, 0] (.tmp 25) (.tmp 26)⟩,
     ⟨(some 32), .sc 28 true (.tmp 27) [⟨(some 29), .mov (.tmp 3)⟩, ⟨(some 30), .mov (.tmp 5)⟩, ⟨(some 31), .call false false (.c (.fn (.func 10) [] [])) [(.tmp 29), (.tmp 30), (.c (.bool true))]⟩] (.tmp 31)⟩,
     ⟨(some 2), .mov (.tmp 32)⟩])
  .ret)))))
def af3 : AFunc := ⟨33, [.tmp 2], af3b, false⟩

/-- cascade/cascadelaw08.TokenPlain -/
def af4b : ACode :=
  (.seq
   (.reg [⟨(some 2), .mov (.c (.bool false))⟩])
  (.seq
   (.seq
    (.reg [⟨(some 3), .call false false (.c (.fn (.func 7) [] [])) []⟩,
      ⟨(some 4), .un .not (.tmp 3)⟩,
      ⟨(some 9), .sc 5 false (.tmp 4) [⟨(some 6), .mov (.tmp 0)⟩, ⟨(some 7), .call false false (.c (.fn (.func 11) [] [])) [(.tmp 6), (.c (.int .i64 40))]⟩, ⟨(some 8), .un .not (.tmp 7)⟩] (.tmp 8)⟩])
   (.cond (.tmp 9)
    (.seq
     (.reg [⟨(some 10), .call false false (.c (.fn (.func 7) [] [])) []⟩,
       ⟨(some 2), .mov (.tmp 10)⟩])
    .ret)
    .skip))
  (.seq
   (.reg [⟨(some 11), .mov (.tmp 0)⟩,
     ⟨(some 12), .call false false (.c (.fn (.func 12) [] [])) [(.tmp 11)]⟩,
     ⟨(some 13), .mov (.tmp 0)⟩,
     ⟨(some 14), .call false false (.c (.fn (.func 13) [] [])) [(.tmp 13)]⟩,
     ⟨(some 15), .bin .eql (.tmp 12) (.tmp 14)⟩,
     ⟨(some 2), .mov (.tmp 15)⟩])
  .ret)))
def af4 : AFunc := ⟨16, [.tmp 2], af4b, false⟩

/-- cascade/cascadelaw08.TokenBack -/
def af5b : ACode :=
  (.seq
   (.reg [⟨(some 2), .mov (.c (.bool false))⟩])
  (.seq
   (.seq
    (.reg [⟨(some 6), .call false false (.c (.fn (.func 7) [] [])) []⟩,
      ⟨(some 7), .un .not (.tmp 6)⟩,
      ⟨(some 12), .sc 8 false (.tmp 7) [⟨(some 9), .mov (.tmp 0)⟩, ⟨(some 10), .call false false (.c (.fn (.func 11) [] [])) [(.tmp 9), (.c (.int .i64 10))]⟩, ⟨(some 11), .un .not (.tmp 10)⟩] (.tmp 11)⟩])
   (.cond (.tmp 12)
    (.seq
     (.reg [⟨(some 13), .call false false (.c (.fn (.func 7) [] [])) []⟩,
       ⟨(some 2), .mov (.tmp 13)⟩])
    .ret)
    .skip))
  (.seq
   (.reg [⟨(some 14), .mov (.tmp 0)⟩,
     ⟨(some 15), .call false false (.c (.fn (.func 12) [] [])) [(.tmp 14)]⟩,
     ⟨(some 3), .mov (.tmp 15)⟩])
  (.seq
   (.seq
    (.reg [⟨(some 16), .mov (.tmp 3)⟩,
      ⟨(some 17), .bin .eql (.tmp 16) (.c (.str []))⟩])
   (.cond (.tmp 17)
    (.seq
     (.reg [⟨(some 2), .mov (.c (.bool true))⟩])
    .ret)
    .skip))
  (.seq
   (.reg [⟨(some 19), .mov (.tmp 3)⟩,
     ⟨(some 20), .call false false (.c (.fn (.func 8) [] [])) [(.tmp 19)]⟩,
     ⟨(some 18), .mov (.tmp 20)⟩,
     ⟨(some 21), .ext (.tmp 18) 0⟩,
     ⟨(some 22), .ext (.tmp 18) 1⟩,
     ⟨(some 5), .new 26 [(.int .i64 0), (.int .i64 0)]⟩,
     ⟨(some 4), .mov (.tmp 21)⟩,
     ⟨none, .store 2 (.tmp 5) (.tmp 22)⟩])
  (.seq
   (.reg [⟨(some 23), .load (some 2) (.tmp 5)⟩,
     ⟨(some 24), .build [(.int .i64 0), (.int .i64 0)] []⟩,
     ⟨(some 25), .eqs false [0, 0] (.tmp 23) (.tmp 24)⟩,
     ⟨(some 30), .sc 26 true (.tmp 25) [⟨(some 27), .mov (.tmp 0)⟩, ⟨(some 28), .mov (.tmp 4)⟩, ⟨(some 29), .call false false (.c (.fn (.func 10) [] [])) [(.tmp 27), (.tmp 28), (.c (.bool false))]⟩] (.tmp 29)⟩,
     ⟨(some 2), .mov (.tmp 30)⟩])
  .ret))))))
def af5 : AFunc := ⟨31, [.tmp 2], af5b, false⟩

/-- cascade/cascadelaw08.TokenBetween -/
def af6l0 : ACode :=
  (.seq
      (.seq
       (.reg [⟨(some 48), .mov (.tmp 10)⟩,
         ⟨(some 49), .mov (.tmp 5)⟩,
         ⟨(some 50), .len 1 (.tmp 49)⟩,
         ⟨(some 51), .bin .lss (.tmp 48) (.tmp 50)⟩])
      (.cond (.tmp 51)
       .skip
       (.exit 0)))
     (.seq
      (.blk 1
       (.reg [⟨(some 54), .mov (.tmp 9)⟩,
         ⟨(some 55), .mov (.tmp 5)⟩,
         ⟨(some 56), .mov (.tmp 10)⟩,
         ⟨(some 57), .mov (.tmp 10)⟩,
         ⟨(some 58), .bin .add (.tmp 57) (.c (.int .i64 1))⟩,
         ⟨(some 59), .slc 3 (.tmp 55) (some (.tmp 56)) (some (.tmp 58))⟩,
         ⟨(some 60), .call false false (.c (.fn (.func 12) [] [])) [(.tmp 59)]⟩,
         ⟨(some 61), .bin .add (.tmp 60) (.c (.str [32]))⟩,
         ⟨(some 62), .mov (.tmp 1)⟩,
         ⟨(some 63), .mov (.tmp 10)⟩,
         ⟨(some 64), .bin .add (.tmp 63) (.c (.int .i64 1))⟩,
         ⟨(some 65), .call false false (.c (.fn (.func 14) [] [])) [(.tmp 62), (.tmp 64)]⟩,
         ⟨(some 66), .bin .add (.tmp 61) (.tmp 65)⟩,
         ⟨(some 67), .bin .add (.tmp 54) (.tmp 66)⟩,
         ⟨(some 9), .mov (.tmp 67)⟩]))
     (.reg [⟨(some 52), .mov (.tmp 10)⟩,
       ⟨(some 53), .bin .add (.tmp 52) (.c (.int .i64 1))⟩,
       ⟨(some 10), .mov (.tmp 53)⟩])))
def af6b : ACode :=
  (.seq
   (.reg [⟨(some 4), .mov (.c (.bool false))⟩])
  (.seq
   (.seq
    (.reg [⟨(some 13), .call false false (.c (.fn (.func 7) [] [])) []⟩,
      ⟨(some 14), .un .not (.tmp 13)⟩,
      ⟨(some 19), .sc 15 false (.tmp 14) [⟨(some 16), .mov (.tmp 0)⟩, ⟨(some 17), .len 0 (.tmp 16)⟩, ⟨(some 18), .bin .gtr (.tmp 17) (.c (.int .i64 500))⟩] (.tmp 18)⟩,
      ⟨(some 24), .sc 20 false (.tmp 19) [⟨(some 21), .mov (.tmp 1)⟩, ⟨(some 22), .len 1 (.tmp 21)⟩, ⟨(some 23), .bin .gtr (.tmp 22) (.c (.int .i64 100))⟩] (.tmp 23)⟩])
   (.cond (.tmp 24)
    (.seq
     (.reg [⟨(some 25), .call false false (.c (.fn (.func 7) [] [])) []⟩,
       ⟨(some 4), .mov (.tmp 25)⟩])
    .ret)
    .skip))
  (.seq
   (.reg [⟨(some 27), .mov (.tmp 0)⟩,
     ⟨(some 28), .call false false (.c (.fn (.func 8) [] [])) [(.tmp 27)]⟩,
     ⟨(some 26), .mov (.tmp 28)⟩,
     ⟨(some 29), .ext (.tmp 26) 0⟩,
     ⟨(some 30), .ext (.tmp 26) 1⟩,
     ⟨(some 6), .new 26 [(.int .i64 0), (.int .i64 0)]⟩,
     ⟨(some 5), .mov (.tmp 29)⟩,
     ⟨none, .store 2 (.tmp 6) (.tmp 30)⟩])
  (.seq
   (.seq
    (.reg [⟨(some 31), .fadr 0 (.tmp 6)⟩,
      ⟨(some 32), .load none (.tmp 31)⟩,
      ⟨(some 33), .bin .neq (.tmp 32) (.c (.int .i64 0))⟩])
   (.cond (.tmp 33)
    (.seq
     (.reg [⟨(some 34), .mov (.tmp 5)⟩,
       ⟨(some 35), .len 1 (.tmp 34)⟩,
       ⟨(some 36), .bin .eql (.tmp 35) (.c (.int .i64 0))⟩,
       ⟨(some 4), .mov (.tmp 36)⟩])
    .ret)
    .skip))
  (.seq
   (.reg [⟨(some 38), .mov (.tmp 5)⟩,
     ⟨(some 39), .call false false (.c (.fn (.func 12) [] [])) [(.tmp 38)]⟩,
     ⟨(some 40), .call false false (.c (.fn (.func 8) [] [])) [(.tmp 39)]⟩,
     ⟨(some 37), .mov (.tmp 40)⟩,
     ⟨(some 41), .ext (.tmp 37) 0⟩,
     ⟨(some 42), .ext (.tmp 37) 1⟩,
     ⟨(some 8), .new 26 [(.int .i64 0), (.int .i64 0)]⟩,
     ⟨(some 7), .mov (.tmp 41)⟩,
     ⟨none, .store 2 (.tmp 8) (.tmp 42)⟩])
  (.seq
   (.seq
    (.reg [⟨(some 43), .fadr 0 (.tmp 8)⟩,
      ⟨(some 44), .load none (.tmp 43)⟩,
      ⟨(some 45), .bin .eql (.tmp 44) (.c (.int .i64 6))⟩])
   (.cond (.tmp 45)
    (.seq
     (.reg [⟨(some 4), .mov (.c (.bool true))⟩])
    .ret)
    .skip))
  (.seq
   (.reg [⟨(some 46), .mov (.tmp 1)⟩,
     ⟨(some 47), .call false false (.c (.fn (.func 14) [] [])) [(.tmp 46), (.c (.int .i64 0))]⟩,
     ⟨(some 9), .mov (.tmp 47)⟩])
  (.seq
   (.seq
    (.reg [⟨(some 10), .mov (.c (.int .i64 0))⟩])
   (.blk 0
    (.loop false af6l0)))
  (.seq
   (.reg [⟨(some 69), .mov (.tmp 9)⟩,
     ⟨(some 70), .call false false (.c (.fn (.func 8) [] [])) [(.tmp 69)]⟩,
     ⟨(some 68), .mov (.tmp 70)⟩,
     ⟨(some 71), .ext (.tmp 68) 0⟩,
     ⟨(some 72), .ext (.tmp 68) 1⟩,
     ⟨(some 12), .new 26 [(.int .i64 0), (.int .i64 0)]⟩,
     ⟨(some 11), .mov (.tmp 71)⟩,
     ⟨none, .store 2 (.tmp 12) (.tmp 72)⟩])
  (.seq
   (.seq
    (.reg [⟨(some 73), .fadr 0 (.tmp 12)⟩,
      ⟨(some 74), .load none (.tmp 73)⟩,
      ⟨(some 75), .bin .eql (.tmp 74) (.c (.int .i64 6))⟩])
   (.cond (.tmp 75)
    (.seq
     (.reg [⟨(some 4), .mov (.c (.bool true))⟩])
    .ret)
    .skip))
  (.seq
   (.reg [⟨(some 76), .load (some 2) (.tmp 8)⟩,
     ⟨(some 77), .build [(.int .i64 0), (.int .i64 0)] []⟩,
     ⟨(some 78), .eqs false [0, 0] (.tmp 76) (.tmp 77)⟩,
     ⟨(some 83), .sc 79 true (.tmp 78) [⟨(some 80), .load (some 2) (.tmp 12)⟩, ⟨(some 81), .build [(.int .i64 0), (.int .i64 0)] []⟩, ⟨(some 82), .eqs false [0, 0] (.tmp 80) (.tmp 81)⟩] (.tmp 82)⟩,
     ⟨(some 88), .sc 84 true (.tmp 83) [⟨(some 85), .mov (.tmp 5)⟩, ⟨(some 86), .mov (.tmp 7)⟩, ⟨(some 87), .call false false (.c (.fn (.func 10) [] [])) [(.tmp 85), (.tmp 86), (.c (.bool false))]⟩] (.tmp 87)⟩,
     ⟨(some 93), .sc 89 true (.tmp 88) [⟨(some 90), .mov (.tmp 5)⟩, ⟨(some 91), .mov (.tmp 11)⟩, ⟨(some 92), .call false false (.c (.fn (.func 10) [] [])) [(.tmp 90), (.tmp 91), (.c (.bool false))]⟩] (.tmp 92)⟩,
     ⟨(some 4), .mov (.tmp 93)⟩])
  .ret)))))))))))
def af6 : AFunc := ⟨94, [.tmp 4], af6b, false⟩

/-- cascade/cascadelaw08.awake -/
def af7b : ACode :=
  (.seq
   (.reg [⟨(some 0), .mov (.c (.bool false))⟩])
  (.seq
   (.reg [⟨(some 4), .call false false (.c (.fn (.func 8) [] [])) [(.c (.str [123, 97, 125]))]⟩,
     ⟨(some 3), .mov (.tmp 4)⟩,
     ⟨(some 5), .ext (.tmp 3) 0⟩,
     ⟨(some 6), .ext (.tmp 3) 1⟩,
     ⟨(some 2), .new 26 [(.int .i64 0), (.int .i64 0)]⟩,
     ⟨(some 1), .mov (.tmp 5)⟩,
     ⟨none, .store 2 (.tmp 2) (.tmp 6)⟩])
  (.seq
   (.reg [⟨(some 7), .fadr 0 (.tmp 2)⟩,
     ⟨(some 8), .load none (.tmp 7)⟩,
     ⟨(some 9), .bin .eql (.tmp 8) (.c (.int .i64 0))⟩,
     ⟨(some 14), .sc 10 true (.tmp 9) [⟨(some 11), .mov (.tmp 1)⟩, ⟨(some 12), .len 1 (.tmp 11)⟩, ⟨(some 13), .bin .eql (.tmp 12) (.c (.int .i64 3))⟩] (.tmp 13)⟩,
     ⟨(some 21), .sc 15 true (.tmp 14) [⟨(some 16), .mov (.tmp 1)⟩, ⟨(some 17), .iadr 3 (.tmp 16) (.c (.int .i64 1))⟩, ⟨(some 18), .fadr 1 (.tmp 17)⟩, ⟨(some 19), .load none (.tmp 18)⟩, ⟨(some 20), .bin .eql (.tmp 19) (.c (.str [97]))⟩] (.tmp 20)⟩,
     ⟨(some 0), .mov (.tmp 21)⟩])
  .ret)))
def af7 : AFunc := ⟨22, [.tmp 0], af7b, false⟩

/-- cascade/token.Lex -/
def af8l0 : ACode :=
  (.seq
      (.seq
       (.reg [⟨(some 21), .mov (.tmp 5)⟩,
         ⟨(some 22), .nilchk (.tmp 21)⟩,
         ⟨(some 23), .fadr 1 (.tmp 22)⟩,
         ⟨(some 24), .load none (.tmp 23)⟩,
         ⟨(some 25), .mov (.tmp 0)⟩,
         ⟨(some 26), .len 0 (.tmp 25)⟩,
         ⟨(some 27), .bin .lss (.tmp 24) (.tmp 26)⟩,
         ⟨(some 35), .sc 28 true (.tmp 27) [⟨(some 29), .mov (.tmp 5)⟩, ⟨(some 30), .nilchk (.tmp 29)⟩, ⟨(some 31), .fadr 3 (.tmp 30)⟩, ⟨(some 32), .fadr 0 (.tmp 31)⟩, ⟨(some 33), .load none (.tmp 32)⟩, ⟨(some 34), .bin .eql (.tmp 33) (.c (.int .i64 0))⟩] (.tmp 34)⟩])
      (.cond (.tmp 35)
       .skip
       (.exit 0)))
     (.seq
      (.blk 1
       (.reg [⟨(some 38), .mov (.tmp 5)⟩,
         ⟨(some 39), .call false false (.c (.fn (.func 17) [] [])) [(.tmp 38)]⟩]))
     (.reg [⟨(some 36), .mov (.tmp 5)⟩,
       ⟨(some 37), .call false false (.c (.fn (.func 16) [] [])) [(.tmp 36)]⟩])))
def af8b : ACode :=
  (.seq
   (.reg [⟨(some 2), .mov (.c (.sl .nil []))⟩,
     ⟨(some 3), .new 26 [(.int .i64 0), (.int .i64 0)]⟩])
  (.seq
   (.seq
    (.reg [⟨(some 6), .mov (.tmp 0)⟩,
      ⟨(some 7), .len 0 (.tmp 6)⟩,
      ⟨(some 8), .bin .gtr (.tmp 7) (.c (.int .i64 4000))⟩])
   (.cond (.tmp 8)
    (.seq
     (.reg [⟨(some 9), .build [(.int .i64 0), (.int .i64 0)] [(0, 1, (.c (.int .i64 6)))]⟩,
       ⟨(some 2), .mov (.c (.sl .nil []))⟩,
       ⟨none, .store 2 (.tmp 3) (.tmp 9)⟩])
    .ret)
    .skip))
  (.seq
   (.seq
    (.reg [⟨(some 10), .mov (.tmp 0)⟩,
      ⟨(some 11), .call false false (.c (.fn (.func 15) [] [])) [(.tmp 10)]⟩,
      ⟨(some 4), .mov (.tmp 11)⟩])
   (.seq
    (.reg [⟨(some 12), .mov (.tmp 4)⟩,
      ⟨(some 13), .bin .geq (.tmp 12) (.c (.int .i64 0))⟩])
   (.cond (.tmp 13)
    (.seq
     (.reg [⟨(some 14), .mov (.tmp 4)⟩,
       ⟨(some 15), .build [(.int .i64 0), (.int .i64 0)] [(0, 1, (.c (.int .i64 2))), (1, 1, (.tmp 14))]⟩,
       ⟨(some 2), .mov (.c (.sl .nil []))⟩,
       ⟨none, .store 2 (.tmp 3) (.tmp 15)⟩])
    .ret)
    .skip)))
  (.seq
   (.reg [⟨(some 16), .mov (.tmp 0)⟩,
     ⟨(some 17), .build [(.str []), (.int .i64 0), (.sl .nil []), (.int .i64 0), (.int .i64 0)] [(0, 1, (.tmp 16))]⟩,
     ⟨(some 18), .box 42 (.tmp 17)⟩,
     ⟨(some 5), .mov (.tmp 18)⟩])
  (.seq
   (.seq
    (.reg [⟨(some 19), .mov (.tmp 5)⟩,
      ⟨(some 20), .call false false (.c (.fn (.func 16) [] [])) [(.tmp 19)]⟩])
   (.blk 0
    (.loop false af8l0)))
  (.seq
   (.seq
    (.reg [⟨(some 40), .mov (.tmp 5)⟩,
      ⟨(some 41), .nilchk (.tmp 40)⟩,
      ⟨(some 42), .fadr 3 (.tmp 41)⟩,
      ⟨(some 43), .fadr 0 (.tmp 42)⟩,
      ⟨(some 44), .load none (.tmp 43)⟩,
      ⟨(some 45), .bin .neq (.tmp 44) (.c (.int .i64 0))⟩])
   (.cond (.tmp 45)
    (.seq
     (.regD [] [⟨(some 46), .mov (.tmp 5)⟩,
       ⟨(some 47), .nilchk (.tmp 46)⟩,
       ⟨(some 48), .fadr 3 (.tmp 47)⟩,
       ⟨(some 49), .load (some 2) (.tmp 48)⟩,
       ⟨(some 2), .mov (.c (.sl .nil []))⟩,
       ⟨none, .store 2 (.tmp 3) (.tmp 49)⟩])
    .ret)
    .skip))
  (.seq
   (.reg [⟨(some 50), .mov (.tmp 5)⟩,
     ⟨(some 51), .nilchk (.tmp 50)⟩,
     ⟨(some 52), .fadr 2 (.tmp 51)⟩,
     ⟨(some 53), .load none (.tmp 52)⟩,
     ⟨(some 54), .build [(.int .i64 0), (.int .i64 0)] []⟩,
     ⟨(some 2), .mov (.tmp 53)⟩,
     ⟨none, .store 2 (.tmp 3) (.tmp 54)⟩])
  .ret)))))))
def af8 : AFunc := ⟨55, [.tmp 2, .cell 3 (some 2)], af8b, false⟩

/-- cascade/cascaderef08.Lex -/
def af9l0 : ACode :=
  (.seq
      (.seq
       (.reg [⟨(some 20), .mov (.tmp 6)⟩,
         ⟨(some 21), .mov (.tmp 0)⟩,
         ⟨(some 22), .len 0 (.tmp 21)⟩,
         ⟨(some 23), .bin .lss (.tmp 20) (.tmp 22)⟩])
      (.cond (.tmp 23)
       .skip
       (.exit 0)))
     (.blk 1
      (.seq
       (.seq
        (.reg [⟨(some 24), .mov (.tmp 5)⟩,
          ⟨(some 25), .len 1 (.tmp 24)⟩,
          ⟨(some 26), .bin .eql (.tmp 25) (.c (.int .i64 900))⟩])
       (.cond (.tmp 26)
        (.seq
         (.reg [⟨(some 27), .mov (.tmp 6)⟩,
           ⟨(some 28), .build [(.int .i64 0), (.int .i64 0)] [(0, 1, (.c (.int .i64 6))), (1, 1, (.tmp 27))]⟩,
           ⟨(some 2), .mov (.c (.sl .nil []))⟩,
           ⟨none, .store 2 (.tmp 3) (.tmp 28)⟩])
        .ret)
        .skip))
      (.seq
       (.reg [⟨(some 29), .mov (.tmp 0)⟩,
         ⟨(some 30), .mov (.tmp 6)⟩,
         ⟨(some 31), .call false false (.c (.fn (.func 20) [] [])) [(.tmp 29), (.tmp 30)]⟩,
         ⟨(some 7), .new 45 [(.int .i64 0), (.str []), (.int .i64 0), (.int .i64 0), (.int .i64 0)]⟩,
         ⟨none, .store 5 (.tmp 7) (.tmp 31)⟩])
      (.seq
       (.seq
        (.reg [⟨(some 32), .fadr 4 (.tmp 7)⟩,
          ⟨(some 33), .load none (.tmp 32)⟩,
          ⟨(some 34), .bin .neq (.tmp 33) (.c (.int .i64 0))⟩])
       (.cond (.tmp 34)
        (.seq
         (.regD [] [⟨(some 35), .fadr 4 (.tmp 7)⟩,
           ⟨(some 36), .load none (.tmp 35)⟩,
           ⟨(some 37), .fadr 3 (.tmp 7)⟩,
           ⟨(some 38), .load none (.tmp 37)⟩,
           ⟨(some 39), .build [(.int .i64 0), (.int .i64 0)] [(0, 1, (.tmp 36)), (1, 1, (.tmp 38))]⟩,
           ⟨(some 2), .mov (.c (.sl .nil []))⟩,
           ⟨none, .store 2 (.tmp 3) (.tmp 39)⟩])
        .ret)
        .skip))
      (.seq
       (.reg [⟨(some 40), .mov (.tmp 5)⟩,
         ⟨(some 41), .fadr 0 (.tmp 7)⟩,
         ⟨(some 42), .load (some 3) (.tmp 41)⟩,
         ⟨(some 43), .bsl 3 (.agg [(.int .i64 0), (.str []), (.int .i64 0)]) 1 [(0, (.tmp 42))]⟩,
         ⟨(some 44), .app false 3 (32, 38) (.tmp 40) (.tmp 43)⟩,
         ⟨(some 5), .mov (.tmp 44)⟩])
      (.reg [⟨(some 45), .mov (.tmp 0)⟩,
        ⟨(some 46), .fadr 3 (.tmp 7)⟩,
        ⟨(some 47), .load none (.tmp 46)⟩,
        ⟨(some 48), .call false false (.c (.fn (.func 19) [] [])) [(.tmp 45), (.tmp 47)]⟩,
        ⟨(some 6), .mov (.tmp 48)⟩])))))))
def af9b : ACode :=
  (.seq
   (.reg [⟨(some 2), .mov (.c (.sl .nil []))⟩,
     ⟨(some 3), .new 26 [(.int .i64 0), (.int .i64 0)]⟩])
  (.seq
   (.seq
    (.reg [⟨(some 8), .mov (.tmp 0)⟩,
      ⟨(some 9), .len 0 (.tmp 8)⟩,
      ⟨(some 10), .bin .gtr (.tmp 9) (.c (.int .i64 4000))⟩])
   (.cond (.tmp 10)
    (.seq
     (.reg [⟨(some 11), .build [(.int .i64 0), (.int .i64 0)] [(0, 1, (.c (.int .i64 6)))]⟩,
       ⟨(some 2), .mov (.c (.sl .nil []))⟩,
       ⟨none, .store 2 (.tmp 3) (.tmp 11)⟩])
    .ret)
    .skip))
  (.seq
   (.seq
    (.reg [⟨(some 12), .mov (.tmp 0)⟩,
      ⟨(some 13), .call false false (.c (.fn (.func 18) [] [])) [(.tmp 12)]⟩,
      ⟨(some 4), .mov (.tmp 13)⟩])
   (.seq
    (.reg [⟨(some 14), .mov (.tmp 4)⟩,
      ⟨(some 15), .bin .geq (.tmp 14) (.c (.int .i64 0))⟩])
   (.cond (.tmp 15)
    (.seq
     (.reg [⟨(some 16), .mov (.tmp 4)⟩,
       ⟨(some 17), .build [(.int .i64 0), (.int .i64 0)] [(0, 1, (.c (.int .i64 2))), (1, 1, (.tmp 16))]⟩,
       ⟨(some 2), .mov (.c (.sl .nil []))⟩,
       ⟨none, .store 2 (.tmp 3) (.tmp 17)⟩])
    .ret)
    .skip)))
  (.seq
   (.reg [⟨(some 5), .mov (.c (.sl .nil []))⟩])
  (.seq
   (.reg [⟨(some 18), .mov (.tmp 0)⟩,
     ⟨(some 19), .call false false (.c (.fn (.func 19) [] [])) [(.tmp 18), (.c (.int .i64 0))]⟩,
     ⟨(some 6), .mov (.tmp 19)⟩])
  (.seq
   (.blk 0
    (.loop false af9l0))
  (.seq
   (.reg [⟨(some 49), .mov (.tmp 5)⟩,
     ⟨(some 50), .build [(.int .i64 0), (.int .i64 0)] []⟩,
     ⟨(some 2), .mov (.tmp 49)⟩,
     ⟨none, .store 2 (.tmp 3) (.tmp 50)⟩])
  .ret)))))))
def af9 : AFunc := ⟨51, [.tmp 2, .cell 3 (some 2)], af9b, false⟩

/-- cascade/cascaderef08.Same -/
def af10l0 : ACode :=
  (.seq
      (.seq
       (.reg [⟨(some 13), .mov (.tmp 7)⟩,
         ⟨(some 14), .mov (.tmp 0)⟩,
         ⟨(some 15), .len 1 (.tmp 14)⟩,
         ⟨(some 16), .bin .lss (.tmp 13) (.tmp 15)⟩])
      (.cond (.tmp 16)
       .skip
       (.exit 0)))
     (.seq
      (.blk 1
       (.seq
        (.regD [] [⟨(some 19), .mov (.tmp 0)⟩,
          ⟨(some 20), .mov (.tmp 7)⟩,
          ⟨(some 21), .iadr 3 (.tmp 19) (.tmp 20)⟩,
          ⟨(some 22), .fadr 0 (.tmp 21)⟩,
          ⟨(some 23), .load none (.tmp 22)⟩,
          ⟨(some 24), .mov (.tmp 1)⟩,
          ⟨(some 25), .mov (.tmp 7)⟩,
          ⟨(some 26), .iadr 3 (.tmp 24) (.tmp 25)⟩,
          ⟨(some 27), .fadr 0 (.tmp 26)⟩,
          ⟨(some 28), .load none (.tmp 27)⟩,
          ⟨(some 29), .bin .neq (.tmp 23) (.tmp 28)⟩,
          ⟨(some 42), .sc 30 false (.tmp 29) [⟨(some 31), .mov (.tmp 0)⟩, ⟨(some 32), .mov (.tmp 7)⟩, ⟨(some 33), .iadr 3 (.tmp 31) (.tmp 32)⟩, ⟨(some 34), .fadr 1 (.tmp 33)⟩, ⟨(some 35), .load none (.tmp 34)⟩, ⟨(some 36), .mov (.tmp 1)⟩, ⟨(some 37), .mov (.tmp 7)⟩, ⟨(some 38), .iadr 3 (.tmp 36) (.tmp 37)⟩, ⟨(some 39), .fadr 1 (.tmp 38)⟩, ⟨(some 40), .load none (.tmp 39)⟩, ⟨(some 41), .bin .neq (.tmp 35) (.tmp 40)⟩] (.tmp 41)⟩,
          ⟨(some 58), .sc 43 false (.tmp 42) [⟨(some 44), .mov (.tmp 2)⟩, ⟨(some 57), .sc 45 true (.tmp 44) [⟨(some 46), .mov (.tmp 0)⟩, ⟨(some 47), .mov (.tmp 7)⟩, ⟨(some 48), .iadr 3 (.tmp 46) (.tmp 47)⟩, ⟨(some 49), .fadr 2 (.tmp 48)⟩, ⟨(some 50), .load none (.tmp 49)⟩, ⟨(some 51), .mov (.tmp 1)⟩, ⟨(some 52), .mov (.tmp 7)⟩, ⟨(some 53), .iadr 3 (.tmp 51) (.tmp 52)⟩, ⟨(some 54), .fadr 2 (.tmp 53)⟩, ⟨(some 55), .load none (.tmp 54)⟩, ⟨(some 56), .bin .neq (.tmp 50) (.tmp 55)⟩] (.tmp 56)⟩] (.tmp 57)⟩])
       (.cond (.tmp 58)
        (.seq
         (.reg [⟨(some 6), .mov (.c (.bool false))⟩])
        .ret)
        .skip)))
     (.reg [⟨(some 17), .mov (.tmp 7)⟩,
       ⟨(some 18), .bin .add (.tmp 17) (.c (.int .i64 1))⟩,
       ⟨(some 7), .mov (.tmp 18)⟩])))
def af10b : ACode :=
  (.seq
   (.reg [⟨(some 6), .mov (.c (.bool false))⟩])
  (.seq
   (.seq
    (.reg [⟨(some 8), .mov (.tmp 0)⟩,
      ⟨(some 9), .len 1 (.tmp 8)⟩,
      ⟨(some 10), .mov (.tmp 1)⟩,
      ⟨(some 11), .len 1 (.tmp 10)⟩,
      ⟨(some 12), .bin .neq (.tmp 9) (.tmp 11)⟩])
   (.cond (.tmp 12)
    (.seq
     (.reg [⟨(some 6), .mov (.c (.bool false))⟩])
    .ret)
    .skip))
  (.seq
   (.seq
    (.reg [⟨(some 7), .mov (.c (.int .i64 0))⟩])
   (.blk 0
    (.loop false af10l0)))
  (.seq
   (.reg [⟨(some 6), .mov (.c (.bool true))⟩])
  .ret))))
def af10 : AFunc := ⟨59, [.tmp 6], af10b, false⟩

/-- cascade/cascadelaw08.few -/
def af11l0 : ACode :=
  (.seq
      (.seq
       (.reg [⟨(some 6), .mov (.tmp 5)⟩,
         ⟨(some 7), .mov (.tmp 0)⟩,
         ⟨(some 8), .len 1 (.tmp 7)⟩,
         ⟨(some 9), .bin .lss (.tmp 6) (.tmp 8)⟩,
         ⟨(some 13), .sc 10 true (.tmp 9) [⟨(some 11), .mov (.tmp 5)⟩, ⟨(some 12), .bin .lss (.tmp 11) (.c (.int .i64 100))⟩] (.tmp 12)⟩])
      (.cond (.tmp 13)
       .skip
       (.exit 0)))
     (.seq
      (.blk 1
       (.seq
        (.reg [⟨(some 16), .mov (.tmp 0)⟩,
          ⟨(some 17), .mov (.tmp 5)⟩,
          ⟨(some 18), .iadr 3 (.tmp 16) (.tmp 17)⟩,
          ⟨(some 19), .fadr 1 (.tmp 18)⟩,
          ⟨(some 20), .load none (.tmp 19)⟩,
          ⟨(some 21), .len 0 (.tmp 20)⟩,
          ⟨(some 22), .bin .gtr (.tmp 21) (.c (.int .i64 60))⟩])
       (.cond (.tmp 22)
        (.seq
         (.reg [⟨(some 4), .mov (.c (.bool false))⟩])
        .ret)
        .skip)))
     (.reg [⟨(some 14), .mov (.tmp 5)⟩,
       ⟨(some 15), .bin .add (.tmp 14) (.c (.int .i64 1))⟩,
       ⟨(some 5), .mov (.tmp 15)⟩])))
def af11b : ACode :=
  (.seq
   (.reg [⟨(some 4), .mov (.c (.bool false))⟩])
  (.seq
   (.seq
    (.reg [⟨(some 5), .mov (.c (.int .i64 0))⟩])
   (.blk 0
    (.loop false af11l0)))
  (.seq
   (.reg [⟨(some 23), .mov (.tmp 0)⟩,
     ⟨(some 24), .len 1 (.tmp 23)⟩,
     ⟨(some 25), .mov (.tmp 1)⟩,
     ⟨(some 26), .bin .leq (.tmp 24) (.tmp 25)⟩,
     ⟨(some 4), .mov (.tmp 26)⟩])
  .ret)))
def af11 : AFunc := ⟨27, [.tmp 4], af11b, false⟩

/-- cascade/token.Plain -/
def af12l0 : ACode :=
  (.seq
      (.reg [⟨(some 10), .bin .lss (.tmp 9) (.tmp 8)⟩])
     (.seq
      (.cond (.tmp 10)
       .skip
       (.exit 0))
     (.seq
      (.blk 1
       (.seq
        (.reg [⟨(some 11), .iadr 3 (.tmp 7) (.tmp 9)⟩,
          ⟨(some 12), .load (some 3) (.tmp 11)⟩,
          ⟨(some 5), .new 38 [(.int .i64 0), (.str []), (.int .i64 0)]⟩,
          ⟨none, .store 3 (.tmp 5) (.tmp 12)⟩])
       (.seq
        (.reg [⟨(some 13), .load (some 3) (.tmp 5)⟩,
          ⟨(some 14), .call false false (.c (.fn (.func 21) [] [])) [(.tmp 13)]⟩,
          ⟨(some 6), .mov (.tmp 14)⟩])
       (.seq
        (.seq
         (.reg [⟨(some 15), .mov (.tmp 6)⟩,
           ⟨(some 16), .bin .eql (.tmp 15) (.c (.str []))⟩])
        (.cond (.tmp 16)
         (.seq
          (.reg [⟨(some 2), .mov (.c (.str []))⟩])
         .ret)
         .skip))
       (.reg [⟨(some 17), .mov (.tmp 3)⟩,
         ⟨(some 18), .mov (.tmp 6)⟩,
         ⟨(some 19), .bsl 1 (.str []) 1 [(0, (.tmp 18))]⟩,
         ⟨(some 20), .app false 1 (16, 9) (.tmp 17) (.tmp 19)⟩,
         ⟨(some 3), .mov (.tmp 20)⟩])))))
     (.reg [⟨(some 21), .bin .add (.tmp 9) (.c (.int .i64 1))⟩,
       ⟨(some 9), .mov (.tmp 21)⟩]))))
def af12b : ACode :=
  (.seq
   (.reg [⟨(some 2), .mov (.c (.str []))⟩])
  (.seq
   (.reg [⟨(some 3), .mov (.c (.sl .nil []))⟩])
  (.seq
   (.seq
    (.reg [⟨(some 7), .mov (.tmp 0)⟩,
      ⟨(some 8), .len 1 (.tmp 7)⟩,
      ⟨(some 9), .mov (.c (.int .i64 0))⟩])
   (.blk 0
    (.loop false af12l0)))
  (.seq
   (.reg [⟨(some 22), .mov (.tmp 3)⟩,
     ⟨(some 23), .call false false (.c (.fn (.func 22) [] [])) [(.tmp 22), (.c (.str [32]))]⟩,
     ⟨(some 2), .mov (.tmp 23)⟩])
  .ret))))
def af12 : AFunc := ⟨24, [.tmp 2], af12b, false⟩

/-- cascade/cascaderef08.Plain -/
def af13l0 : ACode :=
  (.seq
      (.seq
       (.reg [⟨(some 8), .mov (.tmp 4)⟩,
         ⟨(some 9), .mov (.tmp 0)⟩,
         ⟨(some 10), .len 1 (.tmp 9)⟩,
         ⟨(some 11), .bin .lss (.tmp 8) (.tmp 10)⟩])
      (.cond (.tmp 11)
       .skip
       (.exit 0)))
     (.seq
      (.blk 1
       (.seq
        (.reg [⟨(some 14), .mov (.tmp 0)⟩,
          ⟨(some 15), .mov (.tmp 4)⟩,
          ⟨(some 16), .iadr 3 (.tmp 14) (.tmp 15)⟩,
          ⟨(some 17), .fadr 1 (.tmp 16)⟩,
          ⟨(some 18), .load none (.tmp 17)⟩,
          ⟨(some 5), .mov (.tmp 18)⟩])
       (.seq
        (.seq
         (.reg [⟨(some 19), .mov (.tmp 0)⟩,
           ⟨(some 20), .mov (.tmp 4)⟩,
           ⟨(some 21), .iadr 3 (.tmp 19) (.tmp 20)⟩,
           ⟨(some 22), .fadr 0 (.tmp 21)⟩,
           ⟨(some 23), .load none (.tmp 22)⟩,
           ⟨(some 24), .bin .eql (.tmp 23) (.c (.int .i64 4))⟩])
        (.cond (.tmp 24)
         (.seq
          (.seq
           (.reg [⟨(some 25), .mov (.tmp 5)⟩,
             ⟨(some 26), .call false false (.c (.fn (.func 23) [] [])) [(.tmp 25)]⟩,
             ⟨(some 27), .un .not (.tmp 26)⟩])
          (.cond (.tmp 27)
           (.seq
            (.reg [⟨(some 2), .mov (.c (.str []))⟩])
           .ret)
           .skip))
         (.reg [⟨(some 28), .mov (.tmp 5)⟩,
           ⟨(some 29), .call false false (.c (.fn (.func 24) [] [])) [(.tmp 28)]⟩,
           ⟨(some 5), .mov (.tmp 29)⟩]))
         (.seq
          (.reg [⟨(some 31), .mov (.tmp 5)⟩,
            ⟨(some 32), .call false false (.c (.fn (.func 9) [] [])) [(.tmp 31)]⟩,
            ⟨(some 30), .mov (.tmp 32)⟩,
            ⟨(some 33), .ext (.tmp 30) 0⟩,
            ⟨(some 34), .ext (.tmp 30) 1⟩,
            ⟨(some 7), .new 26 [(.int .i64 0), (.int .i64 0)]⟩,
            ⟨(some 6), .mov (.tmp 33)⟩,
            ⟨none, .store 2 (.tmp 7) (.tmp 34)⟩])
         (.seq
          (.regD [] [⟨(some 35), .fadr 0 (.tmp 7)⟩,
            ⟨(some 36), .load none (.tmp 35)⟩,
            ⟨(some 37), .bin .neq (.tmp 36) (.c (.int .i64 0))⟩,
            ⟨(some 42), .sc 38 false (.tmp 37) [⟨(some 39), .mov (.tmp 6)⟩, ⟨(some 40), .len 1 (.tmp 39)⟩, ⟨(some 41), .bin .neq (.tmp 40) (.c (.int .i64 1))⟩] (.tmp 41)⟩,
            ⟨(some 54), .sc 43 false (.tmp 42) [⟨(some 44), .mov (.tmp 6)⟩, ⟨(some 45), .iadr 3 (.tmp 44) (.c (.int .i64 0))⟩, ⟨(some 46), .fadr 0 (.tmp 45)⟩, ⟨(some 47), .load none (.tmp 46)⟩, ⟨(some 48), .mov (.tmp 0)⟩, ⟨(some 49), .mov (.tmp 4)⟩, ⟨(some 50), .iadr 3 (.tmp 48) (.tmp 49)⟩, ⟨(some 51), .fadr 0 (.tmp 50)⟩, ⟨(some 52), .load none (.tmp 51)⟩, ⟨(some 53), .bin .neq (.tmp 47) (.tmp 52)⟩] (.tmp 53)⟩,
            ⟨(some 62), .sc 55 false (.tmp 54) [⟨(some 56), .mov (.tmp 6)⟩, ⟨(some 57), .iadr 3 (.tmp 56) (.c (.int .i64 0))⟩, ⟨(some 58), .fadr 1 (.tmp 57)⟩, ⟨(some 59), .load none (.tmp 58)⟩, ⟨(some 60), .mov (.tmp 5)⟩, ⟨(some 61), .bin .neq (.tmp 59) (.tmp 60)⟩] (.tmp 61)⟩])
         (.cond (.tmp 62)
          (.seq
           (.reg [⟨(some 2), .mov (.c (.str []))⟩])
          .ret)
          .skip)))))
       (.seq
        (.seq
         (.reg [⟨(some 63), .mov (.tmp 4)⟩,
           ⟨(some 64), .bin .gtr (.tmp 63) (.c (.int .i64 0))⟩])
        (.cond (.tmp 64)
         (.reg [⟨(some 65), .mov (.tmp 3)⟩,
           ⟨(some 66), .bin .add (.tmp 65) (.c (.str [32]))⟩,
           ⟨(some 3), .mov (.tmp 66)⟩])
         .skip))
       (.reg [⟨(some 67), .mov (.tmp 3)⟩,
         ⟨(some 68), .mov (.tmp 5)⟩,
         ⟨(some 69), .bin .add (.tmp 67) (.tmp 68)⟩,
         ⟨(some 3), .mov (.tmp 69)⟩])))))
     (.reg [⟨(some 12), .mov (.tmp 4)⟩,
       ⟨(some 13), .bin .add (.tmp 12) (.c (.int .i64 1))⟩,
       ⟨(some 4), .mov (.tmp 13)⟩])))
def af13b : ACode :=
  (.seq
   (.reg [⟨(some 2), .mov (.c (.str []))⟩])
  (.seq
   (.reg [⟨(some 3), .mov (.c (.str []))⟩])
  (.seq
   (.seq
    (.reg [⟨(some 4), .mov (.c (.int .i64 0))⟩])
   (.blk 0
    (.loop false af13l0)))
  (.seq
   (.reg [⟨(some 70), .mov (.tmp 3)⟩,
     ⟨(some 2), .mov (.tmp 70)⟩])
  .ret))))
def af13 : AFunc := ⟨71, [.tmp 2], af13b, false⟩

/-- cascade/cascadelaw08.piece -/
def af14b : ACode :=
  (.seq
   (.reg [⟨(some 4), .mov (.c (.str []))⟩])
  (.seq
   (.reg [⟨(some 6), .bsl 1 (.str []) 7 [(0, (.c (.str []))), (1, (.c (.str [32]))), (2, (.c (.str [44]))), (3, (.c (.str [10]))), (4, (.c (.str [9, 13, 10]))), (5, (.c (.str [35, 123, 97, 10]))), (6, (.c (.str [35, 32, 34, 13])))]⟩,
     ⟨(some 5), .mov (.tmp 6)⟩])
  (.seq
   (.seq
    (.reg [⟨(some 7), .mov (.tmp 1)⟩,
      ⟨(some 8), .mov (.tmp 0)⟩,
      ⟨(some 9), .len 1 (.tmp 8)⟩,
      ⟨(some 10), .bin .geq (.tmp 7) (.tmp 9)⟩])
   (.cond (.tmp 10)
    (.seq
     (.reg [⟨(some 4), .mov (.c (.str []))⟩])
    .ret)
    .skip))
  (.seq
   (.reg [⟨(some 11), .mov (.tmp 5)⟩,
     ⟨(some 12), .mov (.tmp 0)⟩,
     ⟨(some 13), .mov (.tmp 1)⟩,
     ⟨(some 14), .iadr 1 (.tmp 12) (.tmp 13)⟩,
     ⟨(some 15), .load none (.tmp 14)⟩,
     ⟨(some 16), .cvI .i64 (.tmp 15)⟩,
     ⟨(some 17), .bin .rem (.tmp 16) (.c (.int .i64 7))⟩,
     ⟨(some 18), .iadr 1 (.tmp 11) (.tmp 17)⟩,
     ⟨(some 19), .load none (.tmp 18)⟩,
     ⟨(some 4), .mov (.tmp 19)⟩])
  .ret))))
def af14 : AFunc := ⟨20, [.tmp 4], af14b, false⟩

/-- cascade/text.Bad -/
def af15l0 : ACode :=
  (.seq
      (.reg [⟨(some 9), .nxt (.tmp 8)⟩,
        ⟨(some 10), .ext (.tmp 9) 0⟩])
     (.seq
      (.cond (.tmp 10)
       .skip
       (.exit 0))
     (.blk 1
      (.seq
       (.reg [⟨(some 11), .ext (.tmp 9) 1⟩,
         ⟨(some 12), .ext (.tmp 9) 2⟩,
         ⟨(some 3), .mov (.tmp 11)⟩,
         ⟨(some 4), .mov (.tmp 12)⟩])
      (.seq
       (.seq
        (.reg [⟨(some 13), .mov (.tmp 4)⟩,
          ⟨(some 14), .bin .neq (.tmp 13) (.c (.int .i32 65533))⟩])
       (.cond (.tmp 14)
        (.exit 1)
        .skip))
      (.seq
       (.reg [⟨(some 16), .mov (.tmp 0)⟩,
         ⟨(some 17), .mov (.tmp 3)⟩,
         ⟨(some 18), .slcS (.tmp 16) (some (.tmp 17)) none⟩,
         ⟨(some 19), .call false false (.c (.fn (.func 25) [] [])) [(.tmp 18)]⟩,
         ⟨(some 15), .mov (.tmp 19)⟩,
         ⟨(some 20), .ext (.tmp 15) 0⟩,
         ⟨(some 21), .ext (.tmp 15) 1⟩,
         ⟨(some 5), .mov (.tmp 20)⟩,
         ⟨(some 6), .mov (.tmp 21)⟩])
      (.seq
       (.reg [⟨(some 22), .mov (.tmp 6)⟩,
         ⟨(some 23), .bin .eql (.tmp 22) (.c (.int .i64 1))⟩])
      (.cond (.tmp 23)
       (.seq
        (.reg [⟨(some 24), .mov (.tmp 3)⟩,
          ⟨(some 2), .mov (.tmp 24)⟩])
       .ret)
       .skip))))))))
def af15b : ACode :=
  (.seq
   (.reg [⟨(some 2), .mov (.c (.int .i64 0))⟩])
  (.seq
   (.seq
    (.reg [⟨(some 7), .mov (.tmp 0)⟩,
      ⟨(some 8), .rng (.tmp 7)⟩])
   (.blk 0
    (.loop false af15l0)))
  (.seq
   (.reg [⟨(some 2), .mov (.c (.int .i64 (-1)))⟩])
  .ret)))
def af15 : AFunc := ⟨25, [.tmp 2], af15b, false⟩

/-- (*cascade/token.lexer).skip -/
def af16l0 : ACode :=
  (.seq
     (.seq
      (.regD [] [⟨(some 3), .mov (.tmp 0)⟩,
        ⟨(some 4), .nilchk (.tmp 3)⟩,
        ⟨(some 5), .fadr 1 (.tmp 4)⟩,
        ⟨(some 6), .load none (.tmp 5)⟩,
        ⟨(some 7), .mov (.tmp 0)⟩,
        ⟨(some 8), .nilchk (.tmp 7)⟩,
        ⟨(some 9), .fadr 0 (.tmp 8)⟩,
        ⟨(some 10), .load none (.tmp 9)⟩,
        ⟨(some 11), .len 0 (.tmp 10)⟩,
        ⟨(some 12), .bin .lss (.tmp 6) (.tmp 11)⟩])
     (.cond (.tmp 12)
      .skip
      (.exit 0)))
    (.blk 1
     (.seq
      (.regD [] [⟨(some 13), .mov (.tmp 0)⟩,
        ⟨(some 14), .nilchk (.tmp 13)⟩,
        ⟨(some 15), .fadr 0 (.tmp 14)⟩,
        ⟨(some 16), .load none (.tmp 15)⟩,
        ⟨(some 17), .mov (.tmp 0)⟩,
        ⟨(some 18), .nilchk (.tmp 17)⟩,
        ⟨(some 19), .fadr 1 (.tmp 18)⟩,
        ⟨(some 20), .load none (.tmp 19)⟩,
        ⟨(some 21), .idx (.tmp 16) (.tmp 20)⟩,
        ⟨(some 2), .mov (.tmp 21)⟩])
     (.blk 2
      (.seq
       (.reg [⟨(some 23), .mov (.tmp 2)⟩,
         ⟨(some 24), .call false false (.c (.fn (.func 26) [] [])) [(.c (.str [32, 9, 10, 13, 44])), (.tmp 23)]⟩,
         ⟨(some 25), .bin .geq (.tmp 24) (.c (.int .i64 0))⟩,
         ⟨(some 22), .mov (.tmp 25)⟩])
      (.cond (.tmp 22)
       (.reg [⟨(some 26), .mov (.tmp 0)⟩,
         ⟨(some 27), .nilchk (.tmp 26)⟩,
         ⟨(some 28), .fadr 1 (.tmp 27)⟩,
         ⟨(some 29), .load none (.tmp 28)⟩,
         ⟨(some 30), .bin .add (.tmp 29) (.c (.int .i64 1))⟩,
         ⟨(some 31), .nilchk (.tmp 26)⟩,
         ⟨(some 32), .fadr 1 (.tmp 31)⟩,
         ⟨none, .store 1 (.tmp 32) (.tmp 30)⟩])
       (.seq
        (.reg [⟨(some 34), .mov (.tmp 2)⟩,
          ⟨(some 35), .bin .eql (.tmp 34) (.c (.int .u8 35))⟩,
          ⟨(some 33), .mov (.tmp 35)⟩])
       (.cond (.tmp 33)
        (.reg [⟨(some 36), .mov (.tmp 0)⟩,
          ⟨(some 37), .mov (.tmp 0)⟩,
          ⟨(some 38), .mov (.tmp 0)⟩,
          ⟨(some 39), .nilchk (.tmp 38)⟩,
          ⟨(some 40), .fadr 1 (.tmp 39)⟩,
          ⟨(some 41), .load none (.tmp 40)⟩,
          ⟨(some 42), .call false false (.c (.fn (.func 27) [] [])) [(.tmp 37), (.tmp 41), (.c (.fn (.func 28) [] []))]⟩,
          ⟨(some 43), .nilchk (.tmp 36)⟩,
          ⟨(some 44), .fadr 1 (.tmp 43)⟩,
          ⟨none, .store 1 (.tmp 44) (.tmp 42)⟩])
        .ret))))))))
def af16b : ACode :=
  (.blk 0
   (.loop false af16l0))
def af16 : AFunc := ⟨45, [], af16b, false⟩

/-- (*cascade/token.lexer).next -/
def af17b : ACode :=
  (.seq
   (.regD [] [⟨(some 5), .mov (.tmp 0)⟩,
     ⟨(some 6), .nilchk (.tmp 5)⟩,
     ⟨(some 7), .fadr 0 (.tmp 6)⟩,
     ⟨(some 8), .load none (.tmp 7)⟩,
     ⟨(some 9), .mov (.tmp 0)⟩,
     ⟨(some 10), .nilchk (.tmp 9)⟩,
     ⟨(some 11), .fadr 1 (.tmp 10)⟩,
     ⟨(some 12), .load none (.tmp 11)⟩,
     ⟨(some 13), .slcS (.tmp 8) (some (.tmp 12)) none⟩,
     ⟨(some 2), .mov (.tmp 13)⟩])
  (.seq
   (.reg [⟨(some 14), .mov (.tmp 2)⟩,
     ⟨(some 15), .idx (.tmp 14) (.c (.int .i64 0))⟩,
     ⟨(some 3), .mov (.tmp 15)⟩])
  (.blk 0
   (.seq
    (.reg [⟨(some 23), .mov (.tmp 0)⟩,
      ⟨(some 24), .nilchk (.tmp 23)⟩,
      ⟨(some 25), .fadr 2 (.tmp 24)⟩,
      ⟨(some 26), .load none (.tmp 25)⟩,
      ⟨(some 27), .len 1 (.tmp 26)⟩,
      ⟨(some 28), .bin .eql (.tmp 27) (.c (.int .i64 900))⟩,
      ⟨(some 22), .mov (.tmp 28)⟩])
   (.cond (.tmp 22)
    (.reg [⟨(some 29), .mov (.tmp 0)⟩,
      ⟨(some 30), .mov (.tmp 0)⟩,
      ⟨(some 31), .nilchk (.tmp 30)⟩,
      ⟨(some 32), .fadr 1 (.tmp 31)⟩,
      ⟨(some 33), .load none (.tmp 32)⟩,
      ⟨(some 34), .call false false (.c (.fn (.func 29) [] [])) [(.tmp 29), (.tmp 33), (.c (.int .i64 6))]⟩])
    (.seq
     (.reg [⟨(some 36), .mov (.tmp 3)⟩,
       ⟨(some 37), .call false false (.c (.fn (.func 26) [] [])) [(.c (.str [33, 36, 38, 40, 41, 58, 61, 64, 91, 93, 123, 124, 125])), (.tmp 36)]⟩,
       ⟨(some 38), .bin .geq (.tmp 37) (.c (.int .i64 0))⟩,
       ⟨(some 35), .mov (.tmp 38)⟩])
    (.cond (.tmp 35)
     (.regD [] [⟨(some 39), .mov (.tmp 0)⟩,
       ⟨(some 40), .mov (.tmp 2)⟩,
       ⟨(some 41), .slcS (.tmp 40) none (some (.c (.int .i64 1)))⟩,
       ⟨(some 42), .mov (.tmp 0)⟩,
       ⟨(some 43), .nilchk (.tmp 42)⟩,
       ⟨(some 44), .fadr 1 (.tmp 43)⟩,
       ⟨(some 45), .load none (.tmp 44)⟩,
       ⟨(some 46), .bin .add (.tmp 45) (.c (.int .i64 1))⟩,
       ⟨(some 47), .call false false (.c (.fn (.func 30) [] [])) [(.tmp 39), (.c (.int .i64 1)), (.tmp 41), (.tmp 46)]⟩])
     (.seq
      (.reg [⟨(some 49), .mov (.tmp 2)⟩,
        ⟨(some 50), .call false false (.c (.fn (.func 31) [] [])) [(.tmp 49), (.c (.str [46, 46, 46]))]⟩,
        ⟨(some 48), .mov (.tmp 50)⟩])
     (.cond (.tmp 48)
      (.reg [⟨(some 51), .mov (.tmp 0)⟩,
        ⟨(some 52), .mov (.tmp 0)⟩,
        ⟨(some 53), .nilchk (.tmp 52)⟩,
        ⟨(some 54), .fadr 1 (.tmp 53)⟩,
        ⟨(some 55), .load none (.tmp 54)⟩,
        ⟨(some 56), .bin .add (.tmp 55) (.c (.int .i64 3))⟩,
        ⟨(some 57), .call false false (.c (.fn (.func 30) [] [])) [(.tmp 51), (.c (.int .i64 1)), (.c (.str [46, 46, 46])), (.tmp 56)]⟩])
      (.seq
       (.reg [⟨(some 59), .mov (.tmp 3)⟩,
         ⟨(some 60), .call false false (.c (.fn (.func 32) [] [])) [(.tmp 59)]⟩,
         ⟨(some 58), .mov (.tmp 60)⟩])
      (.cond (.tmp 58)
       (.seq
        (.reg [⟨(some 61), .mov (.tmp 0)⟩,
          ⟨(some 62), .mov (.tmp 0)⟩,
          ⟨(some 63), .nilchk (.tmp 62)⟩,
          ⟨(some 64), .fadr 1 (.tmp 63)⟩,
          ⟨(some 65), .load none (.tmp 64)⟩,
          ⟨(some 66), .call false false (.c (.fn (.func 27) [] [])) [(.tmp 61), (.tmp 65), (.c (.fn (.func 33) [] []))]⟩,
          ⟨(some 4), .mov (.tmp 66)⟩])
       (.regD [] [⟨(some 67), .mov (.tmp 0)⟩,
         ⟨(some 68), .mov (.tmp 0)⟩,
         ⟨(some 69), .nilchk (.tmp 68)⟩,
         ⟨(some 70), .fadr 0 (.tmp 69)⟩,
         ⟨(some 71), .load none (.tmp 70)⟩,
         ⟨(some 72), .mov (.tmp 0)⟩,
         ⟨(some 73), .nilchk (.tmp 72)⟩,
         ⟨(some 74), .fadr 1 (.tmp 73)⟩,
         ⟨(some 75), .load none (.tmp 74)⟩,
         ⟨(some 76), .mov (.tmp 4)⟩,
         ⟨(some 77), .slcS (.tmp 71) (some (.tmp 75)) (some (.tmp 76))⟩,
         ⟨(some 78), .mov (.tmp 4)⟩,
         ⟨(some 79), .call false false (.c (.fn (.func 30) [] [])) [(.tmp 67), (.c (.int .i64 2)), (.tmp 77), (.tmp 78)]⟩]))
       (.seq
        (.reg [⟨(some 81), .mov (.tmp 3)⟩,
          ⟨(some 82), .call false false (.c (.fn (.func 34) [] [])) [(.tmp 81)]⟩,
          ⟨(some 86), .sc 83 false (.tmp 82) [⟨(some 84), .mov (.tmp 3)⟩, ⟨(some 85), .bin .eql (.tmp 84) (.c (.int .u8 45))⟩] (.tmp 85)⟩,
          ⟨(some 80), .mov (.tmp 86)⟩])
       (.cond (.tmp 80)
        (.reg [⟨(some 87), .mov (.tmp 0)⟩,
          ⟨(some 88), .call false false (.c (.fn (.func 35) [] [])) [(.tmp 87)]⟩])
        (.seq
         (.reg [⟨(some 90), .mov (.tmp 2)⟩,
           ⟨(some 91), .call false false (.c (.fn (.func 31) [] [])) [(.tmp 90), (.c (.str [34, 34, 34]))]⟩,
           ⟨(some 89), .mov (.tmp 91)⟩])
        (.cond (.tmp 89)
         (.reg [⟨(some 92), .mov (.tmp 0)⟩,
           ⟨(some 93), .call false false (.c (.fn (.func 36) [] [])) [(.tmp 92)]⟩])
         (.seq
          (.reg [⟨(some 95), .mov (.tmp 3)⟩,
            ⟨(some 96), .bin .eql (.tmp 95) (.c (.int .u8 34))⟩,
            ⟨(some 94), .mov (.tmp 96)⟩])
         (.cond (.tmp 94)
          (.reg [⟨(some 97), .mov (.tmp 0)⟩,
            ⟨(some 98), .call false false (.c (.fn (.func 37) [] [])) [(.tmp 97)]⟩])
          (.reg [⟨(some 16), .mov (.tmp 0)⟩,
            ⟨(some 17), .mov (.tmp 0)⟩,
            ⟨(some 18), .nilchk (.tmp 17)⟩,
            ⟨(some 19), .fadr 1 (.tmp 18)⟩,
            ⟨(some 20), .load none (.tmp 19)⟩,
            ⟨(some 21), .call false false (.c (.fn (.func 29) [] [])) [(.tmp 16), (.tmp 20), (.c (.int .i64 3))]⟩]))))))))))))))))))
def af17 : AFunc := ⟨99, [], af17b, false⟩

/-- cascade/cascaderef01.Bad -/
def af18l0 : ACode :=
  (.seq
      (.seq
       (.reg [⟨(some 6), .mov (.tmp 3)⟩,
         ⟨(some 7), .mov (.tmp 0)⟩,
         ⟨(some 8), .len 0 (.tmp 7)⟩,
         ⟨(some 9), .bin .lss (.tmp 6) (.tmp 8)⟩])
      (.cond (.tmp 9)
       .skip
       (.exit 0)))
     (.blk 1
      (.seq
       (.reg [⟨(some 11), .mov (.tmp 0)⟩,
         ⟨(some 12), .mov (.tmp 3)⟩,
         ⟨(some 13), .call false false (.c (.fn (.func 38) [] [])) [(.tmp 11), (.tmp 12)]⟩,
         ⟨(some 10), .mov (.tmp 13)⟩,
         ⟨(some 14), .ext (.tmp 10) 0⟩,
         ⟨(some 15), .ext (.tmp 10) 1⟩,
         ⟨(some 4), .mov (.tmp 14)⟩,
         ⟨(some 5), .mov (.tmp 15)⟩])
      (.seq
       (.seq
        (.reg [⟨(some 16), .mov (.tmp 4)⟩,
          ⟨(some 17), .bin .eql (.tmp 16) (.c (.int .i64 0))⟩])
       (.cond (.tmp 17)
        (.seq
         (.reg [⟨(some 18), .mov (.tmp 3)⟩,
           ⟨(some 2), .mov (.tmp 18)⟩])
        .ret)
        .skip))
      (.reg [⟨(some 19), .mov (.tmp 3)⟩,
        ⟨(some 20), .mov (.tmp 4)⟩,
        ⟨(some 21), .bin .add (.tmp 19) (.tmp 20)⟩,
        ⟨(some 3), .mov (.tmp 21)⟩])))))
def af18b : ACode :=
  (.seq
   (.reg [⟨(some 2), .mov (.c (.int .i64 0))⟩])
  (.seq
   (.seq
    (.reg [⟨(some 3), .mov (.c (.int .i64 0))⟩])
   (.blk 0
    (.loop false af18l0)))
  (.seq
   (.reg [⟨(some 2), .mov (.c (.int .i64 (-1)))⟩])
  .ret)))
def af18 : AFunc := ⟨22, [.tmp 2], af18b, false⟩

/-- cascade/cascaderef08.between -/
def af19l0 : ACode :=
  (.seq
         (.seq
          (.reg [⟨(some 36), .mov (.tmp 1)⟩,
            ⟨(some 37), .mov (.tmp 0)⟩,
            ⟨(some 38), .len 0 (.tmp 37)⟩,
            ⟨(some 39), .bin .lss (.tmp 36) (.tmp 38)⟩,
            ⟨(some 45), .sc 40 true (.tmp 39) [⟨(some 41), .mov (.tmp 0)⟩, ⟨(some 42), .mov (.tmp 1)⟩, ⟨(some 43), .idx (.tmp 41) (.tmp 42)⟩, ⟨(some 44), .bin .neq (.tmp 43) (.c (.int .u8 10))⟩] (.tmp 44)⟩,
            ⟨(some 51), .sc 46 true (.tmp 45) [⟨(some 47), .mov (.tmp 0)⟩, ⟨(some 48), .mov (.tmp 1)⟩, ⟨(some 49), .idx (.tmp 47) (.tmp 48)⟩, ⟨(some 50), .bin .neq (.tmp 49) (.c (.int .u8 13))⟩] (.tmp 50)⟩])
         (.cond (.tmp 51)
          .skip
          (.exit 2)))
        (.blk 3
         (.reg [⟨(some 52), .mov (.tmp 1)⟩,
           ⟨(some 53), .bin .add (.tmp 52) (.c (.int .i64 1))⟩,
           ⟨(some 1), .mov (.tmp 53)⟩])))
def af19l1 : ACode :=
  (.seq
      (.seq
       (.reg [⟨(some 6), .mov (.tmp 1)⟩,
         ⟨(some 7), .mov (.tmp 0)⟩,
         ⟨(some 8), .len 0 (.tmp 7)⟩,
         ⟨(some 9), .bin .lss (.tmp 6) (.tmp 8)⟩])
      (.cond (.tmp 9)
       .skip
       (.exit 0)))
     (.blk 1
      (.seq
       (.reg [⟨(some 10), .mov (.tmp 0)⟩,
         ⟨(some 11), .mov (.tmp 1)⟩,
         ⟨(some 12), .idx (.tmp 10) (.tmp 11)⟩,
         ⟨(some 5), .mov (.tmp 12)⟩])
      (.seq
       (.seq
        (.reg [⟨(some 13), .mov (.tmp 5)⟩,
          ⟨(some 14), .bin .eql (.tmp 13) (.c (.int .u8 32))⟩,
          ⟨(some 18), .sc 15 false (.tmp 14) [⟨(some 16), .mov (.tmp 5)⟩, ⟨(some 17), .bin .eql (.tmp 16) (.c (.int .u8 9))⟩] (.tmp 17)⟩,
          ⟨(some 22), .sc 19 false (.tmp 18) [⟨(some 20), .mov (.tmp 5)⟩, ⟨(some 21), .bin .eql (.tmp 20) (.c (.int .u8 10))⟩] (.tmp 21)⟩,
          ⟨(some 26), .sc 23 false (.tmp 22) [⟨(some 24), .mov (.tmp 5)⟩, ⟨(some 25), .bin .eql (.tmp 24) (.c (.int .u8 13))⟩] (.tmp 25)⟩,
          ⟨(some 30), .sc 27 false (.tmp 26) [⟨(some 28), .mov (.tmp 5)⟩, ⟨(some 29), .bin .eql (.tmp 28) (.c (.int .u8 44))⟩] (.tmp 29)⟩])
       (.cond (.tmp 30)
        (.seq
         (.reg [⟨(some 31), .mov (.tmp 1)⟩,
           ⟨(some 32), .bin .add (.tmp 31) (.c (.int .i64 1))⟩,
           ⟨(some 1), .mov (.tmp 32)⟩])
        (.exit 1))
        .skip))
      (.seq
       (.seq
        (.reg [⟨(some 33), .mov (.tmp 5)⟩,
          ⟨(some 34), .bin .neq (.tmp 33) (.c (.int .u8 35))⟩])
       (.cond (.tmp 34)
        (.seq
         (.reg [⟨(some 35), .mov (.tmp 1)⟩,
           ⟨(some 4), .mov (.tmp 35)⟩])
        .ret)
        .skip))
      (.blk 2
       (.loop false af19l0)))))))
def af19b : ACode :=
  (.seq
   (.reg [⟨(some 4), .mov (.c (.int .i64 0))⟩])
  (.seq
   (.blk 0
    (.loop false af19l1))
  (.seq
   (.reg [⟨(some 54), .mov (.tmp 1)⟩,
     ⟨(some 4), .mov (.tmp 54)⟩])
  .ret)))
def af19 : AFunc := ⟨55, [.tmp 4], af19b, false⟩

/-- cascade/cascaderef08.Next -/
def af20l0 : ACode :=
  (.seq
      (.seq
       (.reg [⟨(some 15), .mov (.tmp 7)⟩,
         ⟨(some 16), .mov (.tmp 6)⟩,
         ⟨(some 17), .len 0 (.tmp 16)⟩,
         ⟨(some 18), .bin .lss (.tmp 15) (.tmp 17)⟩])
      (.cond (.tmp 18)
       .skip
       (.exit 0)))
     (.seq
      (.blk 1
       (.seq
        (.reg [⟨(some 21), .mov (.tmp 6)⟩,
          ⟨(some 22), .mov (.tmp 7)⟩,
          ⟨(some 23), .idx (.tmp 21) (.tmp 22)⟩,
          ⟨(some 24), .mov (.tmp 5)⟩,
          ⟨(some 25), .bin .eql (.tmp 23) (.tmp 24)⟩])
       (.cond (.tmp 25)
        (.seq
         (.reg [⟨(some 26), .mov (.tmp 6)⟩,
           ⟨(some 27), .mov (.tmp 7)⟩,
           ⟨(some 28), .mov (.tmp 7)⟩,
           ⟨(some 29), .bin .add (.tmp 28) (.c (.int .i64 1))⟩,
           ⟨(some 30), .slcS (.tmp 26) (some (.tmp 27)) (some (.tmp 29))⟩,
           ⟨(some 31), .mov (.tmp 1)⟩,
           ⟨(some 32), .build [(.int .i64 0), (.str []), (.int .i64 0)] [(0, 1, (.c (.int .i64 1))), (1, 1, (.tmp 30)), (2, 1, (.tmp 31))]⟩,
           ⟨(some 33), .mov (.tmp 1)⟩,
           ⟨(some 34), .bin .add (.tmp 33) (.c (.int .i64 1))⟩,
           ⟨(some 35), .build [(.int .i64 0), (.str []), (.int .i64 0), (.int .i64 0), (.int .i64 0)] [(0, 3, (.tmp 32)), (3, 1, (.tmp 34))]⟩,
           ⟨none, .store 5 (.tmp 4) (.tmp 35)⟩])
        .ret)
        .skip)))
     (.reg [⟨(some 19), .mov (.tmp 7)⟩,
       ⟨(some 20), .bin .add (.tmp 19) (.c (.int .i64 1))⟩,
       ⟨(some 7), .mov (.tmp 20)⟩])))
def af20l1 : ACode :=
  (.seq
        (.seq
         (.reg [⟨(some 47), .mov (.tmp 8)⟩,
           ⟨(some 48), .mov (.tmp 0)⟩,
           ⟨(some 49), .len 0 (.tmp 48)⟩,
           ⟨(some 50), .bin .lss (.tmp 47) (.tmp 49)⟩,
           ⟨(some 62), .sc 51 true (.tmp 50) [⟨(some 52), .mov (.tmp 0)⟩, ⟨(some 53), .mov (.tmp 8)⟩, ⟨(some 54), .idx (.tmp 52) (.tmp 53)⟩, ⟨(some 55), .call false false (.c (.fn (.func 40) [] [])) [(.tmp 54)]⟩, ⟨(some 61), .sc 56 false (.tmp 55) [⟨(some 57), .mov (.tmp 0)⟩, ⟨(some 58), .mov (.tmp 8)⟩, ⟨(some 59), .idx (.tmp 57) (.tmp 58)⟩, ⟨(some 60), .call false false (.c (.fn (.func 41) [] [])) [(.tmp 59)]⟩] (.tmp 60)⟩] (.tmp 61)⟩])
        (.cond (.tmp 62)
         .skip
         (.exit 2)))
       (.blk 3
        (.reg [⟨(some 63), .mov (.tmp 8)⟩,
          ⟨(some 64), .bin .add (.tmp 63) (.c (.int .i64 1))⟩,
          ⟨(some 8), .mov (.tmp 64)⟩])))
def af20b : ACode :=
  (.seq
   (.reg [⟨(some 4), .new 45 [(.int .i64 0), (.str []), (.int .i64 0), (.int .i64 0), (.int .i64 0)]⟩])
  (.seq
   (.reg [⟨(some 12), .mov (.tmp 0)⟩,
     ⟨(some 13), .mov (.tmp 1)⟩,
     ⟨(some 14), .idx (.tmp 12) (.tmp 13)⟩,
     ⟨(some 5), .mov (.tmp 14)⟩])
  (.seq
   (.reg [⟨(some 6), .mov (.c (.str [33, 36, 38, 40, 41, 58, 61, 64, 91, 93, 123, 124, 125]))⟩])
  (.seq
   (.seq
    (.reg [⟨(some 7), .mov (.c (.int .i64 0))⟩])
   (.blk 0
    (.loop false af20l0)))
  (.seq
   (.seq
    (.reg [⟨(some 36), .mov (.tmp 0)⟩,
      ⟨(some 37), .mov (.tmp 1)⟩,
      ⟨(some 38), .call false false (.c (.fn (.func 39) [] [])) [(.tmp 36), (.tmp 37), (.c (.str [46, 46, 46]))]⟩])
   (.cond (.tmp 38)
    (.seq
     (.reg [⟨(some 39), .mov (.tmp 1)⟩,
       ⟨(some 40), .build [(.int .i64 0), (.str []), (.int .i64 0)] [(0, 1, (.c (.int .i64 1))), (1, 1, (.c (.str [46, 46, 46]))), (2, 1, (.tmp 39))]⟩,
       ⟨(some 41), .mov (.tmp 1)⟩,
       ⟨(some 42), .bin .add (.tmp 41) (.c (.int .i64 3))⟩,
       ⟨(some 43), .build [(.int .i64 0), (.str []), (.int .i64 0), (.int .i64 0), (.int .i64 0)] [(0, 3, (.tmp 40)), (3, 1, (.tmp 42))]⟩,
       ⟨none, .store 5 (.tmp 4) (.tmp 43)⟩])
    .ret)
    .skip))
  (.seq
   (.seq
    (.reg [⟨(some 44), .mov (.tmp 5)⟩,
      ⟨(some 45), .call false false (.c (.fn (.func 40) [] [])) [(.tmp 44)]⟩])
   (.cond (.tmp 45)
    (.seq
     (.reg [⟨(some 46), .mov (.tmp 1)⟩,
       ⟨(some 8), .mov (.tmp 46)⟩])
    (.seq
     (.blk 2
      (.loop false af20l1))
    (.seq
     (.reg [⟨(some 65), .mov (.tmp 0)⟩,
       ⟨(some 66), .mov (.tmp 1)⟩,
       ⟨(some 67), .mov (.tmp 8)⟩,
       ⟨(some 68), .slcS (.tmp 65) (some (.tmp 66)) (some (.tmp 67))⟩,
       ⟨(some 69), .mov (.tmp 1)⟩,
       ⟨(some 70), .build [(.int .i64 0), (.str []), (.int .i64 0)] [(0, 1, (.c (.int .i64 2))), (1, 1, (.tmp 68)), (2, 1, (.tmp 69))]⟩,
       ⟨(some 71), .mov (.tmp 8)⟩,
       ⟨(some 72), .build [(.int .i64 0), (.str []), (.int .i64 0), (.int .i64 0), (.int .i64 0)] [(0, 3, (.tmp 70)), (3, 1, (.tmp 71))]⟩,
       ⟨none, .store 5 (.tmp 4) (.tmp 72)⟩])
    .ret)))
    .skip))
  (.seq
   (.seq
    (.reg [⟨(some 73), .mov (.tmp 5)⟩,
      ⟨(some 74), .bin .eql (.tmp 73) (.c (.int .u8 45))⟩,
      ⟨(some 78), .sc 75 false (.tmp 74) [⟨(some 76), .mov (.tmp 5)⟩, ⟨(some 77), .call false false (.c (.fn (.func 41) [] [])) [(.tmp 76)]⟩] (.tmp 77)⟩])
   (.cond (.tmp 78)
    (.seq
     (.reg [⟨(some 79), .mov (.tmp 0)⟩,
       ⟨(some 80), .mov (.tmp 1)⟩,
       ⟨(some 81), .call false false (.c (.fn (.func 42) [] [])) [(.tmp 79), (.tmp 80)]⟩,
       ⟨none, .store 5 (.tmp 4) (.tmp 81)⟩])
    .ret)
    .skip))
  (.seq
   (.seq
    (.reg [⟨(some 82), .mov (.tmp 0)⟩,
      ⟨(some 83), .mov (.tmp 1)⟩,
      ⟨(some 84), .call false false (.c (.fn (.func 39) [] [])) [(.tmp 82), (.tmp 83), (.c (.str [34, 34, 34]))]⟩])
   (.cond (.tmp 84)
    (.seq
     (.reg [⟨(some 85), .mov (.tmp 0)⟩,
       ⟨(some 86), .mov (.tmp 1)⟩,
       ⟨(some 87), .call false false (.c (.fn (.func 43) [] [])) [(.tmp 85), (.tmp 86)]⟩,
       ⟨none, .store 5 (.tmp 4) (.tmp 87)⟩])
    .ret)
    .skip))
  (.seq
   (.seq
    (.reg [⟨(some 88), .mov (.tmp 5)⟩,
      ⟨(some 89), .bin .neq (.tmp 88) (.c (.int .u8 34))⟩])
   (.cond (.tmp 89)
    (.seq
     (.reg [⟨(some 90), .mov (.tmp 1)⟩,
       ⟨(some 91), .call false false (.c (.fn (.func 44) [] [])) [(.tmp 90)]⟩,
       ⟨none, .store 5 (.tmp 4) (.tmp 91)⟩])
    .ret)
    .skip))
  (.seq
   (.reg [⟨(some 93), .mov (.tmp 0)⟩,
     ⟨(some 94), .mov (.tmp 1)⟩,
     ⟨(some 95), .slcS (.tmp 93) (some (.tmp 94)) none⟩,
     ⟨(some 96), .call false false (.c (.fn (.func 45) [] [])) [(.tmp 95)]⟩,
     ⟨(some 92), .mov (.tmp 96)⟩,
     ⟨(some 97), .ext (.tmp 92) 0⟩,
     ⟨(some 98), .ext (.tmp 92) 1⟩,
     ⟨(some 99), .ext (.tmp 92) 2⟩,
     ⟨(some 9), .mov (.tmp 97)⟩,
     ⟨(some 10), .mov (.tmp 98)⟩,
     ⟨(some 11), .mov (.tmp 99)⟩])
  (.seq
   (.seq
    (.reg [⟨(some 100), .mov (.tmp 11)⟩,
      ⟨(some 101), .bin .neq (.tmp 100) (.c (.int .i64 0))⟩])
   (.cond (.tmp 101)
    (.seq
     (.reg [⟨(some 102), .mov (.tmp 1)⟩,
       ⟨(some 103), .mov (.tmp 10)⟩,
       ⟨(some 104), .bin .add (.tmp 102) (.tmp 103)⟩,
       ⟨(some 105), .call false false (.c (.fn (.func 44) [] [])) [(.tmp 104)]⟩,
       ⟨none, .store 5 (.tmp 4) (.tmp 105)⟩])
    .ret)
    .skip))
  (.seq
   (.reg [⟨(some 106), .mov (.tmp 9)⟩,
     ⟨(some 107), .mov (.tmp 1)⟩,
     ⟨(some 108), .build [(.int .i64 0), (.str []), (.int .i64 0)] [(0, 1, (.c (.int .i64 4))), (1, 1, (.tmp 106)), (2, 1, (.tmp 107))]⟩,
     ⟨(some 109), .mov (.tmp 1)⟩,
     ⟨(some 110), .mov (.tmp 10)⟩,
     ⟨(some 111), .bin .add (.tmp 109) (.tmp 110)⟩,
     ⟨(some 112), .build [(.int .i64 0), (.str []), (.int .i64 0), (.int .i64 0), (.int .i64 0)] [(0, 3, (.tmp 108)), (3, 1, (.tmp 111))]⟩,
     ⟨none, .store 5 (.tmp 4) (.tmp 112)⟩])
  .ret))))))))))))
def af20 : AFunc := ⟨113, [.cell 4 (some 5)], af20b, false⟩

/-- cascade/token.plain -/
def af21b : ACode :=
  (.seq
   (.reg [⟨(some 1), .box 38 (.tmp 0)⟩,
     ⟨(some 2), .mov (.c (.str []))⟩])
  (.seq
   (.seq
    (.reg [⟨(some 7), .fadr 0 (.tmp 1)⟩,
      ⟨(some 8), .load none (.tmp 7)⟩,
      ⟨(some 9), .bin .eql (.tmp 8) (.c (.int .i64 4))⟩])
   (.cond (.tmp 9)
    (.seq
     (.reg [⟨(some 11), .fadr 1 (.tmp 1)⟩,
       ⟨(some 12), .load none (.tmp 11)⟩,
       ⟨(some 13), .call false false (.c (.fn (.func 46) [] [])) [(.tmp 12)]⟩,
       ⟨(some 10), .mov (.tmp 13)⟩,
       ⟨(some 14), .ext (.tmp 10) 0⟩,
       ⟨(some 15), .ext (.tmp 10) 1⟩,
       ⟨(some 3), .mov (.tmp 14)⟩,
       ⟨(some 4), .mov (.tmp 15)⟩])
    (.seq
     (.reg [⟨(some 16), .mov (.tmp 3)⟩,
       ⟨(some 2), .mov (.tmp 16)⟩])
    .ret))
    .skip))
  (.seq
   (.reg [⟨(some 18), .fadr 1 (.tmp 1)⟩,
     ⟨(some 19), .load none (.tmp 18)⟩,
     ⟨(some 20), .call false false (.c (.fn (.func 8) [] [])) [(.tmp 19)]⟩,
     ⟨(some 17), .mov (.tmp 20)⟩,
     ⟨(some 21), .ext (.tmp 17) 0⟩,
     ⟨(some 22), .ext (.tmp 17) 1⟩,
     ⟨(some 6), .new 26 [(.int .i64 0), (.int .i64 0)]⟩,
     ⟨(some 5), .mov (.tmp 21)⟩,
     ⟨none, .store 2 (.tmp 6) (.tmp 22)⟩])
  (.seq
   (.seq
    (.regD [] [⟨(some 23), .fadr 0 (.tmp 6)⟩,
      ⟨(some 24), .load none (.tmp 23)⟩,
      ⟨(some 25), .bin .neq (.tmp 24) (.c (.int .i64 0))⟩,
      ⟨(some 30), .sc 26 false (.tmp 25) [⟨(some 27), .mov (.tmp 5)⟩, ⟨(some 28), .len 1 (.tmp 27)⟩, ⟨(some 29), .bin .neq (.tmp 28) (.c (.int .i64 1))⟩] (.tmp 29)⟩,
      ⟨(some 39), .sc 31 false (.tmp 30) [⟨(some 32), .mov (.tmp 5)⟩, ⟨(some 33), .iadr 3 (.tmp 32) (.c (.int .i64 0))⟩, ⟨(some 34), .fadr 0 (.tmp 33)⟩, ⟨(some 35), .load none (.tmp 34)⟩, ⟨(some 36), .fadr 0 (.tmp 1)⟩, ⟨(some 37), .load none (.tmp 36)⟩, ⟨(some 38), .bin .neq (.tmp 35) (.tmp 37)⟩] (.tmp 38)⟩,
      ⟨(some 48), .sc 40 false (.tmp 39) [⟨(some 41), .mov (.tmp 5)⟩, ⟨(some 42), .iadr 3 (.tmp 41) (.c (.int .i64 0))⟩, ⟨(some 43), .fadr 1 (.tmp 42)⟩, ⟨(some 44), .load none (.tmp 43)⟩, ⟨(some 45), .fadr 1 (.tmp 1)⟩, ⟨(some 46), .load none (.tmp 45)⟩, ⟨(some 47), .bin .neq (.tmp 44) (.tmp 46)⟩] (.tmp 47)⟩])
   (.cond (.tmp 48)
    (.seq
     (.reg [⟨(some 2), .mov (.c (.str []))⟩])
    .ret)
    .skip))
  (.seq
   (.reg [⟨(some 49), .fadr 1 (.tmp 1)⟩,
     ⟨(some 50), .load none (.tmp 49)⟩,
     ⟨(some 2), .mov (.tmp 50)⟩])
  .ret)))))
def af21 : AFunc := ⟨51, [.tmp 2], af21b, false⟩

/-- cascade/cascaderef01.Right -/
def af23b : ACode :=
  (.seq
   (.reg [⟨(some 2), .mov (.c (.bool false))⟩])
  (.seq
   (.reg [⟨(some 3), .mov (.tmp 0)⟩,
     ⟨(some 4), .call false false (.c (.fn (.func 18) [] [])) [(.tmp 3)]⟩,
     ⟨(some 5), .bin .eql (.tmp 4) (.c (.int .i64 (-1)))⟩,
     ⟨(some 2), .mov (.tmp 5)⟩])
  .ret))
def af23 : AFunc := ⟨6, [.tmp 2], af23b, false⟩

/-- cascade/cascaderef02.Quote -/
def af24l0 : ACode :=
  (.seq
      (.seq
       (.reg [⟨(some 7), .mov (.tmp 4)⟩,
         ⟨(some 8), .mov (.tmp 0)⟩,
         ⟨(some 9), .len 0 (.tmp 8)⟩,
         ⟨(some 10), .bin .lss (.tmp 7) (.tmp 9)⟩])
      (.cond (.tmp 10)
       .skip
       (.exit 0)))
     (.seq
      (.blk 1
       (.seq
        (.reg [⟨(some 13), .mov (.tmp 0)⟩,
          ⟨(some 14), .mov (.tmp 4)⟩,
          ⟨(some 15), .idx (.tmp 13) (.tmp 14)⟩,
          ⟨(some 5), .mov (.tmp 15)⟩])
       (.seq
        (.reg [⟨(some 16), .mov (.tmp 5)⟩,
          ⟨(some 17), .call false false (.c (.fn (.func 50) [] [])) [(.tmp 16)]⟩,
          ⟨(some 6), .mov (.tmp 17)⟩])
       (.seq
        (.reg [⟨(some 18), .mov (.tmp 6)⟩,
          ⟨(some 19), .bin .neq (.tmp 18) (.c (.int .u8 0))⟩])
       (.cond (.tmp 19)
        (.reg [⟨(some 20), .mov (.tmp 3)⟩,
          ⟨(some 21), .mov (.tmp 6)⟩,
          ⟨(some 22), .bsl 1 (.int .u8 0) 2 [(0, (.c (.int .u8 92))), (1, (.tmp 21))]⟩,
          ⟨(some 23), .b2s (.tmp 22)⟩,
          ⟨(some 24), .bin .add (.tmp 20) (.tmp 23)⟩,
          ⟨(some 3), .mov (.tmp 24)⟩])
        (.seq
         (.reg [⟨(some 25), .mov (.tmp 5)⟩,
           ⟨(some 26), .bin .lss (.tmp 25) (.c (.int .u8 32))⟩])
        (.cond (.tmp 26)
         (.reg [⟨(some 27), .mov (.tmp 3)⟩,
           ⟨(some 28), .mov (.tmp 5)⟩,
           ⟨(some 29), .cvI .i64 (.tmp 28)⟩,
           ⟨(some 30), .bin .quo (.tmp 29) (.c (.int .i64 16))⟩,
           ⟨(some 31), .call false false (.c (.fn (.func 51) [] [])) [(.tmp 30)]⟩,
           ⟨(some 32), .bin .add (.c (.str [92, 117, 48, 48])) (.tmp 31)⟩,
           ⟨(some 33), .mov (.tmp 5)⟩,
           ⟨(some 34), .cvI .i64 (.tmp 33)⟩,
           ⟨(some 35), .bin .rem (.tmp 34) (.c (.int .i64 16))⟩,
           ⟨(some 36), .call false false (.c (.fn (.func 51) [] [])) [(.tmp 35)]⟩,
           ⟨(some 37), .bin .add (.tmp 32) (.tmp 36)⟩,
           ⟨(some 38), .bin .add (.tmp 27) (.tmp 37)⟩,
           ⟨(some 3), .mov (.tmp 38)⟩])
         (.reg [⟨(some 39), .mov (.tmp 3)⟩,
           ⟨(some 40), .mov (.tmp 0)⟩,
           ⟨(some 41), .mov (.tmp 4)⟩,
           ⟨(some 42), .mov (.tmp 4)⟩,
           ⟨(some 43), .bin .add (.tmp 42) (.c (.int .i64 1))⟩,
           ⟨(some 44), .slcS (.tmp 40) (some (.tmp 41)) (some (.tmp 43))⟩,
           ⟨(some 45), .bin .add (.tmp 39) (.tmp 44)⟩,
           ⟨(some 3), .mov (.tmp 45)⟩]))))))))
     (.reg [⟨(some 11), .mov (.tmp 4)⟩,
       ⟨(some 12), .bin .add (.tmp 11) (.c (.int .i64 1))⟩,
       ⟨(some 4), .mov (.tmp 12)⟩])))
def af24b : ACode :=
  (.seq
   (.reg [⟨(some 2), .mov (.c (.str []))⟩])
  (.seq
   (.reg [⟨(some 3), .mov (.c (.str [34]))⟩])
  (.seq
   (.seq
    (.reg [⟨(some 4), .mov (.c (.int .i64 0))⟩])
   (.blk 0
    (.loop false af24l0)))
  (.seq
   (.reg [⟨(some 46), .mov (.tmp 3)⟩,
     ⟨(some 47), .bin .add (.tmp 46) (.c (.str [34]))⟩,
     ⟨(some 2), .mov (.tmp 47)⟩])
  .ret))))
def af24 : AFunc := ⟨48, [.tmp 2], af24b, false⟩

/-- (*cascade/token.lexer).while -/
def af27l0 : ACode :=
  (.seq
      (.seq
       (.reg [⟨(some 7), .mov (.tmp 1)⟩,
         ⟨(some 8), .mov (.tmp 0)⟩,
         ⟨(some 9), .nilchk (.tmp 8)⟩,
         ⟨(some 10), .fadr 0 (.tmp 9)⟩,
         ⟨(some 11), .load none (.tmp 10)⟩,
         ⟨(some 12), .len 0 (.tmp 11)⟩,
         ⟨(some 13), .bin .lss (.tmp 7) (.tmp 12)⟩,
         ⟨(some 23), .sc 14 true (.tmp 13) [⟨(some 15), .mov (.tmp 2)⟩, ⟨(some 16), .mov (.tmp 0)⟩, ⟨(some 17), .nilchk (.tmp 16)⟩, ⟨(some 18), .fadr 0 (.tmp 17)⟩, ⟨(some 19), .load none (.tmp 18)⟩, ⟨(some 20), .mov (.tmp 1)⟩, ⟨(some 21), .idx (.tmp 19) (.tmp 20)⟩, ⟨(some 22), .call false false (.tmp 15) [(.tmp 21)]⟩] (.tmp 22)⟩])
      (.cond (.tmp 23)
       .skip
       (.exit 0)))
     (.blk 1
      (.reg [⟨(some 24), .mov (.tmp 1)⟩,
        ⟨(some 25), .bin .add (.tmp 24) (.c (.int .i64 1))⟩,
        ⟨(some 1), .mov (.tmp 25)⟩])))
def af27b : ACode :=
  (.seq
   (.reg [⟨(some 6), .mov (.c (.int .i64 0))⟩])
  (.seq
   (.blk 0
    (.loop false af27l0))
  (.seq
   (.reg [⟨(some 26), .mov (.tmp 1)⟩,
     ⟨(some 6), .mov (.tmp 26)⟩])
  .ret)))
def af27 : AFunc := ⟨27, [.tmp 6], af27b, false⟩

/-- (*cascade/token.lexer).skip$1 -/
def af28b : ACode :=
  (.seq
   (.reg [⟨(some 2), .mov (.c (.bool false))⟩])
  (.seq
   (.reg [⟨(some 3), .mov (.tmp 0)⟩,
     ⟨(some 4), .bin .neq (.tmp 3) (.c (.int .u8 10))⟩,
     ⟨(some 8), .sc 5 true (.tmp 4) [⟨(some 6), .mov (.tmp 0)⟩, ⟨(some 7), .bin .neq (.tmp 6) (.c (.int .u8 13))⟩] (.tmp 7)⟩,
     ⟨(some 2), .mov (.tmp 8)⟩])
  .ret))
def af28 : AFunc := ⟨9, [.tmp 2], af28b, false⟩

/-- (*cascade/token.lexer).fail -/
def af29b : ACode :=
  (.seq
   (.reg [⟨(some 6), .mov (.tmp 0)⟩,
     ⟨(some 7), .nilchk (.tmp 6)⟩,
     ⟨(some 8), .fadr 3 (.tmp 7)⟩,
     ⟨(some 9), .fadr 0 (.tmp 8)⟩,
     ⟨(some 10), .load none (.tmp 9)⟩,
     ⟨(some 11), .bin .eql (.tmp 10) (.c (.int .i64 0))⟩])
  (.cond (.tmp 11)
   (.reg [⟨(some 12), .mov (.tmp 0)⟩,
     ⟨(some 13), .mov (.tmp 2)⟩,
     ⟨(some 14), .mov (.tmp 1)⟩,
     ⟨(some 15), .build [(.int .i64 0), (.int .i64 0)] [(0, 1, (.tmp 13)), (1, 1, (.tmp 14))]⟩,
     ⟨(some 16), .nilchk (.tmp 12)⟩,
     ⟨(some 17), .fadr 3 (.tmp 16)⟩,
     ⟨none, .store 2 (.tmp 17) (.tmp 15)⟩])
   .skip))
def af29 : AFunc := ⟨18, [], af29b, false⟩

/-- (*cascade/token.lexer).take -/
def af30b : ACode :=
  (.seq
   (.regD [] [⟨(some 8), .mov (.tmp 0)⟩,
     ⟨(some 9), .mov (.tmp 0)⟩,
     ⟨(some 10), .nilchk (.tmp 9)⟩,
     ⟨(some 11), .fadr 2 (.tmp 10)⟩,
     ⟨(some 12), .load none (.tmp 11)⟩,
     ⟨(some 13), .mov (.tmp 1)⟩,
     ⟨(some 14), .mov (.tmp 2)⟩,
     ⟨(some 15), .mov (.tmp 0)⟩,
     ⟨(some 16), .nilchk (.tmp 15)⟩,
     ⟨(some 17), .fadr 1 (.tmp 16)⟩,
     ⟨(some 18), .load none (.tmp 17)⟩,
     ⟨(some 19), .build [(.int .i64 0), (.str []), (.int .i64 0)] [(0, 1, (.tmp 13)), (1, 1, (.tmp 14)), (2, 1, (.tmp 18))]⟩,
     ⟨(some 20), .bsl 3 (.agg [(.int .i64 0), (.str []), (.int .i64 0)]) 1 [(0, (.tmp 19))]⟩,
     ⟨(some 21), .app false 3 (32, 38) (.tmp 12) (.tmp 20)⟩,
     ⟨(some 22), .nilchk (.tmp 8)⟩,
     ⟨(some 23), .fadr 2 (.tmp 22)⟩,
     ⟨none, .store 1 (.tmp 23) (.tmp 21)⟩])
  (.reg [⟨(some 24), .mov (.tmp 0)⟩,
    ⟨(some 25), .mov (.tmp 3)⟩,
    ⟨(some 26), .nilchk (.tmp 24)⟩,
    ⟨(some 27), .fadr 1 (.tmp 26)⟩,
    ⟨none, .store 1 (.tmp 27) (.tmp 25)⟩]))
def af30 : AFunc := ⟨28, [], af30b, false⟩

/-- strings.HasPrefix -/
def af31b : ACode :=
  (.seq
   (.reg [⟨(some 4), .mov (.c (.bool false))⟩])
  (.seq
   (.reg [⟨(some 5), .mov (.tmp 0)⟩,
     ⟨(some 6), .mov (.tmp 1)⟩,
     ⟨(some 7), .call false false (.c (.fn (.func 54) [] [])) [(.tmp 5), (.tmp 6)]⟩,
     ⟨(some 4), .mov (.tmp 7)⟩])
  .ret))
def af31 : AFunc := ⟨8, [.tmp 4], af31b, false⟩

/-- cascade/token.letter -/
def af32b : ACode :=
  (.seq
   (.reg [⟨(some 2), .mov (.c (.bool false))⟩])
  (.seq
   (.reg [⟨(some 3), .mov (.tmp 0)⟩,
     ⟨(some 4), .bin .geq (.tmp 3) (.c (.int .u8 97))⟩,
     ⟨(some 8), .sc 5 true (.tmp 4) [⟨(some 6), .mov (.tmp 0)⟩, ⟨(some 7), .bin .leq (.tmp 6) (.c (.int .u8 122))⟩] (.tmp 7)⟩,
     ⟨(some 16), .sc 9 false (.tmp 8) [⟨(some 10), .mov (.tmp 0)⟩, ⟨(some 11), .bin .geq (.tmp 10) (.c (.int .u8 65))⟩, ⟨(some 15), .sc 12 true (.tmp 11) [⟨(some 13), .mov (.tmp 0)⟩, ⟨(some 14), .bin .leq (.tmp 13) (.c (.int .u8 90))⟩] (.tmp 14)⟩] (.tmp 15)⟩,
     ⟨(some 20), .sc 17 false (.tmp 16) [⟨(some 18), .mov (.tmp 0)⟩, ⟨(some 19), .bin .eql (.tmp 18) (.c (.int .u8 95))⟩] (.tmp 19)⟩,
     ⟨(some 2), .mov (.tmp 20)⟩])
  .ret))
def af32 : AFunc := ⟨21, [.tmp 2], af32b, false⟩

/-- (*cascade/token.lexer).next$1 -/
def af33b : ACode :=
  (.seq
   (.reg [⟨(some 2), .mov (.c (.bool false))⟩])
  (.seq
   (.reg [⟨(some 3), .mov (.tmp 0)⟩,
     ⟨(some 4), .call false false (.c (.fn (.func 32) [] [])) [(.tmp 3)]⟩,
     ⟨(some 8), .sc 5 false (.tmp 4) [⟨(some 6), .mov (.tmp 0)⟩, ⟨(some 7), .call false false (.c (.fn (.func 34) [] [])) [(.tmp 6)]⟩] (.tmp 7)⟩,
     ⟨(some 2), .mov (.tmp 8)⟩])
  .ret))
def af33 : AFunc := ⟨9, [.tmp 2], af33b, false⟩

/-- cascade/token.digit -/
def af34b : ACode :=
  (.seq
   (.reg [⟨(some 2), .mov (.c (.bool false))⟩])
  (.seq
   (.reg [⟨(some 3), .mov (.tmp 0)⟩,
     ⟨(some 4), .bin .geq (.tmp 3) (.c (.int .u8 48))⟩,
     ⟨(some 8), .sc 5 true (.tmp 4) [⟨(some 6), .mov (.tmp 0)⟩, ⟨(some 7), .bin .leq (.tmp 6) (.c (.int .u8 57))⟩] (.tmp 7)⟩,
     ⟨(some 2), .mov (.tmp 8)⟩])
  .ret))
def af34 : AFunc := ⟨9, [.tmp 2], af34b, false⟩

/-- (*cascade/token.lexer).number -/
def af35b : ACode :=
  (.seq
   (.reg [⟨(some 7), .mov (.tmp 0)⟩,
     ⟨(some 8), .nilchk (.tmp 7)⟩,
     ⟨(some 9), .fadr 1 (.tmp 8)⟩,
     ⟨(some 10), .load none (.tmp 9)⟩,
     ⟨(some 2), .mov (.tmp 10)⟩])
  (.seq
   (.seq
    (.reg [⟨(some 11), .mov (.tmp 0)⟩,
      ⟨(some 12), .nilchk (.tmp 11)⟩,
      ⟨(some 13), .fadr 0 (.tmp 12)⟩,
      ⟨(some 14), .load none (.tmp 13)⟩,
      ⟨(some 15), .mov (.tmp 2)⟩,
      ⟨(some 16), .idx (.tmp 14) (.tmp 15)⟩,
      ⟨(some 17), .bin .eql (.tmp 16) (.c (.int .u8 45))⟩])
   (.cond (.tmp 17)
    (.reg [⟨(some 18), .mov (.tmp 2)⟩,
      ⟨(some 19), .bin .add (.tmp 18) (.c (.int .i64 1))⟩,
      ⟨(some 2), .mov (.tmp 19)⟩])
    .skip))
  (.seq
   (.reg [⟨(some 20), .mov (.tmp 0)⟩,
     ⟨(some 21), .mov (.tmp 2)⟩,
     ⟨(some 22), .call false false (.c (.fn (.func 27) [] [])) [(.tmp 20), (.tmp 21), (.c (.fn (.func 34) [] []))]⟩,
     ⟨(some 3), .mov (.tmp 22)⟩])
  (.seq
   (.seq
    (.reg [⟨(some 23), .mov (.tmp 2)⟩,
      ⟨(some 24), .mov (.tmp 0)⟩,
      ⟨(some 25), .nilchk (.tmp 24)⟩,
      ⟨(some 26), .fadr 0 (.tmp 25)⟩,
      ⟨(some 27), .load none (.tmp 26)⟩,
      ⟨(some 28), .len 0 (.tmp 27)⟩,
      ⟨(some 29), .bin .lss (.tmp 23) (.tmp 28)⟩,
      ⟨(some 38), .sc 30 true (.tmp 29) [⟨(some 31), .mov (.tmp 0)⟩, ⟨(some 32), .nilchk (.tmp 31)⟩, ⟨(some 33), .fadr 0 (.tmp 32)⟩, ⟨(some 34), .load none (.tmp 33)⟩, ⟨(some 35), .mov (.tmp 2)⟩, ⟨(some 36), .idx (.tmp 34) (.tmp 35)⟩, ⟨(some 37), .bin .eql (.tmp 36) (.c (.int .u8 48))⟩] (.tmp 37)⟩])
   (.cond (.tmp 38)
    (.reg [⟨(some 39), .mov (.tmp 2)⟩,
      ⟨(some 40), .bin .add (.tmp 39) (.c (.int .i64 1))⟩,
      ⟨(some 3), .mov (.tmp 40)⟩])
    .skip))
  (.seq
   (.regD [] [⟨(some 41), .mov (.tmp 0)⟩,
     ⟨(some 42), .nilchk (.tmp 41)⟩,
     ⟨(some 43), .fadr 0 (.tmp 42)⟩,
     ⟨(some 44), .load none (.tmp 43)⟩,
     ⟨(some 45), .mov (.tmp 0)⟩,
     ⟨(some 46), .nilchk (.tmp 45)⟩,
     ⟨(some 47), .fadr 1 (.tmp 46)⟩,
     ⟨(some 48), .load none (.tmp 47)⟩,
     ⟨(some 49), .mov (.tmp 3)⟩,
     ⟨(some 50), .slcS (.tmp 44) (some (.tmp 48)) (some (.tmp 49))⟩,
     ⟨(some 4), .mov (.tmp 50)⟩])
  (.seq
   (.reg [⟨(some 52), .mov (.tmp 4)⟩,
     ⟨(some 53), .call false false (.c (.fn (.func 55) [] [])) [(.tmp 52), (.c (.int .i64 10)), (.c (.int .i64 64))]⟩,
     ⟨(some 51), .mov (.tmp 53)⟩,
     ⟨(some 54), .ext (.tmp 51) 0⟩,
     ⟨(some 55), .ext (.tmp 51) 1⟩,
     ⟨(some 5), .mov (.tmp 54)⟩,
     ⟨(some 6), .mov (.tmp 55)⟩])
  (.seq
   (.blk 0
    (.seq
     (.seq
      (.reg [⟨(some 57), .mov (.tmp 3)⟩,
        ⟨(some 58), .mov (.tmp 2)⟩,
        ⟨(some 59), .bin .eql (.tmp 57) (.tmp 58)⟩,
        ⟨(some 56), .mov (.tmp 59)⟩])
     (.cond (.tmp 56)
      .skip
      (.seq
       (.reg [⟨(some 60), .mov (.tmp 4)⟩,
         ⟨(some 61), .bin .eql (.tmp 60) (.c (.str [45, 48]))⟩,
         ⟨(some 56), .mov (.tmp 61)⟩])
      (.cond (.tmp 56)
       .skip
       (.seq
        (.reg [⟨(some 62), .mov (.tmp 4)⟩,
          ⟨(some 63), .len 0 (.tmp 62)⟩,
          ⟨(some 64), .bin .gtr (.tmp 63) (.c (.int .i64 17))⟩,
          ⟨(some 56), .mov (.tmp 64)⟩])
       (.cond (.tmp 56)
        .skip
        (.seq
         (.reg [⟨(some 65), .mov (.tmp 6)⟩,
           ⟨(some 66), .eqn false true (.tmp 65)⟩,
           ⟨(some 56), .mov (.tmp 66)⟩])
        (.cond (.tmp 56)
         .skip
         (.seq
          (.reg [⟨(some 67), .mov (.tmp 5)⟩,
            ⟨(some 68), .bin .lss (.tmp 67) (.c (.int .i64 (-9007199254740991)))⟩,
            ⟨(some 56), .mov (.tmp 68)⟩])
         (.cond (.tmp 56)
          .skip
          (.reg [⟨(some 69), .mov (.tmp 5)⟩,
            ⟨(some 70), .bin .gtr (.tmp 69) (.c (.int .i64 9007199254740991))⟩,
            ⟨(some 56), .mov (.tmp 70)⟩])))))))))))
    (.cond (.tmp 56)
     (.reg [⟨(some 71), .mov (.tmp 0)⟩,
       ⟨(some 72), .mov (.tmp 0)⟩,
       ⟨(some 73), .nilchk (.tmp 72)⟩,
       ⟨(some 74), .fadr 1 (.tmp 73)⟩,
       ⟨(some 75), .load none (.tmp 74)⟩,
       ⟨(some 76), .call false false (.c (.fn (.func 29) [] [])) [(.tmp 71), (.tmp 75), (.c (.int .i64 3))]⟩])
     (.seq
      (.reg [⟨(some 78), .mov (.tmp 3)⟩,
        ⟨(some 79), .mov (.tmp 0)⟩,
        ⟨(some 80), .nilchk (.tmp 79)⟩,
        ⟨(some 81), .fadr 0 (.tmp 80)⟩,
        ⟨(some 82), .load none (.tmp 81)⟩,
        ⟨(some 83), .len 0 (.tmp 82)⟩,
        ⟨(some 84), .bin .lss (.tmp 78) (.tmp 83)⟩,
        ⟨(some 111), .sc 85 true (.tmp 84) [⟨(some 86), .mov (.tmp 0)⟩, ⟨(some 87), .nilchk (.tmp 86)⟩, ⟨(some 88), .fadr 0 (.tmp 87)⟩, ⟨(some 89), .load none (.tmp 88)⟩, ⟨(some 90), .mov (.tmp 3)⟩, ⟨(some 91), .idx (.tmp 89) (.tmp 90)⟩, ⟨(some 92), .call false false (.c (.fn (.func 32) [] [])) [(.tmp 91)]⟩, ⟨(some 101), .sc 93 false (.tmp 92) [⟨(some 94), .mov (.tmp 0)⟩, ⟨(some 95), .nilchk (.tmp 94)⟩, ⟨(some 96), .fadr 0 (.tmp 95)⟩, ⟨(some 97), .load none (.tmp 96)⟩, ⟨(some 98), .mov (.tmp 3)⟩, ⟨(some 99), .idx (.tmp 97) (.tmp 98)⟩, ⟨(some 100), .call false false (.c (.fn (.func 34) [] [])) [(.tmp 99)]⟩] (.tmp 100)⟩, ⟨(some 110), .sc 102 false (.tmp 101) [⟨(some 103), .mov (.tmp 0)⟩, ⟨(some 104), .nilchk (.tmp 103)⟩, ⟨(some 105), .fadr 0 (.tmp 104)⟩, ⟨(some 106), .load none (.tmp 105)⟩, ⟨(some 107), .mov (.tmp 3)⟩, ⟨(some 108), .idx (.tmp 106) (.tmp 107)⟩, ⟨(some 109), .bin .eql (.tmp 108) (.c (.int .u8 46))⟩] (.tmp 109)⟩] (.tmp 110)⟩,
        ⟨(some 77), .mov (.tmp 111)⟩])
     (.cond (.tmp 77)
      (.reg [⟨(some 112), .mov (.tmp 0)⟩,
        ⟨(some 113), .mov (.tmp 3)⟩,
        ⟨(some 114), .call false false (.c (.fn (.func 29) [] [])) [(.tmp 112), (.tmp 113), (.c (.int .i64 3))]⟩])
      .skip)))))
  (.reg [⟨(some 115), .mov (.tmp 0)⟩,
    ⟨(some 116), .mov (.tmp 4)⟩,
    ⟨(some 117), .mov (.tmp 3)⟩,
    ⟨(some 118), .call false false (.c (.fn (.func 30) [] [])) [(.tmp 115), (.c (.int .i64 3)), (.tmp 116), (.tmp 117)]⟩]))))))))
def af35 : AFunc := ⟨119, [], af35b, false⟩

/-- (*cascade/token.lexer).raw -/
def af36b : ACode :=
  (.seq
   (.reg [⟨(some 5), .mov (.tmp 0)⟩,
     ⟨(some 6), .nilchk (.tmp 5)⟩,
     ⟨(some 7), .fadr 1 (.tmp 6)⟩,
     ⟨(some 8), .load none (.tmp 7)⟩,
     ⟨(some 9), .bin .add (.tmp 8) (.c (.int .i64 3))⟩,
     ⟨(some 2), .mov (.tmp 9)⟩])
  (.seq
   (.reg [⟨(some 10), .mov (.tmp 0)⟩,
     ⟨(some 11), .mov (.tmp 2)⟩,
     ⟨(some 12), .call false false (.c (.fn (.func 56) [] [])) [(.tmp 10), (.tmp 11)]⟩,
     ⟨(some 3), .mov (.tmp 12)⟩])
  (.seq
   (.seq
    (.reg [⟨(some 13), .mov (.tmp 3)⟩,
      ⟨(some 14), .bin .lss (.tmp 13) (.c (.int .i64 0))⟩])
   (.cond (.tmp 14)
    (.seq
     (.reg [⟨(some 15), .mov (.tmp 0)⟩,
       ⟨(some 16), .mov (.tmp 0)⟩,
       ⟨(some 17), .nilchk (.tmp 16)⟩,
       ⟨(some 18), .fadr 1 (.tmp 17)⟩,
       ⟨(some 19), .load none (.tmp 18)⟩,
       ⟨(some 20), .call false false (.c (.fn (.func 29) [] [])) [(.tmp 15), (.tmp 19), (.c (.int .i64 3))]⟩])
    .ret)
    .skip))
  (.seq
   (.reg [⟨(some 21), .mov (.tmp 0)⟩,
     ⟨(some 22), .nilchk (.tmp 21)⟩,
     ⟨(some 23), .fadr 0 (.tmp 22)⟩,
     ⟨(some 24), .load none (.tmp 23)⟩,
     ⟨(some 25), .mov (.tmp 2)⟩,
     ⟨(some 26), .mov (.tmp 3)⟩,
     ⟨(some 27), .slcS (.tmp 24) (some (.tmp 25)) (some (.tmp 26))⟩,
     ⟨(some 4), .mov (.tmp 27)⟩])
  (.seq
   (.seq
    (.reg [⟨(some 28), .mov (.tmp 4)⟩,
      ⟨(some 29), .call false false (.c (.fn (.func 57) [] [])) [(.tmp 28), (.c (.fn (.func 58) [] []))]⟩])
   (.cond (.tmp 29)
    (.reg [⟨(some 30), .mov (.tmp 0)⟩,
      ⟨(some 31), .mov (.tmp 0)⟩,
      ⟨(some 32), .nilchk (.tmp 31)⟩,
      ⟨(some 33), .fadr 1 (.tmp 32)⟩,
      ⟨(some 34), .load none (.tmp 33)⟩,
      ⟨(some 35), .call false false (.c (.fn (.func 29) [] [])) [(.tmp 30), (.tmp 34), (.c (.int .i64 3))]⟩])
    .skip))
  (.reg [⟨(some 36), .mov (.tmp 0)⟩,
    ⟨(some 37), .mov (.tmp 4)⟩,
    ⟨(some 38), .call false false (.c (.fn (.func 59) [] [])) [(.tmp 37)]⟩,
    ⟨(some 39), .mov (.tmp 3)⟩,
    ⟨(some 40), .bin .add (.tmp 39) (.c (.int .i64 3))⟩,
    ⟨(some 41), .call false false (.c (.fn (.func 30) [] [])) [(.tmp 36), (.c (.int .i64 4)), (.tmp 38), (.tmp 40)]⟩]))))))
def af36 : AFunc := ⟨42, [], af36b, false⟩

/-- (*cascade/token.lexer).quoted -/
def af37b : ACode :=
  (.seq
   (.regD [] [⟨(some 6), .mov (.tmp 0)⟩,
     ⟨(some 7), .nilchk (.tmp 6)⟩,
     ⟨(some 8), .fadr 0 (.tmp 7)⟩,
     ⟨(some 9), .load none (.tmp 8)⟩,
     ⟨(some 10), .mov (.tmp 0)⟩,
     ⟨(some 11), .nilchk (.tmp 10)⟩,
     ⟨(some 12), .fadr 1 (.tmp 11)⟩,
     ⟨(some 13), .load none (.tmp 12)⟩,
     ⟨(some 14), .slcS (.tmp 9) (some (.tmp 13)) none⟩,
     ⟨(some 15), .call false false (.c (.fn (.func 60) [] [])) [(.tmp 14)]⟩,
     ⟨(some 5), .mov (.tmp 15)⟩,
     ⟨(some 16), .ext (.tmp 5) 0⟩,
     ⟨(some 17), .ext (.tmp 5) 1⟩,
     ⟨(some 18), .ext (.tmp 5) 2⟩,
     ⟨(some 2), .mov (.tmp 16)⟩,
     ⟨(some 3), .mov (.tmp 17)⟩,
     ⟨(some 4), .mov (.tmp 18)⟩])
  (.seq
   (.seq
    (.reg [⟨(some 19), .mov (.tmp 4)⟩,
      ⟨(some 20), .bin .neq (.tmp 19) (.c (.int .i64 0))⟩])
   (.cond (.tmp 20)
    (.reg [⟨(some 21), .mov (.tmp 0)⟩,
      ⟨(some 22), .mov (.tmp 0)⟩,
      ⟨(some 23), .nilchk (.tmp 22)⟩,
      ⟨(some 24), .fadr 1 (.tmp 23)⟩,
      ⟨(some 25), .load none (.tmp 24)⟩,
      ⟨(some 26), .mov (.tmp 3)⟩,
      ⟨(some 27), .bin .add (.tmp 25) (.tmp 26)⟩,
      ⟨(some 28), .call false false (.c (.fn (.func 29) [] [])) [(.tmp 21), (.tmp 27), (.c (.int .i64 3))]⟩])
    .skip))
  (.reg [⟨(some 29), .mov (.tmp 0)⟩,
    ⟨(some 30), .mov (.tmp 2)⟩,
    ⟨(some 31), .mov (.tmp 0)⟩,
    ⟨(some 32), .nilchk (.tmp 31)⟩,
    ⟨(some 33), .fadr 1 (.tmp 32)⟩,
    ⟨(some 34), .load none (.tmp 33)⟩,
    ⟨(some 35), .mov (.tmp 3)⟩,
    ⟨(some 36), .bin .add (.tmp 34) (.tmp 35)⟩,
    ⟨(some 37), .call false false (.c (.fn (.func 30) [] [])) [(.tmp 29), (.c (.int .i64 4)), (.tmp 30), (.tmp 36)]⟩])))
def af37 : AFunc := ⟨38, [], af37b, false⟩

/-- cascade/cascaderef01.Size -/
def af38l0 : ACode :=
  (.seq
      (.seq
       (.reg [⟨(some 55), .mov (.tmp 10)⟩,
         ⟨(some 56), .mov (.tmp 7)⟩,
         ⟨(some 57), .bin .lss (.tmp 55) (.tmp 56)⟩])
      (.cond (.tmp 57)
       .skip
       (.exit 0)))
     (.seq
      (.blk 1
       (.seq
        (.reg [⟨(some 60), .mov (.tmp 0)⟩,
          ⟨(some 61), .mov (.tmp 1)⟩,
          ⟨(some 62), .mov (.tmp 10)⟩,
          ⟨(some 63), .bin .add (.tmp 61) (.tmp 62)⟩,
          ⟨(some 64), .idx (.tmp 60) (.tmp 63)⟩,
          ⟨(some 65), .cvI .i64 (.tmp 64)⟩,
          ⟨(some 11), .mov (.tmp 65)⟩])
       (.seq
        (.seq
         (.reg [⟨(some 66), .mov (.tmp 11)⟩,
           ⟨(some 67), .bin .lss (.tmp 66) (.c (.int .i64 128))⟩,
           ⟨(some 71), .sc 68 false (.tmp 67) [⟨(some 69), .mov (.tmp 11)⟩, ⟨(some 70), .bin .geq (.tmp 69) (.c (.int .i64 192))⟩] (.tmp 70)⟩])
        (.cond (.tmp 71)
         (.seq
          (.reg [⟨(some 4), .mov (.c (.int .i64 0))⟩,
            ⟨(some 5), .mov (.c (.int .i32 0))⟩])
         .ret)
         .skip))
       (.reg [⟨(some 72), .mov (.tmp 8)⟩,
         ⟨(some 73), .bin .mul (.tmp 72) (.c (.int .i64 64))⟩,
         ⟨(some 74), .mov (.tmp 11)⟩,
         ⟨(some 75), .bin .add (.tmp 73) (.tmp 74)⟩,
         ⟨(some 76), .bin .sub (.tmp 75) (.c (.int .i64 128))⟩,
         ⟨(some 8), .mov (.tmp 76)⟩]))))
     (.reg [⟨(some 58), .mov (.tmp 10)⟩,
       ⟨(some 59), .bin .add (.tmp 58) (.c (.int .i64 1))⟩,
       ⟨(some 10), .mov (.tmp 59)⟩])))
def af38b : ACode :=
  (.seq
   (.reg [⟨(some 4), .mov (.c (.int .i64 0))⟩,
     ⟨(some 5), .mov (.c (.int .i32 0))⟩])
  (.seq
   (.reg [⟨(some 12), .mov (.tmp 0)⟩,
     ⟨(some 13), .mov (.tmp 1)⟩,
     ⟨(some 14), .idx (.tmp 12) (.tmp 13)⟩,
     ⟨(some 15), .cvI .i64 (.tmp 14)⟩,
     ⟨(some 6), .mov (.tmp 15)⟩])
  (.seq
   (.reg [⟨(some 7), .mov (.c (.int .i64 0))⟩,
     ⟨(some 8), .mov (.c (.int .i64 0))⟩,
     ⟨(some 9), .mov (.c (.int .i64 0))⟩])
  (.seq
   (.seq
    (.reg [⟨(some 16), .mov (.tmp 6)⟩,
      ⟨(some 17), .bin .lss (.tmp 16) (.c (.int .i64 128))⟩])
   (.cond (.tmp 17)
    (.seq
     (.reg [⟨(some 18), .mov (.tmp 6)⟩,
       ⟨(some 19), .cvI .i32 (.tmp 18)⟩,
       ⟨(some 4), .mov (.c (.int .i64 1))⟩,
       ⟨(some 5), .mov (.tmp 19)⟩])
    .ret)
    .skip))
  (.seq
   (.seq
    (.reg [⟨(some 20), .mov (.tmp 6)⟩,
      ⟨(some 21), .bin .geq (.tmp 20) (.c (.int .i64 194))⟩,
      ⟨(some 25), .sc 22 true (.tmp 21) [⟨(some 23), .mov (.tmp 6)⟩, ⟨(some 24), .bin .lss (.tmp 23) (.c (.int .i64 224))⟩] (.tmp 24)⟩])
   (.cond (.tmp 25)
    (.seq
     (.reg [⟨(some 7), .mov (.c (.int .i64 2))⟩])
    (.seq
     (.reg [⟨(some 26), .mov (.tmp 6)⟩,
       ⟨(some 27), .bin .sub (.tmp 26) (.c (.int .i64 192))⟩,
       ⟨(some 8), .mov (.tmp 27)⟩])
    (.reg [⟨(some 9), .mov (.c (.int .i64 128))⟩])))
    .skip))
  (.seq
   (.seq
    (.reg [⟨(some 28), .mov (.tmp 6)⟩,
      ⟨(some 29), .bin .geq (.tmp 28) (.c (.int .i64 224))⟩,
      ⟨(some 33), .sc 30 true (.tmp 29) [⟨(some 31), .mov (.tmp 6)⟩, ⟨(some 32), .bin .lss (.tmp 31) (.c (.int .i64 240))⟩] (.tmp 32)⟩])
   (.cond (.tmp 33)
    (.seq
     (.reg [⟨(some 7), .mov (.c (.int .i64 3))⟩])
    (.seq
     (.reg [⟨(some 34), .mov (.tmp 6)⟩,
       ⟨(some 35), .bin .sub (.tmp 34) (.c (.int .i64 224))⟩,
       ⟨(some 8), .mov (.tmp 35)⟩])
    (.reg [⟨(some 9), .mov (.c (.int .i64 2048))⟩])))
    .skip))
  (.seq
   (.seq
    (.reg [⟨(some 36), .mov (.tmp 6)⟩,
      ⟨(some 37), .bin .geq (.tmp 36) (.c (.int .i64 240))⟩,
      ⟨(some 41), .sc 38 true (.tmp 37) [⟨(some 39), .mov (.tmp 6)⟩, ⟨(some 40), .bin .lss (.tmp 39) (.c (.int .i64 245))⟩] (.tmp 40)⟩])
   (.cond (.tmp 41)
    (.seq
     (.reg [⟨(some 7), .mov (.c (.int .i64 4))⟩])
    (.seq
     (.reg [⟨(some 42), .mov (.tmp 6)⟩,
       ⟨(some 43), .bin .sub (.tmp 42) (.c (.int .i64 240))⟩,
       ⟨(some 8), .mov (.tmp 43)⟩])
    (.reg [⟨(some 9), .mov (.c (.int .i64 65536))⟩])))
    .skip))
  (.seq
   (.seq
    (.reg [⟨(some 44), .mov (.tmp 7)⟩,
      ⟨(some 45), .bin .eql (.tmp 44) (.c (.int .i64 0))⟩,
      ⟨(some 54), .sc 46 false (.tmp 45) [⟨(some 47), .mov (.tmp 1)⟩, ⟨(some 48), .mov (.tmp 0)⟩, ⟨(some 49), .len 0 (.tmp 48)⟩, ⟨(some 50), .mov (.tmp 7)⟩, ⟨(some 51), .bin .sub (.tmp 49) (.tmp 50)⟩, ⟨(some 52), .bin .add (.tmp 51) (.c (.int .i64 1))⟩, ⟨(some 53), .bin .geq (.tmp 47) (.tmp 52)⟩] (.tmp 53)⟩])
   (.cond (.tmp 54)
    (.seq
     (.reg [⟨(some 4), .mov (.c (.int .i64 0))⟩,
       ⟨(some 5), .mov (.c (.int .i32 0))⟩])
    .ret)
    .skip))
  (.seq
   (.seq
    (.reg [⟨(some 10), .mov (.c (.int .i64 1))⟩])
   (.blk 0
    (.loop false af38l0)))
  (.seq
   (.seq
    (.reg [⟨(some 77), .mov (.tmp 8)⟩,
      ⟨(some 78), .mov (.tmp 9)⟩,
      ⟨(some 79), .bin .lss (.tmp 77) (.tmp 78)⟩,
      ⟨(some 83), .sc 80 false (.tmp 79) [⟨(some 81), .mov (.tmp 8)⟩, ⟨(some 82), .bin .gtr (.tmp 81) (.c (.int .i64 1114111))⟩] (.tmp 82)⟩,
      ⟨(some 91), .sc 84 false (.tmp 83) [⟨(some 85), .mov (.tmp 8)⟩, ⟨(some 86), .bin .geq (.tmp 85) (.c (.int .i64 55296))⟩, ⟨(some 90), .sc 87 true (.tmp 86) [⟨(some 88), .mov (.tmp 8)⟩, ⟨(some 89), .bin .lss (.tmp 88) (.c (.int .i64 57344))⟩] (.tmp 89)⟩] (.tmp 90)⟩])
   (.cond (.tmp 91)
    (.seq
     (.reg [⟨(some 4), .mov (.c (.int .i64 0))⟩,
       ⟨(some 5), .mov (.c (.int .i32 0))⟩])
    .ret)
    .skip))
  (.seq
   (.reg [⟨(some 92), .mov (.tmp 7)⟩,
     ⟨(some 93), .mov (.tmp 8)⟩,
     ⟨(some 94), .cvI .i32 (.tmp 93)⟩,
     ⟨(some 4), .mov (.tmp 92)⟩,
     ⟨(some 5), .mov (.tmp 94)⟩])
  .ret)))))))))))
def af38 : AFunc := ⟨95, [.tmp 4, .tmp 5], af38b, false⟩

/-- cascade/cascaderef08.begins -/
def af39b : ACode :=
  (.seq
   (.reg [⟨(some 6), .mov (.c (.bool false))⟩])
  (.seq
   (.reg [⟨(some 7), .mov (.tmp 0)⟩,
     ⟨(some 8), .len 0 (.tmp 7)⟩,
     ⟨(some 9), .mov (.tmp 1)⟩,
     ⟨(some 10), .bin .sub (.tmp 8) (.tmp 9)⟩,
     ⟨(some 11), .mov (.tmp 2)⟩,
     ⟨(some 12), .len 0 (.tmp 11)⟩,
     ⟨(some 13), .bin .geq (.tmp 10) (.tmp 12)⟩,
     ⟨(some 24), .sc 14 true (.tmp 13) [⟨(some 15), .mov (.tmp 0)⟩, ⟨(some 16), .mov (.tmp 1)⟩, ⟨(some 17), .mov (.tmp 1)⟩, ⟨(some 18), .mov (.tmp 2)⟩, ⟨(some 19), .len 0 (.tmp 18)⟩, ⟨(some 20), .bin .add (.tmp 17) (.tmp 19)⟩, ⟨(some 21), .slcS (.tmp 15) (some (.tmp 16)) (some (.tmp 20))⟩, ⟨(some 22), .mov (.tmp 2)⟩, ⟨(some 23), .bin .eql (.tmp 21) (.tmp 22)⟩] (.tmp 23)⟩,
     ⟨(some 6), .mov (.tmp 24)⟩])
  .ret))
def af39 : AFunc := ⟨25, [.tmp 6], af39b, false⟩

/-- cascade/cascaderef01.Letter -/
def af40b : ACode :=
  (.seq
   (.reg [⟨(some 2), .mov (.c (.bool false))⟩])
  (.seq
   (.reg [⟨(some 3), .mov (.tmp 0)⟩,
     ⟨(some 4), .bin .geq (.tmp 3) (.c (.int .u8 97))⟩,
     ⟨(some 8), .sc 5 true (.tmp 4) [⟨(some 6), .mov (.tmp 0)⟩, ⟨(some 7), .bin .leq (.tmp 6) (.c (.int .u8 122))⟩] (.tmp 7)⟩,
     ⟨(some 16), .sc 9 false (.tmp 8) [⟨(some 10), .mov (.tmp 0)⟩, ⟨(some 11), .bin .geq (.tmp 10) (.c (.int .u8 65))⟩, ⟨(some 15), .sc 12 true (.tmp 11) [⟨(some 13), .mov (.tmp 0)⟩, ⟨(some 14), .bin .leq (.tmp 13) (.c (.int .u8 90))⟩] (.tmp 14)⟩] (.tmp 15)⟩,
     ⟨(some 20), .sc 17 false (.tmp 16) [⟨(some 18), .mov (.tmp 0)⟩, ⟨(some 19), .bin .eql (.tmp 18) (.c (.int .u8 95))⟩] (.tmp 19)⟩,
     ⟨(some 2), .mov (.tmp 20)⟩])
  .ret))
def af40 : AFunc := ⟨21, [.tmp 2], af40b, false⟩

/-- cascade/cascaderef01.Digit -/
def af41b : ACode :=
  (.seq
   (.reg [⟨(some 2), .mov (.c (.bool false))⟩])
  (.seq
   (.reg [⟨(some 3), .mov (.tmp 0)⟩,
     ⟨(some 4), .bin .geq (.tmp 3) (.c (.int .u8 48))⟩,
     ⟨(some 8), .sc 5 true (.tmp 4) [⟨(some 6), .mov (.tmp 0)⟩, ⟨(some 7), .bin .leq (.tmp 6) (.c (.int .u8 57))⟩] (.tmp 7)⟩,
     ⟨(some 2), .mov (.tmp 8)⟩])
  .ret))
def af41 : AFunc := ⟨9, [.tmp 2], af41b, false⟩

/-- cascade/cascaderef08.number -/
def af42l0 : ACode :=
  (.seq
      (.seq
       (.reg [⟨(some 17), .mov (.tmp 6)⟩,
         ⟨(some 18), .mov (.tmp 0)⟩,
         ⟨(some 19), .len 0 (.tmp 18)⟩,
         ⟨(some 20), .bin .lss (.tmp 17) (.tmp 19)⟩,
         ⟨(some 26), .sc 21 true (.tmp 20) [⟨(some 22), .mov (.tmp 0)⟩, ⟨(some 23), .mov (.tmp 6)⟩, ⟨(some 24), .idx (.tmp 22) (.tmp 23)⟩, ⟨(some 25), .call false false (.c (.fn (.func 41) [] [])) [(.tmp 24)]⟩] (.tmp 25)⟩,
         ⟨(some 39), .sc 27 true (.tmp 26) [⟨(some 28), .mov (.tmp 6)⟩, ⟨(some 29), .mov (.tmp 5)⟩, ⟨(some 30), .bin .add (.tmp 29) (.c (.int .i64 1))⟩, ⟨(some 31), .bin .eql (.tmp 28) (.tmp 30)⟩, ⟨(some 37), .sc 32 true (.tmp 31) [⟨(some 33), .mov (.tmp 0)⟩, ⟨(some 34), .mov (.tmp 5)⟩, ⟨(some 35), .idx (.tmp 33) (.tmp 34)⟩, ⟨(some 36), .bin .eql (.tmp 35) (.c (.int .u8 48))⟩] (.tmp 36)⟩, ⟨(some 38), .un .not (.tmp 37)⟩] (.tmp 38)⟩])
      (.cond (.tmp 39)
       .skip
       (.exit 0)))
     (.blk 1
      (.seq
       (.seq
        (.reg [⟨(some 40), .mov (.tmp 7)⟩,
          ⟨(some 41), .bin .lss (.tmp 40) (.c (.int .i64 1000000000000000))⟩])
       (.cond (.tmp 41)
        (.reg [⟨(some 42), .mov (.tmp 7)⟩,
          ⟨(some 43), .bin .mul (.tmp 42) (.c (.int .i64 10))⟩,
          ⟨(some 44), .mov (.tmp 0)⟩,
          ⟨(some 45), .mov (.tmp 6)⟩,
          ⟨(some 46), .idx (.tmp 44) (.tmp 45)⟩,
          ⟨(some 47), .cvI .i64 (.tmp 46)⟩,
          ⟨(some 48), .bin .add (.tmp 43) (.tmp 47)⟩,
          ⟨(some 49), .bin .sub (.tmp 48) (.c (.int .i64 48))⟩,
          ⟨(some 7), .mov (.tmp 49)⟩])
        (.reg [⟨(some 8), .mov (.c (.bool true))⟩])))
      (.reg [⟨(some 50), .mov (.tmp 6)⟩,
        ⟨(some 51), .bin .add (.tmp 50) (.c (.int .i64 1))⟩,
        ⟨(some 6), .mov (.tmp 51)⟩]))))
def af42b : ACode :=
  (.seq
   (.reg [⟨(some 4), .new 45 [(.int .i64 0), (.str []), (.int .i64 0), (.int .i64 0), (.int .i64 0)]⟩])
  (.seq
   (.reg [⟨(some 9), .mov (.tmp 1)⟩,
     ⟨(some 5), .mov (.tmp 9)⟩])
  (.seq
   (.seq
    (.reg [⟨(some 10), .mov (.tmp 0)⟩,
      ⟨(some 11), .mov (.tmp 1)⟩,
      ⟨(some 12), .idx (.tmp 10) (.tmp 11)⟩,
      ⟨(some 13), .bin .eql (.tmp 12) (.c (.int .u8 45))⟩])
   (.cond (.tmp 13)
    (.reg [⟨(some 14), .mov (.tmp 5)⟩,
      ⟨(some 15), .bin .add (.tmp 14) (.c (.int .i64 1))⟩,
      ⟨(some 5), .mov (.tmp 15)⟩])
    .skip))
  (.seq
   (.reg [⟨(some 16), .mov (.tmp 5)⟩,
     ⟨(some 6), .mov (.tmp 16)⟩])
  (.seq
   (.reg [⟨(some 7), .mov (.c (.int .i64 0))⟩,
     ⟨(some 8), .mov (.c (.bool false))⟩])
  (.seq
   (.blk 0
    (.loop false af42l0))
  (.seq
   (.seq
    (.reg [⟨(some 52), .mov (.tmp 6)⟩,
      ⟨(some 53), .mov (.tmp 5)⟩,
      ⟨(some 54), .bin .eql (.tmp 52) (.tmp 53)⟩,
      ⟨(some 57), .sc 55 false (.tmp 54) [⟨(some 56), .mov (.tmp 8)⟩] (.tmp 56)⟩,
      ⟨(some 61), .sc 58 false (.tmp 57) [⟨(some 59), .mov (.tmp 7)⟩, ⟨(some 60), .bin .gtr (.tmp 59) (.c (.int .i64 9007199254740991))⟩] (.tmp 60)⟩,
      ⟨(some 70), .sc 62 false (.tmp 61) [⟨(some 63), .mov (.tmp 5)⟩, ⟨(some 64), .mov (.tmp 1)⟩, ⟨(some 65), .bin .gtr (.tmp 63) (.tmp 64)⟩, ⟨(some 69), .sc 66 true (.tmp 65) [⟨(some 67), .mov (.tmp 7)⟩, ⟨(some 68), .bin .eql (.tmp 67) (.c (.int .i64 0))⟩] (.tmp 68)⟩] (.tmp 69)⟩])
   (.cond (.tmp 70)
    (.seq
     (.reg [⟨(some 71), .mov (.tmp 1)⟩,
       ⟨(some 72), .call false false (.c (.fn (.func 44) [] [])) [(.tmp 71)]⟩,
       ⟨none, .store 5 (.tmp 4) (.tmp 72)⟩])
    .ret)
    .skip))
  (.seq
   (.seq
    (.reg [⟨(some 73), .mov (.tmp 6)⟩,
      ⟨(some 74), .mov (.tmp 0)⟩,
      ⟨(some 75), .len 0 (.tmp 74)⟩,
      ⟨(some 76), .bin .lss (.tmp 73) (.tmp 75)⟩,
      ⟨(some 94), .sc 77 true (.tmp 76) [⟨(some 78), .mov (.tmp 0)⟩, ⟨(some 79), .mov (.tmp 6)⟩, ⟨(some 80), .idx (.tmp 78) (.tmp 79)⟩, ⟨(some 81), .call false false (.c (.fn (.func 40) [] [])) [(.tmp 80)]⟩, ⟨(some 87), .sc 82 false (.tmp 81) [⟨(some 83), .mov (.tmp 0)⟩, ⟨(some 84), .mov (.tmp 6)⟩, ⟨(some 85), .idx (.tmp 83) (.tmp 84)⟩, ⟨(some 86), .call false false (.c (.fn (.func 41) [] [])) [(.tmp 85)]⟩] (.tmp 86)⟩, ⟨(some 93), .sc 88 false (.tmp 87) [⟨(some 89), .mov (.tmp 0)⟩, ⟨(some 90), .mov (.tmp 6)⟩, ⟨(some 91), .idx (.tmp 89) (.tmp 90)⟩, ⟨(some 92), .bin .eql (.tmp 91) (.c (.int .u8 46))⟩] (.tmp 92)⟩] (.tmp 93)⟩])
   (.cond (.tmp 94)
    (.seq
     (.reg [⟨(some 95), .mov (.tmp 6)⟩,
       ⟨(some 96), .call false false (.c (.fn (.func 44) [] [])) [(.tmp 95)]⟩,
       ⟨none, .store 5 (.tmp 4) (.tmp 96)⟩])
    .ret)
    .skip))
  (.seq
   (.reg [⟨(some 97), .mov (.tmp 0)⟩,
     ⟨(some 98), .mov (.tmp 1)⟩,
     ⟨(some 99), .mov (.tmp 6)⟩,
     ⟨(some 100), .slcS (.tmp 97) (some (.tmp 98)) (some (.tmp 99))⟩,
     ⟨(some 101), .mov (.tmp 1)⟩,
     ⟨(some 102), .build [(.int .i64 0), (.str []), (.int .i64 0)] [(0, 1, (.c (.int .i64 3))), (1, 1, (.tmp 100)), (2, 1, (.tmp 101))]⟩,
     ⟨(some 103), .mov (.tmp 6)⟩,
     ⟨(some 104), .build [(.int .i64 0), (.str []), (.int .i64 0), (.int .i64 0), (.int .i64 0)] [(0, 3, (.tmp 102)), (3, 1, (.tmp 103))]⟩,
     ⟨none, .store 5 (.tmp 4) (.tmp 104)⟩])
  .ret)))))))))
def af42 : AFunc := ⟨105, [.cell 4 (some 5)], af42b, false⟩

/-- cascade/cascaderef08.raw -/
def af43l0 : ACode :=
  (.seq
           (.seq
            (.reg [⟨(some 29), .mov (.tmp 7)⟩,
              ⟨(some 30), .mov (.tmp 6)⟩,
              ⟨(some 31), .bin .lss (.tmp 29) (.tmp 30)⟩])
           (.cond (.tmp 31)
            .skip
            (.exit 2)))
          (.seq
           (.blk 3
            (.seq
             (.reg [⟨(some 34), .mov (.tmp 0)⟩,
               ⟨(some 35), .mov (.tmp 7)⟩,
               ⟨(some 36), .idx (.tmp 34) (.tmp 35)⟩,
               ⟨(some 37), .bin .lss (.tmp 36) (.c (.int .u8 32))⟩,
               ⟨(some 43), .sc 38 true (.tmp 37) [⟨(some 39), .mov (.tmp 0)⟩, ⟨(some 40), .mov (.tmp 7)⟩, ⟨(some 41), .idx (.tmp 39) (.tmp 40)⟩, ⟨(some 42), .bin .neq (.tmp 41) (.c (.int .u8 9))⟩] (.tmp 42)⟩,
               ⟨(some 49), .sc 44 true (.tmp 43) [⟨(some 45), .mov (.tmp 0)⟩, ⟨(some 46), .mov (.tmp 7)⟩, ⟨(some 47), .idx (.tmp 45) (.tmp 46)⟩, ⟨(some 48), .bin .neq (.tmp 47) (.c (.int .u8 10))⟩] (.tmp 48)⟩,
               ⟨(some 55), .sc 50 true (.tmp 49) [⟨(some 51), .mov (.tmp 0)⟩, ⟨(some 52), .mov (.tmp 7)⟩, ⟨(some 53), .idx (.tmp 51) (.tmp 52)⟩, ⟨(some 54), .bin .neq (.tmp 53) (.c (.int .u8 13))⟩] (.tmp 54)⟩])
            (.cond (.tmp 55)
             (.seq
              (.reg [⟨(some 56), .mov (.tmp 1)⟩,
                ⟨(some 57), .call false false (.c (.fn (.func 44) [] [])) [(.tmp 56)]⟩,
                ⟨none, .store 5 (.tmp 4) (.tmp 57)⟩])
             .ret)
             .skip)))
          (.reg [⟨(some 32), .mov (.tmp 7)⟩,
            ⟨(some 33), .bin .add (.tmp 32) (.c (.int .i64 1))⟩,
            ⟨(some 7), .mov (.tmp 33)⟩])))
def af43l1 : ACode :=
  (.seq
      (.seq
       (.reg [⟨(some 11), .mov (.tmp 6)⟩,
         ⟨(some 12), .mov (.tmp 0)⟩,
         ⟨(some 13), .len 0 (.tmp 12)⟩,
         ⟨(some 14), .bin .lss (.tmp 11) (.tmp 13)⟩])
      (.cond (.tmp 14)
       .skip
       (.exit 0)))
     (.seq
      (.blk 1
       (.seq
        (.seq
         (.reg [⟨(some 17), .mov (.tmp 0)⟩,
           ⟨(some 18), .mov (.tmp 6)⟩,
           ⟨(some 19), .call false false (.c (.fn (.func 39) [] [])) [(.tmp 17), (.tmp 18), (.c (.str [34, 34, 34]))]⟩,
           ⟨(some 20), .un .not (.tmp 19)⟩])
        (.cond (.tmp 20)
         (.exit 1)
         .skip))
       (.seq
        (.seq
         (.reg [⟨(some 21), .mov (.tmp 0)⟩,
           ⟨(some 22), .mov (.tmp 6)⟩,
           ⟨(some 23), .bin .sub (.tmp 22) (.c (.int .i64 1))⟩,
           ⟨(some 24), .idx (.tmp 21) (.tmp 23)⟩,
           ⟨(some 25), .bin .eql (.tmp 24) (.c (.int .u8 92))⟩])
        (.cond (.tmp 25)
         (.seq
          (.reg [⟨(some 26), .mov (.tmp 6)⟩,
            ⟨(some 27), .bin .add (.tmp 26) (.c (.int .i64 2))⟩,
            ⟨(some 6), .mov (.tmp 27)⟩])
         (.exit 1))
         .skip))
       (.seq
        (.seq
         (.reg [⟨(some 28), .mov (.tmp 5)⟩,
           ⟨(some 7), .mov (.tmp 28)⟩])
        (.blk 2
         (.loop false af43l0)))
       (.seq
        (.reg [⟨(some 58), .mov (.tmp 0)⟩,
          ⟨(some 59), .mov (.tmp 5)⟩,
          ⟨(some 60), .mov (.tmp 6)⟩,
          ⟨(some 61), .slcS (.tmp 58) (some (.tmp 59)) (some (.tmp 60))⟩,
          ⟨(some 62), .call false false (.c (.fn (.func 61) [] [])) [(.tmp 61)]⟩,
          ⟨(some 63), .mov (.tmp 1)⟩,
          ⟨(some 64), .build [(.int .i64 0), (.str []), (.int .i64 0)] [(0, 1, (.c (.int .i64 4))), (1, 1, (.tmp 62)), (2, 1, (.tmp 63))]⟩,
          ⟨(some 65), .mov (.tmp 6)⟩,
          ⟨(some 66), .bin .add (.tmp 65) (.c (.int .i64 3))⟩,
          ⟨(some 67), .build [(.int .i64 0), (.str []), (.int .i64 0), (.int .i64 0), (.int .i64 0)] [(0, 3, (.tmp 64)), (3, 1, (.tmp 66))]⟩,
          ⟨none, .store 5 (.tmp 4) (.tmp 67)⟩])
       .ret)))))
     (.reg [⟨(some 15), .mov (.tmp 6)⟩,
       ⟨(some 16), .bin .add (.tmp 15) (.c (.int .i64 1))⟩,
       ⟨(some 6), .mov (.tmp 16)⟩])))
def af43b : ACode :=
  (.seq
   (.reg [⟨(some 4), .new 45 [(.int .i64 0), (.str []), (.int .i64 0), (.int .i64 0), (.int .i64 0)]⟩])
  (.seq
   (.reg [⟨(some 8), .mov (.tmp 1)⟩,
     ⟨(some 9), .bin .add (.tmp 8) (.c (.int .i64 3))⟩,
     ⟨(some 5), .mov (.tmp 9)⟩])
  (.seq
   (.seq
    (.reg [⟨(some 10), .mov (.tmp 5)⟩,
      ⟨(some 6), .mov (.tmp 10)⟩])
   (.blk 0
    (.loop false af43l1)))
  (.seq
   (.reg [⟨(some 68), .mov (.tmp 1)⟩,
     ⟨(some 69), .call false false (.c (.fn (.func 44) [] [])) [(.tmp 68)]⟩,
     ⟨none, .store 5 (.tmp 4) (.tmp 69)⟩])
  .ret))))
def af43 : AFunc := ⟨70, [.cell 4 (some 5)], af43b, false⟩

/-- cascade/cascaderef08.wrong -/
def af44b : ACode :=
  (.seq
   (.reg [⟨(some 2), .new 45 [(.int .i64 0), (.str []), (.int .i64 0), (.int .i64 0), (.int .i64 0)]⟩])
  (.seq
   (.reg [⟨(some 3), .mov (.tmp 0)⟩,
     ⟨(some 4), .build [(.int .i64 0), (.str []), (.int .i64 0), (.int .i64 0), (.int .i64 0)] [(3, 1, (.tmp 3)), (4, 1, (.c (.int .i64 3)))]⟩,
     ⟨none, .store 5 (.tmp 2) (.tmp 4)⟩])
  .ret))
def af44 : AFunc := ⟨5, [.cell 2 (some 5)], af44b, false⟩

/-- cascade/cascaderef02.Unquote -/
def af45l0 : ACode :=
  (.seq
      (.seq
       (.reg [⟨(some 19), .mov (.tmp 6)⟩,
         ⟨(some 20), .mov (.tmp 0)⟩,
         ⟨(some 21), .len 0 (.tmp 20)⟩,
         ⟨(some 22), .bin .lss (.tmp 19) (.tmp 21)⟩])
      (.cond (.tmp 22)
       .skip
       (.exit 0)))
     (.blk 1
      (.seq
       (.seq
        (.reg [⟨(some 23), .mov (.tmp 0)⟩,
          ⟨(some 24), .mov (.tmp 6)⟩,
          ⟨(some 25), .idx (.tmp 23) (.tmp 24)⟩,
          ⟨(some 26), .bin .eql (.tmp 25) (.c (.int .u8 34))⟩])
       (.cond (.tmp 26)
        (.seq
         (.reg [⟨(some 27), .mov (.tmp 5)⟩,
           ⟨(some 28), .mov (.tmp 6)⟩,
           ⟨(some 29), .bin .add (.tmp 28) (.c (.int .i64 1))⟩,
           ⟨(some 2), .mov (.tmp 27)⟩,
           ⟨(some 3), .mov (.tmp 29)⟩,
           ⟨(some 4), .mov (.c (.int .i64 0))⟩])
        .ret)
        .skip))
      (.seq
       (.seq
        (.reg [⟨(some 30), .mov (.tmp 0)⟩,
          ⟨(some 31), .mov (.tmp 6)⟩,
          ⟨(some 32), .idx (.tmp 30) (.tmp 31)⟩,
          ⟨(some 33), .bin .lss (.tmp 32) (.c (.int .u8 32))⟩])
       (.cond (.tmp 33)
        (.seq
         (.reg [⟨(some 34), .mov (.tmp 6)⟩,
           ⟨(some 2), .mov (.c (.str []))⟩,
           ⟨(some 3), .mov (.tmp 34)⟩,
           ⟨(some 4), .mov (.c (.int .i64 4))⟩])
        .ret)
        .skip))
      (.seq
       (.seq
        (.reg [⟨(some 35), .mov (.tmp 0)⟩,
          ⟨(some 36), .mov (.tmp 6)⟩,
          ⟨(some 37), .idx (.tmp 35) (.tmp 36)⟩,
          ⟨(some 38), .bin .eql (.tmp 37) (.c (.int .u8 92))⟩])
       (.cond (.tmp 38)
        (.seq
         (.reg [⟨(some 40), .mov (.tmp 0)⟩,
           ⟨(some 41), .mov (.tmp 6)⟩,
           ⟨(some 42), .call false false (.c (.fn (.func 62) [] [])) [(.tmp 40), (.tmp 41)]⟩,
           ⟨(some 39), .mov (.tmp 42)⟩,
           ⟨(some 43), .ext (.tmp 39) 0⟩,
           ⟨(some 44), .ext (.tmp 39) 1⟩,
           ⟨(some 7), .mov (.tmp 43)⟩,
           ⟨(some 8), .mov (.tmp 44)⟩])
        (.seq
         (.seq
          (.reg [⟨(some 45), .mov (.tmp 8)⟩,
            ⟨(some 46), .bin .eql (.tmp 45) (.c (.int .i64 0))⟩])
         (.cond (.tmp 46)
          (.seq
           (.reg [⟨(some 47), .mov (.tmp 6)⟩,
             ⟨(some 2), .mov (.c (.str []))⟩,
             ⟨(some 3), .mov (.tmp 47)⟩,
             ⟨(some 4), .mov (.c (.int .i64 4))⟩])
          .ret)
          .skip))
        (.seq
         (.reg [⟨(some 48), .mov (.tmp 5)⟩,
           ⟨(some 49), .mov (.tmp 7)⟩,
           ⟨(some 50), .call false false (.c (.fn (.func 63) [] [])) [(.tmp 49)]⟩,
           ⟨(some 51), .bin .add (.tmp 48) (.tmp 50)⟩,
           ⟨(some 5), .mov (.tmp 51)⟩])
        (.seq
         (.reg [⟨(some 52), .mov (.tmp 6)⟩,
           ⟨(some 53), .mov (.tmp 8)⟩,
           ⟨(some 54), .bin .add (.tmp 52) (.tmp 53)⟩,
           ⟨(some 6), .mov (.tmp 54)⟩])
        (.exit 1)))))
        .skip))
      (.seq
       (.reg [⟨(some 56), .mov (.tmp 0)⟩,
         ⟨(some 57), .mov (.tmp 6)⟩,
         ⟨(some 58), .call false false (.c (.fn (.func 38) [] [])) [(.tmp 56), (.tmp 57)]⟩,
         ⟨(some 55), .mov (.tmp 58)⟩,
         ⟨(some 59), .ext (.tmp 55) 0⟩,
         ⟨(some 60), .ext (.tmp 55) 1⟩,
         ⟨(some 9), .mov (.tmp 59)⟩,
         ⟨(some 10), .mov (.tmp 60)⟩])
      (.seq
       (.seq
        (.reg [⟨(some 61), .mov (.tmp 9)⟩,
          ⟨(some 62), .bin .eql (.tmp 61) (.c (.int .i64 0))⟩])
       (.cond (.tmp 62)
        (.seq
         (.reg [⟨(some 63), .mov (.tmp 6)⟩,
           ⟨(some 2), .mov (.c (.str []))⟩,
           ⟨(some 3), .mov (.tmp 63)⟩,
           ⟨(some 4), .mov (.c (.int .i64 2))⟩])
        .ret)
        .skip))
      (.seq
       (.reg [⟨(some 64), .mov (.tmp 5)⟩,
         ⟨(some 65), .mov (.tmp 0)⟩,
         ⟨(some 66), .mov (.tmp 6)⟩,
         ⟨(some 67), .mov (.tmp 6)⟩,
         ⟨(some 68), .mov (.tmp 9)⟩,
         ⟨(some 69), .bin .add (.tmp 67) (.tmp 68)⟩,
         ⟨(some 70), .slcS (.tmp 65) (some (.tmp 66)) (some (.tmp 69))⟩,
         ⟨(some 71), .bin .add (.tmp 64) (.tmp 70)⟩,
         ⟨(some 5), .mov (.tmp 71)⟩])
      (.reg [⟨(some 72), .mov (.tmp 6)⟩,
        ⟨(some 73), .mov (.tmp 9)⟩,
        ⟨(some 74), .bin .add (.tmp 72) (.tmp 73)⟩,
        ⟨(some 6), .mov (.tmp 74)⟩])))))))))
def af45b : ACode :=
  (.seq
   (.reg [⟨(some 2), .mov (.c (.str []))⟩,
     ⟨(some 3), .mov (.c (.int .i64 0))⟩,
     ⟨(some 4), .mov (.c (.int .i64 0))⟩])
  (.seq
   (.seq
    (.reg [⟨(some 11), .mov (.tmp 0)⟩,
      ⟨(some 12), .len 0 (.tmp 11)⟩,
      ⟨(some 13), .bin .eql (.tmp 12) (.c (.int .i64 0))⟩,
      ⟨(some 18), .sc 14 false (.tmp 13) [⟨(some 15), .mov (.tmp 0)⟩, ⟨(some 16), .idx (.tmp 15) (.c (.int .i64 0))⟩, ⟨(some 17), .bin .neq (.tmp 16) (.c (.int .u8 34))⟩] (.tmp 17)⟩])
   (.cond (.tmp 18)
    (.seq
     (.reg [⟨(some 2), .mov (.c (.str []))⟩,
       ⟨(some 3), .mov (.c (.int .i64 0))⟩,
       ⟨(some 4), .mov (.c (.int .i64 4))⟩])
    .ret)
    .skip))
  (.seq
   (.reg [⟨(some 5), .mov (.c (.str []))⟩])
  (.seq
   (.seq
    (.reg [⟨(some 6), .mov (.c (.int .i64 1))⟩])
   (.blk 0
    (.loop false af45l0)))
  (.seq
   (.reg [⟨(some 75), .mov (.tmp 0)⟩,
     ⟨(some 76), .len 0 (.tmp 75)⟩,
     ⟨(some 2), .mov (.c (.str []))⟩,
     ⟨(some 3), .mov (.tmp 76)⟩,
     ⟨(some 4), .mov (.c (.int .i64 4))⟩])
  .ret)))))
def af45 : AFunc := ⟨77, [.tmp 2, .tmp 3, .tmp 4], af45b, false⟩

/-- cascade/quote.Quote -/
def af46l0 : ACode :=
  (.seq
      (.reg [⟨(some 14), .nxt (.tmp 13)⟩,
        ⟨(some 15), .ext (.tmp 14) 0⟩])
     (.seq
      (.cond (.tmp 15)
       .skip
       (.exit 0))
     (.blk 1
      (.seq
       (.reg [⟨(some 16), .ext (.tmp 14) 2⟩,
         ⟨(some 6), .mov (.tmp 16)⟩])
      (.seq
       (.reg [⟨(some 17), .mov (.tmp 6)⟩,
         ⟨(some 18), .call false false (.c (.fn (.func 66) [] [])) [(.tmp 17)]⟩,
         ⟨(some 7), .mov (.tmp 18)⟩])
      (.seq
       (.reg [⟨(some 19), .mov (.tmp 7)⟩,
         ⟨(some 20), .bin .neq (.tmp 19) (.c (.str []))⟩])
      (.cond (.tmp 20)
       (.reg [⟨(some 21), .mov (.tmp 7)⟩,
         ⟨(some 22), .call false false (.c (.fn (.func 48) [] [])) [(.tmp 4), (.tmp 21)]⟩])
       (.reg [⟨(some 23), .mov (.tmp 6)⟩,
         ⟨(some 24), .call false false (.c (.fn (.func 67) [] [])) [(.tmp 4), (.tmp 23)]⟩]))))))))
def af46b : ACode :=
  (.seq
   (.reg [⟨(some 2), .mov (.c (.str []))⟩,
     ⟨(some 3), .mov (.c (.int .i64 0))⟩])
  (.seq
   (.seq
    (.reg [⟨(some 8), .mov (.tmp 0)⟩,
      ⟨(some 9), .call false false (.c (.fn (.func 64) [] [])) [(.tmp 8)]⟩,
      ⟨(some 10), .un .not (.tmp 9)⟩])
   (.cond (.tmp 10)
    (.seq
     (.reg [⟨(some 2), .mov (.c (.str []))⟩,
       ⟨(some 3), .mov (.c (.int .i64 2))⟩])
    .ret)
    .skip))
  (.seq
   (.reg [⟨(some 4), .new 69 [.pnil, (.sl .nil [])]⟩])
  (.seq
   (.reg [⟨(some 11), .call false false (.c (.fn (.func 65) [] [])) [(.tmp 4), (.c (.int .u8 34))]⟩])
  (.seq
   (.seq
    (.reg [⟨(some 12), .mov (.tmp 0)⟩,
      ⟨(some 13), .rng (.tmp 12)⟩])
   (.blk 0
    (.loop false af46l0)))
  (.seq
   (.reg [⟨(some 25), .call false false (.c (.fn (.func 65) [] [])) [(.tmp 4), (.c (.int .u8 34))]⟩])
  (.seq
   (.reg [⟨(some 26), .call false false (.c (.fn (.func 49) [] [])) [(.tmp 4)]⟩,
     ⟨(some 2), .mov (.tmp 26)⟩,
     ⟨(some 3), .mov (.c (.int .i64 0))⟩])
  .ret)))))))
def af46 : AFunc := ⟨27, [.tmp 2, .tmp 3], af46b, false⟩

/-- (*strings.Builder).WriteString -/
def af48b : ACode :=
  (.seq
   (.reg [⟨(some 4), .mov (.c (.int .i64 0))⟩,
     ⟨(some 5), .mov (.c .nilI)⟩])
  (.seq
   (.reg [⟨(some 6), .mov (.tmp 0)⟩,
     ⟨(some 7), .call false false (.c (.fn (.func 68) [] [])) [(.tmp 6)]⟩])
  (.seq
   (.reg [⟨(some 8), .mov (.tmp 0)⟩,
     ⟨(some 9), .mov (.tmp 0)⟩,
     ⟨(some 10), .nilchk (.tmp 9)⟩,
     ⟨(some 11), .fadr 1 (.tmp 10)⟩,
     ⟨(some 12), .load none (.tmp 11)⟩,
     ⟨(some 13), .mov (.tmp 1)⟩,
     ⟨(some 14), .app true 1 (1, 5) (.tmp 12) (.tmp 13)⟩,
     ⟨(some 15), .nilchk (.tmp 8)⟩,
     ⟨(some 16), .fadr 1 (.tmp 15)⟩,
     ⟨none, .store 1 (.tmp 16) (.tmp 14)⟩])
  (.seq
   (.reg [⟨(some 17), .mov (.tmp 1)⟩,
     ⟨(some 18), .len 0 (.tmp 17)⟩,
     ⟨(some 4), .mov (.tmp 18)⟩,
     ⟨(some 5), .mov (.c .nilI)⟩])
  .ret))))
def af48 : AFunc := ⟨19, [.tmp 4, .tmp 5], af48b, true⟩

/-- (*strings.Builder).String -/
def af49b : ACode :=
  (.seq
   (.reg [⟨(some 2), .mov (.c (.str []))⟩])
  (.seq
   (.regD [] [⟨(some 3), .mov (.tmp 0)⟩,
     ⟨(some 4), .nilchk (.tmp 3)⟩,
     ⟨(some 5), .fadr 1 (.tmp 4)⟩,
     ⟨(some 6), .load none (.tmp 5)⟩,
     ⟨(some 7), .sdata (.tmp 6)⟩,
     ⟨(some 8), .mov (.tmp 0)⟩,
     ⟨(some 9), .nilchk (.tmp 8)⟩,
     ⟨(some 10), .fadr 1 (.tmp 9)⟩,
     ⟨(some 11), .load none (.tmp 10)⟩,
     ⟨(some 12), .len 1 (.tmp 11)⟩,
     ⟨(some 13), .ustr 5 (.tmp 7) (.tmp 12)⟩,
     ⟨(some 2), .mov (.tmp 13)⟩])
  .ret))
def af49 : AFunc := ⟨14, [.tmp 2], af49b, false⟩

/-- cascade/cascaderef02.plain -/
def af50b : ACode :=
  (.seq
   (.reg [⟨(some 2), .mov (.c (.int .u8 0))⟩])
  (.seq
   (.seq
    (.reg [⟨(some 3), .mov (.tmp 0)⟩])
   (.blk 0
    (.seq
     (.seq
      (.reg [⟨(some 5), .bin .eql (.tmp 3) (.c (.int .u8 34))⟩,
        ⟨(some 4), .mov (.tmp 5)⟩])
     (.cond (.tmp 4)
      .skip
      (.reg [⟨(some 6), .bin .eql (.tmp 3) (.c (.int .u8 92))⟩,
        ⟨(some 4), .mov (.tmp 6)⟩])))
    (.cond (.tmp 4)
     (.seq
      (.reg [⟨(some 7), .mov (.tmp 0)⟩,
        ⟨(some 2), .mov (.tmp 7)⟩])
     .ret)
     (.seq
      (.reg [⟨(some 9), .bin .eql (.tmp 3) (.c (.int .u8 8))⟩,
        ⟨(some 8), .mov (.tmp 9)⟩])
     (.cond (.tmp 8)
      (.seq
       (.reg [⟨(some 2), .mov (.c (.int .u8 98))⟩])
      .ret)
      (.seq
       (.reg [⟨(some 11), .bin .eql (.tmp 3) (.c (.int .u8 12))⟩,
         ⟨(some 10), .mov (.tmp 11)⟩])
      (.cond (.tmp 10)
       (.seq
        (.reg [⟨(some 2), .mov (.c (.int .u8 102))⟩])
       .ret)
       (.seq
        (.reg [⟨(some 13), .bin .eql (.tmp 3) (.c (.int .u8 10))⟩,
          ⟨(some 12), .mov (.tmp 13)⟩])
       (.cond (.tmp 12)
        (.seq
         (.reg [⟨(some 2), .mov (.c (.int .u8 110))⟩])
        .ret)
        (.seq
         (.reg [⟨(some 15), .bin .eql (.tmp 3) (.c (.int .u8 13))⟩,
           ⟨(some 14), .mov (.tmp 15)⟩])
        (.cond (.tmp 14)
         (.seq
          (.reg [⟨(some 2), .mov (.c (.int .u8 114))⟩])
         .ret)
         (.seq
          (.reg [⟨(some 17), .bin .eql (.tmp 3) (.c (.int .u8 9))⟩,
            ⟨(some 16), .mov (.tmp 17)⟩])
         (.cond (.tmp 16)
          (.seq
           (.reg [⟨(some 2), .mov (.c (.int .u8 116))⟩])
          .ret)
          .skip))))))))))))))
  (.seq
   (.reg [⟨(some 2), .mov (.c (.int .u8 0))⟩])
  .ret)))
def af50 : AFunc := ⟨18, [.tmp 2], af50b, false⟩

/-- cascade/cascaderef02.hex -/
def af51b : ACode :=
  (.seq
   (.reg [⟨(some 2), .mov (.c (.str []))⟩])
  (.seq
   (.seq
    (.reg [⟨(some 3), .mov (.tmp 0)⟩,
      ⟨(some 4), .bin .lss (.tmp 3) (.c (.int .i64 10))⟩])
   (.cond (.tmp 4)
    (.seq
     (.reg [⟨(some 5), .mov (.tmp 0)⟩,
       ⟨(some 6), .bin .add (.c (.int .i64 48)) (.tmp 5)⟩,
       ⟨(some 7), .cvI .u8 (.tmp 6)⟩,
       ⟨(some 8), .bsl 1 (.int .u8 0) 1 [(0, (.tmp 7))]⟩,
       ⟨(some 9), .b2s (.tmp 8)⟩,
       ⟨(some 2), .mov (.tmp 9)⟩])
    .ret)
    .skip))
  (.seq
   (.reg [⟨(some 10), .mov (.tmp 0)⟩,
     ⟨(some 11), .bin .add (.c (.int .i64 87)) (.tmp 10)⟩,
     ⟨(some 12), .cvI .u8 (.tmp 11)⟩,
     ⟨(some 13), .bsl 1 (.int .u8 0) 1 [(0, (.tmp 12))]⟩,
     ⟨(some 14), .b2s (.tmp 13)⟩,
     ⟨(some 2), .mov (.tmp 14)⟩])
  .ret)))
def af51 : AFunc := ⟨15, [.tmp 2], af51b, false⟩

/-- internal/stringslite.HasPrefix -/
def af54b : ACode :=
  (.seq
   (.reg [⟨(some 4), .mov (.c (.bool false))⟩])
  (.seq
   (.reg [⟨(some 5), .mov (.tmp 0)⟩,
     ⟨(some 6), .len 0 (.tmp 5)⟩,
     ⟨(some 7), .mov (.tmp 1)⟩,
     ⟨(some 8), .len 0 (.tmp 7)⟩,
     ⟨(some 9), .bin .geq (.tmp 6) (.tmp 8)⟩,
     ⟨(some 17), .sc 10 true (.tmp 9) [⟨(some 11), .mov (.tmp 0)⟩, ⟨(some 12), .mov (.tmp 1)⟩, ⟨(some 13), .len 0 (.tmp 12)⟩, ⟨(some 14), .slcS (.tmp 11) none (some (.tmp 13))⟩, ⟨(some 15), .mov (.tmp 1)⟩, ⟨(some 16), .bin .eql (.tmp 14) (.tmp 15)⟩] (.tmp 16)⟩,
     ⟨(some 4), .mov (.tmp 17)⟩])
  .ret))
def af54 : AFunc := ⟨18, [.tmp 4], af54b, false⟩

/-- (*cascade/token.lexer).rawEnd -/
def af56l0 : ACode :=
  (.blk 1
     (.seq
      (.reg [⟨(some 6), .mov (.tmp 0)⟩,
        ⟨(some 7), .nilchk (.tmp 6)⟩,
        ⟨(some 8), .fadr 0 (.tmp 7)⟩,
        ⟨(some 9), .load none (.tmp 8)⟩,
        ⟨(some 10), .mov (.tmp 1)⟩,
        ⟨(some 11), .slcS (.tmp 9) (some (.tmp 10)) none⟩,
        ⟨(some 12), .call false false (.c (.fn (.func 73) [] [])) [(.tmp 11), (.c (.str [34, 34, 34]))]⟩,
        ⟨(some 5), .mov (.tmp 12)⟩])
     (.seq
      (.seq
       (.reg [⟨(some 13), .mov (.tmp 5)⟩,
         ⟨(some 14), .bin .lss (.tmp 13) (.c (.int .i64 0))⟩])
      (.cond (.tmp 14)
       (.seq
        (.reg [⟨(some 4), .mov (.c (.int .i64 (-1)))⟩])
       .ret)
       .skip))
     (.seq
      (.seq
       (.reg [⟨(some 15), .mov (.tmp 1)⟩,
         ⟨(some 16), .mov (.tmp 5)⟩,
         ⟨(some 17), .bin .add (.tmp 15) (.tmp 16)⟩,
         ⟨(some 1), .mov (.tmp 17)⟩])
      (.seq
       (.reg [⟨(some 18), .mov (.tmp 0)⟩,
         ⟨(some 19), .nilchk (.tmp 18)⟩,
         ⟨(some 20), .fadr 0 (.tmp 19)⟩,
         ⟨(some 21), .load none (.tmp 20)⟩,
         ⟨(some 22), .mov (.tmp 1)⟩,
         ⟨(some 23), .bin .sub (.tmp 22) (.c (.int .i64 1))⟩,
         ⟨(some 24), .idx (.tmp 21) (.tmp 23)⟩,
         ⟨(some 25), .bin .neq (.tmp 24) (.c (.int .u8 92))⟩])
      (.cond (.tmp 25)
       (.seq
        (.reg [⟨(some 26), .mov (.tmp 1)⟩,
          ⟨(some 4), .mov (.tmp 26)⟩])
       .ret)
       .skip)))
     (.reg [⟨(some 27), .mov (.tmp 1)⟩,
       ⟨(some 28), .bin .add (.tmp 27) (.c (.int .i64 3))⟩,
       ⟨(some 1), .mov (.tmp 28)⟩])))))
def af56b : ACode :=
  (.seq
   (.reg [⟨(some 4), .mov (.c (.int .i64 0))⟩])
  (.blk 0
   (.loop false af56l0)))
def af56 : AFunc := ⟨29, [.tmp 4], af56b, false⟩

/-- strings.ContainsFunc -/
def af57b : ACode :=
  (.seq
   (.reg [⟨(some 4), .mov (.c (.bool false))⟩])
  (.seq
   (.reg [⟨(some 5), .mov (.tmp 0)⟩,
     ⟨(some 6), .mov (.tmp 1)⟩,
     ⟨(some 7), .call false false (.c (.fn (.func 74) [] [])) [(.tmp 5), (.tmp 6)]⟩,
     ⟨(some 8), .bin .geq (.tmp 7) (.c (.int .i64 0))⟩,
     ⟨(some 4), .mov (.tmp 8)⟩])
  .ret))
def af57 : AFunc := ⟨9, [.tmp 4], af57b, false⟩

/-- (*cascade/token.lexer).raw$1 -/
def af58b : ACode :=
  (.seq
   (.reg [⟨(some 2), .mov (.c (.bool false))⟩])
  (.seq
   (.reg [⟨(some 3), .mov (.tmp 0)⟩,
     ⟨(some 4), .bin .lss (.tmp 3) (.c (.int .i32 32))⟩,
     ⟨(some 8), .sc 5 true (.tmp 4) [⟨(some 6), .mov (.tmp 0)⟩, ⟨(some 7), .bin .neq (.tmp 6) (.c (.int .i32 9))⟩] (.tmp 7)⟩,
     ⟨(some 12), .sc 9 true (.tmp 8) [⟨(some 10), .mov (.tmp 0)⟩, ⟨(some 11), .bin .neq (.tmp 10) (.c (.int .i32 10))⟩] (.tmp 11)⟩,
     ⟨(some 16), .sc 13 true (.tmp 12) [⟨(some 14), .mov (.tmp 0)⟩, ⟨(some 15), .bin .neq (.tmp 14) (.c (.int .i32 13))⟩] (.tmp 15)⟩,
     ⟨(some 2), .mov (.tmp 16)⟩])
  .ret))
def af58 : AFunc := ⟨17, [.tmp 2], af58b, false⟩

/-- cascade/block.Value -/
def af59l0 : ACode :=
  (.seq
      (.reg [⟨(some 14), .bin .lss (.tmp 13) (.tmp 12)⟩])
     (.seq
      (.cond (.tmp 14)
       .skip
       (.exit 0))
     (.seq
      (.blk 1
       (.seq
        (.reg [⟨(some 15), .mov (.tmp 13)⟩,
          ⟨(some 5), .mov (.tmp 15)⟩])
       (.seq
        (.reg [⟨(some 16), .mov (.tmp 5)⟩,
          ⟨(some 17), .bin .gtr (.tmp 16) (.c (.int .i64 0))⟩])
       (.cond (.tmp 17)
        (.regD [] [⟨(some 18), .mov (.tmp 3)⟩,
          ⟨(some 19), .mov (.tmp 5)⟩,
          ⟨(some 20), .mov (.tmp 3)⟩,
          ⟨(some 21), .mov (.tmp 5)⟩,
          ⟨(some 22), .iadr 1 (.tmp 20) (.tmp 21)⟩,
          ⟨(some 23), .load none (.tmp 22)⟩,
          ⟨(some 24), .mov (.tmp 4)⟩,
          ⟨(some 25), .mov (.tmp 3)⟩,
          ⟨(some 26), .mov (.tmp 5)⟩,
          ⟨(some 27), .iadr 1 (.tmp 25) (.tmp 26)⟩,
          ⟨(some 28), .load none (.tmp 27)⟩,
          ⟨(some 29), .len 0 (.tmp 28)⟩,
          ⟨(some 30), .mxn false (.tmp 24) (.tmp 29)⟩,
          ⟨(some 31), .slcS (.tmp 23) (some (.tmp 30)) none⟩,
          ⟨(some 32), .iadr 1 (.tmp 18) (.tmp 19)⟩,
          ⟨none, .store 1 (.tmp 32) (.tmp 31)⟩])
        .skip))))
     (.reg [⟨(some 33), .bin .add (.tmp 13) (.c (.int .i64 1))⟩,
       ⟨(some 13), .mov (.tmp 33)⟩]))))
def af59l1 : ACode :=
  (.seq
      (.seq
       (.reg [⟨(some 34), .mov (.tmp 3)⟩,
         ⟨(some 35), .len 1 (.tmp 34)⟩,
         ⟨(some 36), .bin .gtr (.tmp 35) (.c (.int .i64 0))⟩,
         ⟨(some 42), .sc 37 true (.tmp 36) [⟨(some 38), .mov (.tmp 3)⟩, ⟨(some 39), .iadr 1 (.tmp 38) (.c (.int .i64 0))⟩, ⟨(some 40), .load none (.tmp 39)⟩, ⟨(some 41), .call false false (.c (.fn (.func 78) [] [])) [(.tmp 40)]⟩] (.tmp 41)⟩])
      (.cond (.tmp 42)
       .skip
       (.exit 2)))
     (.blk 3
      (.reg [⟨(some 43), .mov (.tmp 3)⟩,
        ⟨(some 44), .slc 1 (.tmp 43) (some (.c (.int .i64 1))) none⟩,
        ⟨(some 3), .mov (.tmp 44)⟩])))
def af59l2 : ACode :=
  (.seq
      (.seq
       (.reg [⟨(some 45), .mov (.tmp 3)⟩,
         ⟨(some 46), .len 1 (.tmp 45)⟩,
         ⟨(some 47), .bin .gtr (.tmp 46) (.c (.int .i64 0))⟩,
         ⟨(some 56), .sc 48 true (.tmp 47) [⟨(some 49), .mov (.tmp 3)⟩, ⟨(some 50), .mov (.tmp 3)⟩, ⟨(some 51), .len 1 (.tmp 50)⟩, ⟨(some 52), .bin .sub (.tmp 51) (.c (.int .i64 1))⟩, ⟨(some 53), .iadr 1 (.tmp 49) (.tmp 52)⟩, ⟨(some 54), .load none (.tmp 53)⟩, ⟨(some 55), .call false false (.c (.fn (.func 78) [] [])) [(.tmp 54)]⟩] (.tmp 55)⟩])
      (.cond (.tmp 56)
       .skip
       (.exit 4)))
     (.blk 5
      (.reg [⟨(some 57), .mov (.tmp 3)⟩,
        ⟨(some 58), .mov (.tmp 3)⟩,
        ⟨(some 59), .len 1 (.tmp 58)⟩,
        ⟨(some 60), .bin .sub (.tmp 59) (.c (.int .i64 1))⟩,
        ⟨(some 61), .slc 1 (.tmp 57) none (some (.tmp 60))⟩,
        ⟨(some 3), .mov (.tmp 61)⟩])))
def af59b : ACode :=
  (.seq
   (.reg [⟨(some 2), .mov (.c (.str []))⟩])
  (.seq
   (.reg [⟨(some 6), .mov (.tmp 0)⟩,
     ⟨(some 7), .call false false (.c (.fn (.func 76) [] [])) [(.tmp 6), (.c (.str [92, 34, 34, 34])), (.c (.str [34, 34, 34]))]⟩,
     ⟨(some 8), .call false false (.c (.fn (.func 75) [] [])) [(.tmp 7)]⟩,
     ⟨(some 3), .mov (.tmp 8)⟩])
  (.seq
   (.reg [⟨(some 9), .mov (.tmp 3)⟩,
     ⟨(some 10), .call false false (.c (.fn (.func 77) [] [])) [(.tmp 9)]⟩,
     ⟨(some 4), .mov (.tmp 10)⟩])
  (.seq
   (.seq
    (.reg [⟨(some 11), .mov (.tmp 3)⟩,
      ⟨(some 12), .len 1 (.tmp 11)⟩,
      ⟨(some 13), .mov (.c (.int .i64 0))⟩])
   (.blk 0
    (.loop false af59l0)))
  (.seq
   (.blk 2
    (.loop false af59l1))
  (.seq
   (.blk 4
    (.loop false af59l2))
  (.seq
   (.reg [⟨(some 62), .mov (.tmp 3)⟩,
     ⟨(some 63), .call false false (.c (.fn (.func 22) [] [])) [(.tmp 62), (.c (.str [10]))]⟩,
     ⟨(some 2), .mov (.tmp 63)⟩])
  .ret)))))))
def af59 : AFunc := ⟨64, [.tmp 2], af59b, false⟩

/-- cascade/quote.Unquote -/
def af60l0 : ACode :=
  (.seq
      (.seq
       (.reg [⟨(some 12), .mov (.tmp 6)⟩,
         ⟨(some 13), .mov (.tmp 0)⟩,
         ⟨(some 14), .len 0 (.tmp 13)⟩,
         ⟨(some 15), .bin .lss (.tmp 12) (.tmp 14)⟩])
      (.cond (.tmp 15)
       .skip
       (.exit 0)))
     (.blk 1
      (.seq
       (.reg [⟨(some 17), .mov (.tmp 0)⟩,
         ⟨(some 18), .mov (.tmp 6)⟩,
         ⟨(some 19), .slcS (.tmp 17) (some (.tmp 18)) none⟩,
         ⟨(some 20), .call false false (.c (.fn (.func 25) [] [])) [(.tmp 19)]⟩,
         ⟨(some 16), .mov (.tmp 20)⟩,
         ⟨(some 21), .ext (.tmp 16) 0⟩,
         ⟨(some 22), .ext (.tmp 16) 1⟩,
         ⟨(some 7), .mov (.tmp 21)⟩,
         ⟨(some 8), .mov (.tmp 22)⟩])
      (.seq
       (.blk 2
        (.seq
         (.reg [⟨(some 24), .mov (.tmp 7)⟩,
           ⟨(some 25), .bin .eql (.tmp 24) (.c (.int .i32 34))⟩,
           ⟨(some 23), .mov (.tmp 25)⟩])
        (.cond (.tmp 23)
         (.seq
          (.reg [⟨(some 26), .call false false (.c (.fn (.func 49) [] [])) [(.tmp 5)]⟩,
            ⟨(some 27), .mov (.tmp 6)⟩,
            ⟨(some 28), .bin .add (.tmp 27) (.c (.int .i64 1))⟩,
            ⟨(some 2), .mov (.tmp 26)⟩,
            ⟨(some 3), .mov (.tmp 28)⟩,
            ⟨(some 4), .mov (.c (.int .i64 0))⟩])
         .ret)
         (.seq
          (.reg [⟨(some 30), .mov (.tmp 7)⟩,
            ⟨(some 31), .bin .lss (.tmp 30) (.c (.int .i32 32))⟩,
            ⟨(some 29), .mov (.tmp 31)⟩])
         (.cond (.tmp 29)
          (.seq
           (.reg [⟨(some 32), .mov (.tmp 6)⟩,
             ⟨(some 2), .mov (.c (.str []))⟩,
             ⟨(some 3), .mov (.tmp 32)⟩,
             ⟨(some 4), .mov (.c (.int .i64 4))⟩])
          .ret)
          (.seq
           (.reg [⟨(some 34), .mov (.tmp 7)⟩,
             ⟨(some 35), .bin .eql (.tmp 34) (.c (.int .i32 65533))⟩,
             ⟨(some 39), .sc 36 true (.tmp 35) [⟨(some 37), .mov (.tmp 8)⟩, ⟨(some 38), .bin .eql (.tmp 37) (.c (.int .i64 1))⟩] (.tmp 38)⟩,
             ⟨(some 33), .mov (.tmp 39)⟩])
          (.cond (.tmp 33)
           (.seq
            (.reg [⟨(some 40), .mov (.tmp 6)⟩,
              ⟨(some 2), .mov (.c (.str []))⟩,
              ⟨(some 3), .mov (.tmp 40)⟩,
              ⟨(some 4), .mov (.c (.int .i64 2))⟩])
           .ret)
           (.seq
            (.reg [⟨(some 42), .mov (.tmp 7)⟩,
              ⟨(some 43), .bin .eql (.tmp 42) (.c (.int .i32 92))⟩,
              ⟨(some 41), .mov (.tmp 43)⟩])
           (.cond (.tmp 41)
            (.seq
             (.reg [⟨(some 45), .mov (.tmp 0)⟩,
               ⟨(some 46), .mov (.tmp 6)⟩,
               ⟨(some 47), .slcS (.tmp 45) (some (.tmp 46)) none⟩,
               ⟨(some 48), .call false false (.c (.fn (.func 79) [] [])) [(.tmp 47)]⟩,
               ⟨(some 44), .mov (.tmp 48)⟩,
               ⟨(some 49), .ext (.tmp 44) 0⟩,
               ⟨(some 50), .ext (.tmp 44) 1⟩,
               ⟨(some 7), .mov (.tmp 49)⟩,
               ⟨(some 8), .mov (.tmp 50)⟩])
            (.seq
             (.reg [⟨(some 51), .mov (.tmp 8)⟩,
               ⟨(some 52), .bin .eql (.tmp 51) (.c (.int .i64 0))⟩])
            (.cond (.tmp 52)
             (.seq
              (.reg [⟨(some 53), .mov (.tmp 6)⟩,
                ⟨(some 2), .mov (.c (.str []))⟩,
                ⟨(some 3), .mov (.tmp 53)⟩,
                ⟨(some 4), .mov (.c (.int .i64 4))⟩])
             .ret)
             .skip)))
            .skip)))))))))
      (.seq
       (.reg [⟨(some 54), .mov (.tmp 7)⟩,
         ⟨(some 55), .call false false (.c (.fn (.func 67) [] [])) [(.tmp 5), (.tmp 54)]⟩])
      (.reg [⟨(some 56), .mov (.tmp 6)⟩,
        ⟨(some 57), .mov (.tmp 8)⟩,
        ⟨(some 58), .bin .add (.tmp 56) (.tmp 57)⟩,
        ⟨(some 6), .mov (.tmp 58)⟩]))))))
def af60b : ACode :=
  (.seq
   (.reg [⟨(some 2), .mov (.c (.str []))⟩,
     ⟨(some 3), .mov (.c (.int .i64 0))⟩,
     ⟨(some 4), .mov (.c (.int .i64 0))⟩])
  (.seq
   (.seq
    (.reg [⟨(some 9), .mov (.tmp 0)⟩,
      ⟨(some 10), .call false false (.c (.fn (.func 31) [] [])) [(.tmp 9), (.c (.str [34]))]⟩,
      ⟨(some 11), .un .not (.tmp 10)⟩])
   (.cond (.tmp 11)
    (.seq
     (.reg [⟨(some 2), .mov (.c (.str []))⟩,
       ⟨(some 3), .mov (.c (.int .i64 0))⟩,
       ⟨(some 4), .mov (.c (.int .i64 4))⟩])
    .ret)
    .skip))
  (.seq
   (.reg [⟨(some 5), .new 69 [.pnil, (.sl .nil [])]⟩])
  (.seq
   (.seq
    (.reg [⟨(some 6), .mov (.c (.int .i64 1))⟩])
   (.blk 0
    (.loop false af60l0)))
  (.seq
   (.reg [⟨(some 59), .mov (.tmp 0)⟩,
     ⟨(some 60), .len 0 (.tmp 59)⟩,
     ⟨(some 2), .mov (.c (.str []))⟩,
     ⟨(some 3), .mov (.tmp 60)⟩,
     ⟨(some 4), .mov (.c (.int .i64 4))⟩])
  .ret)))))
def af60 : AFunc := ⟨61, [.tmp 2, .tmp 3, .tmp 4], af60b, false⟩

/-- cascade/cascaderef07.Value -/
def af61l0 : ACode :=
  (.seq
      (.seq
       (.reg [⟨(some 19), .mov (.tmp 8)⟩,
         ⟨(some 20), .mov (.tmp 3)⟩,
         ⟨(some 21), .len 1 (.tmp 20)⟩,
         ⟨(some 22), .bin .lss (.tmp 19) (.tmp 21)⟩])
      (.cond (.tmp 22)
       .skip
       (.exit 0)))
     (.seq
      (.blk 1
       (.seq
        (.reg [⟨(some 25), .mov (.tmp 3)⟩,
          ⟨(some 26), .mov (.tmp 8)⟩,
          ⟨(some 27), .iadr 1 (.tmp 25) (.tmp 26)⟩,
          ⟨(some 28), .load none (.tmp 27)⟩,
          ⟨(some 9), .mov (.tmp 28)⟩])
       (.seq
        (.seq
         (.reg [⟨(some 29), .mov (.tmp 8)⟩,
           ⟨(some 30), .bin .gtr (.tmp 29) (.c (.int .i64 0))⟩])
        (.cond (.tmp 30)
         (.reg [⟨(some 31), .mov (.tmp 9)⟩,
           ⟨(some 32), .mov (.tmp 4)⟩,
           ⟨(some 33), .mov (.tmp 9)⟩,
           ⟨(some 34), .len 0 (.tmp 33)⟩,
           ⟨(some 35), .mxn false (.tmp 32) (.tmp 34)⟩,
           ⟨(some 36), .slcS (.tmp 31) (some (.tmp 35)) none⟩,
           ⟨(some 9), .mov (.tmp 36)⟩])
         .skip))
       (.seq
        (.seq
         (.reg [⟨(some 37), .mov (.tmp 9)⟩,
           ⟨(some 38), .call false false (.c (.fn (.func 83) [] [])) [(.tmp 37)]⟩,
           ⟨(some 39), .mov (.tmp 9)⟩,
           ⟨(some 40), .len 0 (.tmp 39)⟩,
           ⟨(some 41), .bin .lss (.tmp 38) (.tmp 40)⟩])
        (.cond (.tmp 41)
         (.seq
          (.reg [⟨(some 42), .mov (.tmp 5)⟩,
            ⟨(some 43), .mov (.tmp 8)⟩,
            ⟨(some 44), .mxn false (.tmp 42) (.tmp 43)⟩,
            ⟨(some 5), .mov (.tmp 44)⟩])
         (.reg [⟨(some 45), .mov (.tmp 8)⟩,
           ⟨(some 46), .bin .add (.tmp 45) (.c (.int .i64 1))⟩,
           ⟨(some 6), .mov (.tmp 46)⟩]))
         .skip))
       (.reg [⟨(some 47), .mov (.tmp 7)⟩,
         ⟨(some 48), .mov (.tmp 9)⟩,
         ⟨(some 49), .bsl 1 (.str []) 1 [(0, (.tmp 48))]⟩,
         ⟨(some 50), .app false 1 (16, 9) (.tmp 47) (.tmp 49)⟩,
         ⟨(some 7), .mov (.tmp 50)⟩])))))
     (.reg [⟨(some 23), .mov (.tmp 8)⟩,
       ⟨(some 24), .bin .add (.tmp 23) (.c (.int .i64 1))⟩,
       ⟨(some 8), .mov (.tmp 24)⟩])))
def af61l1 : ACode :=
  (.seq
      (.seq
       (.reg [⟨(some 52), .mov (.tmp 11)⟩,
         ⟨(some 53), .mov (.tmp 6)⟩,
         ⟨(some 54), .bin .lss (.tmp 52) (.tmp 53)⟩])
      (.cond (.tmp 54)
       .skip
       (.exit 2)))
     (.seq
      (.blk 3
       (.seq
        (.seq
         (.reg [⟨(some 57), .mov (.tmp 11)⟩,
           ⟨(some 58), .mov (.tmp 5)⟩,
           ⟨(some 59), .bin .gtr (.tmp 57) (.tmp 58)⟩])
        (.cond (.tmp 59)
         (.reg [⟨(some 60), .mov (.tmp 10)⟩,
           ⟨(some 61), .bin .add (.tmp 60) (.c (.str [10]))⟩,
           ⟨(some 10), .mov (.tmp 61)⟩])
         .skip))
       (.reg [⟨(some 62), .mov (.tmp 10)⟩,
         ⟨(some 63), .mov (.tmp 7)⟩,
         ⟨(some 64), .mov (.tmp 11)⟩,
         ⟨(some 65), .iadr 1 (.tmp 63) (.tmp 64)⟩,
         ⟨(some 66), .load none (.tmp 65)⟩,
         ⟨(some 67), .bin .add (.tmp 62) (.tmp 66)⟩,
         ⟨(some 10), .mov (.tmp 67)⟩])))
     (.reg [⟨(some 55), .mov (.tmp 11)⟩,
       ⟨(some 56), .bin .add (.tmp 55) (.c (.int .i64 1))⟩,
       ⟨(some 11), .mov (.tmp 56)⟩])))
def af61b : ACode :=
  (.seq
   (.reg [⟨(some 2), .mov (.c (.str []))⟩])
  (.seq
   (.reg [⟨(some 12), .mov (.tmp 0)⟩,
     ⟨(some 13), .call false false (.c (.fn (.func 81) [] [])) [(.tmp 12), (.c (.str [92, 34, 34, 34])), (.c (.str [34, 34, 34]))]⟩,
     ⟨(some 14), .call false false (.c (.fn (.func 80) [] [])) [(.tmp 13)]⟩,
     ⟨(some 3), .mov (.tmp 14)⟩])
  (.seq
   (.reg [⟨(some 15), .mov (.tmp 3)⟩,
     ⟨(some 16), .call false false (.c (.fn (.func 82) [] [])) [(.tmp 15)]⟩,
     ⟨(some 4), .mov (.tmp 16)⟩])
  (.seq
   (.reg [⟨(some 17), .mov (.tmp 3)⟩,
     ⟨(some 18), .len 1 (.tmp 17)⟩,
     ⟨(some 5), .mov (.tmp 18)⟩,
     ⟨(some 6), .mov (.c (.int .i64 0))⟩])
  (.seq
   (.reg [⟨(some 7), .mov (.c (.sl .nil []))⟩])
  (.seq
   (.seq
    (.reg [⟨(some 8), .mov (.c (.int .i64 0))⟩])
   (.blk 0
    (.loop false af61l0)))
  (.seq
   (.reg [⟨(some 10), .mov (.c (.str []))⟩])
  (.seq
   (.seq
    (.reg [⟨(some 51), .mov (.tmp 5)⟩,
      ⟨(some 11), .mov (.tmp 51)⟩])
   (.blk 2
    (.loop false af61l1)))
  (.seq
   (.reg [⟨(some 68), .mov (.tmp 10)⟩,
     ⟨(some 2), .mov (.tmp 68)⟩])
  .ret)))))))))
def af61 : AFunc := ⟨69, [.tmp 2], af61b, false⟩

/-- cascade/cascaderef02.sign -/
def af62l0 : ACode :=
  (.seq
      (.seq
       (.reg [⟨(some 21), .mov (.tmp 9)⟩,
         ⟨(some 22), .mov (.tmp 7)⟩,
         ⟨(some 23), .len 0 (.tmp 22)⟩,
         ⟨(some 24), .bin .lss (.tmp 21) (.tmp 23)⟩])
      (.cond (.tmp 24)
       .skip
       (.exit 0)))
     (.seq
      (.blk 1
       (.seq
        (.reg [⟨(some 27), .mov (.tmp 7)⟩,
          ⟨(some 28), .mov (.tmp 9)⟩,
          ⟨(some 29), .idx (.tmp 27) (.tmp 28)⟩,
          ⟨(some 30), .mov (.tmp 6)⟩,
          ⟨(some 31), .bin .eql (.tmp 29) (.tmp 30)⟩])
       (.cond (.tmp 31)
        (.seq
         (.reg [⟨(some 32), .mov (.tmp 8)⟩,
           ⟨(some 33), .mov (.tmp 9)⟩,
           ⟨(some 34), .idx (.tmp 32) (.tmp 33)⟩,
           ⟨(some 35), .cvI .i32 (.tmp 34)⟩,
           ⟨(some 4), .mov (.tmp 35)⟩,
           ⟨(some 5), .mov (.c (.int .i64 2))⟩])
        .ret)
        .skip)))
     (.reg [⟨(some 25), .mov (.tmp 9)⟩,
       ⟨(some 26), .bin .add (.tmp 25) (.c (.int .i64 1))⟩,
       ⟨(some 9), .mov (.tmp 26)⟩])))
def af62b : ACode :=
  (.seq
   (.reg [⟨(some 4), .mov (.c (.int .i32 0))⟩,
     ⟨(some 5), .mov (.c (.int .i64 0))⟩])
  (.seq
   (.seq
    (.reg [⟨(some 12), .mov (.tmp 1)⟩,
      ⟨(some 13), .mov (.tmp 0)⟩,
      ⟨(some 14), .len 0 (.tmp 13)⟩,
      ⟨(some 15), .bin .sub (.tmp 14) (.c (.int .i64 1))⟩,
      ⟨(some 16), .bin .geq (.tmp 12) (.tmp 15)⟩])
   (.cond (.tmp 16)
    (.seq
     (.reg [⟨(some 4), .mov (.c (.int .i32 0))⟩,
       ⟨(some 5), .mov (.c (.int .i64 0))⟩])
    .ret)
    .skip))
  (.seq
   (.reg [⟨(some 17), .mov (.tmp 0)⟩,
     ⟨(some 18), .mov (.tmp 1)⟩,
     ⟨(some 19), .bin .add (.tmp 18) (.c (.int .i64 1))⟩,
     ⟨(some 20), .idx (.tmp 17) (.tmp 19)⟩,
     ⟨(some 6), .mov (.tmp 20)⟩])
  (.seq
   (.reg [⟨(some 7), .mov (.c (.str [34, 92, 47, 98, 102, 110, 114, 116]))⟩,
     ⟨(some 8), .mov (.c (.str [34, 92, 47, 8, 12, 10, 13, 9]))⟩])
  (.seq
   (.seq
    (.reg [⟨(some 9), .mov (.c (.int .i64 0))⟩])
   (.blk 0
    (.loop false af62l0)))
  (.seq
   (.seq
    (.reg [⟨(some 36), .mov (.tmp 6)⟩,
      ⟨(some 37), .bin .neq (.tmp 36) (.c (.int .u8 117))⟩])
   (.cond (.tmp 37)
    (.seq
     (.reg [⟨(some 4), .mov (.c (.int .i32 0))⟩,
       ⟨(some 5), .mov (.c (.int .i64 0))⟩])
    .ret)
    .skip))
  (.seq
   (.reg [⟨(some 38), .mov (.tmp 0)⟩,
     ⟨(some 39), .mov (.tmp 1)⟩,
     ⟨(some 40), .bin .add (.tmp 39) (.c (.int .i64 2))⟩,
     ⟨(some 41), .call false false (.c (.fn (.func 84) [] [])) [(.tmp 38), (.tmp 40)]⟩,
     ⟨(some 10), .mov (.tmp 41)⟩])
  (.seq
   (.seq
    (.reg [⟨(some 42), .mov (.tmp 10)⟩,
      ⟨(some 43), .bin .lss (.tmp 42) (.c (.int .i64 0))⟩])
   (.cond (.tmp 43)
    (.seq
     (.reg [⟨(some 4), .mov (.c (.int .i32 0))⟩,
       ⟨(some 5), .mov (.c (.int .i64 0))⟩])
    .ret)
    .skip))
  (.seq
   (.seq
    (.reg [⟨(some 44), .mov (.tmp 10)⟩,
      ⟨(some 45), .bin .lss (.tmp 44) (.c (.int .i64 55296))⟩,
      ⟨(some 49), .sc 46 false (.tmp 45) [⟨(some 47), .mov (.tmp 10)⟩, ⟨(some 48), .bin .gtr (.tmp 47) (.c (.int .i64 57343))⟩] (.tmp 48)⟩])
   (.cond (.tmp 49)
    (.seq
     (.reg [⟨(some 50), .mov (.tmp 10)⟩,
       ⟨(some 51), .cvI .i32 (.tmp 50)⟩,
       ⟨(some 4), .mov (.tmp 51)⟩,
       ⟨(some 5), .mov (.c (.int .i64 6))⟩])
    .ret)
    .skip))
  (.seq
   (.seq
    (.reg [⟨(some 52), .mov (.tmp 10)⟩,
      ⟨(some 53), .bin .gtr (.tmp 52) (.c (.int .i64 56319))⟩,
      ⟨(some 60), .sc 54 false (.tmp 53) [⟨(some 55), .mov (.tmp 1)⟩, ⟨(some 56), .mov (.tmp 0)⟩, ⟨(some 57), .len 0 (.tmp 56)⟩, ⟨(some 58), .bin .sub (.tmp 57) (.c (.int .i64 7))⟩, ⟨(some 59), .bin .geq (.tmp 55) (.tmp 58)⟩] (.tmp 59)⟩,
      ⟨(some 67), .sc 61 false (.tmp 60) [⟨(some 62), .mov (.tmp 0)⟩, ⟨(some 63), .mov (.tmp 1)⟩, ⟨(some 64), .bin .add (.tmp 63) (.c (.int .i64 6))⟩, ⟨(some 65), .idx (.tmp 62) (.tmp 64)⟩, ⟨(some 66), .bin .neq (.tmp 65) (.c (.int .u8 92))⟩] (.tmp 66)⟩,
      ⟨(some 74), .sc 68 false (.tmp 67) [⟨(some 69), .mov (.tmp 0)⟩, ⟨(some 70), .mov (.tmp 1)⟩, ⟨(some 71), .bin .add (.tmp 70) (.c (.int .i64 7))⟩, ⟨(some 72), .idx (.tmp 69) (.tmp 71)⟩, ⟨(some 73), .bin .neq (.tmp 72) (.c (.int .u8 117))⟩] (.tmp 73)⟩])
   (.cond (.tmp 74)
    (.seq
     (.reg [⟨(some 4), .mov (.c (.int .i32 0))⟩,
       ⟨(some 5), .mov (.c (.int .i64 0))⟩])
    .ret)
    .skip))
  (.seq
   (.reg [⟨(some 75), .mov (.tmp 0)⟩,
     ⟨(some 76), .mov (.tmp 1)⟩,
     ⟨(some 77), .bin .add (.tmp 76) (.c (.int .i64 8))⟩,
     ⟨(some 78), .call false false (.c (.fn (.func 84) [] [])) [(.tmp 75), (.tmp 77)]⟩,
     ⟨(some 11), .mov (.tmp 78)⟩])
  (.seq
   (.seq
    (.reg [⟨(some 79), .mov (.tmp 11)⟩,
      ⟨(some 80), .bin .lss (.tmp 79) (.c (.int .i64 56320))⟩,
      ⟨(some 84), .sc 81 false (.tmp 80) [⟨(some 82), .mov (.tmp 11)⟩, ⟨(some 83), .bin .gtr (.tmp 82) (.c (.int .i64 57343))⟩] (.tmp 83)⟩])
   (.cond (.tmp 84)
    (.seq
     (.reg [⟨(some 4), .mov (.c (.int .i32 0))⟩,
       ⟨(some 5), .mov (.c (.int .i64 0))⟩])
    .ret)
    .skip))
  (.seq
   (.reg [⟨(some 85), .mov (.tmp 10)⟩,
     ⟨(some 86), .bin .sub (.tmp 85) (.c (.int .i64 55296))⟩,
     ⟨(some 87), .bin .mul (.tmp 86) (.c (.int .i64 1024))⟩,
     ⟨(some 88), .bin .add (.c (.int .i64 65536)) (.tmp 87)⟩,
     ⟨(some 89), .mov (.tmp 11)⟩,
     ⟨(some 90), .bin .add (.tmp 88) (.tmp 89)⟩,
     ⟨(some 91), .bin .sub (.tmp 90) (.c (.int .i64 56320))⟩,
     ⟨(some 92), .cvI .i32 (.tmp 91)⟩,
     ⟨(some 4), .mov (.tmp 92)⟩,
     ⟨(some 5), .mov (.c (.int .i64 12))⟩])
  .ret)))))))))))))
def af62 : AFunc := ⟨93, [.tmp 4, .tmp 5], af62b, false⟩

/-- cascade/cascaderef01.Rune -/
def af63b : ACode :=
  (.seq
   (.reg [⟨(some 2), .mov (.c (.str []))⟩])
  (.seq
   (.reg [⟨(some 4), .mov (.tmp 0)⟩,
     ⟨(some 5), .cvI .i64 (.tmp 4)⟩,
     ⟨(some 3), .mov (.tmp 5)⟩])
  (.seq
   (.seq
    (.reg [⟨(some 6), .mov (.tmp 3)⟩,
      ⟨(some 7), .bin .lss (.tmp 6) (.c (.int .i64 0))⟩,
      ⟨(some 11), .sc 8 false (.tmp 7) [⟨(some 9), .mov (.tmp 3)⟩, ⟨(some 10), .bin .gtr (.tmp 9) (.c (.int .i64 1114111))⟩] (.tmp 10)⟩,
      ⟨(some 19), .sc 12 false (.tmp 11) [⟨(some 13), .mov (.tmp 3)⟩, ⟨(some 14), .bin .geq (.tmp 13) (.c (.int .i64 55296))⟩, ⟨(some 18), .sc 15 true (.tmp 14) [⟨(some 16), .mov (.tmp 3)⟩, ⟨(some 17), .bin .lss (.tmp 16) (.c (.int .i64 57344))⟩] (.tmp 17)⟩] (.tmp 18)⟩])
   (.cond (.tmp 19)
    (.seq
     (.reg [⟨(some 2), .mov (.c (.str []))⟩])
    .ret)
    .skip))
  (.seq
   (.seq
    (.reg [⟨(some 20), .mov (.tmp 3)⟩,
      ⟨(some 21), .bin .lss (.tmp 20) (.c (.int .i64 128))⟩])
   (.cond (.tmp 21)
    (.seq
     (.reg [⟨(some 22), .mov (.tmp 3)⟩,
       ⟨(some 23), .cvI .u8 (.tmp 22)⟩,
       ⟨(some 24), .bsl 1 (.int .u8 0) 1 [(0, (.tmp 23))]⟩,
       ⟨(some 25), .b2s (.tmp 24)⟩,
       ⟨(some 2), .mov (.tmp 25)⟩])
    .ret)
    .skip))
  (.seq
   (.seq
    (.reg [⟨(some 26), .mov (.tmp 3)⟩,
      ⟨(some 27), .bin .lss (.tmp 26) (.c (.int .i64 2048))⟩])
   (.cond (.tmp 27)
    (.seq
     (.reg [⟨(some 28), .mov (.tmp 3)⟩,
       ⟨(some 29), .bin .quo (.tmp 28) (.c (.int .i64 64))⟩,
       ⟨(some 30), .bin .add (.c (.int .i64 192)) (.tmp 29)⟩,
       ⟨(some 31), .cvI .u8 (.tmp 30)⟩,
       ⟨(some 32), .mov (.tmp 3)⟩,
       ⟨(some 33), .bin .rem (.tmp 32) (.c (.int .i64 64))⟩,
       ⟨(some 34), .bin .add (.c (.int .i64 128)) (.tmp 33)⟩,
       ⟨(some 35), .cvI .u8 (.tmp 34)⟩,
       ⟨(some 36), .bsl 1 (.int .u8 0) 2 [(0, (.tmp 31)), (1, (.tmp 35))]⟩,
       ⟨(some 37), .b2s (.tmp 36)⟩,
       ⟨(some 2), .mov (.tmp 37)⟩])
    .ret)
    .skip))
  (.seq
   (.seq
    (.reg [⟨(some 38), .mov (.tmp 3)⟩,
      ⟨(some 39), .bin .lss (.tmp 38) (.c (.int .i64 65536))⟩])
   (.cond (.tmp 39)
    (.seq
     (.reg [⟨(some 40), .mov (.tmp 3)⟩,
       ⟨(some 41), .bin .quo (.tmp 40) (.c (.int .i64 4096))⟩,
       ⟨(some 42), .bin .add (.c (.int .i64 224)) (.tmp 41)⟩,
       ⟨(some 43), .cvI .u8 (.tmp 42)⟩,
       ⟨(some 44), .mov (.tmp 3)⟩,
       ⟨(some 45), .bin .quo (.tmp 44) (.c (.int .i64 64))⟩,
       ⟨(some 46), .bin .rem (.tmp 45) (.c (.int .i64 64))⟩,
       ⟨(some 47), .bin .add (.c (.int .i64 128)) (.tmp 46)⟩,
       ⟨(some 48), .cvI .u8 (.tmp 47)⟩,
       ⟨(some 49), .mov (.tmp 3)⟩,
       ⟨(some 50), .bin .rem (.tmp 49) (.c (.int .i64 64))⟩,
       ⟨(some 51), .bin .add (.c (.int .i64 128)) (.tmp 50)⟩,
       ⟨(some 52), .cvI .u8 (.tmp 51)⟩,
       ⟨(some 53), .bsl 1 (.int .u8 0) 3 [(0, (.tmp 43)), (1, (.tmp 48)), (2, (.tmp 52))]⟩,
       ⟨(some 54), .b2s (.tmp 53)⟩,
       ⟨(some 2), .mov (.tmp 54)⟩])
    .ret)
    .skip))
  (.seq
   (.reg [⟨(some 55), .mov (.tmp 3)⟩,
     ⟨(some 56), .bin .quo (.tmp 55) (.c (.int .i64 262144))⟩,
     ⟨(some 57), .bin .add (.c (.int .i64 240)) (.tmp 56)⟩,
     ⟨(some 58), .cvI .u8 (.tmp 57)⟩,
     ⟨(some 59), .mov (.tmp 3)⟩,
     ⟨(some 60), .bin .quo (.tmp 59) (.c (.int .i64 4096))⟩,
     ⟨(some 61), .bin .rem (.tmp 60) (.c (.int .i64 64))⟩,
     ⟨(some 62), .bin .add (.c (.int .i64 128)) (.tmp 61)⟩,
     ⟨(some 63), .cvI .u8 (.tmp 62)⟩,
     ⟨(some 64), .mov (.tmp 3)⟩,
     ⟨(some 65), .bin .quo (.tmp 64) (.c (.int .i64 64))⟩,
     ⟨(some 66), .bin .rem (.tmp 65) (.c (.int .i64 64))⟩,
     ⟨(some 67), .bin .add (.c (.int .i64 128)) (.tmp 66)⟩,
     ⟨(some 68), .cvI .u8 (.tmp 67)⟩,
     ⟨(some 69), .mov (.tmp 3)⟩,
     ⟨(some 70), .bin .rem (.tmp 69) (.c (.int .i64 64))⟩,
     ⟨(some 71), .bin .add (.c (.int .i64 128)) (.tmp 70)⟩,
     ⟨(some 72), .cvI .u8 (.tmp 71)⟩,
     ⟨(some 73), .bsl 1 (.int .u8 0) 4 [(0, (.tmp 58)), (1, (.tmp 63)), (2, (.tmp 68)), (3, (.tmp 72))]⟩,
     ⟨(some 74), .b2s (.tmp 73)⟩,
     ⟨(some 2), .mov (.tmp 74)⟩])
  .ret)))))))
def af63 : AFunc := ⟨75, [.tmp 2], af63b, false⟩

/-- cascade/text.Right -/
def af64b : ACode :=
  (.seq
   (.reg [⟨(some 2), .mov (.c (.bool false))⟩])
  (.seq
   (.reg [⟨(some 3), .mov (.tmp 0)⟩,
     ⟨(some 4), .call false false (.c (.fn (.func 15) [] [])) [(.tmp 3)]⟩,
     ⟨(some 5), .bin .lss (.tmp 4) (.c (.int .i64 0))⟩,
     ⟨(some 2), .mov (.tmp 5)⟩])
  .ret))
def af64 : AFunc := ⟨6, [.tmp 2], af64b, false⟩

/-- (*strings.Builder).WriteByte -/
def af65b : ACode :=
  (.seq
   (.reg [⟨(some 4), .mov (.c .nilI)⟩])
  (.seq
   (.reg [⟨(some 5), .mov (.tmp 0)⟩,
     ⟨(some 6), .call false false (.c (.fn (.func 68) [] [])) [(.tmp 5)]⟩])
  (.seq
   (.reg [⟨(some 7), .mov (.tmp 0)⟩,
     ⟨(some 8), .mov (.tmp 0)⟩,
     ⟨(some 9), .nilchk (.tmp 8)⟩,
     ⟨(some 10), .fadr 1 (.tmp 9)⟩,
     ⟨(some 11), .load none (.tmp 10)⟩,
     ⟨(some 12), .mov (.tmp 1)⟩,
     ⟨(some 13), .bsl 1 (.int .u8 0) 1 [(0, (.tmp 12))]⟩,
     ⟨(some 14), .app false 1 (1, 5) (.tmp 11) (.tmp 13)⟩,
     ⟨(some 15), .nilchk (.tmp 7)⟩,
     ⟨(some 16), .fadr 1 (.tmp 15)⟩,
     ⟨none, .store 1 (.tmp 16) (.tmp 14)⟩])
  (.seq
   (.reg [⟨(some 4), .mov (.c .nilI)⟩])
  .ret))))
def af65 : AFunc := ⟨17, [.tmp 4], af65b, true⟩

/-- cascade/quote.escape -/
def af66b : ACode :=
  (.seq
   (.reg [⟨(some 2), .mov (.c (.str []))⟩])
  (.seq
   (.seq
    (.reg [⟨(some 3), .mov (.tmp 0)⟩])
   (.blk 0
    (.seq
     (.reg [⟨(some 5), .bin .eql (.tmp 3) (.c (.int .i32 34))⟩,
       ⟨(some 4), .mov (.tmp 5)⟩])
    (.cond (.tmp 4)
     (.seq
      (.reg [⟨(some 2), .mov (.c (.str [92, 34]))⟩])
     .ret)
     (.seq
      (.reg [⟨(some 7), .bin .eql (.tmp 3) (.c (.int .i32 92))⟩,
        ⟨(some 6), .mov (.tmp 7)⟩])
     (.cond (.tmp 6)
      (.seq
       (.reg [⟨(some 2), .mov (.c (.str [92, 92]))⟩])
      .ret)
      (.seq
       (.reg [⟨(some 9), .bin .eql (.tmp 3) (.c (.int .i32 8))⟩,
         ⟨(some 8), .mov (.tmp 9)⟩])
      (.cond (.tmp 8)
       (.seq
        (.reg [⟨(some 2), .mov (.c (.str [92, 98]))⟩])
       .ret)
       (.seq
        (.reg [⟨(some 11), .bin .eql (.tmp 3) (.c (.int .i32 12))⟩,
          ⟨(some 10), .mov (.tmp 11)⟩])
       (.cond (.tmp 10)
        (.seq
         (.reg [⟨(some 2), .mov (.c (.str [92, 102]))⟩])
        .ret)
        (.seq
         (.reg [⟨(some 13), .bin .eql (.tmp 3) (.c (.int .i32 10))⟩,
           ⟨(some 12), .mov (.tmp 13)⟩])
        (.cond (.tmp 12)
         (.seq
          (.reg [⟨(some 2), .mov (.c (.str [92, 110]))⟩])
         .ret)
         (.seq
          (.reg [⟨(some 15), .bin .eql (.tmp 3) (.c (.int .i32 13))⟩,
            ⟨(some 14), .mov (.tmp 15)⟩])
         (.cond (.tmp 14)
          (.seq
           (.reg [⟨(some 2), .mov (.c (.str [92, 114]))⟩])
          .ret)
          (.seq
           (.reg [⟨(some 17), .bin .eql (.tmp 3) (.c (.int .i32 9))⟩,
             ⟨(some 16), .mov (.tmp 17)⟩])
          (.cond (.tmp 16)
           (.seq
            (.reg [⟨(some 2), .mov (.c (.str [92, 116]))⟩])
           .ret)
           .skip))))))))))))))))
  (.seq
   (.seq
    (.reg [⟨(some 18), .mov (.tmp 0)⟩,
      ⟨(some 19), .bin .lss (.tmp 18) (.c (.int .i32 32))⟩])
   (.cond (.tmp 19)
    (.seq
     (.regD [] [⟨(some 20), .mov (.tmp 0)⟩,
       ⟨(some 21), .bin .shr (.tmp 20) (.c (.int .u64 4))⟩,
       ⟨(some 22), .mov (.tmp 0)⟩,
       ⟨(some 23), .bin .shr (.tmp 22) (.c (.int .u64 4))⟩,
       ⟨(some 24), .bin .add (.tmp 23) (.c (.int .i32 1))⟩,
       ⟨(some 25), .slcS (.c (.str [48, 49, 50, 51, 52, 53, 54, 55, 56, 57, 97, 98, 99, 100, 101, 102])) (some (.tmp 21)) (some (.tmp 24))⟩,
       ⟨(some 26), .bin .add (.c (.str [92, 117, 48, 48])) (.tmp 25)⟩,
       ⟨(some 27), .mov (.tmp 0)⟩,
       ⟨(some 28), .bin .and (.tmp 27) (.c (.int .i32 15))⟩,
       ⟨(some 29), .mov (.tmp 0)⟩,
       ⟨(some 30), .bin .and (.tmp 29) (.c (.int .i32 15))⟩,
       ⟨(some 31), .bin .add (.tmp 30) (.c (.int .i32 1))⟩,
       ⟨(some 32), .slcS (.c (.str [48, 49, 50, 51, 52, 53, 54, 55, 56, 57, 97, 98, 99, 100, 101, 102])) (some (.tmp 28)) (some (.tmp 31))⟩,
       ⟨(some 33), .bin .add (.tmp 26) (.tmp 32)⟩,
       ⟨(some 2), .mov (.tmp 33)⟩])
    .ret)
    .skip))
  (.seq
   (.reg [⟨(some 2), .mov (.c (.str []))⟩])
  .ret))))
def af66 : AFunc := ⟨34, [.tmp 2], af66b, false⟩

/-- (*strings.Builder).WriteRune -/
def af67b : ACode :=
  (.seq
   (.reg [⟨(some 4), .mov (.c (.int .i64 0))⟩,
     ⟨(some 5), .mov (.c .nilI)⟩])
  (.seq
   (.reg [⟨(some 7), .mov (.tmp 0)⟩,
     ⟨(some 8), .call false false (.c (.fn (.func 68) [] [])) [(.tmp 7)]⟩])
  (.seq
   (.reg [⟨(some 9), .mov (.tmp 0)⟩,
     ⟨(some 10), .nilchk (.tmp 9)⟩,
     ⟨(some 11), .fadr 1 (.tmp 10)⟩,
     ⟨(some 12), .load none (.tmp 11)⟩,
     ⟨(some 13), .len 1 (.tmp 12)⟩,
     ⟨(some 6), .mov (.tmp 13)⟩])
  (.seq
   (.reg [⟨(some 14), .mov (.tmp 0)⟩,
     ⟨(some 15), .mov (.tmp 0)⟩,
     ⟨(some 16), .nilchk (.tmp 15)⟩,
     ⟨(some 17), .fadr 1 (.tmp 16)⟩,
     ⟨(some 18), .load none (.tmp 17)⟩,
     ⟨(some 19), .mov (.tmp 1)⟩,
     ⟨(some 20), .call true false (.c (.fn (.func 85) [] [])) [(.tmp 18), (.tmp 19)]⟩,
     ⟨(some 21), .nilchk (.tmp 14)⟩,
     ⟨(some 22), .fadr 1 (.tmp 21)⟩,
     ⟨none, .store 1 (.tmp 22) (.tmp 20)⟩])
  (.seq
   (.reg [⟨(some 23), .mov (.tmp 0)⟩,
     ⟨(some 24), .nilchk (.tmp 23)⟩,
     ⟨(some 25), .fadr 1 (.tmp 24)⟩,
     ⟨(some 26), .load none (.tmp 25)⟩,
     ⟨(some 27), .len 1 (.tmp 26)⟩,
     ⟨(some 28), .mov (.tmp 6)⟩,
     ⟨(some 29), .bin .sub (.tmp 27) (.tmp 28)⟩,
     ⟨(some 4), .mov (.tmp 29)⟩,
     ⟨(some 5), .mov (.c .nilI)⟩])
  .ret)))))
def af67 : AFunc := ⟨30, [.tmp 4, .tmp 5], af67b, true⟩

/-- (*strings.Builder).copyCheck -/
def af68b : ACode :=
  (.seq
   (.reg [⟨(some 2), .mov (.tmp 0)⟩,
     ⟨(some 3), .nilchk (.tmp 2)⟩,
     ⟨(some 4), .fadr 0 (.tmp 3)⟩,
     ⟨(some 5), .load none (.tmp 4)⟩,
     ⟨(some 6), .eqp false (.tmp 5) (.c .pnil)⟩])
  (.cond (.tmp 6)
   (.reg [⟨(some 7), .mov (.tmp 0)⟩,
     ⟨(some 8), .mov (.tmp 0)⟩,
     ⟨(some 9), .pu (.tmp 8)⟩,
     ⟨(some 10), .call false false (.c (.fn (.func 86) [] [])) [(.tmp 9)]⟩,
     ⟨(some 11), .up 69 2 (.tmp 10)⟩,
     ⟨(some 12), .nilchk (.tmp 7)⟩,
     ⟨(some 13), .fadr 0 (.tmp 12)⟩,
     ⟨none, .store 1 (.tmp 13) (.tmp 11)⟩])
   (.seq
    (.reg [⟨(some 14), .mov (.tmp 0)⟩,
      ⟨(some 15), .nilchk (.tmp 14)⟩,
      ⟨(some 16), .fadr 0 (.tmp 15)⟩,
      ⟨(some 17), .load none (.tmp 16)⟩,
      ⟨(some 18), .mov (.tmp 0)⟩,
      ⟨(some 19), .eqp true (.tmp 17) (.tmp 18)⟩])
   (.cond (.tmp 19)
    .halt
    .skip))))
def af68 : AFunc := ⟨20, [], af68b, true⟩

/-- strings.IndexFunc -/
def af74b : ACode :=
  (.seq
   (.reg [⟨(some 4), .mov (.c (.int .i64 0))⟩])
  (.seq
   (.reg [⟨(some 5), .mov (.tmp 0)⟩,
     ⟨(some 6), .mov (.tmp 1)⟩,
     ⟨(some 7), .call false false (.c (.fn (.func 94) [] [])) [(.tmp 5), (.tmp 6), (.c (.bool true))]⟩,
     ⟨(some 4), .mov (.tmp 7)⟩])
  .ret))
def af74 : AFunc := ⟨8, [.tmp 4], af74b, false⟩

/-- cascade/text.Lines -/
def af75l0 : ACode :=
  (.blk 1
     (.seq
      (.reg [⟨(some 6), .mov (.tmp 0)⟩,
        ⟨(some 7), .call false false (.c (.fn (.func 26) [] [])) [(.tmp 6), (.c (.int .u8 10))]⟩,
        ⟨(some 4), .mov (.tmp 7)⟩])
     (.seq
      (.seq
       (.reg [⟨(some 8), .mov (.tmp 0)⟩,
         ⟨(some 9), .call false false (.c (.fn (.func 26) [] [])) [(.tmp 8), (.c (.int .u8 13))]⟩,
         ⟨(some 5), .mov (.tmp 9)⟩])
      (.seq
       (.reg [⟨(some 10), .mov (.tmp 5)⟩,
         ⟨(some 11), .bin .geq (.tmp 10) (.c (.int .i64 0))⟩,
         ⟨(some 20), .sc 12 true (.tmp 11) [⟨(some 13), .mov (.tmp 4)⟩, ⟨(some 14), .bin .lss (.tmp 13) (.c (.int .i64 0))⟩, ⟨(some 19), .sc 15 false (.tmp 14) [⟨(some 16), .mov (.tmp 5)⟩, ⟨(some 17), .mov (.tmp 4)⟩, ⟨(some 18), .bin .lss (.tmp 16) (.tmp 17)⟩] (.tmp 18)⟩] (.tmp 19)⟩])
      (.cond (.tmp 20)
       (.reg [⟨(some 21), .mov (.tmp 5)⟩,
         ⟨(some 4), .mov (.tmp 21)⟩])
       .skip)))
     (.seq
      (.seq
       (.reg [⟨(some 22), .mov (.tmp 4)⟩,
         ⟨(some 23), .bin .lss (.tmp 22) (.c (.int .i64 0))⟩])
      (.cond (.tmp 23)
       (.seq
        (.reg [⟨(some 24), .mov (.tmp 3)⟩,
          ⟨(some 25), .mov (.tmp 0)⟩,
          ⟨(some 26), .bsl 1 (.str []) 1 [(0, (.tmp 25))]⟩,
          ⟨(some 27), .appm 1 (16, 9) (.tmp 24) (.tmp 26)⟩,
          ⟨(some 2), .mov (.tmp 27)⟩])
       .ret)
       .skip))
     (.seq
      (.reg [⟨(some 28), .mov (.tmp 3)⟩,
        ⟨(some 29), .mov (.tmp 0)⟩,
        ⟨(some 30), .mov (.tmp 4)⟩,
        ⟨(some 31), .slcS (.tmp 29) none (some (.tmp 30))⟩,
        ⟨(some 32), .bsl 1 (.str []) 1 [(0, (.tmp 31))]⟩,
        ⟨(some 33), .appm 1 (16, 9) (.tmp 28) (.tmp 32)⟩,
        ⟨(some 3), .mov (.tmp 33)⟩])
     (.seq
      (.seq
       (.reg [⟨(some 34), .mov (.tmp 0)⟩,
         ⟨(some 35), .mov (.tmp 4)⟩,
         ⟨(some 36), .slcS (.tmp 34) (some (.tmp 35)) none⟩,
         ⟨(some 37), .call false false (.c (.fn (.func 31) [] [])) [(.tmp 36), (.c (.str [13, 10]))]⟩])
      (.cond (.tmp 37)
       (.reg [⟨(some 38), .mov (.tmp 4)⟩,
         ⟨(some 39), .bin .add (.tmp 38) (.c (.int .i64 1))⟩,
         ⟨(some 4), .mov (.tmp 39)⟩])
       .skip))
     (.reg [⟨(some 40), .mov (.tmp 0)⟩,
       ⟨(some 41), .mov (.tmp 4)⟩,
       ⟨(some 42), .bin .add (.tmp 41) (.c (.int .i64 1))⟩,
       ⟨(some 43), .slcS (.tmp 40) (some (.tmp 42)) none⟩,
       ⟨(some 0), .mov (.tmp 43)⟩])))))))
def af75b : ACode :=
  (.seq
   (.reg [⟨(some 2), .mov (.c (.sl .nil []))⟩])
  (.seq
   (.reg [⟨(some 3), .mov (.c (.sl .nil []))⟩])
  (.blk 0
   (.loop false af75l0))))
def af75 : AFunc := ⟨44, [.tmp 2], af75b, false⟩

/-- cascade/block.Indent -/
def af77l0 : ACode :=
  (.seq
      (.reg [⟨(some 12), .bin .lss (.tmp 11) (.tmp 10)⟩])
     (.seq
      (.cond (.tmp 12)
       .skip
       (.exit 0))
     (.seq
      (.blk 1
       (.seq
        (.reg [⟨(some 13), .mov (.tmp 11)⟩,
          ⟨(some 14), .iadr 1 (.tmp 9) (.tmp 11)⟩,
          ⟨(some 15), .load none (.tmp 14)⟩,
          ⟨(some 5), .mov (.tmp 13)⟩,
          ⟨(some 6), .mov (.tmp 15)⟩])
       (.seq
        (.reg [⟨(some 17), .mov (.tmp 6)⟩,
          ⟨(some 18), .call false false (.c (.fn (.func 96) [] [])) [(.tmp 17)]⟩,
          ⟨(some 16), .mov (.tmp 18)⟩,
          ⟨(some 19), .ext (.tmp 16) 0⟩,
          ⟨(some 20), .ext (.tmp 16) 1⟩,
          ⟨(some 7), .mov (.tmp 19)⟩,
          ⟨(some 8), .mov (.tmp 20)⟩])
       (.seq
        (.seq
         (.reg [⟨(some 21), .mov (.tmp 5)⟩,
           ⟨(some 22), .bin .eql (.tmp 21) (.c (.int .i64 0))⟩,
           ⟨(some 26), .sc 23 false (.tmp 22) [⟨(some 24), .mov (.tmp 8)⟩, ⟨(some 25), .un .not (.tmp 24)⟩] (.tmp 25)⟩])
        (.cond (.tmp 26)
         (.exit 1)
         .skip))
       (.seq
        (.seq
         (.reg [⟨(some 27), .mov (.tmp 4)⟩,
           ⟨(some 28), .un .not (.tmp 27)⟩,
           ⟨(some 33), .sc 29 false (.tmp 28) [⟨(some 30), .mov (.tmp 7)⟩, ⟨(some 31), .mov (.tmp 3)⟩, ⟨(some 32), .bin .lss (.tmp 30) (.tmp 31)⟩] (.tmp 32)⟩])
        (.cond (.tmp 33)
         (.reg [⟨(some 34), .mov (.tmp 7)⟩,
           ⟨(some 3), .mov (.tmp 34)⟩])
         .skip))
       (.reg [⟨(some 4), .mov (.c (.bool true))⟩]))))))
     (.reg [⟨(some 35), .bin .add (.tmp 11) (.c (.int .i64 1))⟩,
       ⟨(some 11), .mov (.tmp 35)⟩]))))
def af77b : ACode :=
  (.seq
   (.reg [⟨(some 2), .mov (.c (.int .i64 0))⟩])
  (.seq
   (.reg [⟨(some 3), .mov (.c (.int .i64 0))⟩,
     ⟨(some 4), .mov (.c (.bool false))⟩])
  (.seq
   (.seq
    (.reg [⟨(some 9), .mov (.tmp 0)⟩,
      ⟨(some 10), .len 1 (.tmp 9)⟩,
      ⟨(some 11), .mov (.c (.int .i64 0))⟩])
   (.blk 0
    (.loop false af77l0)))
  (.seq
   (.reg [⟨(some 36), .mov (.tmp 3)⟩,
     ⟨(some 2), .mov (.tmp 36)⟩])
  .ret))))
def af77 : AFunc := ⟨37, [.tmp 2], af77b, false⟩

/-- cascade/block.empty -/
def af78b : ACode :=
  (.seq
   (.reg [⟨(some 2), .mov (.c (.bool false))⟩])
  (.seq
   (.reg [⟨(some 6), .mov (.tmp 0)⟩,
     ⟨(some 7), .call false false (.c (.fn (.func 96) [] [])) [(.tmp 6)]⟩,
     ⟨(some 5), .mov (.tmp 7)⟩,
     ⟨(some 8), .ext (.tmp 5) 0⟩,
     ⟨(some 9), .ext (.tmp 5) 1⟩,
     ⟨(some 3), .mov (.tmp 8)⟩,
     ⟨(some 4), .mov (.tmp 9)⟩])
  (.seq
   (.reg [⟨(some 10), .mov (.tmp 4)⟩,
     ⟨(some 11), .un .not (.tmp 10)⟩,
     ⟨(some 2), .mov (.tmp 11)⟩])
  .ret)))
def af78 : AFunc := ⟨12, [.tmp 2], af78b, false⟩

/-- cascade/quote.escaped -/
def af79b : ACode :=
  (.seq
   (.reg [⟨(some 2), .mov (.c (.int .i32 0))⟩,
     ⟨(some 3), .mov (.c (.int .i64 0))⟩])
  (.seq
   (.seq
    (.reg [⟨(some 8), .mov (.tmp 0)⟩,
      ⟨(some 9), .len 0 (.tmp 8)⟩,
      ⟨(some 10), .bin .gtr (.tmp 9) (.c (.int .i64 1))⟩])
   (.cond (.tmp 10)
    (.seq
     (.reg [⟨(some 12), .mov (.tmp 0)⟩,
       ⟨(some 13), .idx (.tmp 12) (.c (.int .i64 1))⟩,
       ⟨(some 14), .call false false (.c (.fn (.func 97) [] [])) [(.tmp 13)]⟩,
       ⟨(some 11), .mov (.tmp 14)⟩,
       ⟨(some 15), .ext (.tmp 11) 0⟩,
       ⟨(some 16), .ext (.tmp 11) 1⟩,
       ⟨(some 4), .mov (.tmp 15)⟩,
       ⟨(some 5), .mov (.tmp 16)⟩])
    (.seq
     (.reg [⟨(some 17), .mov (.tmp 5)⟩])
    (.cond (.tmp 17)
     (.seq
      (.reg [⟨(some 18), .mov (.tmp 4)⟩,
        ⟨(some 2), .mov (.tmp 18)⟩,
        ⟨(some 3), .mov (.c (.int .i64 2))⟩])
     .ret)
     .skip)))
    .skip))
  (.seq
   (.reg [⟨(some 19), .mov (.tmp 0)⟩,
     ⟨(some 20), .call false false (.c (.fn (.func 98) [] [])) [(.tmp 19)]⟩,
     ⟨(some 6), .mov (.tmp 20)⟩])
  (.seq
   (.blk 0
    (.seq
     (.reg [⟨(some 22), .mov (.tmp 6)⟩,
       ⟨(some 23), .bin .lss (.tmp 22) (.c (.int .i32 0))⟩,
       ⟨(some 31), .sc 24 false (.tmp 23) [⟨(some 25), .mov (.tmp 6)⟩, ⟨(some 26), .bin .geq (.tmp 25) (.c (.int .i32 56320))⟩, ⟨(some 30), .sc 27 true (.tmp 26) [⟨(some 28), .mov (.tmp 6)⟩, ⟨(some 29), .bin .leq (.tmp 28) (.c (.int .i32 57343))⟩] (.tmp 29)⟩] (.tmp 30)⟩,
       ⟨(some 21), .mov (.tmp 31)⟩])
    (.cond (.tmp 21)
     (.seq
      (.reg [⟨(some 2), .mov (.c (.int .i32 0))⟩,
        ⟨(some 3), .mov (.c (.int .i64 0))⟩])
     .ret)
     (.seq
      (.reg [⟨(some 33), .mov (.tmp 6)⟩,
        ⟨(some 34), .bin .lss (.tmp 33) (.c (.int .i32 55296))⟩,
        ⟨(some 38), .sc 35 false (.tmp 34) [⟨(some 36), .mov (.tmp 6)⟩, ⟨(some 37), .bin .gtr (.tmp 36) (.c (.int .i32 57343))⟩] (.tmp 37)⟩,
        ⟨(some 32), .mov (.tmp 38)⟩])
     (.cond (.tmp 32)
      (.seq
       (.reg [⟨(some 39), .mov (.tmp 6)⟩,
         ⟨(some 2), .mov (.tmp 39)⟩,
         ⟨(some 3), .mov (.c (.int .i64 6))⟩])
      .ret)
      .skip)))))
  (.seq
   (.reg [⟨(some 40), .mov (.tmp 0)⟩,
     ⟨(some 41), .slcS (.tmp 40) (some (.c (.int .i64 6))) none⟩,
     ⟨(some 42), .call false false (.c (.fn (.func 98) [] [])) [(.tmp 41)]⟩,
     ⟨(some 7), .mov (.tmp 42)⟩])
  (.seq
   (.seq
    (.reg [⟨(some 43), .mov (.tmp 7)⟩,
      ⟨(some 44), .bin .lss (.tmp 43) (.c (.int .i32 56320))⟩,
      ⟨(some 48), .sc 45 false (.tmp 44) [⟨(some 46), .mov (.tmp 7)⟩, ⟨(some 47), .bin .gtr (.tmp 46) (.c (.int .i32 57343))⟩] (.tmp 47)⟩])
   (.cond (.tmp 48)
    (.seq
     (.reg [⟨(some 2), .mov (.c (.int .i32 0))⟩,
       ⟨(some 3), .mov (.c (.int .i64 0))⟩])
    .ret)
    .skip))
  (.seq
   (.reg [⟨(some 49), .mov (.tmp 6)⟩,
     ⟨(some 50), .bin .sub (.tmp 49) (.c (.int .i32 55296))⟩,
     ⟨(some 51), .bin .shl (.tmp 50) (.c (.int .u64 10))⟩,
     ⟨(some 52), .bin .add (.c (.int .i32 65536)) (.tmp 51)⟩,
     ⟨(some 53), .mov (.tmp 7)⟩,
     ⟨(some 54), .bin .add (.tmp 52) (.tmp 53)⟩,
     ⟨(some 55), .bin .sub (.tmp 54) (.c (.int .i32 56320))⟩,
     ⟨(some 2), .mov (.tmp 55)⟩,
     ⟨(some 3), .mov (.c (.int .i64 12))⟩])
  .ret)))))))
def af79 : AFunc := ⟨56, [.tmp 2, .tmp 3], af79b, false⟩

/-- cascade/cascaderef01.Lines -/
def af80l0 : ACode :=
  (.seq
      (.seq
       (.reg [⟨(some 6), .mov (.tmp 5)⟩,
         ⟨(some 7), .mov (.tmp 0)⟩,
         ⟨(some 8), .len 0 (.tmp 7)⟩,
         ⟨(some 9), .bin .lss (.tmp 6) (.tmp 8)⟩])
      (.cond (.tmp 9)
       .skip
       (.exit 0)))
     (.seq
      (.blk 1
       (.seq
        (.seq
         (.reg [⟨(some 12), .mov (.tmp 0)⟩,
           ⟨(some 13), .mov (.tmp 5)⟩,
           ⟨(some 14), .idx (.tmp 12) (.tmp 13)⟩,
           ⟨(some 15), .bin .neq (.tmp 14) (.c (.int .u8 10))⟩,
           ⟨(some 21), .sc 16 true (.tmp 15) [⟨(some 17), .mov (.tmp 0)⟩, ⟨(some 18), .mov (.tmp 5)⟩, ⟨(some 19), .idx (.tmp 17) (.tmp 18)⟩, ⟨(some 20), .bin .neq (.tmp 19) (.c (.int .u8 13))⟩] (.tmp 20)⟩])
        (.cond (.tmp 21)
         (.exit 1)
         .skip))
       (.seq
        (.reg [⟨(some 22), .mov (.tmp 3)⟩,
          ⟨(some 23), .mov (.tmp 0)⟩,
          ⟨(some 24), .mov (.tmp 4)⟩,
          ⟨(some 25), .mov (.tmp 5)⟩,
          ⟨(some 26), .slcS (.tmp 23) (some (.tmp 24)) (some (.tmp 25))⟩,
          ⟨(some 27), .bsl 1 (.str []) 1 [(0, (.tmp 26))]⟩,
          ⟨(some 28), .app false 1 (16, 9) (.tmp 22) (.tmp 27)⟩,
          ⟨(some 3), .mov (.tmp 28)⟩])
       (.seq
        (.seq
         (.reg [⟨(some 29), .mov (.tmp 0)⟩,
           ⟨(some 30), .mov (.tmp 5)⟩,
           ⟨(some 31), .idx (.tmp 29) (.tmp 30)⟩,
           ⟨(some 32), .bin .eql (.tmp 31) (.c (.int .u8 13))⟩,
           ⟨(some 39), .sc 33 true (.tmp 32) [⟨(some 34), .mov (.tmp 5)⟩, ⟨(some 35), .mov (.tmp 0)⟩, ⟨(some 36), .len 0 (.tmp 35)⟩, ⟨(some 37), .bin .sub (.tmp 36) (.c (.int .i64 1))⟩, ⟨(some 38), .bin .lss (.tmp 34) (.tmp 37)⟩] (.tmp 38)⟩,
           ⟨(some 46), .sc 40 true (.tmp 39) [⟨(some 41), .mov (.tmp 0)⟩, ⟨(some 42), .mov (.tmp 5)⟩, ⟨(some 43), .bin .add (.tmp 42) (.c (.int .i64 1))⟩, ⟨(some 44), .idx (.tmp 41) (.tmp 43)⟩, ⟨(some 45), .bin .eql (.tmp 44) (.c (.int .u8 10))⟩] (.tmp 45)⟩])
        (.cond (.tmp 46)
         (.reg [⟨(some 47), .mov (.tmp 5)⟩,
           ⟨(some 48), .bin .add (.tmp 47) (.c (.int .i64 1))⟩,
           ⟨(some 5), .mov (.tmp 48)⟩])
         .skip))
       (.reg [⟨(some 49), .mov (.tmp 5)⟩,
         ⟨(some 50), .bin .add (.tmp 49) (.c (.int .i64 1))⟩,
         ⟨(some 4), .mov (.tmp 50)⟩])))))
     (.reg [⟨(some 10), .mov (.tmp 5)⟩,
       ⟨(some 11), .bin .add (.tmp 10) (.c (.int .i64 1))⟩,
       ⟨(some 5), .mov (.tmp 11)⟩])))
def af80b : ACode :=
  (.seq
   (.reg [⟨(some 2), .mov (.c (.sl .nil []))⟩])
  (.seq
   (.reg [⟨(some 3), .mov (.c (.sl .nil []))⟩])
  (.seq
   (.reg [⟨(some 4), .mov (.c (.int .i64 0))⟩])
  (.seq
   (.seq
    (.reg [⟨(some 5), .mov (.c (.int .i64 0))⟩])
   (.blk 0
    (.loop false af80l0)))
  (.seq
   (.reg [⟨(some 51), .mov (.tmp 3)⟩,
     ⟨(some 52), .mov (.tmp 0)⟩,
     ⟨(some 53), .mov (.tmp 4)⟩,
     ⟨(some 54), .slcS (.tmp 52) (some (.tmp 53)) none⟩,
     ⟨(some 55), .bsl 1 (.str []) 1 [(0, (.tmp 54))]⟩,
     ⟨(some 56), .app false 1 (16, 9) (.tmp 51) (.tmp 55)⟩,
     ⟨(some 2), .mov (.tmp 56)⟩])
  .ret)))))
def af80 : AFunc := ⟨57, [.tmp 2], af80b, false⟩

/-- cascade/cascaderef07.turned -/
def af81l0 : ACode :=
  (.seq
      (.seq
       (.reg [⟨(some 9), .mov (.tmp 8)⟩,
         ⟨(some 10), .mov (.tmp 0)⟩,
         ⟨(some 11), .len 0 (.tmp 10)⟩,
         ⟨(some 12), .bin .lss (.tmp 9) (.tmp 11)⟩])
      (.cond (.tmp 12)
       .skip
       (.exit 0)))
     (.blk 1
      (.seq
       (.reg [⟨(some 13), .mov (.tmp 0)⟩,
         ⟨(some 14), .len 0 (.tmp 13)⟩,
         ⟨(some 15), .mov (.tmp 8)⟩,
         ⟨(some 16), .bin .sub (.tmp 14) (.tmp 15)⟩,
         ⟨(some 17), .mov (.tmp 1)⟩,
         ⟨(some 18), .len 0 (.tmp 17)⟩,
         ⟨(some 19), .bin .geq (.tmp 16) (.tmp 18)⟩,
         ⟨(some 30), .sc 20 true (.tmp 19) [⟨(some 21), .mov (.tmp 0)⟩, ⟨(some 22), .mov (.tmp 8)⟩, ⟨(some 23), .mov (.tmp 8)⟩, ⟨(some 24), .mov (.tmp 1)⟩, ⟨(some 25), .len 0 (.tmp 24)⟩, ⟨(some 26), .bin .add (.tmp 23) (.tmp 25)⟩, ⟨(some 27), .slcS (.tmp 21) (some (.tmp 22)) (some (.tmp 26))⟩, ⟨(some 28), .mov (.tmp 1)⟩, ⟨(some 29), .bin .eql (.tmp 27) (.tmp 28)⟩] (.tmp 29)⟩])
      (.cond (.tmp 30)
       (.seq
        (.reg [⟨(some 31), .mov (.tmp 7)⟩,
          ⟨(some 32), .mov (.tmp 2)⟩,
          ⟨(some 33), .bin .add (.tmp 31) (.tmp 32)⟩,
          ⟨(some 7), .mov (.tmp 33)⟩])
       (.reg [⟨(some 34), .mov (.tmp 8)⟩,
         ⟨(some 35), .mov (.tmp 1)⟩,
         ⟨(some 36), .len 0 (.tmp 35)⟩,
         ⟨(some 37), .bin .add (.tmp 34) (.tmp 36)⟩,
         ⟨(some 8), .mov (.tmp 37)⟩]))
       (.seq
        (.reg [⟨(some 38), .mov (.tmp 7)⟩,
          ⟨(some 39), .mov (.tmp 0)⟩,
          ⟨(some 40), .mov (.tmp 8)⟩,
          ⟨(some 41), .mov (.tmp 8)⟩,
          ⟨(some 42), .bin .add (.tmp 41) (.c (.int .i64 1))⟩,
          ⟨(some 43), .slcS (.tmp 39) (some (.tmp 40)) (some (.tmp 42))⟩,
          ⟨(some 44), .bin .add (.tmp 38) (.tmp 43)⟩,
          ⟨(some 7), .mov (.tmp 44)⟩])
       (.reg [⟨(some 45), .mov (.tmp 8)⟩,
         ⟨(some 46), .bin .add (.tmp 45) (.c (.int .i64 1))⟩,
         ⟨(some 8), .mov (.tmp 46)⟩]))))))
def af81b : ACode :=
  (.seq
   (.reg [⟨(some 6), .mov (.c (.str []))⟩])
  (.seq
   (.reg [⟨(some 7), .mov (.c (.str []))⟩])
  (.seq
   (.seq
    (.reg [⟨(some 8), .mov (.c (.int .i64 0))⟩])
   (.blk 0
    (.loop false af81l0)))
  (.seq
   (.reg [⟨(some 47), .mov (.tmp 7)⟩,
     ⟨(some 6), .mov (.tmp 47)⟩])
  .ret))))
def af81 : AFunc := ⟨48, [.tmp 6], af81b, false⟩

/-- cascade/cascaderef07.Indent -/
def af82l0 : ACode :=
  (.seq
      (.seq
       (.reg [⟨(some 6), .mov (.tmp 4)⟩,
         ⟨(some 7), .mov (.tmp 0)⟩,
         ⟨(some 8), .len 1 (.tmp 7)⟩,
         ⟨(some 9), .bin .lss (.tmp 6) (.tmp 8)⟩])
      (.cond (.tmp 9)
       .skip
       (.exit 0)))
     (.seq
      (.blk 1
       (.seq
        (.reg [⟨(some 12), .mov (.tmp 0)⟩,
          ⟨(some 13), .mov (.tmp 4)⟩,
          ⟨(some 14), .iadr 1 (.tmp 12) (.tmp 13)⟩,
          ⟨(some 15), .load none (.tmp 14)⟩,
          ⟨(some 16), .call false false (.c (.fn (.func 83) [] [])) [(.tmp 15)]⟩,
          ⟨(some 5), .mov (.tmp 16)⟩])
       (.seq
        (.reg [⟨(some 17), .mov (.tmp 5)⟩,
          ⟨(some 18), .mov (.tmp 0)⟩,
          ⟨(some 19), .mov (.tmp 4)⟩,
          ⟨(some 20), .iadr 1 (.tmp 18) (.tmp 19)⟩,
          ⟨(some 21), .load none (.tmp 20)⟩,
          ⟨(some 22), .len 0 (.tmp 21)⟩,
          ⟨(some 23), .bin .lss (.tmp 17) (.tmp 22)⟩,
          ⟨(some 32), .sc 24 true (.tmp 23) [⟨(some 25), .mov (.tmp 3)⟩, ⟨(some 26), .bin .lss (.tmp 25) (.c (.int .i64 0))⟩, ⟨(some 31), .sc 27 false (.tmp 26) [⟨(some 28), .mov (.tmp 5)⟩, ⟨(some 29), .mov (.tmp 3)⟩, ⟨(some 30), .bin .lss (.tmp 28) (.tmp 29)⟩] (.tmp 30)⟩] (.tmp 31)⟩])
       (.cond (.tmp 32)
        (.reg [⟨(some 33), .mov (.tmp 5)⟩,
          ⟨(some 3), .mov (.tmp 33)⟩])
        .skip))))
     (.reg [⟨(some 10), .mov (.tmp 4)⟩,
       ⟨(some 11), .bin .add (.tmp 10) (.c (.int .i64 1))⟩,
       ⟨(some 4), .mov (.tmp 11)⟩])))
def af82b : ACode :=
  (.seq
   (.reg [⟨(some 2), .mov (.c (.int .i64 0))⟩])
  (.seq
   (.reg [⟨(some 3), .mov (.c (.int .i64 (-1)))⟩])
  (.seq
   (.seq
    (.reg [⟨(some 4), .mov (.c (.int .i64 1))⟩])
   (.blk 0
    (.loop false af82l0)))
  (.seq
   (.reg [⟨(some 34), .mov (.tmp 3)⟩,
     ⟨(some 35), .mxn true (.tmp 34) (.c (.int .i64 0))⟩,
     ⟨(some 2), .mov (.tmp 35)⟩])
  .ret))))
def af82 : AFunc := ⟨36, [.tmp 2], af82b, false⟩

/-- cascade/cascaderef07.first -/
def af83l0 : ACode :=
  (.seq
      (.seq
       (.reg [⟨(some 4), .mov (.tmp 3)⟩,
         ⟨(some 5), .mov (.tmp 0)⟩,
         ⟨(some 6), .len 0 (.tmp 5)⟩,
         ⟨(some 7), .bin .lss (.tmp 4) (.tmp 6)⟩])
      (.cond (.tmp 7)
       .skip
       (.exit 0)))
     (.seq
      (.blk 1
       (.seq
        (.reg [⟨(some 10), .mov (.tmp 0)⟩,
          ⟨(some 11), .mov (.tmp 3)⟩,
          ⟨(some 12), .idx (.tmp 10) (.tmp 11)⟩,
          ⟨(some 13), .bin .neq (.tmp 12) (.c (.int .u8 32))⟩,
          ⟨(some 19), .sc 14 true (.tmp 13) [⟨(some 15), .mov (.tmp 0)⟩, ⟨(some 16), .mov (.tmp 3)⟩, ⟨(some 17), .idx (.tmp 15) (.tmp 16)⟩, ⟨(some 18), .bin .neq (.tmp 17) (.c (.int .u8 9))⟩] (.tmp 18)⟩])
       (.cond (.tmp 19)
        (.seq
         (.reg [⟨(some 20), .mov (.tmp 3)⟩,
           ⟨(some 2), .mov (.tmp 20)⟩])
        .ret)
        .skip)))
     (.reg [⟨(some 8), .mov (.tmp 3)⟩,
       ⟨(some 9), .bin .add (.tmp 8) (.c (.int .i64 1))⟩,
       ⟨(some 3), .mov (.tmp 9)⟩])))
def af83b : ACode :=
  (.seq
   (.reg [⟨(some 2), .mov (.c (.int .i64 0))⟩])
  (.seq
   (.seq
    (.reg [⟨(some 3), .mov (.c (.int .i64 0))⟩])
   (.blk 0
    (.loop false af83l0)))
  (.seq
   (.reg [⟨(some 21), .mov (.tmp 0)⟩,
     ⟨(some 22), .len 0 (.tmp 21)⟩,
     ⟨(some 2), .mov (.tmp 22)⟩])
  .ret)))
def af83 : AFunc := ⟨23, [.tmp 2], af83b, false⟩

/-- cascade/cascaderef02.four -/
def af84l0 : ACode :=
  (.seq
      (.seq
       (.reg [⟨(some 15), .mov (.tmp 6)⟩,
         ⟨(some 16), .mov (.tmp 1)⟩,
         ⟨(some 17), .bin .add (.tmp 16) (.c (.int .i64 4))⟩,
         ⟨(some 18), .bin .lss (.tmp 15) (.tmp 17)⟩])
      (.cond (.tmp 18)
       .skip
       (.exit 0)))
     (.seq
      (.blk 1
       (.seq
        (.reg [⟨(some 21), .mov (.tmp 0)⟩,
          ⟨(some 22), .mov (.tmp 6)⟩,
          ⟨(some 23), .idx (.tmp 21) (.tmp 22)⟩,
          ⟨(some 24), .cvI .i64 (.tmp 23)⟩,
          ⟨(some 7), .mov (.tmp 24)⟩])
       (.seq
        (.reg [⟨(some 8), .mov (.c (.int .i64 (-1)))⟩])
       (.seq
        (.seq
         (.reg [⟨(some 25), .mov (.tmp 7)⟩,
           ⟨(some 26), .bin .geq (.tmp 25) (.c (.int .i64 48))⟩,
           ⟨(some 30), .sc 27 true (.tmp 26) [⟨(some 28), .mov (.tmp 7)⟩, ⟨(some 29), .bin .leq (.tmp 28) (.c (.int .i64 57))⟩] (.tmp 29)⟩])
        (.cond (.tmp 30)
         (.reg [⟨(some 31), .mov (.tmp 7)⟩,
           ⟨(some 32), .bin .sub (.tmp 31) (.c (.int .i64 48))⟩,
           ⟨(some 8), .mov (.tmp 32)⟩])
         .skip))
       (.seq
        (.seq
         (.reg [⟨(some 33), .mov (.tmp 7)⟩,
           ⟨(some 34), .bin .geq (.tmp 33) (.c (.int .i64 97))⟩,
           ⟨(some 38), .sc 35 true (.tmp 34) [⟨(some 36), .mov (.tmp 7)⟩, ⟨(some 37), .bin .leq (.tmp 36) (.c (.int .i64 102))⟩] (.tmp 37)⟩])
        (.cond (.tmp 38)
         (.reg [⟨(some 39), .mov (.tmp 7)⟩,
           ⟨(some 40), .bin .sub (.tmp 39) (.c (.int .i64 87))⟩,
           ⟨(some 8), .mov (.tmp 40)⟩])
         .skip))
       (.seq
        (.seq
         (.reg [⟨(some 41), .mov (.tmp 7)⟩,
           ⟨(some 42), .bin .geq (.tmp 41) (.c (.int .i64 65))⟩,
           ⟨(some 46), .sc 43 true (.tmp 42) [⟨(some 44), .mov (.tmp 7)⟩, ⟨(some 45), .bin .leq (.tmp 44) (.c (.int .i64 70))⟩] (.tmp 45)⟩])
        (.cond (.tmp 46)
         (.reg [⟨(some 47), .mov (.tmp 7)⟩,
           ⟨(some 48), .bin .sub (.tmp 47) (.c (.int .i64 55))⟩,
           ⟨(some 8), .mov (.tmp 48)⟩])
         .skip))
       (.seq
        (.seq
         (.reg [⟨(some 49), .mov (.tmp 8)⟩,
           ⟨(some 50), .bin .lss (.tmp 49) (.c (.int .i64 0))⟩])
        (.cond (.tmp 50)
         (.seq
          (.reg [⟨(some 4), .mov (.c (.int .i64 (-1)))⟩])
         .ret)
         .skip))
       (.reg [⟨(some 51), .mov (.tmp 5)⟩,
         ⟨(some 52), .bin .mul (.tmp 51) (.c (.int .i64 16))⟩,
         ⟨(some 53), .mov (.tmp 8)⟩,
         ⟨(some 54), .bin .add (.tmp 52) (.tmp 53)⟩,
         ⟨(some 5), .mov (.tmp 54)⟩]))))))))
     (.reg [⟨(some 19), .mov (.tmp 6)⟩,
       ⟨(some 20), .bin .add (.tmp 19) (.c (.int .i64 1))⟩,
       ⟨(some 6), .mov (.tmp 20)⟩])))
def af84b : ACode :=
  (.seq
   (.reg [⟨(some 4), .mov (.c (.int .i64 0))⟩])
  (.seq
   (.seq
    (.reg [⟨(some 9), .mov (.tmp 1)⟩,
      ⟨(some 10), .mov (.tmp 0)⟩,
      ⟨(some 11), .len 0 (.tmp 10)⟩,
      ⟨(some 12), .bin .sub (.tmp 11) (.c (.int .i64 3))⟩,
      ⟨(some 13), .bin .geq (.tmp 9) (.tmp 12)⟩])
   (.cond (.tmp 13)
    (.seq
     (.reg [⟨(some 4), .mov (.c (.int .i64 (-1)))⟩])
    .ret)
    .skip))
  (.seq
   (.reg [⟨(some 5), .mov (.c (.int .i64 0))⟩])
  (.seq
   (.seq
    (.reg [⟨(some 14), .mov (.tmp 1)⟩,
      ⟨(some 6), .mov (.tmp 14)⟩])
   (.blk 0
    (.loop false af84l0)))
  (.seq
   (.reg [⟨(some 55), .mov (.tmp 5)⟩,
     ⟨(some 4), .mov (.tmp 55)⟩])
  .ret)))))
def af84 : AFunc := ⟨56, [.tmp 4], af84b, false⟩

/-- unicode/utf8.AppendRune -/
def af85b : ACode :=
  (.seq
   (.reg [⟨(some 4), .mov (.c (.sl .nil []))⟩])
  (.seq
   (.seq
    (.reg [⟨(some 5), .mov (.tmp 1)⟩,
      ⟨(some 6), .cvI .u32 (.tmp 5)⟩,
      ⟨(some 7), .bin .leq (.tmp 6) (.c (.int .u32 127))⟩])
   (.cond (.tmp 7)
    (.seq
     (.reg [⟨(some 8), .mov (.tmp 0)⟩,
       ⟨(some 9), .mov (.tmp 1)⟩,
       ⟨(some 10), .cvI .u8 (.tmp 9)⟩,
       ⟨(some 11), .bsl 1 (.int .u8 0) 1 [(0, (.tmp 10))]⟩,
       ⟨(some 12), .app false 1 (1, 5) (.tmp 8) (.tmp 11)⟩,
       ⟨(some 4), .mov (.tmp 12)⟩])
    .ret)
    .skip))
  (.seq
   (.reg [⟨(some 13), .mov (.tmp 0)⟩,
     ⟨(some 14), .mov (.tmp 1)⟩,
     ⟨(some 15), .call true false (.c (.fn (.func 99) [] [])) [(.tmp 13), (.tmp 14)]⟩,
     ⟨(some 4), .mov (.tmp 15)⟩])
  .ret)))
def af85 : AFunc := ⟨16, [.tmp 4], af85b, true⟩

/-- strings.indexFunc -/
def af94l0 : ACode :=
  (.seq
      (.reg [⟨(some 11), .nxt (.tmp 10)⟩,
        ⟨(some 12), .ext (.tmp 11) 0⟩])
     (.seq
      (.cond (.tmp 12)
       .skip
       (.exit 0))
     (.blk 1
      (.seq
       (.reg [⟨(some 13), .ext (.tmp 11) 1⟩,
         ⟨(some 14), .ext (.tmp 11) 2⟩,
         ⟨(some 7), .mov (.tmp 13)⟩,
         ⟨(some 8), .mov (.tmp 14)⟩])
      (.seq
       (.reg [⟨(some 15), .mov (.tmp 1)⟩,
         ⟨(some 16), .mov (.tmp 8)⟩,
         ⟨(some 17), .call false false (.tmp 15) [(.tmp 16)]⟩,
         ⟨(some 18), .mov (.tmp 2)⟩,
         ⟨(some 19), .eqb false (.tmp 17) (.tmp 18)⟩])
      (.cond (.tmp 19)
       (.seq
        (.reg [⟨(some 20), .mov (.tmp 7)⟩,
          ⟨(some 6), .mov (.tmp 20)⟩])
       .ret)
       .skip))))))
def af94b : ACode :=
  (.seq
   (.reg [⟨(some 6), .mov (.c (.int .i64 0))⟩])
  (.seq
   (.seq
    (.reg [⟨(some 9), .mov (.tmp 0)⟩,
      ⟨(some 10), .rng (.tmp 9)⟩])
   (.blk 0
    (.loop false af94l0)))
  (.seq
   (.reg [⟨(some 6), .mov (.c (.int .i64 (-1)))⟩])
  .ret)))
def af94 : AFunc := ⟨21, [.tmp 6], af94b, false⟩

/-- cascade/block.lead -/
def af96b : ACode :=
  (.seq
   (.reg [⟨(some 2), .mov (.c (.int .i64 0))⟩,
     ⟨(some 3), .mov (.c (.bool false))⟩])
  (.seq
   (.reg [⟨(some 5), .mov (.tmp 0)⟩,
     ⟨(some 6), .call false false (.c (.fn (.func 109) [] [])) [(.tmp 5), (.c (.str [32, 9]))]⟩,
     ⟨(some 4), .mov (.tmp 6)⟩])
  (.seq
   (.reg [⟨(some 7), .mov (.tmp 0)⟩,
     ⟨(some 8), .len 0 (.tmp 7)⟩,
     ⟨(some 9), .mov (.tmp 4)⟩,
     ⟨(some 10), .len 0 (.tmp 9)⟩,
     ⟨(some 11), .bin .sub (.tmp 8) (.tmp 10)⟩,
     ⟨(some 12), .mov (.tmp 4)⟩,
     ⟨(some 13), .bin .neq (.tmp 12) (.c (.str []))⟩,
     ⟨(some 2), .mov (.tmp 11)⟩,
     ⟨(some 3), .mov (.tmp 13)⟩])
  .ret)))
def af96 : AFunc := ⟨14, [.tmp 2, .tmp 3], af96b, false⟩

/-- cascade/quote.short -/
def af97b : ACode :=
  (.seq
   (.reg [⟨(some 2), .mov (.c (.int .i32 0))⟩,
     ⟨(some 3), .mov (.c (.bool false))⟩])
  (.seq
   (.seq
    (.reg [⟨(some 4), .mov (.tmp 0)⟩])
   (.blk 0
    (.seq
     (.seq
      (.reg [⟨(some 6), .bin .eql (.tmp 4) (.c (.int .u8 34))⟩,
        ⟨(some 5), .mov (.tmp 6)⟩])
     (.cond (.tmp 5)
      .skip
      (.seq
       (.reg [⟨(some 7), .bin .eql (.tmp 4) (.c (.int .u8 92))⟩,
         ⟨(some 5), .mov (.tmp 7)⟩])
      (.cond (.tmp 5)
       .skip
       (.reg [⟨(some 8), .bin .eql (.tmp 4) (.c (.int .u8 47))⟩,
         ⟨(some 5), .mov (.tmp 8)⟩])))))
    (.cond (.tmp 5)
     (.seq
      (.reg [⟨(some 9), .mov (.tmp 0)⟩,
        ⟨(some 10), .cvI .i32 (.tmp 9)⟩,
        ⟨(some 2), .mov (.tmp 10)⟩,
        ⟨(some 3), .mov (.c (.bool true))⟩])
     .ret)
     (.seq
      (.reg [⟨(some 12), .bin .eql (.tmp 4) (.c (.int .u8 98))⟩,
        ⟨(some 11), .mov (.tmp 12)⟩])
     (.cond (.tmp 11)
      (.seq
       (.reg [⟨(some 2), .mov (.c (.int .i32 8))⟩,
         ⟨(some 3), .mov (.c (.bool true))⟩])
      .ret)
      (.seq
       (.reg [⟨(some 14), .bin .eql (.tmp 4) (.c (.int .u8 102))⟩,
         ⟨(some 13), .mov (.tmp 14)⟩])
      (.cond (.tmp 13)
       (.seq
        (.reg [⟨(some 2), .mov (.c (.int .i32 12))⟩,
          ⟨(some 3), .mov (.c (.bool true))⟩])
       .ret)
       (.seq
        (.reg [⟨(some 16), .bin .eql (.tmp 4) (.c (.int .u8 110))⟩,
          ⟨(some 15), .mov (.tmp 16)⟩])
       (.cond (.tmp 15)
        (.seq
         (.reg [⟨(some 2), .mov (.c (.int .i32 10))⟩,
           ⟨(some 3), .mov (.c (.bool true))⟩])
        .ret)
        (.seq
         (.reg [⟨(some 18), .bin .eql (.tmp 4) (.c (.int .u8 114))⟩,
           ⟨(some 17), .mov (.tmp 18)⟩])
        (.cond (.tmp 17)
         (.seq
          (.reg [⟨(some 2), .mov (.c (.int .i32 13))⟩,
            ⟨(some 3), .mov (.c (.bool true))⟩])
         .ret)
         (.seq
          (.reg [⟨(some 20), .bin .eql (.tmp 4) (.c (.int .u8 116))⟩,
            ⟨(some 19), .mov (.tmp 20)⟩])
         (.cond (.tmp 19)
          (.seq
           (.reg [⟨(some 2), .mov (.c (.int .i32 9))⟩,
             ⟨(some 3), .mov (.c (.bool true))⟩])
          .ret)
          .skip))))))))))))))
  (.seq
   (.reg [⟨(some 2), .mov (.c (.int .i32 0))⟩,
     ⟨(some 3), .mov (.c (.bool false))⟩])
  .ret)))
def af97 : AFunc := ⟨21, [.tmp 2, .tmp 3], af97b, false⟩

/-- cascade/quote.unit -/
def af98l0 : ACode :=
  (.seq
      (.reg [⟨(some 20), .bin .lss (.tmp 19) (.c (.int .i64 4))⟩])
     (.seq
      (.cond (.tmp 20)
       .skip
       (.exit 0))
     (.seq
      (.blk 1
       (.seq
        (.reg [⟨(some 21), .mov (.tmp 19)⟩,
          ⟨(some 4), .mov (.tmp 21)⟩])
       (.seq
        (.reg [⟨(some 22), .mov (.tmp 0)⟩,
          ⟨(some 23), .mov (.tmp 4)⟩,
          ⟨(some 24), .bin .add (.c (.int .i64 2)) (.tmp 23)⟩,
          ⟨(some 25), .idx (.tmp 22) (.tmp 24)⟩,
          ⟨(some 26), .call false false (.c (.fn (.func 110) [] [])) [(.tmp 25)]⟩,
          ⟨(some 5), .mov (.tmp 26)⟩])
       (.seq
        (.seq
         (.reg [⟨(some 27), .mov (.tmp 5)⟩,
           ⟨(some 28), .bin .lss (.tmp 27) (.c (.int .i32 0))⟩])
        (.cond (.tmp 28)
         (.seq
          (.reg [⟨(some 2), .mov (.c (.int .i32 (-1)))⟩])
         .ret)
         .skip))
       (.reg [⟨(some 29), .mov (.tmp 3)⟩,
         ⟨(some 30), .bin .shl (.tmp 29) (.c (.int .u64 4))⟩,
         ⟨(some 31), .mov (.tmp 5)⟩,
         ⟨(some 32), .bin .or (.tmp 30) (.tmp 31)⟩,
         ⟨(some 3), .mov (.tmp 32)⟩])))))
     (.reg [⟨(some 33), .bin .add (.tmp 19) (.c (.int .i64 1))⟩,
       ⟨(some 19), .mov (.tmp 33)⟩]))))
def af98b : ACode :=
  (.seq
   (.reg [⟨(some 2), .mov (.c (.int .i32 0))⟩])
  (.seq
   (.seq
    (.reg [⟨(some 6), .mov (.tmp 0)⟩,
      ⟨(some 7), .len 0 (.tmp 6)⟩,
      ⟨(some 8), .bin .lss (.tmp 7) (.c (.int .i64 6))⟩,
      ⟨(some 13), .sc 9 false (.tmp 8) [⟨(some 10), .mov (.tmp 0)⟩, ⟨(some 11), .idx (.tmp 10) (.c (.int .i64 0))⟩, ⟨(some 12), .bin .neq (.tmp 11) (.c (.int .u8 92))⟩] (.tmp 12)⟩,
      ⟨(some 18), .sc 14 false (.tmp 13) [⟨(some 15), .mov (.tmp 0)⟩, ⟨(some 16), .idx (.tmp 15) (.c (.int .i64 1))⟩, ⟨(some 17), .bin .neq (.tmp 16) (.c (.int .u8 117))⟩] (.tmp 17)⟩])
   (.cond (.tmp 18)
    (.seq
     (.reg [⟨(some 2), .mov (.c (.int .i32 (-1)))⟩])
    .ret)
    .skip))
  (.seq
   (.reg [⟨(some 3), .mov (.c (.int .i32 0))⟩])
  (.seq
   (.seq
    (.reg [⟨(some 19), .mov (.c (.int .i64 0))⟩])
   (.blk 0
    (.loop false af98l0)))
  (.seq
   (.reg [⟨(some 34), .mov (.tmp 3)⟩,
     ⟨(some 2), .mov (.tmp 34)⟩])
  .ret)))))
def af98 : AFunc := ⟨35, [.tmp 2], af98b, false⟩

/-- unicode/utf8.appendRuneNonASCII -/
def af99b : ACode :=
  (.seq
   (.reg [⟨(some 4), .mov (.c (.sl .nil []))⟩])
  (.seq
   (.reg [⟨(some 6), .mov (.tmp 1)⟩,
     ⟨(some 7), .cvI .u32 (.tmp 6)⟩,
     ⟨(some 5), .mov (.tmp 7)⟩])
  (.blk 0
   (.seq
    (.reg [⟨(some 12), .mov (.tmp 5)⟩,
      ⟨(some 13), .bin .leq (.tmp 12) (.c (.int .u32 2047))⟩,
      ⟨(some 11), .mov (.tmp 13)⟩])
   (.cond (.tmp 11)
    (.seq
     (.reg [⟨(some 14), .mov (.tmp 0)⟩,
       ⟨(some 15), .mov (.tmp 1)⟩,
       ⟨(some 16), .bin .shr (.tmp 15) (.c (.int .u64 6))⟩,
       ⟨(some 17), .cvI .u8 (.tmp 16)⟩,
       ⟨(some 18), .bin .or (.c (.int .u8 192)) (.tmp 17)⟩,
       ⟨(some 19), .mov (.tmp 1)⟩,
       ⟨(some 20), .cvI .u8 (.tmp 19)⟩,
       ⟨(some 21), .bin .and (.tmp 20) (.c (.int .u8 63))⟩,
       ⟨(some 22), .bin .or (.c (.int .u8 128)) (.tmp 21)⟩,
       ⟨(some 23), .bsl 1 (.int .u8 0) 2 [(0, (.tmp 18)), (1, (.tmp 22))]⟩,
       ⟨(some 24), .app false 1 (1, 5) (.tmp 14) (.tmp 23)⟩,
       ⟨(some 4), .mov (.tmp 24)⟩])
    .ret)
    (.seq
     (.seq
      (.reg [⟨(some 26), .mov (.tmp 5)⟩,
        ⟨(some 27), .bin .lss (.tmp 26) (.c (.int .u32 55296))⟩,
        ⟨(some 25), .mov (.tmp 27)⟩])
     (.cond (.tmp 25)
      .skip
      (.reg [⟨(some 28), .mov (.tmp 5)⟩,
        ⟨(some 29), .bin .lss (.c (.int .u32 57343)) (.tmp 28)⟩,
        ⟨(some 33), .sc 30 true (.tmp 29) [⟨(some 31), .mov (.tmp 5)⟩, ⟨(some 32), .bin .leq (.tmp 31) (.c (.int .u32 65535))⟩] (.tmp 32)⟩,
        ⟨(some 25), .mov (.tmp 33)⟩])))
    (.cond (.tmp 25)
     (.seq
      (.reg [⟨(some 34), .mov (.tmp 0)⟩,
        ⟨(some 35), .mov (.tmp 1)⟩,
        ⟨(some 36), .bin .shr (.tmp 35) (.c (.int .u64 12))⟩,
        ⟨(some 37), .cvI .u8 (.tmp 36)⟩,
        ⟨(some 38), .bin .or (.c (.int .u8 224)) (.tmp 37)⟩,
        ⟨(some 39), .mov (.tmp 1)⟩,
        ⟨(some 40), .bin .shr (.tmp 39) (.c (.int .u64 6))⟩,
        ⟨(some 41), .cvI .u8 (.tmp 40)⟩,
        ⟨(some 42), .bin .and (.tmp 41) (.c (.int .u8 63))⟩,
        ⟨(some 43), .bin .or (.c (.int .u8 128)) (.tmp 42)⟩,
        ⟨(some 44), .mov (.tmp 1)⟩,
        ⟨(some 45), .cvI .u8 (.tmp 44)⟩,
        ⟨(some 46), .bin .and (.tmp 45) (.c (.int .u8 63))⟩,
        ⟨(some 47), .bin .or (.c (.int .u8 128)) (.tmp 46)⟩,
        ⟨(some 48), .bsl 1 (.int .u8 0) 3 [(0, (.tmp 38)), (1, (.tmp 43)), (2, (.tmp 47))]⟩,
        ⟨(some 49), .app false 1 (1, 5) (.tmp 34) (.tmp 48)⟩,
        ⟨(some 4), .mov (.tmp 49)⟩])
     .ret)
     (.seq
      (.reg [⟨(some 51), .mov (.tmp 5)⟩,
        ⟨(some 52), .bin .gtr (.tmp 51) (.c (.int .u32 65535))⟩,
        ⟨(some 56), .sc 53 true (.tmp 52) [⟨(some 54), .mov (.tmp 5)⟩, ⟨(some 55), .bin .leq (.tmp 54) (.c (.int .u32 1114111))⟩] (.tmp 55)⟩,
        ⟨(some 50), .mov (.tmp 56)⟩])
     (.cond (.tmp 50)
      (.seq
       (.reg [⟨(some 57), .mov (.tmp 0)⟩,
         ⟨(some 58), .mov (.tmp 1)⟩,
         ⟨(some 59), .bin .shr (.tmp 58) (.c (.int .u64 18))⟩,
         ⟨(some 60), .cvI .u8 (.tmp 59)⟩,
         ⟨(some 61), .bin .or (.c (.int .u8 240)) (.tmp 60)⟩,
         ⟨(some 62), .mov (.tmp 1)⟩,
         ⟨(some 63), .bin .shr (.tmp 62) (.c (.int .u64 12))⟩,
         ⟨(some 64), .cvI .u8 (.tmp 63)⟩,
         ⟨(some 65), .bin .and (.tmp 64) (.c (.int .u8 63))⟩,
         ⟨(some 66), .bin .or (.c (.int .u8 128)) (.tmp 65)⟩,
         ⟨(some 67), .mov (.tmp 1)⟩,
         ⟨(some 68), .bin .shr (.tmp 67) (.c (.int .u64 6))⟩,
         ⟨(some 69), .cvI .u8 (.tmp 68)⟩,
         ⟨(some 70), .bin .and (.tmp 69) (.c (.int .u8 63))⟩,
         ⟨(some 71), .bin .or (.c (.int .u8 128)) (.tmp 70)⟩,
         ⟨(some 72), .mov (.tmp 1)⟩,
         ⟨(some 73), .cvI .u8 (.tmp 72)⟩,
         ⟨(some 74), .bin .and (.tmp 73) (.c (.int .u8 63))⟩,
         ⟨(some 75), .bin .or (.c (.int .u8 128)) (.tmp 74)⟩,
         ⟨(some 76), .bsl 1 (.int .u8 0) 4 [(0, (.tmp 61)), (1, (.tmp 66)), (2, (.tmp 71)), (3, (.tmp 75))]⟩,
         ⟨(some 77), .app false 1 (1, 5) (.tmp 57) (.tmp 76)⟩,
         ⟨(some 4), .mov (.tmp 77)⟩])
      .ret)
      (.seq
       (.reg [⟨(some 8), .mov (.tmp 0)⟩,
         ⟨(some 9), .bsl 1 (.int .u8 0) 3 [(0, (.c (.int .u8 239))), (1, (.c (.int .u8 191))), (2, (.c (.int .u8 189)))]⟩,
         ⟨(some 10), .app false 1 (1, 5) (.tmp 8) (.tmp 9)⟩,
         ⟨(some 4), .mov (.tmp 10)⟩])
      .ret))))))))))
def af99 : AFunc := ⟨78, [.tmp 4], af99b, true⟩

/-- cascade/quote.digit -/
def af110b : ACode :=
  (.seq
   (.reg [⟨(some 2), .mov (.c (.int .i32 0))⟩])
  (.seq
   (.blk 0
    (.seq
     (.reg [⟨(some 4), .mov (.tmp 0)⟩,
       ⟨(some 5), .bin .geq (.tmp 4) (.c (.int .u8 48))⟩,
       ⟨(some 9), .sc 6 true (.tmp 5) [⟨(some 7), .mov (.tmp 0)⟩, ⟨(some 8), .bin .leq (.tmp 7) (.c (.int .u8 57))⟩] (.tmp 8)⟩,
       ⟨(some 3), .mov (.tmp 9)⟩])
    (.cond (.tmp 3)
     (.seq
      (.reg [⟨(some 10), .mov (.tmp 0)⟩,
        ⟨(some 11), .bin .sub (.tmp 10) (.c (.int .u8 48))⟩,
        ⟨(some 12), .cvI .i32 (.tmp 11)⟩,
        ⟨(some 2), .mov (.tmp 12)⟩])
     .ret)
     (.seq
      (.reg [⟨(some 14), .mov (.tmp 0)⟩,
        ⟨(some 15), .bin .geq (.tmp 14) (.c (.int .u8 97))⟩,
        ⟨(some 19), .sc 16 true (.tmp 15) [⟨(some 17), .mov (.tmp 0)⟩, ⟨(some 18), .bin .leq (.tmp 17) (.c (.int .u8 102))⟩] (.tmp 18)⟩,
        ⟨(some 13), .mov (.tmp 19)⟩])
     (.cond (.tmp 13)
      (.seq
       (.reg [⟨(some 20), .mov (.tmp 0)⟩,
         ⟨(some 21), .bin .sub (.tmp 20) (.c (.int .u8 97))⟩,
         ⟨(some 22), .cvI .i32 (.tmp 21)⟩,
         ⟨(some 23), .bin .add (.tmp 22) (.c (.int .i32 10))⟩,
         ⟨(some 2), .mov (.tmp 23)⟩])
      .ret)
      (.seq
       (.reg [⟨(some 25), .mov (.tmp 0)⟩,
         ⟨(some 26), .bin .geq (.tmp 25) (.c (.int .u8 65))⟩,
         ⟨(some 30), .sc 27 true (.tmp 26) [⟨(some 28), .mov (.tmp 0)⟩, ⟨(some 29), .bin .leq (.tmp 28) (.c (.int .u8 70))⟩] (.tmp 29)⟩,
         ⟨(some 24), .mov (.tmp 30)⟩])
      (.cond (.tmp 24)
       (.seq
        (.reg [⟨(some 31), .mov (.tmp 0)⟩,
          ⟨(some 32), .bin .sub (.tmp 31) (.c (.int .u8 65))⟩,
          ⟨(some 33), .cvI .i32 (.tmp 32)⟩,
          ⟨(some 34), .bin .add (.tmp 33) (.c (.int .i32 10))⟩,
          ⟨(some 2), .mov (.tmp 34)⟩])
       .ret)
       .skip)))))))
  (.seq
   (.reg [⟨(some 2), .mov (.c (.int .i32 (-1)))⟩])
  .ret)))
def af110 : AFunc := ⟨35, [.tmp 2], af110b, false⟩

def tabL : List (FuncId × AFunc) := [(3, af3), (4, af4), (5, af5), (6, af6), (7, af7), (8, af8), (9, af9), (10, af10), (11, af11), (12, af12), (13, af13), (14, af14), (15, af15), (16, af16), (17, af17), (18, af18), (19, af19), (20, af20), (21, af21), (23, af23), (24, af24), (27, af27), (28, af28), (29, af29), (30, af30), (31, af31), (32, af32), (33, af33), (34, af34), (35, af35), (36, af36), (37, af37), (38, af38), (39, af39), (40, af40), (41, af41), (42, af42), (43, af43), (44, af44), (45, af45), (46, af46), (48, af48), (49, af49), (50, af50), (51, af51), (54, af54), (56, af56), (57, af57), (58, af58), (59, af59), (60, af60), (61, af61), (62, af62), (63, af63), (64, af64), (65, af65), (66, af66), (67, af67), (68, af68), (74, af74), (75, af75), (77, af77), (78, af78), (79, af79), (80, af80), (81, af81), (82, af82), (83, af83), (84, af84), (85, af85), (94, af94), (96, af96), (97, af97), (98, af98), (99, af99), (110, af110)]
set_option maxRecDepth 100000
theorem of3 : Of Tryz.prog 3 af3 := ⟨{}, by kernel_rfl⟩
theorem of4 : Of Tryz.prog 4 af4 := ⟨{}, by kernel_rfl⟩
theorem of5 : Of Tryz.prog 5 af5 := ⟨{}, by kernel_rfl⟩
theorem of6 : Of Tryz.prog 6 af6 := ⟨{}, by kernel_rfl⟩
theorem of7 : Of Tryz.prog 7 af7 := ⟨{}, by kernel_rfl⟩
theorem of8 : Of Tryz.prog 8 af8 := ⟨{}, by kernel_rfl⟩
theorem of9 : Of Tryz.prog 9 af9 := ⟨{}, by kernel_rfl⟩
theorem of10 : Of Tryz.prog 10 af10 := ⟨{}, by kernel_rfl⟩
theorem of11 : Of Tryz.prog 11 af11 := ⟨{}, by kernel_rfl⟩
theorem of12 : Of Tryz.prog 12 af12 := ⟨{}, by kernel_rfl⟩
theorem of13 : Of Tryz.prog 13 af13 := ⟨{}, by kernel_rfl⟩
theorem of14 : Of Tryz.prog 14 af14 := ⟨{}, by kernel_rfl⟩
theorem of15 : Of Tryz.prog 15 af15 := ⟨{}, by kernel_rfl⟩
theorem of16 : Of Tryz.prog 16 af16 := ⟨{}, by kernel_rfl⟩
theorem of17 : Of Tryz.prog 17 af17 := ⟨{}, by kernel_rfl⟩
theorem of18 : Of Tryz.prog 18 af18 := ⟨{}, by kernel_rfl⟩
theorem of19 : Of Tryz.prog 19 af19 := ⟨{}, by kernel_rfl⟩
theorem of20 : Of Tryz.prog 20 af20 := ⟨{}, by kernel_rfl⟩
theorem of21 : Of Tryz.prog 21 af21 := ⟨{}, by kernel_rfl⟩
theorem of23 : Of Tryz.prog 23 af23 := ⟨{}, by kernel_rfl⟩
theorem of24 : Of Tryz.prog 24 af24 := ⟨{}, by kernel_rfl⟩
theorem of27 : Of Tryz.prog 27 af27 := ⟨{}, by kernel_rfl⟩
theorem of28 : Of Tryz.prog 28 af28 := ⟨{}, by kernel_rfl⟩
theorem of29 : Of Tryz.prog 29 af29 := ⟨{}, by kernel_rfl⟩
theorem of30 : Of Tryz.prog 30 af30 := ⟨{}, by kernel_rfl⟩
theorem of31 : Of Tryz.prog 31 af31 := ⟨{}, by kernel_rfl⟩
theorem of32 : Of Tryz.prog 32 af32 := ⟨{}, by kernel_rfl⟩
theorem of33 : Of Tryz.prog 33 af33 := ⟨{}, by kernel_rfl⟩
theorem of34 : Of Tryz.prog 34 af34 := ⟨{}, by kernel_rfl⟩
theorem of35 : Of Tryz.prog 35 af35 := ⟨{}, by kernel_rfl⟩
theorem of36 : Of Tryz.prog 36 af36 := ⟨{}, by kernel_rfl⟩
theorem of37 : Of Tryz.prog 37 af37 := ⟨{}, by kernel_rfl⟩
theorem of38 : Of Tryz.prog 38 af38 := ⟨{}, by kernel_rfl⟩
theorem of39 : Of Tryz.prog 39 af39 := ⟨{}, by kernel_rfl⟩
theorem of40 : Of Tryz.prog 40 af40 := ⟨{}, by kernel_rfl⟩
theorem of41 : Of Tryz.prog 41 af41 := ⟨{}, by kernel_rfl⟩
theorem of42 : Of Tryz.prog 42 af42 := ⟨{}, by kernel_rfl⟩
theorem of43 : Of Tryz.prog 43 af43 := ⟨{}, by kernel_rfl⟩
theorem of44 : Of Tryz.prog 44 af44 := ⟨{}, by kernel_rfl⟩
theorem of45 : Of Tryz.prog 45 af45 := ⟨{}, by kernel_rfl⟩
theorem of46 : Of Tryz.prog 46 af46 := ⟨{}, by kernel_rfl⟩
theorem of48 : Of Tryz.prog 48 af48 := ⟨{}, by kernel_rfl⟩
theorem of49 : Of Tryz.prog 49 af49 := ⟨{}, by kernel_rfl⟩
theorem of50 : Of Tryz.prog 50 af50 := ⟨{}, by kernel_rfl⟩
theorem of51 : Of Tryz.prog 51 af51 := ⟨{}, by kernel_rfl⟩
theorem of54 : Of Tryz.prog 54 af54 := ⟨{}, by kernel_rfl⟩
theorem of56 : Of Tryz.prog 56 af56 := ⟨{}, by kernel_rfl⟩
theorem of57 : Of Tryz.prog 57 af57 := ⟨{}, by kernel_rfl⟩
theorem of58 : Of Tryz.prog 58 af58 := ⟨{}, by kernel_rfl⟩
theorem of59 : Of Tryz.prog 59 af59 := ⟨{}, by kernel_rfl⟩
theorem of60 : Of Tryz.prog 60 af60 := ⟨{}, by kernel_rfl⟩
theorem of61 : Of Tryz.prog 61 af61 := ⟨{}, by kernel_rfl⟩
theorem of62 : Of Tryz.prog 62 af62 := ⟨{}, by kernel_rfl⟩
theorem of63 : Of Tryz.prog 63 af63 := ⟨{}, by kernel_rfl⟩
theorem of64 : Of Tryz.prog 64 af64 := ⟨{}, by kernel_rfl⟩
theorem of65 : Of Tryz.prog 65 af65 := ⟨{}, by kernel_rfl⟩
theorem of66 : Of Tryz.prog 66 af66 := ⟨{}, by kernel_rfl⟩
theorem of67 : Of Tryz.prog 67 af67 := ⟨{own := [20]}, by kernel_rfl⟩
theorem of68 : Of Tryz.prog 68 af68 := ⟨{}, by kernel_rfl⟩
theorem of74 : Of Tryz.prog 74 af74 := ⟨{}, by kernel_rfl⟩
theorem of75 : Of Tryz.prog 75 af75 := ⟨{grow := [27, 33]}, by kernel_rfl⟩
theorem of77 : Of Tryz.prog 77 af77 := ⟨{}, by kernel_rfl⟩
theorem of78 : Of Tryz.prog 78 af78 := ⟨{}, by kernel_rfl⟩
theorem of79 : Of Tryz.prog 79 af79 := ⟨{}, by kernel_rfl⟩
theorem of80 : Of Tryz.prog 80 af80 := ⟨{}, by kernel_rfl⟩
theorem of81 : Of Tryz.prog 81 af81 := ⟨{}, by kernel_rfl⟩
theorem of82 : Of Tryz.prog 82 af82 := ⟨{}, by kernel_rfl⟩
theorem of83 : Of Tryz.prog 83 af83 := ⟨{}, by kernel_rfl⟩
theorem of84 : Of Tryz.prog 84 af84 := ⟨{}, by kernel_rfl⟩
theorem of85 : Of Tryz.prog 85 af85 := ⟨{own := [15]}, by kernel_rfl⟩
theorem of94 : Of Tryz.prog 94 af94 := ⟨{}, by kernel_rfl⟩
theorem of96 : Of Tryz.prog 96 af96 := ⟨{}, by kernel_rfl⟩
theorem of97 : Of Tryz.prog 97 af97 := ⟨{}, by kernel_rfl⟩
theorem of98 : Of Tryz.prog 98 af98 := ⟨{}, by kernel_rfl⟩
theorem of99 : Of Tryz.prog 99 af99 := ⟨{}, by kernel_rfl⟩
theorem of110 : Of Tryz.prog 110 af110 := ⟨{}, by kernel_rfl⟩
theorem tabL_ok : ∀ p ∈ tabL, Of Tryz.prog p.1 p.2 ∧ okC p.2.body = true := by
  intro p hp
  simp only [tabL, List.mem_cons, List.not_mem_nil, or_false] at hp
  rcases hp with rfl | rfl | rfl | rfl | rfl | rfl | rfl | rfl | rfl | rfl | rfl | rfl | rfl | rfl | rfl | rfl | rfl | rfl | rfl | rfl | rfl | rfl | rfl | rfl | rfl | rfl | rfl | rfl | rfl | rfl | rfl | rfl | rfl | rfl | rfl | rfl | rfl | rfl | rfl | rfl | rfl | rfl | rfl | rfl | rfl | rfl | rfl | rfl | rfl | rfl | rfl | rfl | rfl | rfl | rfl | rfl | rfl | rfl | rfl | rfl | rfl | rfl | rfl | rfl | rfl | rfl | rfl | rfl | rfl | rfl | rfl | rfl | rfl | rfl | rfl | rfl
  · exact ⟨of3, by kernel_rfl⟩
  · exact ⟨of4, by kernel_rfl⟩
  · exact ⟨of5, by kernel_rfl⟩
  · exact ⟨of6, by kernel_rfl⟩
  · exact ⟨of7, by kernel_rfl⟩
  · exact ⟨of8, by kernel_rfl⟩
  · exact ⟨of9, by kernel_rfl⟩
  · exact ⟨of10, by kernel_rfl⟩
  · exact ⟨of11, by kernel_rfl⟩
  · exact ⟨of12, by kernel_rfl⟩
  · exact ⟨of13, by kernel_rfl⟩
  · exact ⟨of14, by kernel_rfl⟩
  · exact ⟨of15, by kernel_rfl⟩
  · exact ⟨of16, by kernel_rfl⟩
  · exact ⟨of17, by kernel_rfl⟩
  · exact ⟨of18, by kernel_rfl⟩
  · exact ⟨of19, by kernel_rfl⟩
  · exact ⟨of20, by kernel_rfl⟩
  · exact ⟨of21, by kernel_rfl⟩
  · exact ⟨of23, by kernel_rfl⟩
  · exact ⟨of24, by kernel_rfl⟩
  · exact ⟨of27, by kernel_rfl⟩
  · exact ⟨of28, by kernel_rfl⟩
  · exact ⟨of29, by kernel_rfl⟩
  · exact ⟨of30, by kernel_rfl⟩
  · exact ⟨of31, by kernel_rfl⟩
  · exact ⟨of32, by kernel_rfl⟩
  · exact ⟨of33, by kernel_rfl⟩
  · exact ⟨of34, by kernel_rfl⟩
  · exact ⟨of35, by kernel_rfl⟩
  · exact ⟨of36, by kernel_rfl⟩
  · exact ⟨of37, by kernel_rfl⟩
  · exact ⟨of38, by kernel_rfl⟩
  · exact ⟨of39, by kernel_rfl⟩
  · exact ⟨of40, by kernel_rfl⟩
  · exact ⟨of41, by kernel_rfl⟩
  · exact ⟨of42, by kernel_rfl⟩
  · exact ⟨of43, by kernel_rfl⟩
  · exact ⟨of44, by kernel_rfl⟩
  · exact ⟨of45, by kernel_rfl⟩
  · exact ⟨of46, by kernel_rfl⟩
  · exact ⟨of48, by kernel_rfl⟩
  · exact ⟨of49, by kernel_rfl⟩
  · exact ⟨of50, by kernel_rfl⟩
  · exact ⟨of51, by kernel_rfl⟩
  · exact ⟨of54, by kernel_rfl⟩
  · exact ⟨of56, by kernel_rfl⟩
  · exact ⟨of57, by kernel_rfl⟩
  · exact ⟨of58, by kernel_rfl⟩
  · exact ⟨of59, by kernel_rfl⟩
  · exact ⟨of60, by kernel_rfl⟩
  · exact ⟨of61, by kernel_rfl⟩
  · exact ⟨of62, by kernel_rfl⟩
  · exact ⟨of63, by kernel_rfl⟩
  · exact ⟨of64, by kernel_rfl⟩
  · exact ⟨of65, by kernel_rfl⟩
  · exact ⟨of66, by kernel_rfl⟩
  · exact ⟨of67, by kernel_rfl⟩
  · exact ⟨of68, by kernel_rfl⟩
  · exact ⟨of74, by kernel_rfl⟩
  · exact ⟨of75, by kernel_rfl⟩
  · exact ⟨of77, by kernel_rfl⟩
  · exact ⟨of78, by kernel_rfl⟩
  · exact ⟨of79, by kernel_rfl⟩
  · exact ⟨of80, by kernel_rfl⟩
  · exact ⟨of81, by kernel_rfl⟩
  · exact ⟨of82, by kernel_rfl⟩
  · exact ⟨of83, by kernel_rfl⟩
  · exact ⟨of84, by kernel_rfl⟩
  · exact ⟨of85, by kernel_rfl⟩
  · exact ⟨of94, by kernel_rfl⟩
  · exact ⟨of96, by kernel_rfl⟩
  · exact ⟨of97, by kernel_rfl⟩
  · exact ⟨of98, by kernel_rfl⟩
  · exact ⟨of99, by kernel_rfl⟩
  · exact ⟨of110, by kernel_rfl⟩
def tab (f : FuncId) : Option AFunc := (tabL.find? (fun p => p.1 == f)).map (·.2)
theorem tab_3 : tab 3 = some af3 := rfl
theorem tab_4 : tab 4 = some af4 := rfl
theorem tab_5 : tab 5 = some af5 := rfl
theorem tab_6 : tab 6 = some af6 := rfl
theorem tab_7 : tab 7 = some af7 := rfl
theorem tab_8 : tab 8 = some af8 := rfl
theorem tab_9 : tab 9 = some af9 := rfl
theorem tab_10 : tab 10 = some af10 := rfl
theorem tab_11 : tab 11 = some af11 := rfl
theorem tab_12 : tab 12 = some af12 := rfl
theorem tab_13 : tab 13 = some af13 := rfl
theorem tab_14 : tab 14 = some af14 := rfl
theorem tab_15 : tab 15 = some af15 := rfl
theorem tab_16 : tab 16 = some af16 := rfl
theorem tab_17 : tab 17 = some af17 := rfl
theorem tab_18 : tab 18 = some af18 := rfl
theorem tab_19 : tab 19 = some af19 := rfl
theorem tab_20 : tab 20 = some af20 := rfl
theorem tab_21 : tab 21 = some af21 := rfl
theorem tab_23 : tab 23 = some af23 := rfl
theorem tab_24 : tab 24 = some af24 := rfl
theorem tab_27 : tab 27 = some af27 := rfl
theorem tab_28 : tab 28 = some af28 := rfl
theorem tab_29 : tab 29 = some af29 := rfl
theorem tab_30 : tab 30 = some af30 := rfl
theorem tab_31 : tab 31 = some af31 := rfl
theorem tab_32 : tab 32 = some af32 := rfl
theorem tab_33 : tab 33 = some af33 := rfl
theorem tab_34 : tab 34 = some af34 := rfl
theorem tab_35 : tab 35 = some af35 := rfl
theorem tab_36 : tab 36 = some af36 := rfl
theorem tab_37 : tab 37 = some af37 := rfl
theorem tab_38 : tab 38 = some af38 := rfl
theorem tab_39 : tab 39 = some af39 := rfl
theorem tab_40 : tab 40 = some af40 := rfl
theorem tab_41 : tab 41 = some af41 := rfl
theorem tab_42 : tab 42 = some af42 := rfl
theorem tab_43 : tab 43 = some af43 := rfl
theorem tab_44 : tab 44 = some af44 := rfl
theorem tab_45 : tab 45 = some af45 := rfl
theorem tab_46 : tab 46 = some af46 := rfl
theorem tab_48 : tab 48 = some af48 := rfl
theorem tab_49 : tab 49 = some af49 := rfl
theorem tab_50 : tab 50 = some af50 := rfl
theorem tab_51 : tab 51 = some af51 := rfl
theorem tab_54 : tab 54 = some af54 := rfl
theorem tab_56 : tab 56 = some af56 := rfl
theorem tab_57 : tab 57 = some af57 := rfl
theorem tab_58 : tab 58 = some af58 := rfl
theorem tab_59 : tab 59 = some af59 := rfl
theorem tab_60 : tab 60 = some af60 := rfl
theorem tab_61 : tab 61 = some af61 := rfl
theorem tab_62 : tab 62 = some af62 := rfl
theorem tab_63 : tab 63 = some af63 := rfl
theorem tab_64 : tab 64 = some af64 := rfl
theorem tab_65 : tab 65 = some af65 := rfl
theorem tab_66 : tab 66 = some af66 := rfl
theorem tab_67 : tab 67 = some af67 := rfl
theorem tab_68 : tab 68 = some af68 := rfl
theorem tab_74 : tab 74 = some af74 := rfl
theorem tab_75 : tab 75 = some af75 := rfl
theorem tab_77 : tab 77 = some af77 := rfl
theorem tab_78 : tab 78 = some af78 := rfl
theorem tab_79 : tab 79 = some af79 := rfl
theorem tab_80 : tab 80 = some af80 := rfl
theorem tab_81 : tab 81 = some af81 := rfl
theorem tab_82 : tab 82 = some af82 := rfl
theorem tab_83 : tab 83 = some af83 := rfl
theorem tab_84 : tab 84 = some af84 := rfl
theorem tab_85 : tab 85 = some af85 := rfl
theorem tab_94 : tab 94 = some af94 := rfl
theorem tab_96 : tab 96 = some af96 := rfl
theorem tab_97 : tab 97 = some af97 := rfl
theorem tab_98 : tab 98 = some af98 := rfl
theorem tab_99 : tab 99 = some af99 := rfl
theorem tab_110 : tab 110 = some af110 := rfl
theorem tab_ok {f : FuncId} {F : AFunc} (h : tab f = some F) : Of Tryz.prog f F ∧ okC F.body = true := by
  simp only [tab, Option.map_eq_some_iff] at h
  obtain ⟨p, hp, rfl⟩ := h
  have hm := List.mem_of_find?_eq_some hp
  have he := List.find?_some hp
  have : p.1 = f := by simpa using he
  subst this
  exact tabL_ok p hm

end Go.Proofs.YtadpobnajjocnaaGreatDoor.Eng
