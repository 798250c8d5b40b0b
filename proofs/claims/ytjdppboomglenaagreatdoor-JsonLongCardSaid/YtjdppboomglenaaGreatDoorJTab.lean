/-
  The code of the functions, as the evaluator takes it; the table. Printed by a program of the session out of the program itself; that it is the program is proved here. No condition.
-/
import Derived.Test.YtjdppboomglenaaGreatDoorEngP
import Derived.Test.YtjdppboomglenaaGreatDoorProg
import Derived.KernelRfl
namespace Go.Proofs.YtjdppboomglenaaGreatDoor.Eng
open Go

/-- cascade/cascadelaw05.JsonParses -/
def af3b : ACode :=
  (.seq
   (.reg [⟨(some 2), .mov (.c (.bool false))⟩])
  (.seq
   (.seq
    (.reg [⟨(some 15), .call false false (.c (.fn (.func 5) [] [])) []⟩,
      ⟨(some 16), .un .not (.tmp 15)⟩,
      ⟨(some 21), .sc 17 false (.tmp 16) [⟨(some 18), .mov (.tmp 0)⟩, ⟨(some 19), .len 0 (.tmp 18)⟩, ⟨(some 20), .bin .gtr (.tmp 19) (.c (.int .i64 600))⟩] (.tmp 20)⟩])
   (.cond (.tmp 21)
    (.seq
     (.reg [⟨(some 22), .call false false (.c (.fn (.func 5) [] [])) []⟩,
       ⟨(some 2), .mov (.tmp 22)⟩])
    .ret)
    .skip))
  (.seq
   (.reg [⟨(some 24), .mov (.tmp 0)⟩,
     ⟨(some 25), .call false false (.c (.fn (.func 6) [] [])) [(.tmp 24)]⟩,
     ⟨(some 23), .mov (.tmp 25)⟩,
     ⟨(some 26), .ext (.tmp 23) 0⟩,
     ⟨(some 27), .ext (.tmp 23) 1⟩,
     ⟨(some 28), .ext (.tmp 23) 2⟩,
     ⟨(some 3), .new 26 [(.int .i64 0), (.int .i64 0), (.str []), (.sl .nil []), (.sl .nil [])]⟩,
     ⟨none, .store 5 (.tmp 3) (.tmp 26)⟩,
     ⟨(some 4), .mov (.tmp 27)⟩,
     ⟨(some 5), .mov (.tmp 28)⟩])
  (.seq
   (.reg [⟨(some 30), .mov (.tmp 0)⟩,
     ⟨(some 31), .call false false (.c (.fn (.func 7) [] [])) [(.tmp 30)]⟩,
     ⟨(some 29), .mov (.tmp 31)⟩,
     ⟨(some 32), .ext (.tmp 29) 0⟩,
     ⟨(some 33), .ext (.tmp 29) 1⟩,
     ⟨(some 34), .ext (.tmp 29) 2⟩,
     ⟨(some 6), .new 26 [(.int .i64 0), (.int .i64 0), (.str []), (.sl .nil []), (.sl .nil [])]⟩,
     ⟨none, .store 5 (.tmp 6) (.tmp 32)⟩,
     ⟨(some 7), .mov (.tmp 33)⟩,
     ⟨(some 8), .mov (.tmp 34)⟩])
  (.seq
   (.reg [⟨(some 36), .mov (.tmp 0)⟩,
     ⟨(some 37), .mov (.tmp 0)⟩,
     ⟨(some 38), .len 0 (.tmp 37)⟩,
     ⟨(some 39), .call false false (.c (.fn (.func 8) [] [])) [(.tmp 36), (.tmp 38)]⟩,
     ⟨(some 35), .mov (.tmp 39)⟩,
     ⟨(some 40), .ext (.tmp 35) 0⟩,
     ⟨(some 41), .ext (.tmp 35) 1⟩,
     ⟨(some 42), .ext (.tmp 35) 2⟩,
     ⟨(some 9), .new 26 [(.int .i64 0), (.int .i64 0), (.str []), (.sl .nil []), (.sl .nil [])]⟩,
     ⟨none, .store 5 (.tmp 9) (.tmp 40)⟩,
     ⟨(some 10), .mov (.tmp 41)⟩,
     ⟨(some 11), .mov (.tmp 42)⟩])
  (.seq
   (.reg [⟨(some 44), .mov (.tmp 0)⟩,
     ⟨(some 45), .mov (.tmp 0)⟩,
     ⟨(some 46), .len 0 (.tmp 45)⟩,
     ⟨(some 47), .bin .sub (.tmp 46) (.c (.int .i64 1))⟩,
     ⟨(some 48), .call false false (.c (.fn (.func 8) [] [])) [(.tmp 44), (.tmp 47)]⟩,
     ⟨(some 43), .mov (.tmp 48)⟩,
     ⟨(some 49), .ext (.tmp 43) 0⟩,
     ⟨(some 50), .ext (.tmp 43) 1⟩,
     ⟨(some 51), .ext (.tmp 43) 2⟩,
     ⟨(some 12), .new 26 [(.int .i64 0), (.int .i64 0), (.str []), (.sl .nil []), (.sl .nil [])]⟩,
     ⟨none, .store 5 (.tmp 12) (.tmp 49)⟩,
     ⟨(some 13), .mov (.tmp 50)⟩,
     ⟨(some 14), .mov (.tmp 51)⟩])
  (.seq
   (.reg [⟨(some 52), .load (some 5) (.tmp 3)⟩,
     ⟨(some 53), .load (some 5) (.tmp 6)⟩,
     ⟨(some 54), .call false false (.c (.fn (.func 9) [] [])) [(.tmp 52), (.tmp 53)]⟩,
     ⟨(some 59), .sc 55 true (.tmp 54) [⟨(some 56), .mov (.tmp 4)⟩, ⟨(some 57), .mov (.tmp 7)⟩, ⟨(some 58), .bin .eql (.tmp 56) (.tmp 57)⟩] (.tmp 58)⟩,
     ⟨(some 64), .sc 60 true (.tmp 59) [⟨(some 61), .mov (.tmp 5)⟩, ⟨(some 62), .mov (.tmp 8)⟩, ⟨(some 63), .bin .eql (.tmp 61) (.tmp 62)⟩] (.tmp 63)⟩,
     ⟨(some 69), .sc 65 true (.tmp 64) [⟨(some 66), .load (some 5) (.tmp 9)⟩, ⟨(some 67), .load (some 5) (.tmp 6)⟩, ⟨(some 68), .call false false (.c (.fn (.func 9) [] [])) [(.tmp 66), (.tmp 67)]⟩] (.tmp 68)⟩,
     ⟨(some 74), .sc 70 true (.tmp 69) [⟨(some 71), .mov (.tmp 10)⟩, ⟨(some 72), .mov (.tmp 7)⟩, ⟨(some 73), .bin .eql (.tmp 71) (.tmp 72)⟩] (.tmp 73)⟩,
     ⟨(some 79), .sc 75 true (.tmp 74) [⟨(some 76), .mov (.tmp 11)⟩, ⟨(some 77), .mov (.tmp 8)⟩, ⟨(some 78), .bin .eql (.tmp 76) (.tmp 77)⟩] (.tmp 78)⟩,
     ⟨(some 83), .sc 80 true (.tmp 79) [⟨(some 81), .mov (.tmp 14)⟩, ⟨(some 82), .bin .eql (.tmp 81) (.c (.int .i64 6))⟩] (.tmp 82)⟩,
     ⟨(some 88), .sc 84 true (.tmp 83) [⟨(some 85), .load (some 5) (.tmp 12)⟩, ⟨(some 86), .build [(.int .i64 0), (.int .i64 0), (.str []), (.sl .nil []), (.sl .nil [])] []⟩, ⟨(some 87), .call false false (.c (.fn (.func 9) [] [])) [(.tmp 85), (.tmp 86)]⟩] (.tmp 87)⟩,
     ⟨(some 2), .mov (.tmp 88)⟩])
  .ret)))))))
def af3 : AFunc := ⟨89, [.tmp 2], af3b, false⟩

/-- cascade/cascadelaw05.JsonLong -/
def af4l0 : ACode :=
  (.seq
      (.seq
       (.reg [⟨(some 24), .mov (.tmp 7)⟩,
         ⟨(some 25), .mov (.tmp 5)⟩,
         ⟨(some 26), .bin .lss (.tmp 24) (.tmp 25)⟩])
      (.cond (.tmp 26)
       .skip
       (.exit 0)))
     (.seq
      (.blk 1
       (.reg [⟨(some 29), .mov (.tmp 6)⟩,
         ⟨(some 30), .bin .add (.tmp 29) (.c (.str [91]))⟩,
         ⟨(some 6), .mov (.tmp 30)⟩]))
     (.reg [⟨(some 27), .mov (.tmp 7)⟩,
       ⟨(some 28), .bin .add (.tmp 27) (.c (.int .i64 1))⟩,
       ⟨(some 7), .mov (.tmp 28)⟩])))
def af4l1 : ACode :=
  (.seq
      (.seq
       (.reg [⟨(some 31), .mov (.tmp 8)⟩,
         ⟨(some 32), .mov (.tmp 5)⟩,
         ⟨(some 33), .bin .lss (.tmp 31) (.tmp 32)⟩])
      (.cond (.tmp 33)
       .skip
       (.exit 2)))
     (.seq
      (.blk 3
       (.reg [⟨(some 36), .mov (.tmp 6)⟩,
         ⟨(some 37), .bin .add (.tmp 36) (.c (.str [93]))⟩,
         ⟨(some 6), .mov (.tmp 37)⟩]))
     (.reg [⟨(some 34), .mov (.tmp 8)⟩,
       ⟨(some 35), .bin .add (.tmp 34) (.c (.int .i64 1))⟩,
       ⟨(some 8), .mov (.tmp 35)⟩])))
def af4b : ACode :=
  (.seq
   (.reg [⟨(some 4), .mov (.c (.bool false))⟩])
  (.seq
   (.seq
    (.reg [⟨(some 19), .call false false (.c (.fn (.func 5) [] [])) []⟩,
      ⟨(some 20), .un .not (.tmp 19)⟩])
   (.cond (.tmp 20)
    (.seq
     (.reg [⟨(some 4), .mov (.c (.bool false))⟩])
    .ret)
    .skip))
  (.seq
   (.reg [⟨(some 21), .mov (.tmp 0)⟩,
     ⟨(some 22), .bin .rem (.tmp 21) (.c (.int .u8 16))⟩,
     ⟨(some 23), .cvI .i64 (.tmp 22)⟩,
     ⟨(some 5), .mov (.tmp 23)⟩])
  (.seq
   (.reg [⟨(some 6), .mov (.c (.str []))⟩])
  (.seq
   (.seq
    (.reg [⟨(some 7), .mov (.c (.int .i64 0))⟩])
   (.blk 0
    (.loop false af4l0)))
  (.seq
   (.seq
    (.reg [⟨(some 8), .mov (.c (.int .i64 0))⟩])
   (.blk 2
    (.loop false af4l1)))
  (.seq
   (.reg [⟨(some 39), .mov (.tmp 6)⟩,
     ⟨(some 40), .call false false (.c (.fn (.func 6) [] [])) [(.tmp 39)]⟩,
     ⟨(some 38), .mov (.tmp 40)⟩,
     ⟨(some 41), .ext (.tmp 38) 0⟩,
     ⟨(some 42), .ext (.tmp 38) 1⟩,
     ⟨(some 43), .ext (.tmp 38) 2⟩,
     ⟨(some 9), .new 26 [(.int .i64 0), (.int .i64 0), (.str []), (.sl .nil []), (.sl .nil [])]⟩,
     ⟨none, .store 5 (.tmp 9) (.tmp 41)⟩,
     ⟨(some 10), .mov (.tmp 42)⟩,
     ⟨(some 11), .mov (.tmp 43)⟩])
  (.seq
   (.reg [⟨(some 45), .mov (.tmp 6)⟩,
     ⟨(some 46), .call false false (.c (.fn (.func 7) [] [])) [(.tmp 45)]⟩,
     ⟨(some 44), .mov (.tmp 46)⟩,
     ⟨(some 47), .ext (.tmp 44) 0⟩,
     ⟨(some 48), .ext (.tmp 44) 1⟩,
     ⟨(some 49), .ext (.tmp 44) 2⟩,
     ⟨(some 12), .new 26 [(.int .i64 0), (.int .i64 0), (.str []), (.sl .nil []), (.sl .nil [])]⟩,
     ⟨none, .store 5 (.tmp 12) (.tmp 47)⟩,
     ⟨(some 13), .mov (.tmp 48)⟩,
     ⟨(some 14), .mov (.tmp 49)⟩])
  (.seq
   (.reg [⟨(some 50), .mov (.tmp 1)⟩,
     ⟨(some 51), .bin .rem (.tmp 50) (.c (.int .u16 20))⟩,
     ⟨(some 52), .cvI .i64 (.tmp 51)⟩,
     ⟨(some 53), .bin .add (.c (.int .i64 3990)) (.tmp 52)⟩,
     ⟨(some 54), .call false false (.c (.fn (.func 10) [] [])) [(.tmp 53)]⟩,
     ⟨(some 55), .b2s (.tmp 54)⟩,
     ⟨(some 56), .bin .add (.c (.str [91])) (.tmp 55)⟩,
     ⟨(some 57), .bin .add (.tmp 56) (.c (.str [93]))⟩,
     ⟨(some 15), .mov (.tmp 57)⟩])
  (.seq
   (.reg [⟨(some 59), .mov (.tmp 15)⟩,
     ⟨(some 60), .call false false (.c (.fn (.func 6) [] [])) [(.tmp 59)]⟩,
     ⟨(some 58), .mov (.tmp 60)⟩,
     ⟨(some 61), .ext (.tmp 58) 0⟩,
     ⟨(some 62), .ext (.tmp 58) 1⟩,
     ⟨(some 63), .ext (.tmp 58) 2⟩,
     ⟨(some 16), .new 26 [(.int .i64 0), (.int .i64 0), (.str []), (.sl .nil []), (.sl .nil [])]⟩,
     ⟨none, .store 5 (.tmp 16) (.tmp 61)⟩,
     ⟨(some 17), .mov (.tmp 62)⟩,
     ⟨(some 18), .mov (.tmp 63)⟩])
  (.seq
   (.reg [⟨(some 64), .load (some 5) (.tmp 9)⟩,
     ⟨(some 65), .load (some 5) (.tmp 12)⟩,
     ⟨(some 66), .call false false (.c (.fn (.func 9) [] [])) [(.tmp 64), (.tmp 65)]⟩,
     ⟨(some 71), .sc 67 true (.tmp 66) [⟨(some 68), .mov (.tmp 10)⟩, ⟨(some 69), .mov (.tmp 13)⟩, ⟨(some 70), .bin .eql (.tmp 68) (.tmp 69)⟩] (.tmp 70)⟩,
     ⟨(some 76), .sc 72 true (.tmp 71) [⟨(some 73), .mov (.tmp 11)⟩, ⟨(some 74), .mov (.tmp 14)⟩, ⟨(some 75), .bin .eql (.tmp 73) (.tmp 74)⟩] (.tmp 75)⟩,
     ⟨(some 84), .sc 77 true (.tmp 76) [⟨(some 78), .mov (.tmp 18)⟩, ⟨(some 79), .bin .eql (.tmp 78) (.c (.int .i64 6))⟩, ⟨(some 80), .mov (.tmp 15)⟩, ⟨(some 81), .len 0 (.tmp 80)⟩, ⟨(some 82), .bin .gtr (.tmp 81) (.c (.int .i64 4000))⟩, ⟨(some 83), .eqb false (.tmp 79) (.tmp 82)⟩] (.tmp 83)⟩,
     ⟨(some 92), .sc 85 true (.tmp 84) [⟨(some 86), .mov (.tmp 17)⟩, ⟨(some 87), .bin .eql (.tmp 86) (.c (.int .i64 0))⟩, ⟨(some 88), .mov (.tmp 15)⟩, ⟨(some 89), .len 0 (.tmp 88)⟩, ⟨(some 90), .bin .gtr (.tmp 89) (.c (.int .i64 4000))⟩, ⟨(some 91), .eqb false (.tmp 87) (.tmp 90)⟩] (.tmp 91)⟩,
     ⟨(some 4), .mov (.tmp 92)⟩])
  .ret)))))))))))
def af4 : AFunc := ⟨93, [.tmp 4], af4b, false⟩

/-- cascade/cascadelaw05.awake -/
def af5b : ACode :=
  (.seq
   (.reg [⟨(some 0), .mov (.c (.bool false))⟩])
  (.seq
   (.reg [⟨(some 4), .build [(.int .i64 0), (.int .i64 0), (.str []), (.sl .nil []), (.sl .nil [])] [(0, 1, (.c (.int .i64 2))), (1, 1, (.c (.int .i64 (-5))))]⟩,
     ⟨(some 5), .call false false (.c (.fn (.func 11) [] [])) [(.tmp 4)]⟩,
     ⟨(some 3), .mov (.tmp 5)⟩,
     ⟨(some 6), .ext (.tmp 3) 0⟩,
     ⟨(some 7), .ext (.tmp 3) 1⟩,
     ⟨(some 1), .mov (.tmp 6)⟩,
     ⟨(some 2), .mov (.tmp 7)⟩])
  (.seq
   (.reg [⟨(some 8), .mov (.tmp 2)⟩,
     ⟨(some 9), .bin .eql (.tmp 8) (.c (.int .i64 0))⟩,
     ⟨(some 13), .sc 10 true (.tmp 9) [⟨(some 11), .mov (.tmp 1)⟩, ⟨(some 12), .bin .eql (.tmp 11) (.c (.str [45, 53]))⟩] (.tmp 12)⟩,
     ⟨(some 0), .mov (.tmp 13)⟩])
  .ret)))
def af5 : AFunc := ⟨14, [.tmp 0], af5b, false⟩

/-- cascade/json.Parse -/
def af6b : ACode :=
  (.seq
   (.reg [⟨(some 2), .new 26 [(.int .i64 0), (.int .i64 0), (.str []), (.sl .nil []), (.sl .nil [])]⟩,
     ⟨(some 3), .mov (.c (.int .i64 0))⟩,
     ⟨(some 4), .mov (.c (.int .i64 0))⟩])
  (.seq
   (.reg [⟨(some 5), .mov (.tmp 0)⟩,
     ⟨(some 6), .call false false (.c (.fn (.func 8) [] [])) [(.tmp 5), (.c (.int .i64 4000))]⟩,
     ⟨(some 7), .ext (.tmp 6) 0⟩,
     ⟨(some 8), .ext (.tmp 6) 1⟩,
     ⟨(some 9), .ext (.tmp 6) 2⟩,
     ⟨none, .store 5 (.tmp 2) (.tmp 7)⟩,
     ⟨(some 3), .mov (.tmp 8)⟩,
     ⟨(some 4), .mov (.tmp 9)⟩])
  .ret))
def af6 : AFunc := ⟨10, [.cell 2 (some 5), .tmp 3, .tmp 4], af6b, false⟩

/-- cascade/cascaderef05.Parse -/
def af7b : ACode :=
  (.seq
   (.reg [⟨(some 2), .new 26 [(.int .i64 0), (.int .i64 0), (.str []), (.sl .nil []), (.sl .nil [])]⟩,
     ⟨(some 3), .mov (.c (.int .i64 0))⟩,
     ⟨(some 4), .mov (.c (.int .i64 0))⟩])
  (.seq
   (.seq
    (.reg [⟨(some 7), .mov (.tmp 0)⟩,
      ⟨(some 8), .len 0 (.tmp 7)⟩,
      ⟨(some 9), .bin .gtr (.tmp 8) (.c (.int .i64 4000))⟩])
   (.cond (.tmp 9)
    (.seq
     (.reg [⟨(some 10), .build [(.int .i64 0), (.int .i64 0), (.str []), (.sl .nil []), (.sl .nil [])] []⟩,
       ⟨none, .store 5 (.tmp 2) (.tmp 10)⟩,
       ⟨(some 3), .mov (.c (.int .i64 0))⟩,
       ⟨(some 4), .mov (.c (.int .i64 6))⟩])
    .ret)
    .skip))
  (.seq
   (.reg [⟨(some 11), .mov (.tmp 0)⟩,
     ⟨(some 12), .call false false (.c (.fn (.func 12) [] [])) [(.tmp 11), (.c (.int .i64 0)), (.c (.int .i64 12))]⟩,
     ⟨(some 5), .new 40 [(.int .i64 0), (.int .i64 0), (.str []), (.sl .nil []), (.sl .nil []), (.int .i64 0), (.int .i64 0)]⟩,
     ⟨none, .store 7 (.tmp 5) (.tmp 12)⟩])
  (.seq
   (.seq
    (.reg [⟨(some 13), .fadr 6 (.tmp 5)⟩,
      ⟨(some 14), .load none (.tmp 13)⟩,
      ⟨(some 15), .bin .neq (.tmp 14) (.c (.int .i64 0))⟩])
   (.cond (.tmp 15)
    (.seq
     (.regD [(17, 2), (19, 2)] [⟨(some 16), .build [(.int .i64 0), (.int .i64 0), (.str []), (.sl .nil []), (.sl .nil [])] []⟩,
       ⟨(some 17), .fadr 5 (.tmp 5)⟩,
       ⟨(some 18), .load none (.tmp 17)⟩,
       ⟨(some 19), .fadr 6 (.tmp 5)⟩,
       ⟨(some 20), .load none (.tmp 19)⟩,
       ⟨none, .store 5 (.tmp 2) (.tmp 16)⟩,
       ⟨(some 3), .mov (.tmp 18)⟩,
       ⟨(some 4), .mov (.tmp 20)⟩])
    .ret)
    .skip))
  (.seq
   (.reg [⟨(some 21), .mov (.tmp 0)⟩,
     ⟨(some 22), .fadr 5 (.tmp 5)⟩,
     ⟨(some 23), .load none (.tmp 22)⟩,
     ⟨(some 24), .call false false (.c (.fn (.func 13) [] [])) [(.tmp 21), (.tmp 23)]⟩,
     ⟨(some 6), .mov (.tmp 24)⟩])
  (.seq
   (.seq
    (.reg [⟨(some 25), .mov (.tmp 6)⟩,
      ⟨(some 26), .mov (.tmp 0)⟩,
      ⟨(some 27), .len 0 (.tmp 26)⟩,
      ⟨(some 28), .bin .lss (.tmp 25) (.tmp 27)⟩])
   (.cond (.tmp 28)
    (.seq
     (.reg [⟨(some 29), .build [(.int .i64 0), (.int .i64 0), (.str []), (.sl .nil []), (.sl .nil [])] []⟩,
       ⟨(some 30), .mov (.tmp 6)⟩,
       ⟨none, .store 5 (.tmp 2) (.tmp 29)⟩,
       ⟨(some 3), .mov (.tmp 30)⟩,
       ⟨(some 4), .mov (.c (.int .i64 4))⟩])
    .ret)
    .skip))
  (.seq
   (.reg [⟨(some 31), .fadr 0 (.tmp 5)⟩,
     ⟨(some 32), .load (some 5) (.tmp 31)⟩,
     ⟨none, .store 5 (.tmp 2) (.tmp 32)⟩,
     ⟨(some 3), .mov (.c (.int .i64 (-1)))⟩,
     ⟨(some 4), .mov (.c (.int .i64 0))⟩])
  .ret)))))))
def af7 : AFunc := ⟨33, [.cell 2 (some 5), .tmp 3, .tmp 4], af7b, false⟩

/-- cascade/json.Read -/
def af8b : ACode :=
  (.seq
   (.reg [⟨(some 4), .new 26 [(.int .i64 0), (.int .i64 0), (.str []), (.sl .nil []), (.sl .nil [])]⟩,
     ⟨(some 5), .mov (.c (.int .i64 0))⟩,
     ⟨(some 6), .mov (.c (.int .i64 0))⟩])
  (.seq
   (.seq
    (.reg [⟨(some 9), .mov (.tmp 0)⟩,
      ⟨(some 10), .len 0 (.tmp 9)⟩,
      ⟨(some 11), .mov (.tmp 1)⟩,
      ⟨(some 12), .bin .gtr (.tmp 10) (.tmp 11)⟩])
   (.cond (.tmp 12)
    (.seq
     (.reg [⟨(some 13), .build [(.int .i64 0), (.int .i64 0), (.str []), (.sl .nil []), (.sl .nil [])] []⟩,
       ⟨none, .store 5 (.tmp 4) (.tmp 13)⟩,
       ⟨(some 5), .mov (.c (.int .i64 0))⟩,
       ⟨(some 6), .mov (.c (.int .i64 6))⟩])
    .ret)
    .skip))
  (.seq
   (.reg [⟨(some 14), .mov (.tmp 0)⟩,
     ⟨(some 15), .build [(.str []), (.int .i64 0), (.int .i64 0), (.int .i64 0)] [(0, 1, (.tmp 14))]⟩,
     ⟨(some 16), .box 45 (.tmp 15)⟩,
     ⟨(some 7), .mov (.tmp 16)⟩])
  (.seq
   (.reg [⟨(some 17), .mov (.tmp 7)⟩,
     ⟨(some 18), .call false false (.c (.fn (.func 14) [] [])) [(.tmp 17), (.c (.int .i64 12))]⟩,
     ⟨(some 8), .new 26 [(.int .i64 0), (.int .i64 0), (.str []), (.sl .nil []), (.sl .nil [])]⟩,
     ⟨none, .store 5 (.tmp 8) (.tmp 18)⟩])
  (.seq
   (.seq
    (.reg [⟨(some 19), .mov (.tmp 7)⟩,
      ⟨(some 20), .nilchk (.tmp 19)⟩,
      ⟨(some 21), .fadr 3 (.tmp 20)⟩,
      ⟨(some 22), .load none (.tmp 21)⟩,
      ⟨(some 23), .bin .eql (.tmp 22) (.c (.int .i64 0))⟩])
   (.cond (.tmp 23)
    (.seq
     (.reg [⟨(some 24), .mov (.tmp 7)⟩,
       ⟨(some 25), .call false false (.c (.fn (.func 15) [] [])) [(.tmp 24)]⟩])
    (.seq
     (.reg [⟨(some 26), .mov (.tmp 7)⟩,
       ⟨(some 27), .nilchk (.tmp 26)⟩,
       ⟨(some 28), .fadr 1 (.tmp 27)⟩,
       ⟨(some 29), .load none (.tmp 28)⟩,
       ⟨(some 30), .mov (.tmp 0)⟩,
       ⟨(some 31), .len 0 (.tmp 30)⟩,
       ⟨(some 32), .bin .lss (.tmp 29) (.tmp 31)⟩])
    (.cond (.tmp 32)
     (.reg [⟨(some 33), .mov (.tmp 7)⟩,
       ⟨(some 34), .mov (.tmp 7)⟩,
       ⟨(some 35), .nilchk (.tmp 34)⟩,
       ⟨(some 36), .fadr 1 (.tmp 35)⟩,
       ⟨(some 37), .load none (.tmp 36)⟩,
       ⟨(some 38), .call false false (.c (.fn (.func 16) [] [])) [(.tmp 33), (.tmp 37), (.c (.int .i64 4))]⟩])
     .skip)))
    .skip))
  (.seq
   (.seq
    (.reg [⟨(some 39), .mov (.tmp 7)⟩,
      ⟨(some 40), .nilchk (.tmp 39)⟩,
      ⟨(some 41), .fadr 3 (.tmp 40)⟩,
      ⟨(some 42), .load none (.tmp 41)⟩,
      ⟨(some 43), .bin .neq (.tmp 42) (.c (.int .i64 0))⟩])
   (.cond (.tmp 43)
    (.seq
     (.regD [(47, 4), (51, 4)] [⟨(some 44), .build [(.int .i64 0), (.int .i64 0), (.str []), (.sl .nil []), (.sl .nil [])] []⟩,
       ⟨(some 45), .mov (.tmp 7)⟩,
       ⟨(some 46), .nilchk (.tmp 45)⟩,
       ⟨(some 47), .fadr 2 (.tmp 46)⟩,
       ⟨(some 48), .load none (.tmp 47)⟩,
       ⟨(some 49), .mov (.tmp 7)⟩,
       ⟨(some 50), .nilchk (.tmp 49)⟩,
       ⟨(some 51), .fadr 3 (.tmp 50)⟩,
       ⟨(some 52), .load none (.tmp 51)⟩,
       ⟨none, .store 5 (.tmp 4) (.tmp 44)⟩,
       ⟨(some 5), .mov (.tmp 48)⟩,
       ⟨(some 6), .mov (.tmp 52)⟩])
    .ret)
    .skip))
  (.seq
   (.reg [⟨(some 53), .load (some 5) (.tmp 8)⟩,
     ⟨none, .store 5 (.tmp 4) (.tmp 53)⟩,
     ⟨(some 5), .mov (.c (.int .i64 (-1)))⟩,
     ⟨(some 6), .mov (.c (.int .i64 0))⟩])
  .ret)))))))
def af8 : AFunc := ⟨54, [.cell 4 (some 5), .tmp 5, .tmp 6], af8b, false⟩

/-- cascade/cascaderef03.Same -/
def af9l0 : ACode :=
  (.seq
      (.seq
       (.reg [⟨(some 44), .mov (.tmp 5)⟩,
         ⟨(some 45), .fadr 3 (.tmp 2)⟩,
         ⟨(some 46), .load none (.tmp 45)⟩,
         ⟨(some 47), .len 1 (.tmp 46)⟩,
         ⟨(some 48), .bin .lss (.tmp 44) (.tmp 47)⟩])
      (.cond (.tmp 48)
       .skip
       (.exit 0)))
     (.seq
      (.blk 1
       (.seq
        (.regD [] [⟨(some 51), .fadr 3 (.tmp 2)⟩,
          ⟨(some 52), .load none (.tmp 51)⟩,
          ⟨(some 53), .mov (.tmp 5)⟩,
          ⟨(some 54), .iadr 5 (.tmp 52) (.tmp 53)⟩,
          ⟨(some 55), .load (some 5) (.tmp 54)⟩,
          ⟨(some 56), .fadr 3 (.tmp 3)⟩,
          ⟨(some 57), .load none (.tmp 56)⟩,
          ⟨(some 58), .mov (.tmp 5)⟩,
          ⟨(some 59), .iadr 5 (.tmp 57) (.tmp 58)⟩,
          ⟨(some 60), .load (some 5) (.tmp 59)⟩,
          ⟨(some 61), .call false false (.c (.fn (.func 9) [] [])) [(.tmp 55), (.tmp 60)]⟩,
          ⟨(some 62), .un .not (.tmp 61)⟩])
       (.cond (.tmp 62)
        (.seq
         (.reg [⟨(some 4), .mov (.c (.bool false))⟩])
        .ret)
        .skip)))
     (.reg [⟨(some 49), .mov (.tmp 5)⟩,
       ⟨(some 50), .bin .add (.tmp 49) (.c (.int .i64 1))⟩,
       ⟨(some 5), .mov (.tmp 50)⟩])))
def af9l1 : ACode :=
  (.seq
      (.seq
       (.reg [⟨(some 63), .mov (.tmp 6)⟩,
         ⟨(some 64), .fadr 4 (.tmp 2)⟩,
         ⟨(some 65), .load none (.tmp 64)⟩,
         ⟨(some 66), .len 1 (.tmp 65)⟩,
         ⟨(some 67), .bin .lss (.tmp 63) (.tmp 66)⟩])
      (.cond (.tmp 67)
       .skip
       (.exit 2)))
     (.seq
      (.blk 3
       (.seq
        (.regD [] [⟨(some 70), .fadr 4 (.tmp 2)⟩,
          ⟨(some 71), .load none (.tmp 70)⟩,
          ⟨(some 72), .mov (.tmp 6)⟩,
          ⟨(some 73), .iadr 6 (.tmp 71) (.tmp 72)⟩,
          ⟨(some 74), .fadr 0 (.tmp 73)⟩,
          ⟨(some 75), .load none (.tmp 74)⟩,
          ⟨(some 76), .fadr 4 (.tmp 3)⟩,
          ⟨(some 77), .load none (.tmp 76)⟩,
          ⟨(some 78), .mov (.tmp 6)⟩,
          ⟨(some 79), .iadr 6 (.tmp 77) (.tmp 78)⟩,
          ⟨(some 80), .fadr 0 (.tmp 79)⟩,
          ⟨(some 81), .load none (.tmp 80)⟩,
          ⟨(some 82), .bin .neq (.tmp 75) (.tmp 81)⟩,
          ⟨(some 98), .sc 83 false (.tmp 82) [⟨(some 84), .fadr 4 (.tmp 2)⟩, ⟨(some 85), .load none (.tmp 84)⟩, ⟨(some 86), .mov (.tmp 6)⟩, ⟨(some 87), .iadr 6 (.tmp 85) (.tmp 86)⟩, ⟨(some 88), .fadr 1 (.tmp 87)⟩, ⟨(some 89), .load (some 5) (.tmp 88)⟩, ⟨(some 90), .fadr 4 (.tmp 3)⟩, ⟨(some 91), .load none (.tmp 90)⟩, ⟨(some 92), .mov (.tmp 6)⟩, ⟨(some 93), .iadr 6 (.tmp 91) (.tmp 92)⟩, ⟨(some 94), .fadr 1 (.tmp 93)⟩, ⟨(some 95), .load (some 5) (.tmp 94)⟩, ⟨(some 96), .call false false (.c (.fn (.func 9) [] [])) [(.tmp 89), (.tmp 95)]⟩, ⟨(some 97), .un .not (.tmp 96)⟩] (.tmp 97)⟩])
       (.cond (.tmp 98)
        (.seq
         (.reg [⟨(some 4), .mov (.c (.bool false))⟩])
        .ret)
        .skip)))
     (.reg [⟨(some 68), .mov (.tmp 6)⟩,
       ⟨(some 69), .bin .add (.tmp 68) (.c (.int .i64 1))⟩,
       ⟨(some 6), .mov (.tmp 69)⟩])))
def af9b : ACode :=
  (.seq
   (.reg [⟨(some 2), .box 26 (.tmp 0)⟩,
     ⟨(some 3), .box 26 (.tmp 1)⟩,
     ⟨(some 4), .mov (.c (.bool false))⟩])
  (.seq
   (.seq
    (.reg [⟨(some 7), .fadr 0 (.tmp 2)⟩,
      ⟨(some 8), .load none (.tmp 7)⟩,
      ⟨(some 9), .fadr 0 (.tmp 3)⟩,
      ⟨(some 10), .load none (.tmp 9)⟩,
      ⟨(some 11), .bin .neq (.tmp 8) (.tmp 10)⟩,
      ⟨(some 18), .sc 12 false (.tmp 11) [⟨(some 13), .fadr 1 (.tmp 2)⟩, ⟨(some 14), .load none (.tmp 13)⟩, ⟨(some 15), .fadr 1 (.tmp 3)⟩, ⟨(some 16), .load none (.tmp 15)⟩, ⟨(some 17), .bin .neq (.tmp 14) (.tmp 16)⟩] (.tmp 17)⟩,
      ⟨(some 25), .sc 19 false (.tmp 18) [⟨(some 20), .fadr 2 (.tmp 2)⟩, ⟨(some 21), .load none (.tmp 20)⟩, ⟨(some 22), .fadr 2 (.tmp 3)⟩, ⟨(some 23), .load none (.tmp 22)⟩, ⟨(some 24), .bin .neq (.tmp 21) (.tmp 23)⟩] (.tmp 24)⟩,
      ⟨(some 34), .sc 26 false (.tmp 25) [⟨(some 27), .fadr 3 (.tmp 2)⟩, ⟨(some 28), .load none (.tmp 27)⟩, ⟨(some 29), .len 1 (.tmp 28)⟩, ⟨(some 30), .fadr 3 (.tmp 3)⟩, ⟨(some 31), .load none (.tmp 30)⟩, ⟨(some 32), .len 1 (.tmp 31)⟩, ⟨(some 33), .bin .neq (.tmp 29) (.tmp 32)⟩] (.tmp 33)⟩,
      ⟨(some 43), .sc 35 false (.tmp 34) [⟨(some 36), .fadr 4 (.tmp 2)⟩, ⟨(some 37), .load none (.tmp 36)⟩, ⟨(some 38), .len 1 (.tmp 37)⟩, ⟨(some 39), .fadr 4 (.tmp 3)⟩, ⟨(some 40), .load none (.tmp 39)⟩, ⟨(some 41), .len 1 (.tmp 40)⟩, ⟨(some 42), .bin .neq (.tmp 38) (.tmp 41)⟩] (.tmp 42)⟩])
   (.cond (.tmp 43)
    (.seq
     (.reg [⟨(some 4), .mov (.c (.bool false))⟩])
    .ret)
    .skip))
  (.seq
   (.seq
    (.reg [⟨(some 5), .mov (.c (.int .i64 0))⟩])
   (.blk 0
    (.loop false af9l0)))
  (.seq
   (.seq
    (.reg [⟨(some 6), .mov (.c (.int .i64 0))⟩])
   (.blk 2
    (.loop false af9l1)))
  (.seq
   (.reg [⟨(some 4), .mov (.c (.bool true))⟩])
  .ret)))))
def af9 : AFunc := ⟨99, [.tmp 4], af9b, false⟩

/-- cascade/cascadelaw05.spaces -/
def af10l0 : ACode :=
  (.seq
      (.seq
       (.reg [⟨(some 7), .mov (.tmp 4)⟩,
         ⟨(some 8), .mov (.tmp 0)⟩,
         ⟨(some 9), .bin .lss (.tmp 7) (.tmp 8)⟩])
      (.cond (.tmp 9)
       .skip
       (.exit 0)))
     (.seq
      (.blk 1
       (.reg [⟨(some 12), .mov (.tmp 3)⟩,
         ⟨(some 13), .mov (.tmp 4)⟩,
         ⟨(some 14), .iadr 1 (.tmp 12) (.tmp 13)⟩,
         ⟨none, .store 1 (.tmp 14) (.c (.int .u8 32))⟩]))
     (.reg [⟨(some 10), .mov (.tmp 4)⟩,
       ⟨(some 11), .bin .add (.tmp 10) (.c (.int .i64 1))⟩,
       ⟨(some 4), .mov (.tmp 11)⟩])))
def af10b : ACode :=
  (.seq
   (.reg [⟨(some 2), .mov (.c (.sl .nil []))⟩])
  (.seq
   (.reg [⟨(some 5), .mov (.tmp 0)⟩,
     ⟨(some 6), .mks 1 (1, 5) (.int .u8 0) (.tmp 5) (.tmp 5)⟩,
     ⟨(some 3), .mov (.tmp 6)⟩])
  (.seq
   (.seq
    (.reg [⟨(some 4), .mov (.c (.int .i64 0))⟩])
   (.blk 0
    (.loop false af10l0)))
  (.seq
   (.reg [⟨(some 15), .mov (.tmp 3)⟩,
     ⟨(some 2), .mov (.tmp 15)⟩])
  .ret))))
def af10 : AFunc := ⟨16, [.tmp 2], af10b, false⟩

/-- cascade/json.Encode -/
def af11b : ACode :=
  (.seq
   (.reg [⟨(some 1), .box 26 (.tmp 0)⟩,
     ⟨(some 2), .mov (.c (.str []))⟩,
     ⟨(some 3), .mov (.c (.int .i64 0))⟩])
  (.seq
   (.seq
    (.reg [⟨(some 5), .load (some 5) (.tmp 1)⟩,
      ⟨(some 6), .call false false (.c (.fn (.func 17) [] [])) [(.tmp 5)]⟩,
      ⟨(some 7), .un .not (.tmp 6)⟩])
   (.cond (.tmp 7)
    (.seq
     (.reg [⟨(some 2), .mov (.c (.str []))⟩,
       ⟨(some 3), .mov (.c (.int .i64 1))⟩])
    .ret)
    .skip))
  (.seq
   (.reg [⟨(some 4), .new 53 [.pnil, (.sl .nil [])]⟩])
  (.seq
   (.reg [⟨(some 8), .load (some 5) (.tmp 1)⟩,
     ⟨(some 9), .call false false (.c (.fn (.func 18) [] [])) [(.tmp 4), (.tmp 8)]⟩])
  (.seq
   (.reg [⟨(some 10), .call false false (.c (.fn (.func 19) [] [])) [(.tmp 4)]⟩,
     ⟨(some 2), .mov (.tmp 10)⟩,
     ⟨(some 3), .mov (.c (.int .i64 0))⟩])
  .ret)))))
def af11 : AFunc := ⟨11, [.tmp 2, .tmp 3], af11b, false⟩

/-- cascade/cascaderef05.Value -/
def af12l0 : ACode :=
  (.seq
      (.seq
       (.reg [⟨(some 69), .mov (.tmp 13)⟩,
         ⟨(some 70), .bin .lss (.tmp 69) (.c (.int .i64 3))⟩])
      (.cond (.tmp 70)
       .skip
       (.exit 0)))
     (.seq
      (.blk 1
       (.seq
        (.reg [⟨(some 73), .mov (.tmp 0)⟩,
          ⟨(some 74), .mov (.tmp 7)⟩,
          ⟨(some 75), .mov (.tmp 12)⟩,
          ⟨(some 76), .mov (.tmp 13)⟩,
          ⟨(some 77), .iadr 1 (.tmp 75) (.tmp 76)⟩,
          ⟨(some 78), .load none (.tmp 77)⟩,
          ⟨(some 79), .call false false (.c (.fn (.func 24) [] [])) [(.tmp 73), (.tmp 74), (.tmp 78)]⟩])
       (.cond (.tmp 79)
        (.seq
         (.reg [⟨(some 80), .build [(.int .i64 0), (.int .i64 0), (.str []), (.sl .nil []), (.sl .nil [])] []⟩,
           ⟨(some 14), .new 26 [(.int .i64 0), (.int .i64 0), (.str []), (.sl .nil []), (.sl .nil [])]⟩,
           ⟨none, .store 5 (.tmp 14) (.tmp 80)⟩])
        (.seq
         (.seq
          (.reg [⟨(some 81), .mov (.tmp 13)⟩,
            ⟨(some 82), .bin .gtr (.tmp 81) (.c (.int .i64 0))⟩])
         (.cond (.tmp 82)
          (.reg [⟨(some 83), .mov (.tmp 13)⟩,
            ⟨(some 84), .bin .sub (.tmp 83) (.c (.int .i64 1))⟩,
            ⟨(some 85), .build [(.int .i64 0), (.int .i64 0), (.str []), (.sl .nil []), (.sl .nil [])] [(0, 1, (.c (.int .i64 1))), (1, 1, (.tmp 84))]⟩,
            ⟨none, .store 5 (.tmp 14) (.tmp 85)⟩])
          .skip))
        (.seq
         (.regD [] [⟨(some 86), .load (some 5) (.tmp 14)⟩,
           ⟨(some 87), .mov (.tmp 7)⟩,
           ⟨(some 88), .mov (.tmp 12)⟩,
           ⟨(some 89), .mov (.tmp 13)⟩,
           ⟨(some 90), .iadr 1 (.tmp 88) (.tmp 89)⟩,
           ⟨(some 91), .load none (.tmp 90)⟩,
           ⟨(some 92), .len 0 (.tmp 91)⟩,
           ⟨(some 93), .bin .add (.tmp 87) (.tmp 92)⟩,
           ⟨(some 94), .build [(.int .i64 0), (.int .i64 0), (.str []), (.sl .nil []), (.sl .nil []), (.int .i64 0), (.int .i64 0)] [(0, 5, (.tmp 86)), (5, 1, (.tmp 93))]⟩,
           ⟨none, .store 7 (.tmp 6) (.tmp 94)⟩])
        .ret)))
        .skip)))
     (.reg [⟨(some 71), .mov (.tmp 13)⟩,
       ⟨(some 72), .bin .add (.tmp 71) (.c (.int .i64 1))⟩,
       ⟨(some 13), .mov (.tmp 72)⟩])))
def af12b : ACode :=
  (.seq
   (.reg [⟨(some 6), .new 40 [(.int .i64 0), (.int .i64 0), (.str []), (.sl .nil []), (.sl .nil []), (.int .i64 0), (.int .i64 0)]⟩])
  (.seq
   (.reg [⟨(some 15), .mov (.tmp 0)⟩,
     ⟨(some 16), .mov (.tmp 1)⟩,
     ⟨(some 17), .call false false (.c (.fn (.func 13) [] [])) [(.tmp 15), (.tmp 16)]⟩,
     ⟨(some 7), .mov (.tmp 17)⟩])
  (.seq
   (.seq
    (.reg [⟨(some 18), .mov (.tmp 7)⟩,
      ⟨(some 19), .mov (.tmp 0)⟩,
      ⟨(some 20), .len 0 (.tmp 19)⟩,
      ⟨(some 21), .bin .geq (.tmp 18) (.tmp 20)⟩])
   (.cond (.tmp 21)
    (.seq
     (.reg [⟨(some 22), .mov (.tmp 7)⟩,
       ⟨(some 23), .build [(.int .i64 0), (.int .i64 0), (.str []), (.sl .nil []), (.sl .nil []), (.int .i64 0), (.int .i64 0)] [(5, 1, (.tmp 22)), (6, 1, (.c (.int .i64 4)))]⟩,
       ⟨none, .store 7 (.tmp 6) (.tmp 23)⟩])
    .ret)
    .skip))
  (.seq
   (.seq
    (.reg [⟨(some 24), .mov (.tmp 2)⟩,
      ⟨(some 25), .bin .lss (.tmp 24) (.c (.int .i64 1))⟩])
   (.cond (.tmp 25)
    (.seq
     (.reg [⟨(some 26), .mov (.tmp 7)⟩,
       ⟨(some 27), .build [(.int .i64 0), (.int .i64 0), (.str []), (.sl .nil []), (.sl .nil []), (.int .i64 0), (.int .i64 0)] [(5, 1, (.tmp 26)), (6, 1, (.c (.int .i64 5)))]⟩,
       ⟨none, .store 7 (.tmp 6) (.tmp 27)⟩])
    .ret)
    .skip))
  (.seq
   (.reg [⟨(some 28), .mov (.tmp 0)⟩,
     ⟨(some 29), .mov (.tmp 7)⟩,
     ⟨(some 30), .idx (.tmp 28) (.tmp 29)⟩,
     ⟨(some 8), .mov (.tmp 30)⟩])
  (.seq
   (.seq
    (.reg [⟨(some 31), .mov (.tmp 8)⟩,
      ⟨(some 32), .bin .eql (.tmp 31) (.c (.int .u8 34))⟩])
   (.cond (.tmp 32)
    (.seq
     (.reg [⟨(some 34), .mov (.tmp 0)⟩,
       ⟨(some 35), .mov (.tmp 7)⟩,
       ⟨(some 36), .slcS (.tmp 34) (some (.tmp 35)) none⟩,
       ⟨(some 37), .call false false (.c (.fn (.func 20) [] [])) [(.tmp 36)]⟩,
       ⟨(some 33), .mov (.tmp 37)⟩,
       ⟨(some 38), .ext (.tmp 33) 0⟩,
       ⟨(some 39), .ext (.tmp 33) 1⟩,
       ⟨(some 40), .ext (.tmp 33) 2⟩,
       ⟨(some 9), .mov (.tmp 38)⟩,
       ⟨(some 10), .mov (.tmp 39)⟩,
       ⟨(some 11), .mov (.tmp 40)⟩])
    (.seq
     (.reg [⟨(some 41), .mov (.tmp 9)⟩,
       ⟨(some 42), .build [(.int .i64 0), (.int .i64 0), (.str []), (.sl .nil []), (.sl .nil [])] [(0, 1, (.c (.int .i64 3))), (2, 1, (.tmp 41))]⟩,
       ⟨(some 43), .mov (.tmp 7)⟩,
       ⟨(some 44), .mov (.tmp 10)⟩,
       ⟨(some 45), .bin .add (.tmp 43) (.tmp 44)⟩,
       ⟨(some 46), .mov (.tmp 11)⟩,
       ⟨(some 47), .build [(.int .i64 0), (.int .i64 0), (.str []), (.sl .nil []), (.sl .nil []), (.int .i64 0), (.int .i64 0)] [(0, 5, (.tmp 42)), (5, 1, (.tmp 45)), (6, 1, (.tmp 46))]⟩,
       ⟨none, .store 7 (.tmp 6) (.tmp 47)⟩])
    .ret))
    .skip))
  (.seq
   (.seq
    (.reg [⟨(some 48), .mov (.tmp 8)⟩,
      ⟨(some 49), .bin .eql (.tmp 48) (.c (.int .u8 45))⟩,
      ⟨(some 54), .sc 50 false (.tmp 49) [⟨(some 51), .mov (.tmp 0)⟩, ⟨(some 52), .mov (.tmp 7)⟩, ⟨(some 53), .call false false (.c (.fn (.func 21) [] [])) [(.tmp 51), (.tmp 52)]⟩] (.tmp 53)⟩])
   (.cond (.tmp 54)
    (.seq
     (.reg [⟨(some 55), .mov (.tmp 0)⟩,
       ⟨(some 56), .mov (.tmp 7)⟩,
       ⟨(some 57), .call false false (.c (.fn (.func 22) [] [])) [(.tmp 55), (.tmp 56)]⟩,
       ⟨none, .store 7 (.tmp 6) (.tmp 57)⟩])
    .ret)
    .skip))
  (.seq
   (.seq
    (.reg [⟨(some 58), .mov (.tmp 8)⟩,
      ⟨(some 59), .bin .eql (.tmp 58) (.c (.int .u8 91))⟩,
      ⟨(some 63), .sc 60 false (.tmp 59) [⟨(some 61), .mov (.tmp 8)⟩, ⟨(some 62), .bin .eql (.tmp 61) (.c (.int .u8 123))⟩] (.tmp 62)⟩])
   (.cond (.tmp 63)
    (.seq
     (.reg [⟨(some 64), .mov (.tmp 0)⟩,
       ⟨(some 65), .mov (.tmp 7)⟩,
       ⟨(some 66), .mov (.tmp 2)⟩,
       ⟨(some 67), .call false false (.c (.fn (.func 23) [] [])) [(.tmp 64), (.tmp 65), (.tmp 66)]⟩,
       ⟨none, .store 7 (.tmp 6) (.tmp 67)⟩])
    .ret)
    .skip))
  (.seq
   (.reg [⟨(some 68), .bsl 1 (.str []) 3 [(0, (.c (.str [110, 117, 108, 108]))), (1, (.c (.str [102, 97, 108, 115, 101]))), (2, (.c (.str [116, 114, 117, 101])))]⟩,
     ⟨(some 12), .mov (.tmp 68)⟩])
  (.seq
   (.seq
    (.reg [⟨(some 13), .mov (.c (.int .i64 0))⟩])
   (.blk 0
    (.loop false af12l0)))
  (.seq
   (.reg [⟨(some 95), .mov (.tmp 7)⟩,
     ⟨(some 96), .build [(.int .i64 0), (.int .i64 0), (.str []), (.sl .nil []), (.sl .nil []), (.int .i64 0), (.int .i64 0)] [(5, 1, (.tmp 95)), (6, 1, (.c (.int .i64 4)))]⟩,
     ⟨none, .store 7 (.tmp 6) (.tmp 96)⟩])
  .ret)))))))))))
def af12 : AFunc := ⟨97, [.cell 6 (some 7)], af12b, false⟩

/-- cascade/cascaderef05.blank -/
def af13l0 : ACode :=
  (.seq
      (.seq
       (.reg [⟨(some 5), .mov (.tmp 1)⟩,
         ⟨(some 6), .mov (.tmp 0)⟩,
         ⟨(some 7), .len 0 (.tmp 6)⟩,
         ⟨(some 8), .bin .lss (.tmp 5) (.tmp 7)⟩,
         ⟨(some 32), .sc 9 true (.tmp 8) [⟨(some 10), .mov (.tmp 0)⟩, ⟨(some 11), .mov (.tmp 1)⟩, ⟨(some 12), .idx (.tmp 10) (.tmp 11)⟩, ⟨(some 13), .bin .eql (.tmp 12) (.c (.int .u8 32))⟩, ⟨(some 19), .sc 14 false (.tmp 13) [⟨(some 15), .mov (.tmp 0)⟩, ⟨(some 16), .mov (.tmp 1)⟩, ⟨(some 17), .idx (.tmp 15) (.tmp 16)⟩, ⟨(some 18), .bin .eql (.tmp 17) (.c (.int .u8 9))⟩] (.tmp 18)⟩, ⟨(some 25), .sc 20 false (.tmp 19) [⟨(some 21), .mov (.tmp 0)⟩, ⟨(some 22), .mov (.tmp 1)⟩, ⟨(some 23), .idx (.tmp 21) (.tmp 22)⟩, ⟨(some 24), .bin .eql (.tmp 23) (.c (.int .u8 10))⟩] (.tmp 24)⟩, ⟨(some 31), .sc 26 false (.tmp 25) [⟨(some 27), .mov (.tmp 0)⟩, ⟨(some 28), .mov (.tmp 1)⟩, ⟨(some 29), .idx (.tmp 27) (.tmp 28)⟩, ⟨(some 30), .bin .eql (.tmp 29) (.c (.int .u8 13))⟩] (.tmp 30)⟩] (.tmp 31)⟩])
      (.cond (.tmp 32)
       .skip
       (.exit 0)))
     (.blk 1
      (.reg [⟨(some 33), .mov (.tmp 1)⟩,
        ⟨(some 34), .bin .add (.tmp 33) (.c (.int .i64 1))⟩,
        ⟨(some 1), .mov (.tmp 34)⟩])))
def af13b : ACode :=
  (.seq
   (.reg [⟨(some 4), .mov (.c (.int .i64 0))⟩])
  (.seq
   (.blk 0
    (.loop false af13l0))
  (.seq
   (.reg [⟨(some 35), .mov (.tmp 1)⟩,
     ⟨(some 4), .mov (.tmp 35)⟩])
  .ret)))
def af13 : AFunc := ⟨36, [.tmp 4], af13b, false⟩

/-- (*cascade/json.reader).value -/
def af14b : ACode :=
  (.seq
   (.reg [⟨(some 2), .box 43 (.tmp 0)⟩,
     ⟨(some 3), .box 3 (.tmp 1)⟩,
     ⟨(some 4), .new 26 [(.int .i64 0), (.int .i64 0), (.str []), (.sl .nil []), (.sl .nil [])]⟩])
  (.seq
   (.reg [⟨(some 7), .load none (.tmp 2)⟩,
     ⟨(some 8), .call false false (.c (.fn (.func 25) [] [])) [(.tmp 7)]⟩,
     ⟨(some 5), .mov (.tmp 8)⟩])
  (.seq
   (.reg [⟨(some 9), .build [(.int .i64 0), (.int .i64 0), (.str []), (.sl .nil []), (.sl .nil [])] [(0, 1, (.c (.int .i64 4)))]⟩,
     ⟨(some 6), .new 26 [(.int .i64 0), (.int .i64 0), (.str []), (.sl .nil []), (.sl .nil [])]⟩,
     ⟨none, .store 5 (.tmp 6) (.tmp 9)⟩])
  (.seq
   (.blk 0
    (.seq
     (.regD [] [⟨(some 11), .load none (.tmp 2)⟩,
       ⟨(some 12), .nilchk (.tmp 11)⟩,
       ⟨(some 13), .fadr 1 (.tmp 12)⟩,
       ⟨(some 14), .load none (.tmp 13)⟩,
       ⟨(some 15), .load none (.tmp 2)⟩,
       ⟨(some 16), .nilchk (.tmp 15)⟩,
       ⟨(some 17), .fadr 0 (.tmp 16)⟩,
       ⟨(some 18), .load none (.tmp 17)⟩,
       ⟨(some 19), .len 0 (.tmp 18)⟩,
       ⟨(some 20), .bin .eql (.tmp 14) (.tmp 19)⟩,
       ⟨(some 10), .mov (.tmp 20)⟩])
    (.cond (.tmp 10)
     (.seq
      (.regD [] [⟨(some 21), .load none (.tmp 2)⟩,
        ⟨(some 22), .load none (.tmp 2)⟩,
        ⟨(some 23), .nilchk (.tmp 22)⟩,
        ⟨(some 24), .fadr 1 (.tmp 23)⟩,
        ⟨(some 25), .load none (.tmp 24)⟩,
        ⟨(some 26), .call false false (.c (.fn (.func 16) [] [])) [(.tmp 21), (.tmp 25), (.c (.int .i64 4))]⟩])
     (.seq
      (.reg [⟨(some 27), .build [(.int .i64 0), (.int .i64 0), (.str []), (.sl .nil []), (.sl .nil [])] []⟩,
        ⟨none, .store 5 (.tmp 4) (.tmp 27)⟩])
     .ret))
     (.seq
      (.reg [⟨(some 29), .load none (.tmp 3)⟩,
        ⟨(some 30), .bin .lss (.tmp 29) (.c (.int .i64 1))⟩,
        ⟨(some 28), .mov (.tmp 30)⟩])
     (.cond (.tmp 28)
      (.seq
       (.regD [] [⟨(some 31), .load none (.tmp 2)⟩,
         ⟨(some 32), .load none (.tmp 2)⟩,
         ⟨(some 33), .nilchk (.tmp 32)⟩,
         ⟨(some 34), .fadr 1 (.tmp 33)⟩,
         ⟨(some 35), .load none (.tmp 34)⟩,
         ⟨(some 36), .call false false (.c (.fn (.func 16) [] [])) [(.tmp 31), (.tmp 35), (.c (.int .i64 5))]⟩])
      (.seq
       (.reg [⟨(some 37), .build [(.int .i64 0), (.int .i64 0), (.str []), (.sl .nil []), (.sl .nil [])] []⟩,
         ⟨none, .store 5 (.tmp 4) (.tmp 37)⟩])
      .ret))
      (.seq
       (.reg [⟨(some 39), .mov (.tmp 5)⟩,
         ⟨(some 40), .bin .eql (.tmp 39) (.c (.int .u8 34))⟩,
         ⟨(some 38), .mov (.tmp 40)⟩])
      (.cond (.tmp 38)
       (.seq
        (.reg [⟨(some 41), .load none (.tmp 2)⟩,
          ⟨(some 42), .call false false (.c (.fn (.func 26) [] [])) [(.tmp 41)]⟩,
          ⟨(some 43), .build [(.int .i64 0), (.int .i64 0), (.str []), (.sl .nil []), (.sl .nil [])] [(0, 1, (.c (.int .i64 3))), (2, 1, (.tmp 42))]⟩,
          ⟨none, .store 5 (.tmp 4) (.tmp 43)⟩])
       .ret)
       (.seq
        (.reg [⟨(some 45), .mov (.tmp 5)⟩,
          ⟨(some 46), .bin .eql (.tmp 45) (.c (.int .u8 45))⟩,
          ⟨(some 54), .sc 47 false (.tmp 46) [⟨(some 48), .mov (.tmp 5)⟩, ⟨(some 49), .bin .geq (.tmp 48) (.c (.int .u8 48))⟩, ⟨(some 53), .sc 50 true (.tmp 49) [⟨(some 51), .mov (.tmp 5)⟩, ⟨(some 52), .bin .leq (.tmp 51) (.c (.int .u8 57))⟩] (.tmp 52)⟩] (.tmp 53)⟩,
          ⟨(some 44), .mov (.tmp 54)⟩])
       (.cond (.tmp 44)
        (.seq
         (.reg [⟨(some 55), .load none (.tmp 2)⟩,
           ⟨(some 56), .call false false (.c (.fn (.func 27) [] [])) [(.tmp 55)]⟩,
           ⟨none, .store 5 (.tmp 4) (.tmp 56)⟩])
        .ret)
        (.seq
         (.reg [⟨(some 58), .mov (.tmp 5)⟩,
           ⟨(some 59), .bin .eql (.tmp 58) (.c (.int .u8 91))⟩,
           ⟨(some 57), .mov (.tmp 59)⟩])
        (.cond (.tmp 57)
         (.seq
          (.reg [⟨(some 60), .load none (.tmp 2)⟩,
            ⟨(some 61), .mkfn (.func 29) [] [(.tmp 6), (.tmp 2), (.tmp 3)]⟩,
            ⟨(some 62), .call false false (.c (.fn (.func 28) [] [])) [(.tmp 60), (.c (.int .u8 93)), (.tmp 61)]⟩])
         (.seq
          (.reg [⟨(some 63), .load (some 5) (.tmp 6)⟩,
            ⟨none, .store 5 (.tmp 4) (.tmp 63)⟩])
         .ret))
         (.seq
          (.reg [⟨(some 65), .mov (.tmp 5)⟩,
            ⟨(some 66), .bin .eql (.tmp 65) (.c (.int .u8 123))⟩,
            ⟨(some 64), .mov (.tmp 66)⟩])
         (.cond (.tmp 64)
          (.seq
           (.reg [⟨(some 67), .fadr 0 (.tmp 6)⟩,
             ⟨none, .store 1 (.tmp 67) (.c (.int .i64 5))⟩])
          (.seq
           (.reg [⟨(some 68), .load none (.tmp 2)⟩,
             ⟨(some 69), .mkfn (.func 30) [] [(.tmp 6), (.tmp 2), (.tmp 3)]⟩,
             ⟨(some 70), .call false false (.c (.fn (.func 28) [] [])) [(.tmp 68), (.c (.int .u8 125)), (.tmp 69)]⟩])
          (.seq
           (.reg [⟨(some 71), .load (some 5) (.tmp 6)⟩,
             ⟨none, .store 5 (.tmp 4) (.tmp 71)⟩])
          .ret)))
          .skip)))))))))))))
  (.seq
   (.reg [⟨(some 72), .load none (.tmp 2)⟩,
     ⟨(some 73), .call false false (.c (.fn (.func 32) [] [])) [(.tmp 72)]⟩,
     ⟨none, .store 5 (.tmp 4) (.tmp 73)⟩])
  .ret)))))
def af14 : AFunc := ⟨74, [.cell 4 (some 5)], af14b, false⟩

/-- (*cascade/json.reader).skip -/
def af15l0 : ACode :=
  (.seq
     (.seq
      (.regD [] [⟨(some 2), .mov (.tmp 0)⟩,
        ⟨(some 3), .nilchk (.tmp 2)⟩,
        ⟨(some 4), .fadr 1 (.tmp 3)⟩,
        ⟨(some 5), .load none (.tmp 4)⟩,
        ⟨(some 6), .mov (.tmp 0)⟩,
        ⟨(some 7), .nilchk (.tmp 6)⟩,
        ⟨(some 8), .fadr 0 (.tmp 7)⟩,
        ⟨(some 9), .load none (.tmp 8)⟩,
        ⟨(some 10), .len 0 (.tmp 9)⟩,
        ⟨(some 11), .bin .lss (.tmp 5) (.tmp 10)⟩,
        ⟨(some 24), .sc 12 true (.tmp 11) [⟨(some 13), .mov (.tmp 0)⟩, ⟨(some 14), .nilchk (.tmp 13)⟩, ⟨(some 15), .fadr 0 (.tmp 14)⟩, ⟨(some 16), .load none (.tmp 15)⟩, ⟨(some 17), .mov (.tmp 0)⟩, ⟨(some 18), .nilchk (.tmp 17)⟩, ⟨(some 19), .fadr 1 (.tmp 18)⟩, ⟨(some 20), .load none (.tmp 19)⟩, ⟨(some 21), .idx (.tmp 16) (.tmp 20)⟩, ⟨(some 22), .call false false (.c (.fn (.func 33) [] [])) [(.c (.str [32, 9, 10, 13])), (.tmp 21)]⟩, ⟨(some 23), .bin .geq (.tmp 22) (.c (.int .i64 0))⟩] (.tmp 23)⟩])
     (.cond (.tmp 24)
      .skip
      (.exit 0)))
    (.blk 1
     (.reg [⟨(some 25), .mov (.tmp 0)⟩,
       ⟨(some 26), .nilchk (.tmp 25)⟩,
       ⟨(some 27), .fadr 1 (.tmp 26)⟩,
       ⟨(some 28), .load none (.tmp 27)⟩,
       ⟨(some 29), .bin .add (.tmp 28) (.c (.int .i64 1))⟩,
       ⟨(some 30), .nilchk (.tmp 25)⟩,
       ⟨(some 31), .fadr 1 (.tmp 30)⟩,
       ⟨none, .store 1 (.tmp 31) (.tmp 29)⟩])))
def af15b : ACode :=
  (.blk 0
   (.loop false af15l0))
def af15 : AFunc := ⟨32, [], af15b, false⟩

/-- (*cascade/json.reader).fail -/
def af16b : ACode :=
  (.seq
   (.reg [⟨(some 6), .mov (.tmp 0)⟩,
     ⟨(some 7), .nilchk (.tmp 6)⟩,
     ⟨(some 8), .fadr 3 (.tmp 7)⟩,
     ⟨(some 9), .load none (.tmp 8)⟩,
     ⟨(some 10), .bin .eql (.tmp 9) (.c (.int .i64 0))⟩])
  (.cond (.tmp 10)
   (.reg [⟨(some 11), .mov (.tmp 0)⟩,
     ⟨(some 12), .mov (.tmp 0)⟩,
     ⟨(some 13), .mov (.tmp 1)⟩,
     ⟨(some 14), .mov (.tmp 2)⟩,
     ⟨(some 15), .nilchk (.tmp 11)⟩,
     ⟨(some 16), .fadr 2 (.tmp 15)⟩,
     ⟨none, .store 1 (.tmp 16) (.tmp 13)⟩,
     ⟨(some 17), .nilchk (.tmp 12)⟩,
     ⟨(some 18), .fadr 3 (.tmp 17)⟩,
     ⟨none, .store 1 (.tmp 18) (.tmp 14)⟩])
   .skip))
def af16 : AFunc := ⟨19, [], af16b, false⟩

/-- cascade/tree.Right -/
def af17b : ACode :=
  (.seq
   (.reg [⟨(some 1), .box 26 (.tmp 0)⟩,
     ⟨(some 2), .mov (.c (.bool false))⟩])
  (.seq
   (.reg [⟨(some 3), .new 67 [.nilF]⟩])
  (.seq
   (.reg [⟨(some 4), .mkfn (.func 34) [] [(.tmp 3)]⟩,
     ⟨none, .store 1 (.tmp 3) (.tmp 4)⟩])
  (.seq
   (.reg [⟨(some 5), .load none (.tmp 3)⟩,
     ⟨(some 6), .load (some 5) (.tmp 1)⟩,
     ⟨(some 7), .call false false (.tmp 5) [(.tmp 6), (.c (.int .i64 12))]⟩,
     ⟨(some 2), .mov (.tmp 7)⟩])
  .ret))))
def af17 : AFunc := ⟨8, [.tmp 2], af17b, false⟩

/-- cascade/json.encode -/
def af18l0 : ACode :=
  (.seq
            (.reg [⟨(some 52), .bin .lss (.tmp 51) (.tmp 50)⟩])
           (.seq
            (.cond (.tmp 52)
             .skip
             (.exit 1))
           (.seq
            (.blk 2
             (.seq
              (.reg [⟨(some 53), .mov (.tmp 51)⟩,
                ⟨(some 54), .iadr 5 (.tmp 49) (.tmp 51)⟩,
                ⟨(some 55), .load (some 5) (.tmp 54)⟩,
                ⟨(some 7), .new 26 [(.int .i64 0), (.int .i64 0), (.str []), (.sl .nil []), (.sl .nil [])]⟩,
                ⟨(some 6), .mov (.tmp 53)⟩,
                ⟨none, .store 5 (.tmp 7) (.tmp 55)⟩])
             (.seq
              (.seq
               (.reg [⟨(some 56), .mov (.tmp 6)⟩,
                 ⟨(some 57), .bin .gtr (.tmp 56) (.c (.int .i64 0))⟩])
              (.cond (.tmp 57)
               (.reg [⟨(some 58), .mov (.tmp 0)⟩,
                 ⟨(some 59), .call false false (.c (.fn (.func 46) [] [])) [(.tmp 58), (.c (.int .u8 44))]⟩])
               .skip))
             (.reg [⟨(some 60), .mov (.tmp 0)⟩,
               ⟨(some 61), .load (some 5) (.tmp 7)⟩,
               ⟨(some 62), .call false false (.c (.fn (.func 18) [] [])) [(.tmp 60), (.tmp 61)]⟩]))))
           (.reg [⟨(some 63), .bin .add (.tmp 51) (.c (.int .i64 1))⟩,
             ⟨(some 51), .mov (.tmp 63)⟩]))))
def af18l1 : ACode :=
  (.seq
             (.reg [⟨(some 74), .bin .lss (.tmp 73) (.tmp 72)⟩])
            (.seq
             (.cond (.tmp 74)
              .skip
              (.exit 3))
            (.seq
             (.blk 4
              (.seq
               (.reg [⟨(some 75), .mov (.tmp 73)⟩,
                 ⟨(some 76), .iadr 6 (.tmp 71) (.tmp 73)⟩,
                 ⟨(some 77), .load (some 6) (.tmp 76)⟩,
                 ⟨(some 9), .new 49 [(.str []), (.int .i64 0), (.int .i64 0), (.str []), (.sl .nil []), (.sl .nil [])]⟩,
                 ⟨(some 8), .mov (.tmp 75)⟩,
                 ⟨none, .store 6 (.tmp 9) (.tmp 77)⟩])
              (.seq
               (.seq
                (.reg [⟨(some 78), .mov (.tmp 8)⟩,
                  ⟨(some 79), .bin .gtr (.tmp 78) (.c (.int .i64 0))⟩])
               (.cond (.tmp 79)
                (.reg [⟨(some 80), .mov (.tmp 0)⟩,
                  ⟨(some 81), .call false false (.c (.fn (.func 46) [] [])) [(.tmp 80), (.c (.int .u8 44))]⟩])
                .skip))
              (.seq
               (.reg [⟨(some 83), .fadr 0 (.tmp 9)⟩,
                 ⟨(some 84), .load none (.tmp 83)⟩,
                 ⟨(some 85), .call false false (.c (.fn (.func 45) [] [])) [(.tmp 84)]⟩,
                 ⟨(some 82), .mov (.tmp 85)⟩,
                 ⟨(some 86), .ext (.tmp 82) 0⟩,
                 ⟨(some 87), .ext (.tmp 82) 1⟩,
                 ⟨(some 10), .mov (.tmp 86)⟩,
                 ⟨(some 11), .mov (.tmp 87)⟩])
              (.seq
               (.reg [⟨(some 88), .mov (.tmp 0)⟩,
                 ⟨(some 89), .mov (.tmp 10)⟩,
                 ⟨(some 90), .call false false (.c (.fn (.func 42) [] [])) [(.tmp 88), (.tmp 89)]⟩])
              (.seq
               (.reg [⟨(some 91), .mov (.tmp 0)⟩,
                 ⟨(some 92), .call false false (.c (.fn (.func 46) [] [])) [(.tmp 91), (.c (.int .u8 58))]⟩])
              (.reg [⟨(some 93), .mov (.tmp 0)⟩,
                ⟨(some 94), .fadr 1 (.tmp 9)⟩,
                ⟨(some 95), .load (some 5) (.tmp 94)⟩,
                ⟨(some 96), .call false false (.c (.fn (.func 18) [] [])) [(.tmp 93), (.tmp 95)]⟩])))))))
            (.reg [⟨(some 97), .bin .add (.tmp 73) (.c (.int .i64 1))⟩,
              ⟨(some 73), .mov (.tmp 97)⟩]))))
def af18b : ACode :=
  (.seq
   (.reg [⟨(some 3), .box 26 (.tmp 1)⟩])
  (.seq
   (.reg [⟨(some 12), .fadr 0 (.tmp 3)⟩,
     ⟨(some 13), .load none (.tmp 12)⟩])
  (.blk 0
   (.seq
    (.reg [⟨(some 15), .bin .eql (.tmp 13) (.c (.int .i64 0))⟩,
      ⟨(some 14), .mov (.tmp 15)⟩])
   (.cond (.tmp 14)
    (.reg [⟨(some 16), .mov (.tmp 0)⟩,
      ⟨(some 17), .call false false (.c (.fn (.func 42) [] [])) [(.tmp 16), (.c (.str [110, 117, 108, 108]))]⟩])
    (.seq
     (.reg [⟨(some 19), .bin .eql (.tmp 13) (.c (.int .i64 1))⟩,
       ⟨(some 18), .mov (.tmp 19)⟩])
    (.cond (.tmp 18)
     (.reg [⟨(some 20), .mov (.tmp 0)⟩,
       ⟨(some 21), .fadr 1 (.tmp 3)⟩,
       ⟨(some 22), .load none (.tmp 21)⟩,
       ⟨(some 23), .bin .eql (.tmp 22) (.c (.int .i64 1))⟩,
       ⟨(some 24), .call false false (.c (.fn (.func 43) [] [])) [(.tmp 23)]⟩,
       ⟨(some 25), .call false false (.c (.fn (.func 42) [] [])) [(.tmp 20), (.tmp 24)]⟩])
     (.seq
      (.reg [⟨(some 27), .bin .eql (.tmp 13) (.c (.int .i64 2))⟩,
        ⟨(some 26), .mov (.tmp 27)⟩])
     (.cond (.tmp 26)
      (.reg [⟨(some 28), .mov (.tmp 0)⟩,
        ⟨(some 29), .fadr 1 (.tmp 3)⟩,
        ⟨(some 30), .load none (.tmp 29)⟩,
        ⟨(some 31), .call false false (.c (.fn (.func 44) [] [])) [(.tmp 30), (.c (.int .i64 10))]⟩,
        ⟨(some 32), .call false false (.c (.fn (.func 42) [] [])) [(.tmp 28), (.tmp 31)]⟩])
      (.seq
       (.reg [⟨(some 34), .bin .eql (.tmp 13) (.c (.int .i64 3))⟩,
         ⟨(some 33), .mov (.tmp 34)⟩])
      (.cond (.tmp 33)
       (.seq
        (.reg [⟨(some 36), .fadr 2 (.tmp 3)⟩,
          ⟨(some 37), .load none (.tmp 36)⟩,
          ⟨(some 38), .call false false (.c (.fn (.func 45) [] [])) [(.tmp 37)]⟩,
          ⟨(some 35), .mov (.tmp 38)⟩,
          ⟨(some 39), .ext (.tmp 35) 0⟩,
          ⟨(some 40), .ext (.tmp 35) 1⟩,
          ⟨(some 4), .mov (.tmp 39)⟩,
          ⟨(some 5), .mov (.tmp 40)⟩])
       (.reg [⟨(some 41), .mov (.tmp 0)⟩,
         ⟨(some 42), .mov (.tmp 4)⟩,
         ⟨(some 43), .call false false (.c (.fn (.func 42) [] [])) [(.tmp 41), (.tmp 42)]⟩]))
       (.seq
        (.reg [⟨(some 45), .bin .eql (.tmp 13) (.c (.int .i64 4))⟩,
          ⟨(some 44), .mov (.tmp 45)⟩])
       (.cond (.tmp 44)
        (.seq
         (.reg [⟨(some 46), .mov (.tmp 0)⟩,
           ⟨(some 47), .call false false (.c (.fn (.func 46) [] [])) [(.tmp 46), (.c (.int .u8 91))]⟩])
        (.seq
         (.seq
          (.reg [⟨(some 48), .fadr 3 (.tmp 3)⟩,
            ⟨(some 49), .load none (.tmp 48)⟩,
            ⟨(some 50), .len 1 (.tmp 49)⟩,
            ⟨(some 51), .mov (.c (.int .i64 0))⟩])
         (.blk 1
          (.loop false af18l0)))
        (.reg [⟨(some 64), .mov (.tmp 0)⟩,
          ⟨(some 65), .call false false (.c (.fn (.func 46) [] [])) [(.tmp 64), (.c (.int .u8 93))]⟩])))
        (.seq
         (.reg [⟨(some 67), .bin .eql (.tmp 13) (.c (.int .i64 5))⟩,
           ⟨(some 66), .mov (.tmp 67)⟩])
        (.cond (.tmp 66)
         (.seq
          (.reg [⟨(some 68), .mov (.tmp 0)⟩,
            ⟨(some 69), .call false false (.c (.fn (.func 46) [] [])) [(.tmp 68), (.c (.int .u8 123))]⟩])
         (.seq
          (.seq
           (.reg [⟨(some 70), .fadr 4 (.tmp 3)⟩,
             ⟨(some 71), .load none (.tmp 70)⟩,
             ⟨(some 72), .len 1 (.tmp 71)⟩,
             ⟨(some 73), .mov (.c (.int .i64 0))⟩])
          (.blk 3
           (.loop false af18l1)))
         (.reg [⟨(some 98), .mov (.tmp 0)⟩,
           ⟨(some 99), .call false false (.c (.fn (.func 46) [] [])) [(.tmp 98), (.c (.int .u8 125))]⟩])))
         .skip)))))))))))))))
def af18 : AFunc := ⟨100, [], af18b, false⟩

/-- (*strings.Builder).String -/
def af19b : ACode :=
  (.seq
   (.reg [⟨(some 2), .mov (.c (.str []))⟩])
  (.seq
   (.regD [] [⟨(some 3), .mov (.tmp 0)⟩,
     ⟨(some 4), .nilchk (.tmp 3)⟩,
     ⟨(some 5), .fadr 1 (.tmp 4)⟩,
     ⟨(some 6), .load none (.tmp 5)⟩,
     ⟨(some 7), .sdata (.tmp 6)⟩,
     ⟨(some 8), .mov (.tmp 0)⟩,
     ⟨(some 9), .nilchk (.tmp 8)⟩,
     ⟨(some 10), .fadr 1 (.tmp 9)⟩,
     ⟨(some 11), .load none (.tmp 10)⟩,
     ⟨(some 12), .len 1 (.tmp 11)⟩,
     ⟨(some 13), .ustr 5 (.tmp 7) (.tmp 12)⟩,
     ⟨(some 2), .mov (.tmp 13)⟩])
  .ret))
def af19 : AFunc := ⟨14, [.tmp 2], af19b, false⟩

/-- cascade/cascaderef02.Unquote -/
def af20l0 : ACode :=
  (.seq
      (.seq
       (.reg [⟨(some 19), .mov (.tmp 6)⟩,
         ⟨(some 20), .mov (.tmp 0)⟩,
         ⟨(some 21), .len 0 (.tmp 20)⟩,
         ⟨(some 22), .bin .lss (.tmp 19) (.tmp 21)⟩])
      (.cond (.tmp 22)
       .skip
       (.exit 0)))
     (.blk 1
      (.seq
       (.seq
        (.reg [⟨(some 23), .mov (.tmp 0)⟩,
          ⟨(some 24), .mov (.tmp 6)⟩,
          ⟨(some 25), .idx (.tmp 23) (.tmp 24)⟩,
          ⟨(some 26), .bin .eql (.tmp 25) (.c (.int .u8 34))⟩])
       (.cond (.tmp 26)
        (.seq
         (.reg [⟨(some 27), .mov (.tmp 5)⟩,
           ⟨(some 28), .mov (.tmp 6)⟩,
           ⟨(some 29), .bin .add (.tmp 28) (.c (.int .i64 1))⟩,
           ⟨(some 2), .mov (.tmp 27)⟩,
           ⟨(some 3), .mov (.tmp 29)⟩,
           ⟨(some 4), .mov (.c (.int .i64 0))⟩])
        .ret)
        .skip))
      (.seq
       (.seq
        (.reg [⟨(some 30), .mov (.tmp 0)⟩,
          ⟨(some 31), .mov (.tmp 6)⟩,
          ⟨(some 32), .idx (.tmp 30) (.tmp 31)⟩,
          ⟨(some 33), .bin .lss (.tmp 32) (.c (.int .u8 32))⟩])
       (.cond (.tmp 33)
        (.seq
         (.reg [⟨(some 34), .mov (.tmp 6)⟩,
           ⟨(some 2), .mov (.c (.str []))⟩,
           ⟨(some 3), .mov (.tmp 34)⟩,
           ⟨(some 4), .mov (.c (.int .i64 4))⟩])
        .ret)
        .skip))
      (.seq
       (.seq
        (.reg [⟨(some 35), .mov (.tmp 0)⟩,
          ⟨(some 36), .mov (.tmp 6)⟩,
          ⟨(some 37), .idx (.tmp 35) (.tmp 36)⟩,
          ⟨(some 38), .bin .eql (.tmp 37) (.c (.int .u8 92))⟩])
       (.cond (.tmp 38)
        (.seq
         (.reg [⟨(some 40), .mov (.tmp 0)⟩,
           ⟨(some 41), .mov (.tmp 6)⟩,
           ⟨(some 42), .call false false (.c (.fn (.func 47) [] [])) [(.tmp 40), (.tmp 41)]⟩,
           ⟨(some 39), .mov (.tmp 42)⟩,
           ⟨(some 43), .ext (.tmp 39) 0⟩,
           ⟨(some 44), .ext (.tmp 39) 1⟩,
           ⟨(some 7), .mov (.tmp 43)⟩,
           ⟨(some 8), .mov (.tmp 44)⟩])
        (.seq
         (.seq
          (.reg [⟨(some 45), .mov (.tmp 8)⟩,
            ⟨(some 46), .bin .eql (.tmp 45) (.c (.int .i64 0))⟩])
         (.cond (.tmp 46)
          (.seq
           (.reg [⟨(some 47), .mov (.tmp 6)⟩,
             ⟨(some 2), .mov (.c (.str []))⟩,
             ⟨(some 3), .mov (.tmp 47)⟩,
             ⟨(some 4), .mov (.c (.int .i64 4))⟩])
          .ret)
          .skip))
        (.seq
         (.reg [⟨(some 48), .mov (.tmp 5)⟩,
           ⟨(some 49), .mov (.tmp 7)⟩,
           ⟨(some 50), .call false false (.c (.fn (.func 48) [] [])) [(.tmp 49)]⟩,
           ⟨(some 51), .bin .add (.tmp 48) (.tmp 50)⟩,
           ⟨(some 5), .mov (.tmp 51)⟩])
        (.seq
         (.reg [⟨(some 52), .mov (.tmp 6)⟩,
           ⟨(some 53), .mov (.tmp 8)⟩,
           ⟨(some 54), .bin .add (.tmp 52) (.tmp 53)⟩,
           ⟨(some 6), .mov (.tmp 54)⟩])
        (.exit 1)))))
        .skip))
      (.seq
       (.reg [⟨(some 56), .mov (.tmp 0)⟩,
         ⟨(some 57), .mov (.tmp 6)⟩,
         ⟨(some 58), .call false false (.c (.fn (.func 49) [] [])) [(.tmp 56), (.tmp 57)]⟩,
         ⟨(some 55), .mov (.tmp 58)⟩,
         ⟨(some 59), .ext (.tmp 55) 0⟩,
         ⟨(some 60), .ext (.tmp 55) 1⟩,
         ⟨(some 9), .mov (.tmp 59)⟩,
         ⟨(some 10), .mov (.tmp 60)⟩])
      (.seq
       (.seq
        (.reg [⟨(some 61), .mov (.tmp 9)⟩,
          ⟨(some 62), .bin .eql (.tmp 61) (.c (.int .i64 0))⟩])
       (.cond (.tmp 62)
        (.seq
         (.reg [⟨(some 63), .mov (.tmp 6)⟩,
           ⟨(some 2), .mov (.c (.str []))⟩,
           ⟨(some 3), .mov (.tmp 63)⟩,
           ⟨(some 4), .mov (.c (.int .i64 2))⟩])
        .ret)
        .skip))
      (.seq
       (.reg [⟨(some 64), .mov (.tmp 5)⟩,
         ⟨(some 65), .mov (.tmp 0)⟩,
         ⟨(some 66), .mov (.tmp 6)⟩,
         ⟨(some 67), .mov (.tmp 6)⟩,
         ⟨(some 68), .mov (.tmp 9)⟩,
         ⟨(some 69), .bin .add (.tmp 67) (.tmp 68)⟩,
         ⟨(some 70), .slcS (.tmp 65) (some (.tmp 66)) (some (.tmp 69))⟩,
         ⟨(some 71), .bin .add (.tmp 64) (.tmp 70)⟩,
         ⟨(some 5), .mov (.tmp 71)⟩])
      (.reg [⟨(some 72), .mov (.tmp 6)⟩,
        ⟨(some 73), .mov (.tmp 9)⟩,
        ⟨(some 74), .bin .add (.tmp 72) (.tmp 73)⟩,
        ⟨(some 6), .mov (.tmp 74)⟩])))))))))
def af20b : ACode :=
  (.seq
   (.reg [⟨(some 2), .mov (.c (.str []))⟩,
     ⟨(some 3), .mov (.c (.int .i64 0))⟩,
     ⟨(some 4), .mov (.c (.int .i64 0))⟩])
  (.seq
   (.seq
    (.reg [⟨(some 11), .mov (.tmp 0)⟩,
      ⟨(some 12), .len 0 (.tmp 11)⟩,
      ⟨(some 13), .bin .eql (.tmp 12) (.c (.int .i64 0))⟩,
      ⟨(some 18), .sc 14 false (.tmp 13) [⟨(some 15), .mov (.tmp 0)⟩, ⟨(some 16), .idx (.tmp 15) (.c (.int .i64 0))⟩, ⟨(some 17), .bin .neq (.tmp 16) (.c (.int .u8 34))⟩] (.tmp 17)⟩])
   (.cond (.tmp 18)
    (.seq
     (.reg [⟨(some 2), .mov (.c (.str []))⟩,
       ⟨(some 3), .mov (.c (.int .i64 0))⟩,
       ⟨(some 4), .mov (.c (.int .i64 4))⟩])
    .ret)
    .skip))
  (.seq
   (.reg [⟨(some 5), .mov (.c (.str []))⟩])
  (.seq
   (.seq
    (.reg [⟨(some 6), .mov (.c (.int .i64 1))⟩])
   (.blk 0
    (.loop false af20l0)))
  (.seq
   (.reg [⟨(some 75), .mov (.tmp 0)⟩,
     ⟨(some 76), .len 0 (.tmp 75)⟩,
     ⟨(some 2), .mov (.c (.str []))⟩,
     ⟨(some 3), .mov (.tmp 76)⟩,
     ⟨(some 4), .mov (.c (.int .i64 4))⟩])
  .ret)))))
def af20 : AFunc := ⟨77, [.tmp 2, .tmp 3, .tmp 4], af20b, false⟩

/-- cascade/cascaderef05.digit -/
def af21b : ACode :=
  (.seq
   (.reg [⟨(some 4), .mov (.c (.bool false))⟩])
  (.seq
   (.reg [⟨(some 5), .mov (.tmp 1)⟩,
     ⟨(some 6), .mov (.tmp 0)⟩,
     ⟨(some 7), .len 0 (.tmp 6)⟩,
     ⟨(some 8), .bin .lss (.tmp 5) (.tmp 7)⟩,
     ⟨(some 14), .sc 9 true (.tmp 8) [⟨(some 10), .mov (.tmp 0)⟩, ⟨(some 11), .mov (.tmp 1)⟩, ⟨(some 12), .idx (.tmp 10) (.tmp 11)⟩, ⟨(some 13), .bin .geq (.tmp 12) (.c (.int .u8 48))⟩] (.tmp 13)⟩,
     ⟨(some 20), .sc 15 true (.tmp 14) [⟨(some 16), .mov (.tmp 0)⟩, ⟨(some 17), .mov (.tmp 1)⟩, ⟨(some 18), .idx (.tmp 16) (.tmp 17)⟩, ⟨(some 19), .bin .leq (.tmp 18) (.c (.int .u8 57))⟩] (.tmp 19)⟩,
     ⟨(some 4), .mov (.tmp 20)⟩])
  .ret))
def af21 : AFunc := ⟨21, [.tmp 4], af21b, false⟩

/-- cascade/cascaderef05.number -/
def af22l0 : ACode :=
  (.seq
      (.seq
       (.reg [⟨(some 17), .mov (.tmp 0)⟩,
         ⟨(some 18), .mov (.tmp 6)⟩,
         ⟨(some 19), .call false false (.c (.fn (.func 21) [] [])) [(.tmp 17), (.tmp 18)]⟩])
      (.cond (.tmp 19)
       .skip
       (.exit 0)))
     (.blk 1
      (.seq
       (.seq
        (.reg [⟨(some 20), .mov (.tmp 7)⟩,
          ⟨(some 21), .bin .lss (.tmp 20) (.c (.int .i64 1000000000000000))⟩])
       (.cond (.tmp 21)
        (.reg [⟨(some 22), .mov (.tmp 7)⟩,
          ⟨(some 23), .bin .mul (.tmp 22) (.c (.int .i64 10))⟩,
          ⟨(some 24), .mov (.tmp 0)⟩,
          ⟨(some 25), .mov (.tmp 6)⟩,
          ⟨(some 26), .idx (.tmp 24) (.tmp 25)⟩,
          ⟨(some 27), .cvI .i64 (.tmp 26)⟩,
          ⟨(some 28), .bin .add (.tmp 23) (.tmp 27)⟩,
          ⟨(some 29), .bin .sub (.tmp 28) (.c (.int .i64 48))⟩,
          ⟨(some 7), .mov (.tmp 29)⟩])
        (.reg [⟨(some 8), .mov (.c (.bool true))⟩])))
      (.reg [⟨(some 30), .mov (.tmp 6)⟩,
        ⟨(some 31), .bin .add (.tmp 30) (.c (.int .i64 1))⟩,
        ⟨(some 6), .mov (.tmp 31)⟩]))))
def af22b : ACode :=
  (.seq
   (.reg [⟨(some 4), .new 40 [(.int .i64 0), (.int .i64 0), (.str []), (.sl .nil []), (.sl .nil []), (.int .i64 0), (.int .i64 0)]⟩])
  (.seq
   (.reg [⟨(some 9), .mov (.tmp 1)⟩,
     ⟨(some 5), .mov (.tmp 9)⟩])
  (.seq
   (.seq
    (.reg [⟨(some 10), .mov (.tmp 0)⟩,
      ⟨(some 11), .mov (.tmp 1)⟩,
      ⟨(some 12), .idx (.tmp 10) (.tmp 11)⟩,
      ⟨(some 13), .bin .eql (.tmp 12) (.c (.int .u8 45))⟩])
   (.cond (.tmp 13)
    (.reg [⟨(some 14), .mov (.tmp 5)⟩,
      ⟨(some 15), .bin .add (.tmp 14) (.c (.int .i64 1))⟩,
      ⟨(some 5), .mov (.tmp 15)⟩])
    .skip))
  (.seq
   (.reg [⟨(some 16), .mov (.tmp 5)⟩,
     ⟨(some 6), .mov (.tmp 16)⟩])
  (.seq
   (.reg [⟨(some 7), .mov (.c (.int .i64 0))⟩,
     ⟨(some 8), .mov (.c (.bool false))⟩])
  (.seq
   (.blk 0
    (.loop false af22l0))
  (.seq
   (.seq
    (.reg [⟨(some 32), .mov (.tmp 6)⟩,
      ⟨(some 33), .mov (.tmp 5)⟩,
      ⟨(some 34), .bin .eql (.tmp 32) (.tmp 33)⟩,
      ⟨(some 50), .sc 35 false (.tmp 34) [⟨(some 36), .mov (.tmp 0)⟩, ⟨(some 37), .mov (.tmp 5)⟩, ⟨(some 38), .call false false (.c (.fn (.func 50) [] [])) [(.tmp 36), (.tmp 37), (.c (.int .u8 48))]⟩, ⟨(some 44), .sc 39 true (.tmp 38) [⟨(some 40), .mov (.tmp 6)⟩, ⟨(some 41), .mov (.tmp 5)⟩, ⟨(some 42), .bin .add (.tmp 41) (.c (.int .i64 1))⟩, ⟨(some 43), .bin .eql (.tmp 40) (.tmp 42)⟩] (.tmp 43)⟩, ⟨(some 49), .sc 45 true (.tmp 44) [⟨(some 46), .mov (.tmp 5)⟩, ⟨(some 47), .mov (.tmp 1)⟩, ⟨(some 48), .bin .gtr (.tmp 46) (.tmp 47)⟩] (.tmp 48)⟩] (.tmp 49)⟩])
   (.cond (.tmp 50)
    (.seq
     (.reg [⟨(some 51), .mov (.tmp 1)⟩,
       ⟨(some 52), .build [(.int .i64 0), (.int .i64 0), (.str []), (.sl .nil []), (.sl .nil []), (.int .i64 0), (.int .i64 0)] [(5, 1, (.tmp 51)), (6, 1, (.c (.int .i64 4)))]⟩,
       ⟨none, .store 7 (.tmp 4) (.tmp 52)⟩])
    .ret)
    .skip))
  (.seq
   (.seq
    (.reg [⟨(some 53), .mov (.tmp 0)⟩,
      ⟨(some 54), .mov (.tmp 5)⟩,
      ⟨(some 55), .idx (.tmp 53) (.tmp 54)⟩,
      ⟨(some 56), .bin .eql (.tmp 55) (.c (.int .u8 48))⟩,
      ⟨(some 62), .sc 57 true (.tmp 56) [⟨(some 58), .mov (.tmp 6)⟩, ⟨(some 59), .mov (.tmp 5)⟩, ⟨(some 60), .bin .add (.tmp 59) (.c (.int .i64 1))⟩, ⟨(some 61), .bin .gtr (.tmp 58) (.tmp 60)⟩] (.tmp 61)⟩])
   (.cond (.tmp 62)
    (.seq
     (.reg [⟨(some 63), .mov (.tmp 5)⟩,
       ⟨(some 64), .bin .add (.tmp 63) (.c (.int .i64 1))⟩,
       ⟨(some 65), .build [(.int .i64 0), (.int .i64 0), (.str []), (.sl .nil []), (.sl .nil []), (.int .i64 0), (.int .i64 0)] [(5, 1, (.tmp 64)), (6, 1, (.c (.int .i64 4)))]⟩,
       ⟨none, .store 7 (.tmp 4) (.tmp 65)⟩])
    .ret)
    .skip))
  (.seq
   (.seq
    (.reg [⟨(some 66), .mov (.tmp 8)⟩,
      ⟨(some 70), .sc 67 false (.tmp 66) [⟨(some 68), .mov (.tmp 7)⟩, ⟨(some 69), .bin .gtr (.tmp 68) (.c (.int .i64 9007199254740991))⟩] (.tmp 69)⟩])
   (.cond (.tmp 70)
    (.seq
     (.reg [⟨(some 71), .mov (.tmp 1)⟩,
       ⟨(some 72), .build [(.int .i64 0), (.int .i64 0), (.str []), (.sl .nil []), (.sl .nil []), (.int .i64 0), (.int .i64 0)] [(5, 1, (.tmp 71)), (6, 1, (.c (.int .i64 6)))]⟩,
       ⟨none, .store 7 (.tmp 4) (.tmp 72)⟩])
    .ret)
    .skip))
  (.seq
   (.seq
    (.reg [⟨(some 73), .mov (.tmp 5)⟩,
      ⟨(some 74), .mov (.tmp 1)⟩,
      ⟨(some 75), .bin .gtr (.tmp 73) (.tmp 74)⟩])
   (.cond (.tmp 75)
    (.reg [⟨(some 76), .mov (.tmp 7)⟩,
      ⟨(some 77), .un .neg (.tmp 76)⟩,
      ⟨(some 7), .mov (.tmp 77)⟩])
    .skip))
  (.seq
   (.reg [⟨(some 78), .mov (.tmp 7)⟩,
     ⟨(some 79), .build [(.int .i64 0), (.int .i64 0), (.str []), (.sl .nil []), (.sl .nil [])] [(0, 1, (.c (.int .i64 2))), (1, 1, (.tmp 78))]⟩,
     ⟨(some 80), .mov (.tmp 6)⟩,
     ⟨(some 81), .build [(.int .i64 0), (.int .i64 0), (.str []), (.sl .nil []), (.sl .nil []), (.int .i64 0), (.int .i64 0)] [(0, 5, (.tmp 79)), (5, 1, (.tmp 80))]⟩,
     ⟨none, .store 7 (.tmp 4) (.tmp 81)⟩])
  .ret)))))))))))
def af22 : AFunc := ⟨82, [.cell 4 (some 7)], af22b, false⟩

/-- cascade/cascaderef05.list -/
def af23l0 : ACode :=
  (.seq
      (.seq
       (.reg [⟨(some 30), .mov (.tmp 1)⟩,
         ⟨(some 31), .mov (.tmp 0)⟩,
         ⟨(some 32), .len 0 (.tmp 31)⟩,
         ⟨(some 33), .bin .leq (.tmp 30) (.tmp 32)⟩])
      (.cond (.tmp 33)
       .skip
       (.exit 0)))
     (.blk 1
      (.seq
       (.reg [⟨(some 9), .mov (.c (.str []))⟩])
      (.seq
       (.seq
        (.reg [⟨(some 34), .fadr 0 (.tmp 8)⟩,
          ⟨(some 35), .load none (.tmp 34)⟩,
          ⟨(some 36), .bin .eql (.tmp 35) (.c (.int .i64 5))⟩])
       (.cond (.tmp 36)
        (.seq
         (.reg [⟨(some 37), .mov (.tmp 0)⟩,
           ⟨(some 38), .mov (.tmp 1)⟩,
           ⟨(some 39), .load (some 5) (.tmp 8)⟩,
           ⟨(some 40), .call false false (.c (.fn (.func 51) [] [])) [(.tmp 37), (.tmp 38), (.tmp 39)]⟩,
           ⟨(some 10), .new 40 [(.int .i64 0), (.int .i64 0), (.str []), (.sl .nil []), (.sl .nil []), (.int .i64 0), (.int .i64 0)]⟩,
           ⟨none, .store 7 (.tmp 10) (.tmp 40)⟩])
        (.seq
         (.seq
          (.reg [⟨(some 41), .fadr 6 (.tmp 10)⟩,
            ⟨(some 42), .load none (.tmp 41)⟩,
            ⟨(some 43), .bin .neq (.tmp 42) (.c (.int .i64 0))⟩])
         (.cond (.tmp 43)
          (.seq
           (.reg [⟨(some 44), .load (some 7) (.tmp 10)⟩,
             ⟨none, .store 7 (.tmp 6) (.tmp 44)⟩])
          .ret)
          .skip))
        (.seq
         (.reg [⟨(some 45), .fadr 0 (.tmp 10)⟩,
           ⟨(some 46), .fadr 2 (.tmp 45)⟩,
           ⟨(some 47), .load none (.tmp 46)⟩,
           ⟨(some 9), .mov (.tmp 47)⟩])
        (.reg [⟨(some 48), .fadr 5 (.tmp 10)⟩,
          ⟨(some 49), .load none (.tmp 48)⟩,
          ⟨(some 1), .mov (.tmp 49)⟩]))))
        .skip))
      (.seq
       (.reg [⟨(some 50), .mov (.tmp 0)⟩,
         ⟨(some 51), .mov (.tmp 1)⟩,
         ⟨(some 52), .mov (.tmp 2)⟩,
         ⟨(some 53), .bin .sub (.tmp 52) (.c (.int .i64 1))⟩,
         ⟨(some 54), .call false false (.c (.fn (.func 12) [] [])) [(.tmp 50), (.tmp 51), (.tmp 53)]⟩,
         ⟨(some 11), .new 40 [(.int .i64 0), (.int .i64 0), (.str []), (.sl .nil []), (.sl .nil []), (.int .i64 0), (.int .i64 0)]⟩,
         ⟨none, .store 7 (.tmp 11) (.tmp 54)⟩])
      (.seq
       (.seq
        (.reg [⟨(some 55), .fadr 6 (.tmp 11)⟩,
          ⟨(some 56), .load none (.tmp 55)⟩,
          ⟨(some 57), .bin .neq (.tmp 56) (.c (.int .i64 0))⟩])
       (.cond (.tmp 57)
        (.seq
         (.reg [⟨(some 58), .load (some 7) (.tmp 11)⟩,
           ⟨none, .store 7 (.tmp 6) (.tmp 58)⟩])
        .ret)
        .skip))
      (.seq
       (.seq
        (.reg [⟨(some 59), .fadr 0 (.tmp 8)⟩,
          ⟨(some 60), .load none (.tmp 59)⟩,
          ⟨(some 61), .bin .eql (.tmp 60) (.c (.int .i64 5))⟩])
       (.cond (.tmp 61)
        (.reg [⟨(some 62), .fadr 4 (.tmp 8)⟩,
          ⟨(some 63), .load none (.tmp 62)⟩,
          ⟨(some 64), .mov (.tmp 9)⟩,
          ⟨(some 65), .fadr 0 (.tmp 11)⟩,
          ⟨(some 66), .load (some 5) (.tmp 65)⟩,
          ⟨(some 67), .build [(.str []), (.int .i64 0), (.int .i64 0), (.str []), (.sl .nil []), (.sl .nil [])] [(0, 1, (.tmp 64)), (1, 5, (.tmp 66))]⟩,
          ⟨(some 68), .bsl 6 (.agg [(.str []), (.int .i64 0), (.int .i64 0), (.str []), (.sl .nil []), (.sl .nil [])]) 1 [(0, (.tmp 67))]⟩,
          ⟨(some 69), .app false 6 (96, 49) (.tmp 63) (.tmp 68)⟩,
          ⟨(some 70), .fadr 4 (.tmp 8)⟩,
          ⟨none, .store 1 (.tmp 70) (.tmp 69)⟩])
        (.reg [⟨(some 71), .fadr 3 (.tmp 8)⟩,
          ⟨(some 72), .load none (.tmp 71)⟩,
          ⟨(some 73), .fadr 0 (.tmp 11)⟩,
          ⟨(some 74), .load (some 5) (.tmp 73)⟩,
          ⟨(some 75), .bsl 5 (.agg [(.int .i64 0), (.int .i64 0), (.str []), (.sl .nil []), (.sl .nil [])]) 1 [(0, (.tmp 74))]⟩,
          ⟨(some 76), .app false 5 (80, 26) (.tmp 72) (.tmp 75)⟩,
          ⟨(some 77), .fadr 3 (.tmp 8)⟩,
          ⟨none, .store 1 (.tmp 77) (.tmp 76)⟩])))
      (.seq
       (.reg [⟨(some 78), .mov (.tmp 0)⟩,
         ⟨(some 79), .fadr 5 (.tmp 11)⟩,
         ⟨(some 80), .load none (.tmp 79)⟩,
         ⟨(some 81), .call false false (.c (.fn (.func 13) [] [])) [(.tmp 78), (.tmp 80)]⟩,
         ⟨(some 1), .mov (.tmp 81)⟩])
      (.seq
       (.seq
        (.reg [⟨(some 82), .mov (.tmp 0)⟩,
          ⟨(some 83), .mov (.tmp 1)⟩,
          ⟨(some 84), .mov (.tmp 7)⟩,
          ⟨(some 85), .call false false (.c (.fn (.func 50) [] [])) [(.tmp 82), (.tmp 83), (.tmp 84)]⟩])
       (.cond (.tmp 85)
        (.seq
         (.reg [⟨(some 86), .load (some 5) (.tmp 8)⟩,
           ⟨(some 87), .mov (.tmp 1)⟩,
           ⟨(some 88), .bin .add (.tmp 87) (.c (.int .i64 1))⟩,
           ⟨(some 89), .build [(.int .i64 0), (.int .i64 0), (.str []), (.sl .nil []), (.sl .nil []), (.int .i64 0), (.int .i64 0)] [(0, 5, (.tmp 86)), (5, 1, (.tmp 88))]⟩,
           ⟨none, .store 7 (.tmp 6) (.tmp 89)⟩])
        .ret)
        .skip))
      (.seq
       (.seq
        (.reg [⟨(some 90), .mov (.tmp 0)⟩,
          ⟨(some 91), .mov (.tmp 1)⟩,
          ⟨(some 92), .call false false (.c (.fn (.func 50) [] [])) [(.tmp 90), (.tmp 91), (.c (.int .u8 44))]⟩,
          ⟨(some 93), .un .not (.tmp 92)⟩])
       (.cond (.tmp 93)
        (.seq
         (.reg [⟨(some 94), .mov (.tmp 1)⟩,
           ⟨(some 95), .build [(.int .i64 0), (.int .i64 0), (.str []), (.sl .nil []), (.sl .nil []), (.int .i64 0), (.int .i64 0)] [(5, 1, (.tmp 94)), (6, 1, (.c (.int .i64 4)))]⟩,
           ⟨none, .store 7 (.tmp 6) (.tmp 95)⟩])
        .ret)
        .skip))
      (.reg [⟨(some 96), .mov (.tmp 1)⟩,
        ⟨(some 97), .bin .add (.tmp 96) (.c (.int .i64 1))⟩,
        ⟨(some 1), .mov (.tmp 97)⟩])))))))))))
def af23b : ACode :=
  (.seq
   (.reg [⟨(some 6), .new 40 [(.int .i64 0), (.int .i64 0), (.str []), (.sl .nil []), (.sl .nil []), (.int .i64 0), (.int .i64 0)]⟩])
  (.seq
   (.reg [⟨(some 12), .build [(.int .i64 0), (.int .i64 0), (.str []), (.sl .nil []), (.sl .nil [])] [(0, 1, (.c (.int .i64 4)))]⟩,
     ⟨(some 8), .new 26 [(.int .i64 0), (.int .i64 0), (.str []), (.sl .nil []), (.sl .nil [])]⟩,
     ⟨(some 7), .mov (.c (.int .u8 93))⟩,
     ⟨none, .store 5 (.tmp 8) (.tmp 12)⟩])
  (.seq
   (.seq
    (.reg [⟨(some 13), .mov (.tmp 0)⟩,
      ⟨(some 14), .mov (.tmp 1)⟩,
      ⟨(some 15), .idx (.tmp 13) (.tmp 14)⟩,
      ⟨(some 16), .bin .eql (.tmp 15) (.c (.int .u8 123))⟩])
   (.cond (.tmp 16)
    (.seq
     (.reg [⟨(some 7), .mov (.c (.int .u8 125))⟩])
    (.reg [⟨(some 17), .fadr 0 (.tmp 8)⟩,
      ⟨none, .store 1 (.tmp 17) (.c (.int .i64 5))⟩]))
    .skip))
  (.seq
   (.reg [⟨(some 18), .mov (.tmp 0)⟩,
     ⟨(some 19), .mov (.tmp 1)⟩,
     ⟨(some 20), .bin .add (.tmp 19) (.c (.int .i64 1))⟩,
     ⟨(some 21), .call false false (.c (.fn (.func 13) [] [])) [(.tmp 18), (.tmp 20)]⟩,
     ⟨(some 1), .mov (.tmp 21)⟩])
  (.seq
   (.seq
    (.reg [⟨(some 22), .mov (.tmp 0)⟩,
      ⟨(some 23), .mov (.tmp 1)⟩,
      ⟨(some 24), .mov (.tmp 7)⟩,
      ⟨(some 25), .call false false (.c (.fn (.func 50) [] [])) [(.tmp 22), (.tmp 23), (.tmp 24)]⟩])
   (.cond (.tmp 25)
    (.seq
     (.reg [⟨(some 26), .load (some 5) (.tmp 8)⟩,
       ⟨(some 27), .mov (.tmp 1)⟩,
       ⟨(some 28), .bin .add (.tmp 27) (.c (.int .i64 1))⟩,
       ⟨(some 29), .build [(.int .i64 0), (.int .i64 0), (.str []), (.sl .nil []), (.sl .nil []), (.int .i64 0), (.int .i64 0)] [(0, 5, (.tmp 26)), (5, 1, (.tmp 28))]⟩,
       ⟨none, .store 7 (.tmp 6) (.tmp 29)⟩])
    .ret)
    .skip))
  (.seq
   (.blk 0
    (.loop false af23l0))
  (.seq
   (.reg [⟨(some 98), .mov (.tmp 1)⟩,
     ⟨(some 99), .build [(.int .i64 0), (.int .i64 0), (.str []), (.sl .nil []), (.sl .nil []), (.int .i64 0), (.int .i64 0)] [(5, 1, (.tmp 98)), (6, 1, (.c (.int .i64 4)))]⟩,
     ⟨none, .store 7 (.tmp 6) (.tmp 99)⟩])
  .ret)))))))
def af23 : AFunc := ⟨100, [.cell 6 (some 7)], af23b, false⟩

/-- cascade/cascaderef05.begins -/
def af24b : ACode :=
  (.seq
   (.reg [⟨(some 6), .mov (.c (.bool false))⟩])
  (.seq
   (.reg [⟨(some 7), .mov (.tmp 0)⟩,
     ⟨(some 8), .len 0 (.tmp 7)⟩,
     ⟨(some 9), .mov (.tmp 1)⟩,
     ⟨(some 10), .bin .sub (.tmp 8) (.tmp 9)⟩,
     ⟨(some 11), .mov (.tmp 2)⟩,
     ⟨(some 12), .len 0 (.tmp 11)⟩,
     ⟨(some 13), .bin .geq (.tmp 10) (.tmp 12)⟩,
     ⟨(some 24), .sc 14 true (.tmp 13) [⟨(some 15), .mov (.tmp 0)⟩, ⟨(some 16), .mov (.tmp 1)⟩, ⟨(some 17), .mov (.tmp 1)⟩, ⟨(some 18), .mov (.tmp 2)⟩, ⟨(some 19), .len 0 (.tmp 18)⟩, ⟨(some 20), .bin .add (.tmp 17) (.tmp 19)⟩, ⟨(some 21), .slcS (.tmp 15) (some (.tmp 16)) (some (.tmp 20))⟩, ⟨(some 22), .mov (.tmp 2)⟩, ⟨(some 23), .bin .eql (.tmp 21) (.tmp 22)⟩] (.tmp 23)⟩,
     ⟨(some 6), .mov (.tmp 24)⟩])
  .ret))
def af24 : AFunc := ⟨25, [.tmp 6], af24b, false⟩

/-- (*cascade/json.reader).peek -/
def af25b : ACode :=
  (.seq
   (.reg [⟨(some 2), .mov (.c (.int .u8 0))⟩])
  (.seq
   (.reg [⟨(some 3), .mov (.tmp 0)⟩,
     ⟨(some 4), .call false false (.c (.fn (.func 15) [] [])) [(.tmp 3)]⟩])
  (.seq
   (.seq
    (.regD [] [⟨(some 5), .mov (.tmp 0)⟩,
      ⟨(some 6), .nilchk (.tmp 5)⟩,
      ⟨(some 7), .fadr 1 (.tmp 6)⟩,
      ⟨(some 8), .load none (.tmp 7)⟩,
      ⟨(some 9), .mov (.tmp 0)⟩,
      ⟨(some 10), .nilchk (.tmp 9)⟩,
      ⟨(some 11), .fadr 0 (.tmp 10)⟩,
      ⟨(some 12), .load none (.tmp 11)⟩,
      ⟨(some 13), .len 0 (.tmp 12)⟩,
      ⟨(some 14), .bin .lss (.tmp 8) (.tmp 13)⟩])
   (.cond (.tmp 14)
    (.seq
     (.regD [] [⟨(some 15), .mov (.tmp 0)⟩,
       ⟨(some 16), .nilchk (.tmp 15)⟩,
       ⟨(some 17), .fadr 0 (.tmp 16)⟩,
       ⟨(some 18), .load none (.tmp 17)⟩,
       ⟨(some 19), .mov (.tmp 0)⟩,
       ⟨(some 20), .nilchk (.tmp 19)⟩,
       ⟨(some 21), .fadr 1 (.tmp 20)⟩,
       ⟨(some 22), .load none (.tmp 21)⟩,
       ⟨(some 23), .idx (.tmp 18) (.tmp 22)⟩,
       ⟨(some 2), .mov (.tmp 23)⟩])
    .ret)
    .skip))
  (.seq
   (.reg [⟨(some 2), .mov (.c (.int .u8 0))⟩])
  .ret))))
def af25 : AFunc := ⟨24, [.tmp 2], af25b, false⟩

/-- (*cascade/json.reader).str -/
def af26b : ACode :=
  (.seq
   (.reg [⟨(some 2), .mov (.c (.str []))⟩])
  (.seq
   (.regD [] [⟨(some 7), .mov (.tmp 0)⟩,
     ⟨(some 8), .nilchk (.tmp 7)⟩,
     ⟨(some 9), .fadr 0 (.tmp 8)⟩,
     ⟨(some 10), .load none (.tmp 9)⟩,
     ⟨(some 11), .mov (.tmp 0)⟩,
     ⟨(some 12), .nilchk (.tmp 11)⟩,
     ⟨(some 13), .fadr 1 (.tmp 12)⟩,
     ⟨(some 14), .load none (.tmp 13)⟩,
     ⟨(some 15), .slcS (.tmp 10) (some (.tmp 14)) none⟩,
     ⟨(some 16), .call false false (.c (.fn (.func 52) [] [])) [(.tmp 15)]⟩,
     ⟨(some 6), .mov (.tmp 16)⟩,
     ⟨(some 17), .ext (.tmp 6) 0⟩,
     ⟨(some 18), .ext (.tmp 6) 1⟩,
     ⟨(some 19), .ext (.tmp 6) 2⟩,
     ⟨(some 3), .mov (.tmp 17)⟩,
     ⟨(some 4), .mov (.tmp 18)⟩,
     ⟨(some 5), .mov (.tmp 19)⟩])
  (.seq
   (.seq
    (.reg [⟨(some 20), .mov (.tmp 5)⟩,
      ⟨(some 21), .bin .neq (.tmp 20) (.c (.int .i64 0))⟩])
   (.cond (.tmp 21)
    (.reg [⟨(some 22), .mov (.tmp 0)⟩,
      ⟨(some 23), .mov (.tmp 0)⟩,
      ⟨(some 24), .nilchk (.tmp 23)⟩,
      ⟨(some 25), .fadr 1 (.tmp 24)⟩,
      ⟨(some 26), .load none (.tmp 25)⟩,
      ⟨(some 27), .mov (.tmp 4)⟩,
      ⟨(some 28), .bin .add (.tmp 26) (.tmp 27)⟩,
      ⟨(some 29), .mov (.tmp 5)⟩,
      ⟨(some 30), .call false false (.c (.fn (.func 16) [] [])) [(.tmp 22), (.tmp 28), (.tmp 29)]⟩])
    .skip))
  (.seq
   (.reg [⟨(some 31), .mov (.tmp 0)⟩,
     ⟨(some 32), .nilchk (.tmp 31)⟩,
     ⟨(some 33), .fadr 1 (.tmp 32)⟩,
     ⟨(some 34), .load none (.tmp 33)⟩,
     ⟨(some 35), .mov (.tmp 4)⟩,
     ⟨(some 36), .bin .add (.tmp 34) (.tmp 35)⟩,
     ⟨(some 37), .nilchk (.tmp 31)⟩,
     ⟨(some 38), .fadr 1 (.tmp 37)⟩,
     ⟨none, .store 1 (.tmp 38) (.tmp 36)⟩])
  (.seq
   (.reg [⟨(some 39), .mov (.tmp 3)⟩,
     ⟨(some 2), .mov (.tmp 39)⟩])
  .ret)))))
def af26 : AFunc := ⟨40, [.tmp 2], af26b, false⟩

/-- (*cascade/json.reader).number -/
def af27l0 : ACode :=
  (.seq
      (.seq
       (.reg [⟨(some 26), .mov (.tmp 0)⟩,
         ⟨(some 27), .mov (.tmp 5)⟩,
         ⟨(some 28), .call false false (.c (.fn (.func 53) [] [])) [(.tmp 26), (.tmp 27)]⟩])
      (.cond (.tmp 28)
       .skip
       (.exit 0)))
     (.blk 1
      (.reg [⟨(some 29), .mov (.tmp 5)⟩,
        ⟨(some 30), .bin .add (.tmp 29) (.c (.int .i64 1))⟩,
        ⟨(some 5), .mov (.tmp 30)⟩])))
def af27b : ACode :=
  (.seq
   (.reg [⟨(some 2), .new 26 [(.int .i64 0), (.int .i64 0), (.str []), (.sl .nil []), (.sl .nil [])]⟩])
  (.seq
   (.regD [] [⟨(some 8), .mov (.tmp 0)⟩,
     ⟨(some 9), .nilchk (.tmp 8)⟩,
     ⟨(some 10), .fadr 1 (.tmp 9)⟩,
     ⟨(some 11), .load none (.tmp 10)⟩,
     ⟨(some 12), .mov (.tmp 0)⟩,
     ⟨(some 13), .nilchk (.tmp 12)⟩,
     ⟨(some 14), .fadr 1 (.tmp 13)⟩,
     ⟨(some 15), .load none (.tmp 14)⟩,
     ⟨(some 3), .mov (.tmp 11)⟩,
     ⟨(some 4), .mov (.tmp 15)⟩])
  (.seq
   (.seq
    (.reg [⟨(some 16), .mov (.tmp 0)⟩,
      ⟨(some 17), .nilchk (.tmp 16)⟩,
      ⟨(some 18), .fadr 0 (.tmp 17)⟩,
      ⟨(some 19), .load none (.tmp 18)⟩,
      ⟨(some 20), .mov (.tmp 3)⟩,
      ⟨(some 21), .idx (.tmp 19) (.tmp 20)⟩,
      ⟨(some 22), .bin .eql (.tmp 21) (.c (.int .u8 45))⟩])
   (.cond (.tmp 22)
    (.reg [⟨(some 23), .mov (.tmp 4)⟩,
      ⟨(some 24), .bin .add (.tmp 23) (.c (.int .i64 1))⟩,
      ⟨(some 4), .mov (.tmp 24)⟩])
    .skip))
  (.seq
   (.reg [⟨(some 25), .mov (.tmp 4)⟩,
     ⟨(some 5), .mov (.tmp 25)⟩])
  (.seq
   (.blk 0
    (.loop false af27l0))
  (.seq
   (.blk 2
    (.seq
     (.reg [⟨(some 32), .mov (.tmp 5)⟩,
       ⟨(some 33), .mov (.tmp 4)⟩,
       ⟨(some 34), .bin .eql (.tmp 32) (.tmp 33)⟩,
       ⟨(some 54), .sc 35 false (.tmp 34) [⟨(some 36), .mov (.tmp 5)⟩, ⟨(some 37), .mov (.tmp 4)⟩, ⟨(some 38), .bin .add (.tmp 37) (.c (.int .i64 1))⟩, ⟨(some 39), .bin .eql (.tmp 36) (.tmp 38)⟩, ⟨(some 48), .sc 40 true (.tmp 39) [⟨(some 41), .mov (.tmp 0)⟩, ⟨(some 42), .nilchk (.tmp 41)⟩, ⟨(some 43), .fadr 0 (.tmp 42)⟩, ⟨(some 44), .load none (.tmp 43)⟩, ⟨(some 45), .mov (.tmp 4)⟩, ⟨(some 46), .idx (.tmp 44) (.tmp 45)⟩, ⟨(some 47), .bin .eql (.tmp 46) (.c (.int .u8 48))⟩] (.tmp 47)⟩, ⟨(some 53), .sc 49 true (.tmp 48) [⟨(some 50), .mov (.tmp 4)⟩, ⟨(some 51), .mov (.tmp 3)⟩, ⟨(some 52), .bin .gtr (.tmp 50) (.tmp 51)⟩] (.tmp 52)⟩] (.tmp 53)⟩,
       ⟨(some 31), .mov (.tmp 54)⟩])
    (.cond (.tmp 31)
     (.reg [⟨(some 55), .mov (.tmp 0)⟩,
       ⟨(some 56), .mov (.tmp 3)⟩,
       ⟨(some 57), .call false false (.c (.fn (.func 16) [] [])) [(.tmp 55), (.tmp 56), (.c (.int .i64 4))]⟩])
     (.seq
      (.reg [⟨(some 59), .mov (.tmp 0)⟩,
        ⟨(some 60), .nilchk (.tmp 59)⟩,
        ⟨(some 61), .fadr 0 (.tmp 60)⟩,
        ⟨(some 62), .load none (.tmp 61)⟩,
        ⟨(some 63), .mov (.tmp 4)⟩,
        ⟨(some 64), .idx (.tmp 62) (.tmp 63)⟩,
        ⟨(some 65), .bin .eql (.tmp 64) (.c (.int .u8 48))⟩,
        ⟨(some 71), .sc 66 true (.tmp 65) [⟨(some 67), .mov (.tmp 5)⟩, ⟨(some 68), .mov (.tmp 4)⟩, ⟨(some 69), .bin .add (.tmp 68) (.c (.int .i64 1))⟩, ⟨(some 70), .bin .gtr (.tmp 67) (.tmp 69)⟩] (.tmp 70)⟩,
        ⟨(some 58), .mov (.tmp 71)⟩])
     (.cond (.tmp 58)
      (.reg [⟨(some 72), .mov (.tmp 0)⟩,
        ⟨(some 73), .mov (.tmp 4)⟩,
        ⟨(some 74), .bin .add (.tmp 73) (.c (.int .i64 1))⟩,
        ⟨(some 75), .call false false (.c (.fn (.func 16) [] [])) [(.tmp 72), (.tmp 74), (.c (.int .i64 4))]⟩])
      .skip)))))
  (.seq
   (.reg [⟨(some 77), .mov (.tmp 0)⟩,
     ⟨(some 78), .nilchk (.tmp 77)⟩,
     ⟨(some 79), .fadr 0 (.tmp 78)⟩,
     ⟨(some 80), .load none (.tmp 79)⟩,
     ⟨(some 81), .mov (.tmp 3)⟩,
     ⟨(some 82), .mov (.tmp 5)⟩,
     ⟨(some 83), .slcS (.tmp 80) (some (.tmp 81)) (some (.tmp 82))⟩,
     ⟨(some 84), .call false false (.c (.fn (.func 54) [] [])) [(.tmp 83), (.c (.int .i64 10)), (.c (.int .i64 64))]⟩,
     ⟨(some 76), .mov (.tmp 84)⟩,
     ⟨(some 85), .ext (.tmp 76) 0⟩,
     ⟨(some 86), .ext (.tmp 76) 1⟩,
     ⟨(some 6), .mov (.tmp 85)⟩,
     ⟨(some 7), .mov (.tmp 86)⟩])
  (.seq
   (.seq
    (.reg [⟨(some 87), .mov (.tmp 5)⟩,
      ⟨(some 88), .mov (.tmp 3)⟩,
      ⟨(some 89), .bin .sub (.tmp 87) (.tmp 88)⟩,
      ⟨(some 90), .bin .gtr (.tmp 89) (.c (.int .i64 17))⟩,
      ⟨(some 94), .sc 91 false (.tmp 90) [⟨(some 92), .mov (.tmp 7)⟩, ⟨(some 93), .eqn false true (.tmp 92)⟩] (.tmp 93)⟩,
      ⟨(some 98), .sc 95 false (.tmp 94) [⟨(some 96), .mov (.tmp 6)⟩, ⟨(some 97), .bin .lss (.tmp 96) (.c (.int .i64 (-9007199254740991)))⟩] (.tmp 97)⟩,
      ⟨(some 102), .sc 99 false (.tmp 98) [⟨(some 100), .mov (.tmp 6)⟩, ⟨(some 101), .bin .gtr (.tmp 100) (.c (.int .i64 9007199254740991))⟩] (.tmp 101)⟩])
   (.cond (.tmp 102)
    (.reg [⟨(some 103), .mov (.tmp 0)⟩,
      ⟨(some 104), .mov (.tmp 3)⟩,
      ⟨(some 105), .call false false (.c (.fn (.func 16) [] [])) [(.tmp 103), (.tmp 104), (.c (.int .i64 6))]⟩])
    .skip))
  (.seq
   (.reg [⟨(some 106), .mov (.tmp 0)⟩,
     ⟨(some 107), .mov (.tmp 5)⟩,
     ⟨(some 108), .nilchk (.tmp 106)⟩,
     ⟨(some 109), .fadr 1 (.tmp 108)⟩,
     ⟨none, .store 1 (.tmp 109) (.tmp 107)⟩])
  (.seq
   (.reg [⟨(some 110), .mov (.tmp 6)⟩,
     ⟨(some 111), .build [(.int .i64 0), (.int .i64 0), (.str []), (.sl .nil []), (.sl .nil [])] [(0, 1, (.c (.int .i64 2))), (1, 1, (.tmp 110))]⟩,
     ⟨none, .store 5 (.tmp 2) (.tmp 111)⟩])
  .ret))))))))))
def af27 : AFunc := ⟨112, [.cell 2 (some 5)], af27b, false⟩

/-- (*cascade/json.reader).list -/
def af28l0 : ACode :=
  (.seq
      (.seq
       (.reg [⟨(some 24), .mov (.tmp 0)⟩,
         ⟨(some 25), .nilchk (.tmp 24)⟩,
         ⟨(some 26), .fadr 3 (.tmp 25)⟩,
         ⟨(some 27), .load none (.tmp 26)⟩,
         ⟨(some 28), .bin .eql (.tmp 27) (.c (.int .i64 0))⟩])
      (.cond (.tmp 28)
       .skip
       (.exit 0)))
     (.blk 1
      (.seq
       (.reg [⟨(some 29), .mov (.tmp 2)⟩,
         ⟨(some 30), .call false false (.tmp 29) []⟩])
      (.seq
       (.seq
        (.reg [⟨(some 31), .mov (.tmp 0)⟩,
          ⟨(some 32), .nilchk (.tmp 31)⟩,
          ⟨(some 33), .fadr 3 (.tmp 32)⟩,
          ⟨(some 34), .load none (.tmp 33)⟩,
          ⟨(some 35), .bin .neq (.tmp 34) (.c (.int .i64 0))⟩,
          ⟨(some 40), .sc 36 false (.tmp 35) [⟨(some 37), .mov (.tmp 0)⟩, ⟨(some 38), .call false false (.c (.fn (.func 25) [] [])) [(.tmp 37)]⟩, ⟨(some 39), .bin .neq (.tmp 38) (.c (.int .u8 44))⟩] (.tmp 39)⟩])
       (.cond (.tmp 40)
        (.exit 0)
        .skip))
      (.reg [⟨(some 41), .mov (.tmp 0)⟩,
        ⟨(some 42), .nilchk (.tmp 41)⟩,
        ⟨(some 43), .fadr 1 (.tmp 42)⟩,
        ⟨(some 44), .load none (.tmp 43)⟩,
        ⟨(some 45), .bin .add (.tmp 44) (.c (.int .i64 1))⟩,
        ⟨(some 46), .nilchk (.tmp 41)⟩,
        ⟨(some 47), .fadr 1 (.tmp 46)⟩,
        ⟨none, .store 1 (.tmp 47) (.tmp 45)⟩])))))
def af28b : ACode :=
  (.seq
   (.reg [⟨(some 6), .mov (.tmp 0)⟩,
     ⟨(some 7), .nilchk (.tmp 6)⟩,
     ⟨(some 8), .fadr 1 (.tmp 7)⟩,
     ⟨(some 9), .load none (.tmp 8)⟩,
     ⟨(some 10), .bin .add (.tmp 9) (.c (.int .i64 1))⟩,
     ⟨(some 11), .nilchk (.tmp 6)⟩,
     ⟨(some 12), .fadr 1 (.tmp 11)⟩,
     ⟨none, .store 1 (.tmp 12) (.tmp 10)⟩])
  (.seq
   (.seq
    (.reg [⟨(some 13), .mov (.tmp 0)⟩,
      ⟨(some 14), .call false false (.c (.fn (.func 25) [] [])) [(.tmp 13)]⟩,
      ⟨(some 15), .mov (.tmp 1)⟩,
      ⟨(some 16), .bin .eql (.tmp 14) (.tmp 15)⟩])
   (.cond (.tmp 16)
    (.seq
     (.reg [⟨(some 17), .mov (.tmp 0)⟩,
       ⟨(some 18), .nilchk (.tmp 17)⟩,
       ⟨(some 19), .fadr 1 (.tmp 18)⟩,
       ⟨(some 20), .load none (.tmp 19)⟩,
       ⟨(some 21), .bin .add (.tmp 20) (.c (.int .i64 1))⟩,
       ⟨(some 22), .nilchk (.tmp 17)⟩,
       ⟨(some 23), .fadr 1 (.tmp 22)⟩,
       ⟨none, .store 1 (.tmp 23) (.tmp 21)⟩])
    .ret)
    .skip))
  (.seq
   (.blk 0
    (.loop false af28l0))
  (.seq
   (.reg [⟨(some 48), .mov (.tmp 0)⟩,
     ⟨(some 49), .nilchk (.tmp 48)⟩,
     ⟨(some 50), .fadr 3 (.tmp 49)⟩,
     ⟨(some 51), .load none (.tmp 50)⟩,
     ⟨(some 52), .bin .eql (.tmp 51) (.c (.int .i64 0))⟩])
  (.cond (.tmp 52)
   (.reg [⟨(some 53), .mov (.tmp 0)⟩,
     ⟨(some 54), .mov (.tmp 1)⟩,
     ⟨(some 55), .call false false (.c (.fn (.func 55) [] [])) [(.tmp 53), (.tmp 54)]⟩])
   .skip)))))
def af28 : AFunc := ⟨56, [], af28b, false⟩

/-- (*cascade/json.reader).value$1 -/
def af29b : ACode :=
  (.regD [(13, 2000012), (3, 1000005), (3, 1000007)] [⟨(some 3), .fadr 3 (.tmp 0)⟩,
    ⟨(some 4), .load none (.tmp 3)⟩,
    ⟨(some 5), .load none (.tmp 1)⟩,
    ⟨(some 6), .load none (.tmp 2)⟩,
    ⟨(some 7), .bin .sub (.tmp 6) (.c (.int .i64 1))⟩,
    ⟨(some 8), .call true true (.c (.fn (.func 14) [] [])) [(.tmp 5), (.tmp 7)]⟩,
    ⟨(some 9), .len 1 (.tmp 4)⟩,
    ⟨(some 10), .bsl 5 (.agg [(.int .i64 0), (.int .i64 0), (.str []), (.sl .nil []), (.sl .nil [])]) 1 [(0, (.c (.agg [(.int .i64 0), (.int .i64 0), (.str []), (.sl .nil []), (.sl .nil [])])))]⟩,
    ⟨(some 11), .appz 5 (80, 26) (.tmp 4) (.tmp 10)⟩,
    ⟨(some 12), .iadr 5 (.tmp 11) (.tmp 9)⟩,
    ⟨(some 12), .stz 5 (.tmp 12) (.tmp 8)⟩,
    ⟨(some 13), .fadr 3 (.tmp 0)⟩,
    ⟨none, .store 1 (.tmp 13) (.tmp 11)⟩])
def af29 : AFunc := ⟨14, [], af29b, false⟩

/-- (*cascade/json.reader).value$2 -/
def af30b : ACode :=
  (.regD [(15, 2000014), (3, 1000005), (3, 1000007), (3, 1000009)] [⟨(some 3), .fadr 4 (.tmp 0)⟩,
    ⟨(some 4), .load none (.tmp 3)⟩,
    ⟨(some 5), .load none (.tmp 1)⟩,
    ⟨(some 6), .fadr 4 (.tmp 0)⟩,
    ⟨(some 7), .load none (.tmp 6)⟩,
    ⟨(some 8), .load none (.tmp 2)⟩,
    ⟨(some 9), .bin .sub (.tmp 8) (.c (.int .i64 1))⟩,
    ⟨(some 10), .call true true (.c (.fn (.func 31) [] [])) [(.tmp 5), (.tmp 7), (.tmp 9)]⟩,
    ⟨(some 11), .len 1 (.tmp 4)⟩,
    ⟨(some 12), .bsl 6 (.agg [(.str []), (.int .i64 0), (.int .i64 0), (.str []), (.sl .nil []), (.sl .nil [])]) 1 [(0, (.c (.agg [(.str []), (.int .i64 0), (.int .i64 0), (.str []), (.sl .nil []), (.sl .nil [])])))]⟩,
    ⟨(some 13), .appz 6 (96, 49) (.tmp 4) (.tmp 12)⟩,
    ⟨(some 14), .iadr 6 (.tmp 13) (.tmp 11)⟩,
    ⟨(some 14), .stz 6 (.tmp 14) (.tmp 10)⟩,
    ⟨(some 15), .fadr 4 (.tmp 0)⟩,
    ⟨none, .store 1 (.tmp 15) (.tmp 13)⟩])
def af30 : AFunc := ⟨16, [], af30b, false⟩

/-- (*cascade/json.reader).pair -/
def af31b : ACode :=
  (.seq
   (.reg [⟨(some 6), .new 49 [(.str []), (.int .i64 0), (.int .i64 0), (.str []), (.sl .nil []), (.sl .nil [])]⟩])
  (.seq
   (.seq
    (.reg [⟨(some 9), .mov (.tmp 0)⟩,
      ⟨(some 10), .call false false (.c (.fn (.func 25) [] [])) [(.tmp 9)]⟩,
      ⟨(some 11), .bin .neq (.tmp 10) (.c (.int .u8 34))⟩])
   (.cond (.tmp 11)
    (.seq
     (.reg [⟨(some 12), .mov (.tmp 0)⟩,
       ⟨(some 13), .mov (.tmp 0)⟩,
       ⟨(some 14), .nilchk (.tmp 13)⟩,
       ⟨(some 15), .fadr 1 (.tmp 14)⟩,
       ⟨(some 16), .load none (.tmp 15)⟩,
       ⟨(some 17), .call false false (.c (.fn (.func 16) [] [])) [(.tmp 12), (.tmp 16), (.c (.int .i64 4))]⟩])
    (.seq
     (.reg [⟨(some 18), .build [(.str []), (.int .i64 0), (.int .i64 0), (.str []), (.sl .nil []), (.sl .nil [])] []⟩,
       ⟨none, .store 6 (.tmp 6) (.tmp 18)⟩])
    .ret))
    .skip))
  (.seq
   (.reg [⟨(some 19), .mov (.tmp 0)⟩,
     ⟨(some 20), .nilchk (.tmp 19)⟩,
     ⟨(some 21), .fadr 1 (.tmp 20)⟩,
     ⟨(some 22), .load none (.tmp 21)⟩,
     ⟨(some 7), .mov (.tmp 22)⟩])
  (.seq
   (.reg [⟨(some 23), .mov (.tmp 0)⟩,
     ⟨(some 24), .call false false (.c (.fn (.func 26) [] [])) [(.tmp 23)]⟩,
     ⟨(some 8), .new 9 [(.str [])]⟩,
     ⟨none, .store 1 (.tmp 8) (.tmp 24)⟩])
  (.seq
   (.seq
    (.reg [⟨(some 25), .mov (.tmp 1)⟩,
      ⟨(some 26), .mkfn (.func 56) [] [(.tmp 8)]⟩,
      ⟨(some 27), .call false false (.c (.fn (.func 40) [] [])) [(.tmp 25), (.tmp 26)]⟩])
   (.cond (.tmp 27)
    (.reg [⟨(some 28), .mov (.tmp 0)⟩,
      ⟨(some 29), .mov (.tmp 7)⟩,
      ⟨(some 30), .call false false (.c (.fn (.func 16) [] [])) [(.tmp 28), (.tmp 29), (.c (.int .i64 7))]⟩])
    .skip))
  (.seq
   (.seq
    (.reg [⟨(some 31), .mov (.tmp 0)⟩,
      ⟨(some 32), .nilchk (.tmp 31)⟩,
      ⟨(some 33), .fadr 3 (.tmp 32)⟩,
      ⟨(some 34), .load none (.tmp 33)⟩,
      ⟨(some 35), .bin .neq (.tmp 34) (.c (.int .i64 0))⟩])
   (.cond (.tmp 35)
    (.seq
     (.reg [⟨(some 36), .build [(.str []), (.int .i64 0), (.int .i64 0), (.str []), (.sl .nil []), (.sl .nil [])] []⟩,
       ⟨none, .store 6 (.tmp 6) (.tmp 36)⟩])
    .ret)
    .skip))
  (.seq
   (.seq
    (.reg [⟨(some 37), .mov (.tmp 0)⟩,
      ⟨(some 38), .call false false (.c (.fn (.func 55) [] [])) [(.tmp 37), (.c (.int .u8 58))]⟩])
   (.seq
    (.reg [⟨(some 39), .mov (.tmp 0)⟩,
      ⟨(some 40), .nilchk (.tmp 39)⟩,
      ⟨(some 41), .fadr 3 (.tmp 40)⟩,
      ⟨(some 42), .load none (.tmp 41)⟩,
      ⟨(some 43), .bin .neq (.tmp 42) (.c (.int .i64 0))⟩])
   (.cond (.tmp 43)
    (.seq
     (.reg [⟨(some 44), .build [(.str []), (.int .i64 0), (.int .i64 0), (.str []), (.sl .nil []), (.sl .nil [])] []⟩,
       ⟨none, .store 6 (.tmp 6) (.tmp 44)⟩])
    .ret)
    .skip)))
  (.seq
   (.regD [(8, 1000046), (8, 1000047)] [⟨(some 45), .load none (.tmp 8)⟩,
     ⟨(some 46), .mov (.tmp 0)⟩,
     ⟨(some 47), .mov (.tmp 2)⟩,
     ⟨(some 48), .call true true (.c (.fn (.func 14) [] [])) [(.tmp 46), (.tmp 47)]⟩,
     ⟨(some 49), .build [(.str []), (.int .i64 0), (.int .i64 0), (.str []), (.sl .nil []), (.sl .nil [])] [(0, 1, (.tmp 45)), (1, 5, (.tmp 48))]⟩,
     ⟨none, .store 6 (.tmp 6) (.tmp 49)⟩])
  .ret))))))))
def af31 : AFunc := ⟨50, [.cell 6 (some 6)], af31b, false⟩

/-- (*cascade/json.reader).word -/
def af32l0 : ACode :=
  (.seq
      (.reg [⟨(some 14), .bin .lss (.tmp 13) (.tmp 12)⟩])
     (.seq
      (.cond (.tmp 14)
       .skip
       (.exit 0))
     (.seq
      (.blk 1
       (.seq
        (.reg [⟨(some 15), .iadr 6 (.tmp 11) (.tmp 13)⟩,
          ⟨(some 16), .load (some 6) (.tmp 15)⟩,
          ⟨(some 4), .new 92 [(.str []), (.int .i64 0), (.int .i64 0), (.str []), (.sl .nil []), (.sl .nil [])]⟩,
          ⟨none, .store 6 (.tmp 4) (.tmp 16)⟩])
       (.seq
        (.regD [] [⟨(some 17), .mov (.tmp 0)⟩,
          ⟨(some 18), .nilchk (.tmp 17)⟩,
          ⟨(some 19), .fadr 0 (.tmp 18)⟩,
          ⟨(some 20), .load none (.tmp 19)⟩,
          ⟨(some 21), .mov (.tmp 0)⟩,
          ⟨(some 22), .nilchk (.tmp 21)⟩,
          ⟨(some 23), .fadr 1 (.tmp 22)⟩,
          ⟨(some 24), .load none (.tmp 23)⟩,
          ⟨(some 25), .slcS (.tmp 20) (some (.tmp 24)) none⟩,
          ⟨(some 26), .fadr 0 (.tmp 4)⟩,
          ⟨(some 27), .load none (.tmp 26)⟩,
          ⟨(some 28), .call false false (.c (.fn (.func 57) [] [])) [(.tmp 25), (.tmp 27)]⟩])
       (.cond (.tmp 28)
        (.seq
         (.regD [] [⟨(some 29), .mov (.tmp 0)⟩,
           ⟨(some 30), .nilchk (.tmp 29)⟩,
           ⟨(some 31), .fadr 1 (.tmp 30)⟩,
           ⟨(some 32), .load none (.tmp 31)⟩,
           ⟨(some 33), .fadr 0 (.tmp 4)⟩,
           ⟨(some 34), .load none (.tmp 33)⟩,
           ⟨(some 35), .len 0 (.tmp 34)⟩,
           ⟨(some 36), .bin .add (.tmp 32) (.tmp 35)⟩,
           ⟨(some 37), .nilchk (.tmp 29)⟩,
           ⟨(some 38), .fadr 1 (.tmp 37)⟩,
           ⟨none, .store 1 (.tmp 38) (.tmp 36)⟩])
        (.seq
         (.reg [⟨(some 39), .fadr 1 (.tmp 4)⟩,
           ⟨(some 40), .load (some 5) (.tmp 39)⟩,
           ⟨none, .store 5 (.tmp 2) (.tmp 40)⟩])
        .ret))
        .skip))))
     (.reg [⟨(some 41), .bin .add (.tmp 13) (.c (.int .i64 1))⟩,
       ⟨(some 13), .mov (.tmp 41)⟩]))))
def af32b : ACode :=
  (.seq
   (.reg [⟨(some 2), .new 26 [(.int .i64 0), (.int .i64 0), (.str []), (.sl .nil []), (.sl .nil [])]⟩])
  (.seq
   (.seq
    (.reg [⟨(some 5), .build [(.int .i64 0), (.int .i64 0), (.str []), (.sl .nil []), (.sl .nil [])] []⟩,
      ⟨(some 6), .build [(.str []), (.int .i64 0), (.int .i64 0), (.str []), (.sl .nil []), (.sl .nil [])] [(0, 1, (.c (.str [110, 117, 108, 108]))), (1, 5, (.tmp 5))]⟩,
      ⟨(some 7), .build [(.int .i64 0), (.int .i64 0), (.str []), (.sl .nil []), (.sl .nil [])] [(0, 1, (.c (.int .i64 1))), (1, 1, (.c (.int .i64 1)))]⟩,
      ⟨(some 8), .build [(.str []), (.int .i64 0), (.int .i64 0), (.str []), (.sl .nil []), (.sl .nil [])] [(0, 1, (.c (.str [116, 114, 117, 101]))), (1, 5, (.tmp 7))]⟩,
      ⟨(some 9), .build [(.int .i64 0), (.int .i64 0), (.str []), (.sl .nil []), (.sl .nil [])] [(0, 1, (.c (.int .i64 1)))]⟩,
      ⟨(some 10), .build [(.str []), (.int .i64 0), (.int .i64 0), (.str []), (.sl .nil []), (.sl .nil [])] [(0, 1, (.c (.str [102, 97, 108, 115, 101]))), (1, 5, (.tmp 9))]⟩,
      ⟨(some 11), .bsl 6 (.agg [(.str []), (.int .i64 0), (.int .i64 0), (.str []), (.sl .nil []), (.sl .nil [])]) 3 [(0, (.tmp 6)), (1, (.tmp 8)), (2, (.tmp 10))]⟩,
      ⟨(some 12), .len 1 (.tmp 11)⟩,
      ⟨(some 13), .mov (.c (.int .i64 0))⟩])
   (.blk 0
    (.loop false af32l0)))
  (.seq
   (.reg [⟨(some 42), .mov (.tmp 0)⟩,
     ⟨(some 43), .mov (.tmp 0)⟩,
     ⟨(some 44), .nilchk (.tmp 43)⟩,
     ⟨(some 45), .fadr 1 (.tmp 44)⟩,
     ⟨(some 46), .load none (.tmp 45)⟩,
     ⟨(some 47), .call false false (.c (.fn (.func 16) [] [])) [(.tmp 42), (.tmp 46), (.c (.int .i64 4))]⟩])
  (.seq
   (.reg [⟨(some 48), .build [(.int .i64 0), (.int .i64 0), (.str []), (.sl .nil []), (.sl .nil [])] []⟩,
     ⟨none, .store 5 (.tmp 2) (.tmp 48)⟩])
  .ret))))
def af32 : AFunc := ⟨49, [.cell 2 (some 5)], af32b, false⟩

/-- cascade/tree.Right$1 -/
def af34b : ACode :=
  (.seq
   (.reg [⟨(some 3), .box 26 (.tmp 0)⟩,
     ⟨(some 4), .box 3 (.tmp 1)⟩,
     ⟨(some 5), .mov (.c (.bool false))⟩])
  (.seq
   (.seq
    (.reg [⟨(some 6), .load none (.tmp 4)⟩,
      ⟨(some 7), .bin .lss (.tmp 6) (.c (.int .i64 1))⟩,
      ⟨(some 12), .sc 8 false (.tmp 7) [⟨(some 9), .load (some 5) (.tmp 3)⟩, ⟨(some 10), .call false false (.c (.fn (.func 35) [] [])) [(.tmp 9)]⟩, ⟨(some 11), .un .not (.tmp 10)⟩] (.tmp 11)⟩])
   (.cond (.tmp 12)
    (.seq
     (.reg [⟨(some 5), .mov (.c (.bool false))⟩])
    .ret)
    .skip))
  (.seq
   (.seq
    (.reg [⟨(some 13), .fadr 0 (.tmp 3)⟩,
      ⟨(some 14), .load none (.tmp 13)⟩])
   (.blk 0
    (.seq
     (.reg [⟨(some 16), .bin .eql (.tmp 14) (.c (.int .i64 0))⟩,
       ⟨(some 15), .mov (.tmp 16)⟩])
    (.cond (.tmp 15)
     (.seq
      (.reg [⟨(some 5), .mov (.c (.bool true))⟩])
     .ret)
     (.seq
      (.reg [⟨(some 18), .bin .eql (.tmp 14) (.c (.int .i64 1))⟩,
        ⟨(some 17), .mov (.tmp 18)⟩])
     (.cond (.tmp 17)
      (.seq
       (.reg [⟨(some 19), .fadr 1 (.tmp 3)⟩,
         ⟨(some 20), .load none (.tmp 19)⟩,
         ⟨(some 21), .bin .eql (.tmp 20) (.c (.int .i64 0))⟩,
         ⟨(some 26), .sc 22 false (.tmp 21) [⟨(some 23), .fadr 1 (.tmp 3)⟩, ⟨(some 24), .load none (.tmp 23)⟩, ⟨(some 25), .bin .eql (.tmp 24) (.c (.int .i64 1))⟩] (.tmp 25)⟩,
         ⟨(some 5), .mov (.tmp 26)⟩])
      .ret)
      (.seq
       (.reg [⟨(some 28), .bin .eql (.tmp 14) (.c (.int .i64 2))⟩,
         ⟨(some 27), .mov (.tmp 28)⟩])
      (.cond (.tmp 27)
       (.seq
        (.reg [⟨(some 29), .fadr 1 (.tmp 3)⟩,
          ⟨(some 30), .load none (.tmp 29)⟩,
          ⟨(some 31), .bin .geq (.tmp 30) (.c (.int .i64 (-9007199254740991)))⟩,
          ⟨(some 36), .sc 32 true (.tmp 31) [⟨(some 33), .fadr 1 (.tmp 3)⟩, ⟨(some 34), .load none (.tmp 33)⟩, ⟨(some 35), .bin .leq (.tmp 34) (.c (.int .i64 9007199254740991))⟩] (.tmp 35)⟩,
          ⟨(some 5), .mov (.tmp 36)⟩])
       .ret)
       (.seq
        (.reg [⟨(some 38), .bin .eql (.tmp 14) (.c (.int .i64 3))⟩,
          ⟨(some 37), .mov (.tmp 38)⟩])
       (.cond (.tmp 37)
        (.seq
         (.reg [⟨(some 39), .fadr 2 (.tmp 3)⟩,
           ⟨(some 40), .load none (.tmp 39)⟩,
           ⟨(some 41), .call false false (.c (.fn (.func 36) [] [])) [(.tmp 40)]⟩,
           ⟨(some 5), .mov (.tmp 41)⟩])
        .ret)
        (.seq
         (.reg [⟨(some 43), .bin .eql (.tmp 14) (.c (.int .i64 4))⟩,
           ⟨(some 42), .mov (.tmp 43)⟩])
        (.cond (.tmp 42)
         (.seq
          (.reg [⟨(some 44), .fadr 3 (.tmp 3)⟩,
            ⟨(some 45), .load none (.tmp 44)⟩,
            ⟨(some 46), .mkfn (.func 38) [] [(.tmp 2), (.tmp 4)]⟩,
            ⟨(some 47), .call false false (.c (.fn (.func 37) [] [])) [(.tmp 45), (.tmp 46)]⟩,
            ⟨(some 48), .un .not (.tmp 47)⟩,
            ⟨(some 5), .mov (.tmp 48)⟩])
         .ret)
         (.seq
          (.reg [⟨(some 50), .bin .eql (.tmp 14) (.c (.int .i64 5))⟩,
            ⟨(some 49), .mov (.tmp 50)⟩])
         (.cond (.tmp 49)
          (.seq
           (.reg [⟨(some 51), .fadr 4 (.tmp 3)⟩,
             ⟨(some 52), .load none (.tmp 51)⟩,
             ⟨(some 53), .call false false (.c (.fn (.func 39) [] [])) [(.tmp 52)]⟩,
             ⟨(some 60), .sc 54 true (.tmp 53) [⟨(some 55), .fadr 4 (.tmp 3)⟩, ⟨(some 56), .load none (.tmp 55)⟩, ⟨(some 57), .mkfn (.func 41) [] [(.tmp 2), (.tmp 4)]⟩, ⟨(some 58), .call false false (.c (.fn (.func 40) [] [])) [(.tmp 56), (.tmp 57)]⟩, ⟨(some 59), .un .not (.tmp 58)⟩] (.tmp 59)⟩,
             ⟨(some 5), .mov (.tmp 60)⟩])
          .ret)
          .skip))))))))))))))
  (.seq
   (.reg [⟨(some 5), .mov (.c (.bool false))⟩])
  .ret))))
def af34 : AFunc := ⟨61, [.tmp 5], af34b, false⟩

/-- cascade/tree.unused -/
def af35b : ACode :=
  (.seq
   (.reg [⟨(some 1), .box 26 (.tmp 0)⟩,
     ⟨(some 2), .mov (.c (.bool false))⟩])
  (.seq
   (.reg [⟨(some 4), .fadr 0 (.tmp 1)⟩,
     ⟨(some 5), .load none (.tmp 4)⟩,
     ⟨(some 6), .bin .eql (.tmp 5) (.c (.int .i64 1))⟩,
     ⟨(some 11), .sc 7 false (.tmp 6) [⟨(some 8), .fadr 0 (.tmp 1)⟩, ⟨(some 9), .load none (.tmp 8)⟩, ⟨(some 10), .bin .eql (.tmp 9) (.c (.int .i64 2))⟩] (.tmp 10)⟩,
     ⟨(some 3), .mov (.tmp 11)⟩])
  (.seq
   (.reg [⟨(some 12), .mov (.tmp 3)⟩,
     ⟨(some 17), .sc 13 false (.tmp 12) [⟨(some 14), .fadr 1 (.tmp 1)⟩, ⟨(some 15), .load none (.tmp 14)⟩, ⟨(some 16), .bin .eql (.tmp 15) (.c (.int .i64 0))⟩] (.tmp 16)⟩,
     ⟨(some 27), .sc 18 true (.tmp 17) [⟨(some 19), .fadr 0 (.tmp 1)⟩, ⟨(some 20), .load none (.tmp 19)⟩, ⟨(some 21), .bin .eql (.tmp 20) (.c (.int .i64 3))⟩, ⟨(some 26), .sc 22 false (.tmp 21) [⟨(some 23), .fadr 2 (.tmp 1)⟩, ⟨(some 24), .load none (.tmp 23)⟩, ⟨(some 25), .bin .eql (.tmp 24) (.c (.str []))⟩] (.tmp 25)⟩] (.tmp 26)⟩,
     ⟨(some 38), .sc 28 true (.tmp 27) [⟨(some 29), .fadr 0 (.tmp 1)⟩, ⟨(some 30), .load none (.tmp 29)⟩, ⟨(some 31), .bin .eql (.tmp 30) (.c (.int .i64 4))⟩, ⟨(some 37), .sc 32 false (.tmp 31) [⟨(some 33), .fadr 3 (.tmp 1)⟩, ⟨(some 34), .load none (.tmp 33)⟩, ⟨(some 35), .len 1 (.tmp 34)⟩, ⟨(some 36), .bin .eql (.tmp 35) (.c (.int .i64 0))⟩] (.tmp 36)⟩] (.tmp 37)⟩,
     ⟨(some 49), .sc 39 true (.tmp 38) [⟨(some 40), .fadr 0 (.tmp 1)⟩, ⟨(some 41), .load none (.tmp 40)⟩, ⟨(some 42), .bin .eql (.tmp 41) (.c (.int .i64 5))⟩, ⟨(some 48), .sc 43 false (.tmp 42) [⟨(some 44), .fadr 4 (.tmp 1)⟩, ⟨(some 45), .load none (.tmp 44)⟩, ⟨(some 46), .len 1 (.tmp 45)⟩, ⟨(some 47), .bin .eql (.tmp 46) (.c (.int .i64 0))⟩] (.tmp 47)⟩] (.tmp 48)⟩,
     ⟨(some 2), .mov (.tmp 49)⟩])
  .ret)))
def af35 : AFunc := ⟨50, [.tmp 2], af35b, false⟩

/-- cascade/text.Right -/
def af36b : ACode :=
  (.seq
   (.reg [⟨(some 2), .mov (.c (.bool false))⟩])
  (.seq
   (.reg [⟨(some 3), .mov (.tmp 0)⟩,
     ⟨(some 4), .call false false (.c (.fn (.func 59) [] [])) [(.tmp 3)]⟩,
     ⟨(some 5), .bin .lss (.tmp 4) (.c (.int .i64 0))⟩,
     ⟨(some 2), .mov (.tmp 5)⟩])
  .ret))
def af36 : AFunc := ⟨6, [.tmp 2], af36b, false⟩

/-- slices.ContainsFunc[[]cascade/api.Value,cascade/api.Value] -/
def af37b : ACode :=
  (.seq
   (.reg [⟨(some 4), .mov (.c (.bool false))⟩])
  (.seq
   (.reg [⟨(some 5), .mov (.tmp 0)⟩,
     ⟨(some 6), .mov (.tmp 1)⟩,
     ⟨(some 7), .call false false (.c (.fn (.func 60) [] [])) [(.tmp 5), (.tmp 6)]⟩,
     ⟨(some 8), .bin .geq (.tmp 7) (.c (.int .i64 0))⟩,
     ⟨(some 4), .mov (.tmp 8)⟩])
  .ret))
def af37 : AFunc := ⟨9, [.tmp 4], af37b, false⟩

/-- cascade/tree.Right$1$1 -/
def af38b : ACode :=
  (.seq
   (.reg [⟨(some 3), .box 26 (.tmp 0)⟩,
     ⟨(some 4), .mov (.c (.bool false))⟩])
  (.seq
   (.reg [⟨(some 5), .load none (.tmp 1)⟩,
     ⟨(some 6), .load (some 5) (.tmp 3)⟩,
     ⟨(some 7), .load none (.tmp 2)⟩,
     ⟨(some 8), .bin .sub (.tmp 7) (.c (.int .i64 1))⟩,
     ⟨(some 9), .call false false (.tmp 5) [(.tmp 6), (.tmp 8)]⟩,
     ⟨(some 10), .un .not (.tmp 9)⟩,
     ⟨(some 4), .mov (.tmp 10)⟩])
  .ret))
def af38 : AFunc := ⟨11, [.tmp 4], af38b, false⟩

/-- cascade/tree.keys -/
def af39l0 : ACode :=
  (.seq
      (.reg [⟨(some 10), .bin .lss (.tmp 9) (.tmp 8)⟩])
     (.seq
      (.cond (.tmp 10)
       .skip
       (.exit 0))
     (.seq
      (.blk 1
       (.seq
        (.reg [⟨(some 11), .iadr 6 (.tmp 7) (.tmp 9)⟩,
          ⟨(some 12), .load (some 6) (.tmp 11)⟩,
          ⟨(some 5), .new 49 [(.str []), (.int .i64 0), (.int .i64 0), (.str []), (.sl .nil []), (.sl .nil [])]⟩,
          ⟨none, .store 6 (.tmp 5) (.tmp 12)⟩])
       (.seq
        (.reg [⟨(some 13), .mov (.tmp 3)⟩,
          ⟨(some 14), .fadr 0 (.tmp 5)⟩,
          ⟨(some 15), .load none (.tmp 14)⟩,
          ⟨(some 16), .look 0 (.int .i64 0) false (.tmp 13) (.tmp 15)⟩,
          ⟨(some 17), .bin .add (.tmp 16) (.c (.int .i64 1))⟩,
          ⟨none, .mupd 0 (.tmp 13) (.tmp 15) (.tmp 17)⟩])
       (.seq
        (.reg [⟨(some 18), .mov (.tmp 3)⟩,
          ⟨(some 19), .fadr 0 (.tmp 5)⟩,
          ⟨(some 20), .load none (.tmp 19)⟩,
          ⟨(some 21), .look 0 (.int .i64 0) false (.tmp 18) (.tmp 20)⟩,
          ⟨(some 22), .bin .gtr (.tmp 21) (.c (.int .i64 1))⟩,
          ⟨(some 28), .sc 23 false (.tmp 22) [⟨(some 24), .fadr 0 (.tmp 5)⟩, ⟨(some 25), .load none (.tmp 24)⟩, ⟨(some 26), .call false false (.c (.fn (.func 36) [] [])) [(.tmp 25)]⟩, ⟨(some 27), .un .not (.tmp 26)⟩] (.tmp 27)⟩])
       (.cond (.tmp 28)
        (.seq
         (.reg [⟨(some 2), .mov (.c (.bool false))⟩])
        .ret)
        .skip)))))
     (.reg [⟨(some 29), .bin .add (.tmp 9) (.c (.int .i64 1))⟩,
       ⟨(some 9), .mov (.tmp 29)⟩]))))
def af39b : ACode :=
  (.seq
   (.reg [⟨(some 2), .mov (.c (.bool false))⟩])
  (.seq
   (.reg [⟨(some 6), .mkmap⟩,
     ⟨(some 3), .mov (.tmp 6)⟩])
  (.seq
   (.seq
    (.reg [⟨(some 7), .mov (.tmp 0)⟩,
      ⟨(some 8), .len 1 (.tmp 7)⟩,
      ⟨(some 9), .mov (.c (.int .i64 0))⟩])
   (.blk 0
    (.loop false af39l0)))
  (.seq
   (.reg [⟨(some 2), .mov (.c (.bool true))⟩])
  .ret))))
def af39 : AFunc := ⟨30, [.tmp 2], af39b, false⟩

/-- slices.ContainsFunc[[]cascade/api.Pair,cascade/api.Pair] -/
def af40b : ACode :=
  (.seq
   (.reg [⟨(some 4), .mov (.c (.bool false))⟩])
  (.seq
   (.reg [⟨(some 5), .mov (.tmp 0)⟩,
     ⟨(some 6), .mov (.tmp 1)⟩,
     ⟨(some 7), .call false false (.c (.fn (.func 61) [] [])) [(.tmp 5), (.tmp 6)]⟩,
     ⟨(some 8), .bin .geq (.tmp 7) (.c (.int .i64 0))⟩,
     ⟨(some 4), .mov (.tmp 8)⟩])
  .ret))
def af40 : AFunc := ⟨9, [.tmp 4], af40b, false⟩

/-- cascade/tree.Right$1$2 -/
def af41b : ACode :=
  (.seq
   (.reg [⟨(some 3), .box 49 (.tmp 0)⟩,
     ⟨(some 4), .mov (.c (.bool false))⟩])
  (.seq
   (.reg [⟨(some 5), .load none (.tmp 1)⟩,
     ⟨(some 6), .fadr 1 (.tmp 3)⟩,
     ⟨(some 7), .load (some 5) (.tmp 6)⟩,
     ⟨(some 8), .load none (.tmp 2)⟩,
     ⟨(some 9), .bin .sub (.tmp 8) (.c (.int .i64 1))⟩,
     ⟨(some 10), .call false false (.tmp 5) [(.tmp 7), (.tmp 9)]⟩,
     ⟨(some 11), .un .not (.tmp 10)⟩,
     ⟨(some 4), .mov (.tmp 11)⟩])
  .ret))
def af41 : AFunc := ⟨12, [.tmp 4], af41b, false⟩

/-- (*strings.Builder).WriteString -/
def af42b : ACode :=
  (.seq
   (.reg [⟨(some 4), .mov (.c (.int .i64 0))⟩,
     ⟨(some 5), .mov (.c .nilI)⟩])
  (.seq
   (.reg [⟨(some 6), .mov (.tmp 0)⟩,
     ⟨(some 7), .call false false (.c (.fn (.func 62) [] [])) [(.tmp 6)]⟩])
  (.seq
   (.reg [⟨(some 8), .mov (.tmp 0)⟩,
     ⟨(some 9), .mov (.tmp 0)⟩,
     ⟨(some 10), .nilchk (.tmp 9)⟩,
     ⟨(some 11), .fadr 1 (.tmp 10)⟩,
     ⟨(some 12), .load none (.tmp 11)⟩,
     ⟨(some 13), .mov (.tmp 1)⟩,
     ⟨(some 14), .app true 1 (1, 5) (.tmp 12) (.tmp 13)⟩,
     ⟨(some 15), .nilchk (.tmp 8)⟩,
     ⟨(some 16), .fadr 1 (.tmp 15)⟩,
     ⟨none, .store 1 (.tmp 16) (.tmp 14)⟩])
  (.seq
   (.reg [⟨(some 17), .mov (.tmp 1)⟩,
     ⟨(some 18), .len 0 (.tmp 17)⟩,
     ⟨(some 4), .mov (.tmp 18)⟩,
     ⟨(some 5), .mov (.c .nilI)⟩])
  .ret))))
def af42 : AFunc := ⟨19, [.tmp 4, .tmp 5], af42b, true⟩

/-- strconv.FormatBool -/
def af43b : ACode :=
  (.seq
   (.reg [⟨(some 2), .mov (.c (.str []))⟩])
  (.seq
   (.reg [⟨(some 3), .mov (.tmp 0)⟩,
     ⟨(some 4), .call false false (.c (.fn (.func 63) [] [])) [(.tmp 3)]⟩,
     ⟨(some 2), .mov (.tmp 4)⟩])
  .ret))
def af43 : AFunc := ⟨5, [.tmp 2], af43b, false⟩

/-- cascade/quote.Quote -/
def af45l0 : ACode :=
  (.seq
      (.reg [⟨(some 14), .nxt (.tmp 13)⟩,
        ⟨(some 15), .ext (.tmp 14) 0⟩])
     (.seq
      (.cond (.tmp 15)
       .skip
       (.exit 0))
     (.blk 1
      (.seq
       (.reg [⟨(some 16), .ext (.tmp 14) 2⟩,
         ⟨(some 6), .mov (.tmp 16)⟩])
      (.seq
       (.reg [⟨(some 17), .mov (.tmp 6)⟩,
         ⟨(some 18), .call false false (.c (.fn (.func 65) [] [])) [(.tmp 17)]⟩,
         ⟨(some 7), .mov (.tmp 18)⟩])
      (.seq
       (.reg [⟨(some 19), .mov (.tmp 7)⟩,
         ⟨(some 20), .bin .neq (.tmp 19) (.c (.str []))⟩])
      (.cond (.tmp 20)
       (.reg [⟨(some 21), .mov (.tmp 7)⟩,
         ⟨(some 22), .call false false (.c (.fn (.func 42) [] [])) [(.tmp 4), (.tmp 21)]⟩])
       (.reg [⟨(some 23), .mov (.tmp 6)⟩,
         ⟨(some 24), .call false false (.c (.fn (.func 66) [] [])) [(.tmp 4), (.tmp 23)]⟩]))))))))
def af45b : ACode :=
  (.seq
   (.reg [⟨(some 2), .mov (.c (.str []))⟩,
     ⟨(some 3), .mov (.c (.int .i64 0))⟩])
  (.seq
   (.seq
    (.reg [⟨(some 8), .mov (.tmp 0)⟩,
      ⟨(some 9), .call false false (.c (.fn (.func 36) [] [])) [(.tmp 8)]⟩,
      ⟨(some 10), .un .not (.tmp 9)⟩])
   (.cond (.tmp 10)
    (.seq
     (.reg [⟨(some 2), .mov (.c (.str []))⟩,
       ⟨(some 3), .mov (.c (.int .i64 2))⟩])
    .ret)
    .skip))
  (.seq
   (.reg [⟨(some 4), .new 53 [.pnil, (.sl .nil [])]⟩])
  (.seq
   (.reg [⟨(some 11), .call false false (.c (.fn (.func 46) [] [])) [(.tmp 4), (.c (.int .u8 34))]⟩])
  (.seq
   (.seq
    (.reg [⟨(some 12), .mov (.tmp 0)⟩,
      ⟨(some 13), .rng (.tmp 12)⟩])
   (.blk 0
    (.loop false af45l0)))
  (.seq
   (.reg [⟨(some 25), .call false false (.c (.fn (.func 46) [] [])) [(.tmp 4), (.c (.int .u8 34))]⟩])
  (.seq
   (.reg [⟨(some 26), .call false false (.c (.fn (.func 19) [] [])) [(.tmp 4)]⟩,
     ⟨(some 2), .mov (.tmp 26)⟩,
     ⟨(some 3), .mov (.c (.int .i64 0))⟩])
  .ret)))))))
def af45 : AFunc := ⟨27, [.tmp 2, .tmp 3], af45b, false⟩

/-- (*strings.Builder).WriteByte -/
def af46b : ACode :=
  (.seq
   (.reg [⟨(some 4), .mov (.c .nilI)⟩])
  (.seq
   (.reg [⟨(some 5), .mov (.tmp 0)⟩,
     ⟨(some 6), .call false false (.c (.fn (.func 62) [] [])) [(.tmp 5)]⟩])
  (.seq
   (.reg [⟨(some 7), .mov (.tmp 0)⟩,
     ⟨(some 8), .mov (.tmp 0)⟩,
     ⟨(some 9), .nilchk (.tmp 8)⟩,
     ⟨(some 10), .fadr 1 (.tmp 9)⟩,
     ⟨(some 11), .load none (.tmp 10)⟩,
     ⟨(some 12), .mov (.tmp 1)⟩,
     ⟨(some 13), .bsl 1 (.int .u8 0) 1 [(0, (.tmp 12))]⟩,
     ⟨(some 14), .app false 1 (1, 5) (.tmp 11) (.tmp 13)⟩,
     ⟨(some 15), .nilchk (.tmp 7)⟩,
     ⟨(some 16), .fadr 1 (.tmp 15)⟩,
     ⟨none, .store 1 (.tmp 16) (.tmp 14)⟩])
  (.seq
   (.reg [⟨(some 4), .mov (.c .nilI)⟩])
  .ret))))
def af46 : AFunc := ⟨17, [.tmp 4], af46b, true⟩

/-- cascade/cascaderef02.sign -/
def af47l0 : ACode :=
  (.seq
      (.seq
       (.reg [⟨(some 21), .mov (.tmp 9)⟩,
         ⟨(some 22), .mov (.tmp 7)⟩,
         ⟨(some 23), .len 0 (.tmp 22)⟩,
         ⟨(some 24), .bin .lss (.tmp 21) (.tmp 23)⟩])
      (.cond (.tmp 24)
       .skip
       (.exit 0)))
     (.seq
      (.blk 1
       (.seq
        (.reg [⟨(some 27), .mov (.tmp 7)⟩,
          ⟨(some 28), .mov (.tmp 9)⟩,
          ⟨(some 29), .idx (.tmp 27) (.tmp 28)⟩,
          ⟨(some 30), .mov (.tmp 6)⟩,
          ⟨(some 31), .bin .eql (.tmp 29) (.tmp 30)⟩])
       (.cond (.tmp 31)
        (.seq
         (.reg [⟨(some 32), .mov (.tmp 8)⟩,
           ⟨(some 33), .mov (.tmp 9)⟩,
           ⟨(some 34), .idx (.tmp 32) (.tmp 33)⟩,
           ⟨(some 35), .cvI .i32 (.tmp 34)⟩,
           ⟨(some 4), .mov (.tmp 35)⟩,
           ⟨(some 5), .mov (.c (.int .i64 2))⟩])
        .ret)
        .skip)))
     (.reg [⟨(some 25), .mov (.tmp 9)⟩,
       ⟨(some 26), .bin .add (.tmp 25) (.c (.int .i64 1))⟩,
       ⟨(some 9), .mov (.tmp 26)⟩])))
def af47b : ACode :=
  (.seq
   (.reg [⟨(some 4), .mov (.c (.int .i32 0))⟩,
     ⟨(some 5), .mov (.c (.int .i64 0))⟩])
  (.seq
   (.seq
    (.reg [⟨(some 12), .mov (.tmp 1)⟩,
      ⟨(some 13), .mov (.tmp 0)⟩,
      ⟨(some 14), .len 0 (.tmp 13)⟩,
      ⟨(some 15), .bin .sub (.tmp 14) (.c (.int .i64 1))⟩,
      ⟨(some 16), .bin .geq (.tmp 12) (.tmp 15)⟩])
   (.cond (.tmp 16)
    (.seq
     (.reg [⟨(some 4), .mov (.c (.int .i32 0))⟩,
       ⟨(some 5), .mov (.c (.int .i64 0))⟩])
    .ret)
    .skip))
  (.seq
   (.reg [⟨(some 17), .mov (.tmp 0)⟩,
     ⟨(some 18), .mov (.tmp 1)⟩,
     ⟨(some 19), .bin .add (.tmp 18) (.c (.int .i64 1))⟩,
     ⟨(some 20), .idx (.tmp 17) (.tmp 19)⟩,
     ⟨(some 6), .mov (.tmp 20)⟩])
  (.seq
   (.reg [⟨(some 7), .mov (.c (.str [34, 92, 47, 98, 102, 110, 114, 116]))⟩,
     ⟨(some 8), .mov (.c (.str [34, 92, 47, 8, 12, 10, 13, 9]))⟩])
  (.seq
   (.seq
    (.reg [⟨(some 9), .mov (.c (.int .i64 0))⟩])
   (.blk 0
    (.loop false af47l0)))
  (.seq
   (.seq
    (.reg [⟨(some 36), .mov (.tmp 6)⟩,
      ⟨(some 37), .bin .neq (.tmp 36) (.c (.int .u8 117))⟩])
   (.cond (.tmp 37)
    (.seq
     (.reg [⟨(some 4), .mov (.c (.int .i32 0))⟩,
       ⟨(some 5), .mov (.c (.int .i64 0))⟩])
    .ret)
    .skip))
  (.seq
   (.reg [⟨(some 38), .mov (.tmp 0)⟩,
     ⟨(some 39), .mov (.tmp 1)⟩,
     ⟨(some 40), .bin .add (.tmp 39) (.c (.int .i64 2))⟩,
     ⟨(some 41), .call false false (.c (.fn (.func 67) [] [])) [(.tmp 38), (.tmp 40)]⟩,
     ⟨(some 10), .mov (.tmp 41)⟩])
  (.seq
   (.seq
    (.reg [⟨(some 42), .mov (.tmp 10)⟩,
      ⟨(some 43), .bin .lss (.tmp 42) (.c (.int .i64 0))⟩])
   (.cond (.tmp 43)
    (.seq
     (.reg [⟨(some 4), .mov (.c (.int .i32 0))⟩,
       ⟨(some 5), .mov (.c (.int .i64 0))⟩])
    .ret)
    .skip))
  (.seq
   (.seq
    (.reg [⟨(some 44), .mov (.tmp 10)⟩,
      ⟨(some 45), .bin .lss (.tmp 44) (.c (.int .i64 55296))⟩,
      ⟨(some 49), .sc 46 false (.tmp 45) [⟨(some 47), .mov (.tmp 10)⟩, ⟨(some 48), .bin .gtr (.tmp 47) (.c (.int .i64 57343))⟩] (.tmp 48)⟩])
   (.cond (.tmp 49)
    (.seq
     (.reg [⟨(some 50), .mov (.tmp 10)⟩,
       ⟨(some 51), .cvI .i32 (.tmp 50)⟩,
       ⟨(some 4), .mov (.tmp 51)⟩,
       ⟨(some 5), .mov (.c (.int .i64 6))⟩])
    .ret)
    .skip))
  (.seq
   (.seq
    (.reg [⟨(some 52), .mov (.tmp 10)⟩,
      ⟨(some 53), .bin .gtr (.tmp 52) (.c (.int .i64 56319))⟩,
      ⟨(some 60), .sc 54 false (.tmp 53) [⟨(some 55), .mov (.tmp 1)⟩, ⟨(some 56), .mov (.tmp 0)⟩, ⟨(some 57), .len 0 (.tmp 56)⟩, ⟨(some 58), .bin .sub (.tmp 57) (.c (.int .i64 7))⟩, ⟨(some 59), .bin .geq (.tmp 55) (.tmp 58)⟩] (.tmp 59)⟩,
      ⟨(some 67), .sc 61 false (.tmp 60) [⟨(some 62), .mov (.tmp 0)⟩, ⟨(some 63), .mov (.tmp 1)⟩, ⟨(some 64), .bin .add (.tmp 63) (.c (.int .i64 6))⟩, ⟨(some 65), .idx (.tmp 62) (.tmp 64)⟩, ⟨(some 66), .bin .neq (.tmp 65) (.c (.int .u8 92))⟩] (.tmp 66)⟩,
      ⟨(some 74), .sc 68 false (.tmp 67) [⟨(some 69), .mov (.tmp 0)⟩, ⟨(some 70), .mov (.tmp 1)⟩, ⟨(some 71), .bin .add (.tmp 70) (.c (.int .i64 7))⟩, ⟨(some 72), .idx (.tmp 69) (.tmp 71)⟩, ⟨(some 73), .bin .neq (.tmp 72) (.c (.int .u8 117))⟩] (.tmp 73)⟩])
   (.cond (.tmp 74)
    (.seq
     (.reg [⟨(some 4), .mov (.c (.int .i32 0))⟩,
       ⟨(some 5), .mov (.c (.int .i64 0))⟩])
    .ret)
    .skip))
  (.seq
   (.reg [⟨(some 75), .mov (.tmp 0)⟩,
     ⟨(some 76), .mov (.tmp 1)⟩,
     ⟨(some 77), .bin .add (.tmp 76) (.c (.int .i64 8))⟩,
     ⟨(some 78), .call false false (.c (.fn (.func 67) [] [])) [(.tmp 75), (.tmp 77)]⟩,
     ⟨(some 11), .mov (.tmp 78)⟩])
  (.seq
   (.seq
    (.reg [⟨(some 79), .mov (.tmp 11)⟩,
      ⟨(some 80), .bin .lss (.tmp 79) (.c (.int .i64 56320))⟩,
      ⟨(some 84), .sc 81 false (.tmp 80) [⟨(some 82), .mov (.tmp 11)⟩, ⟨(some 83), .bin .gtr (.tmp 82) (.c (.int .i64 57343))⟩] (.tmp 83)⟩])
   (.cond (.tmp 84)
    (.seq
     (.reg [⟨(some 4), .mov (.c (.int .i32 0))⟩,
       ⟨(some 5), .mov (.c (.int .i64 0))⟩])
    .ret)
    .skip))
  (.seq
   (.reg [⟨(some 85), .mov (.tmp 10)⟩,
     ⟨(some 86), .bin .sub (.tmp 85) (.c (.int .i64 55296))⟩,
     ⟨(some 87), .bin .mul (.tmp 86) (.c (.int .i64 1024))⟩,
     ⟨(some 88), .bin .add (.c (.int .i64 65536)) (.tmp 87)⟩,
     ⟨(some 89), .mov (.tmp 11)⟩,
     ⟨(some 90), .bin .add (.tmp 88) (.tmp 89)⟩,
     ⟨(some 91), .bin .sub (.tmp 90) (.c (.int .i64 56320))⟩,
     ⟨(some 92), .cvI .i32 (.tmp 91)⟩,
     ⟨(some 4), .mov (.tmp 92)⟩,
     ⟨(some 5), .mov (.c (.int .i64 12))⟩])
  .ret)))))))))))))
def af47 : AFunc := ⟨93, [.tmp 4, .tmp 5], af47b, false⟩

/-- cascade/cascaderef01.Rune -/
def af48b : ACode :=
  (.seq
   (.reg [⟨(some 2), .mov (.c (.str []))⟩])
  (.seq
   (.reg [⟨(some 4), .mov (.tmp 0)⟩,
     ⟨(some 5), .cvI .i64 (.tmp 4)⟩,
     ⟨(some 3), .mov (.tmp 5)⟩])
  (.seq
   (.seq
    (.reg [⟨(some 6), .mov (.tmp 3)⟩,
      ⟨(some 7), .bin .lss (.tmp 6) (.c (.int .i64 0))⟩,
      ⟨(some 11), .sc 8 false (.tmp 7) [⟨(some 9), .mov (.tmp 3)⟩, ⟨(some 10), .bin .gtr (.tmp 9) (.c (.int .i64 1114111))⟩] (.tmp 10)⟩,
      ⟨(some 19), .sc 12 false (.tmp 11) [⟨(some 13), .mov (.tmp 3)⟩, ⟨(some 14), .bin .geq (.tmp 13) (.c (.int .i64 55296))⟩, ⟨(some 18), .sc 15 true (.tmp 14) [⟨(some 16), .mov (.tmp 3)⟩, ⟨(some 17), .bin .lss (.tmp 16) (.c (.int .i64 57344))⟩] (.tmp 17)⟩] (.tmp 18)⟩])
   (.cond (.tmp 19)
    (.seq
     (.reg [⟨(some 2), .mov (.c (.str []))⟩])
    .ret)
    .skip))
  (.seq
   (.seq
    (.reg [⟨(some 20), .mov (.tmp 3)⟩,
      ⟨(some 21), .bin .lss (.tmp 20) (.c (.int .i64 128))⟩])
   (.cond (.tmp 21)
    (.seq
     (.reg [⟨(some 22), .mov (.tmp 3)⟩,
       ⟨(some 23), .cvI .u8 (.tmp 22)⟩,
       ⟨(some 24), .bsl 1 (.int .u8 0) 1 [(0, (.tmp 23))]⟩,
       ⟨(some 25), .b2s (.tmp 24)⟩,
       ⟨(some 2), .mov (.tmp 25)⟩])
    .ret)
    .skip))
  (.seq
   (.seq
    (.reg [⟨(some 26), .mov (.tmp 3)⟩,
      ⟨(some 27), .bin .lss (.tmp 26) (.c (.int .i64 2048))⟩])
   (.cond (.tmp 27)
    (.seq
     (.reg [⟨(some 28), .mov (.tmp 3)⟩,
       ⟨(some 29), .bin .quo (.tmp 28) (.c (.int .i64 64))⟩,
       ⟨(some 30), .bin .add (.c (.int .i64 192)) (.tmp 29)⟩,
       ⟨(some 31), .cvI .u8 (.tmp 30)⟩,
       ⟨(some 32), .mov (.tmp 3)⟩,
       ⟨(some 33), .bin .rem (.tmp 32) (.c (.int .i64 64))⟩,
       ⟨(some 34), .bin .add (.c (.int .i64 128)) (.tmp 33)⟩,
       ⟨(some 35), .cvI .u8 (.tmp 34)⟩,
       ⟨(some 36), .bsl 1 (.int .u8 0) 2 [(0, (.tmp 31)), (1, (.tmp 35))]⟩,
       ⟨(some 37), .b2s (.tmp 36)⟩,
       ⟨(some 2), .mov (.tmp 37)⟩])
    .ret)
    .skip))
  (.seq
   (.seq
    (.reg [⟨(some 38), .mov (.tmp 3)⟩,
      ⟨(some 39), .bin .lss (.tmp 38) (.c (.int .i64 65536))⟩])
   (.cond (.tmp 39)
    (.seq
     (.reg [⟨(some 40), .mov (.tmp 3)⟩,
       ⟨(some 41), .bin .quo (.tmp 40) (.c (.int .i64 4096))⟩,
       ⟨(some 42), .bin .add (.c (.int .i64 224)) (.tmp 41)⟩,
       ⟨(some 43), .cvI .u8 (.tmp 42)⟩,
       ⟨(some 44), .mov (.tmp 3)⟩,
       ⟨(some 45), .bin .quo (.tmp 44) (.c (.int .i64 64))⟩,
       ⟨(some 46), .bin .rem (.tmp 45) (.c (.int .i64 64))⟩,
       ⟨(some 47), .bin .add (.c (.int .i64 128)) (.tmp 46)⟩,
       ⟨(some 48), .cvI .u8 (.tmp 47)⟩,
       ⟨(some 49), .mov (.tmp 3)⟩,
       ⟨(some 50), .bin .rem (.tmp 49) (.c (.int .i64 64))⟩,
       ⟨(some 51), .bin .add (.c (.int .i64 128)) (.tmp 50)⟩,
       ⟨(some 52), .cvI .u8 (.tmp 51)⟩,
       ⟨(some 53), .bsl 1 (.int .u8 0) 3 [(0, (.tmp 43)), (1, (.tmp 48)), (2, (.tmp 52))]⟩,
       ⟨(some 54), .b2s (.tmp 53)⟩,
       ⟨(some 2), .mov (.tmp 54)⟩])
    .ret)
    .skip))
  (.seq
   (.reg [⟨(some 55), .mov (.tmp 3)⟩,
     ⟨(some 56), .bin .quo (.tmp 55) (.c (.int .i64 262144))⟩,
     ⟨(some 57), .bin .add (.c (.int .i64 240)) (.tmp 56)⟩,
     ⟨(some 58), .cvI .u8 (.tmp 57)⟩,
     ⟨(some 59), .mov (.tmp 3)⟩,
     ⟨(some 60), .bin .quo (.tmp 59) (.c (.int .i64 4096))⟩,
     ⟨(some 61), .bin .rem (.tmp 60) (.c (.int .i64 64))⟩,
     ⟨(some 62), .bin .add (.c (.int .i64 128)) (.tmp 61)⟩,
     ⟨(some 63), .cvI .u8 (.tmp 62)⟩,
     ⟨(some 64), .mov (.tmp 3)⟩,
     ⟨(some 65), .bin .quo (.tmp 64) (.c (.int .i64 64))⟩,
     ⟨(some 66), .bin .rem (.tmp 65) (.c (.int .i64 64))⟩,
     ⟨(some 67), .bin .add (.c (.int .i64 128)) (.tmp 66)⟩,
     ⟨(some 68), .cvI .u8 (.tmp 67)⟩,
     ⟨(some 69), .mov (.tmp 3)⟩,
     ⟨(some 70), .bin .rem (.tmp 69) (.c (.int .i64 64))⟩,
     ⟨(some 71), .bin .add (.c (.int .i64 128)) (.tmp 70)⟩,
     ⟨(some 72), .cvI .u8 (.tmp 71)⟩,
     ⟨(some 73), .bsl 1 (.int .u8 0) 4 [(0, (.tmp 58)), (1, (.tmp 63)), (2, (.tmp 68)), (3, (.tmp 72))]⟩,
     ⟨(some 74), .b2s (.tmp 73)⟩,
     ⟨(some 2), .mov (.tmp 74)⟩])
  .ret)))))))
def af48 : AFunc := ⟨75, [.tmp 2], af48b, false⟩

/-- cascade/cascaderef01.Size -/
def af49l0 : ACode :=
  (.seq
      (.seq
       (.reg [⟨(some 55), .mov (.tmp 10)⟩,
         ⟨(some 56), .mov (.tmp 7)⟩,
         ⟨(some 57), .bin .lss (.tmp 55) (.tmp 56)⟩])
      (.cond (.tmp 57)
       .skip
       (.exit 0)))
     (.seq
      (.blk 1
       (.seq
        (.reg [⟨(some 60), .mov (.tmp 0)⟩,
          ⟨(some 61), .mov (.tmp 1)⟩,
          ⟨(some 62), .mov (.tmp 10)⟩,
          ⟨(some 63), .bin .add (.tmp 61) (.tmp 62)⟩,
          ⟨(some 64), .idx (.tmp 60) (.tmp 63)⟩,
          ⟨(some 65), .cvI .i64 (.tmp 64)⟩,
          ⟨(some 11), .mov (.tmp 65)⟩])
       (.seq
        (.seq
         (.reg [⟨(some 66), .mov (.tmp 11)⟩,
           ⟨(some 67), .bin .lss (.tmp 66) (.c (.int .i64 128))⟩,
           ⟨(some 71), .sc 68 false (.tmp 67) [⟨(some 69), .mov (.tmp 11)⟩, ⟨(some 70), .bin .geq (.tmp 69) (.c (.int .i64 192))⟩] (.tmp 70)⟩])
        (.cond (.tmp 71)
         (.seq
          (.reg [⟨(some 4), .mov (.c (.int .i64 0))⟩,
            ⟨(some 5), .mov (.c (.int .i32 0))⟩])
         .ret)
         .skip))
       (.reg [⟨(some 72), .mov (.tmp 8)⟩,
         ⟨(some 73), .bin .mul (.tmp 72) (.c (.int .i64 64))⟩,
         ⟨(some 74), .mov (.tmp 11)⟩,
         ⟨(some 75), .bin .add (.tmp 73) (.tmp 74)⟩,
         ⟨(some 76), .bin .sub (.tmp 75) (.c (.int .i64 128))⟩,
         ⟨(some 8), .mov (.tmp 76)⟩]))))
     (.reg [⟨(some 58), .mov (.tmp 10)⟩,
       ⟨(some 59), .bin .add (.tmp 58) (.c (.int .i64 1))⟩,
       ⟨(some 10), .mov (.tmp 59)⟩])))
def af49b : ACode :=
  (.seq
   (.reg [⟨(some 4), .mov (.c (.int .i64 0))⟩,
     ⟨(some 5), .mov (.c (.int .i32 0))⟩])
  (.seq
   (.reg [⟨(some 12), .mov (.tmp 0)⟩,
     ⟨(some 13), .mov (.tmp 1)⟩,
     ⟨(some 14), .idx (.tmp 12) (.tmp 13)⟩,
     ⟨(some 15), .cvI .i64 (.tmp 14)⟩,
     ⟨(some 6), .mov (.tmp 15)⟩])
  (.seq
   (.reg [⟨(some 7), .mov (.c (.int .i64 0))⟩,
     ⟨(some 8), .mov (.c (.int .i64 0))⟩,
     ⟨(some 9), .mov (.c (.int .i64 0))⟩])
  (.seq
   (.seq
    (.reg [⟨(some 16), .mov (.tmp 6)⟩,
      ⟨(some 17), .bin .lss (.tmp 16) (.c (.int .i64 128))⟩])
   (.cond (.tmp 17)
    (.seq
     (.reg [⟨(some 18), .mov (.tmp 6)⟩,
       ⟨(some 19), .cvI .i32 (.tmp 18)⟩,
       ⟨(some 4), .mov (.c (.int .i64 1))⟩,
       ⟨(some 5), .mov (.tmp 19)⟩])
    .ret)
    .skip))
  (.seq
   (.seq
    (.reg [⟨(some 20), .mov (.tmp 6)⟩,
      ⟨(some 21), .bin .geq (.tmp 20) (.c (.int .i64 194))⟩,
      ⟨(some 25), .sc 22 true (.tmp 21) [⟨(some 23), .mov (.tmp 6)⟩, ⟨(some 24), .bin .lss (.tmp 23) (.c (.int .i64 224))⟩] (.tmp 24)⟩])
   (.cond (.tmp 25)
    (.seq
     (.reg [⟨(some 7), .mov (.c (.int .i64 2))⟩])
    (.seq
     (.reg [⟨(some 26), .mov (.tmp 6)⟩,
       ⟨(some 27), .bin .sub (.tmp 26) (.c (.int .i64 192))⟩,
       ⟨(some 8), .mov (.tmp 27)⟩])
    (.reg [⟨(some 9), .mov (.c (.int .i64 128))⟩])))
    .skip))
  (.seq
   (.seq
    (.reg [⟨(some 28), .mov (.tmp 6)⟩,
      ⟨(some 29), .bin .geq (.tmp 28) (.c (.int .i64 224))⟩,
      ⟨(some 33), .sc 30 true (.tmp 29) [⟨(some 31), .mov (.tmp 6)⟩, ⟨(some 32), .bin .lss (.tmp 31) (.c (.int .i64 240))⟩] (.tmp 32)⟩])
   (.cond (.tmp 33)
    (.seq
     (.reg [⟨(some 7), .mov (.c (.int .i64 3))⟩])
    (.seq
     (.reg [⟨(some 34), .mov (.tmp 6)⟩,
       ⟨(some 35), .bin .sub (.tmp 34) (.c (.int .i64 224))⟩,
       ⟨(some 8), .mov (.tmp 35)⟩])
    (.reg [⟨(some 9), .mov (.c (.int .i64 2048))⟩])))
    .skip))
  (.seq
   (.seq
    (.reg [⟨(some 36), .mov (.tmp 6)⟩,
      ⟨(some 37), .bin .geq (.tmp 36) (.c (.int .i64 240))⟩,
      ⟨(some 41), .sc 38 true (.tmp 37) [⟨(some 39), .mov (.tmp 6)⟩, ⟨(some 40), .bin .lss (.tmp 39) (.c (.int .i64 245))⟩] (.tmp 40)⟩])
   (.cond (.tmp 41)
    (.seq
     (.reg [⟨(some 7), .mov (.c (.int .i64 4))⟩])
    (.seq
     (.reg [⟨(some 42), .mov (.tmp 6)⟩,
       ⟨(some 43), .bin .sub (.tmp 42) (.c (.int .i64 240))⟩,
       ⟨(some 8), .mov (.tmp 43)⟩])
    (.reg [⟨(some 9), .mov (.c (.int .i64 65536))⟩])))
    .skip))
  (.seq
   (.seq
    (.reg [⟨(some 44), .mov (.tmp 7)⟩,
      ⟨(some 45), .bin .eql (.tmp 44) (.c (.int .i64 0))⟩,
      ⟨(some 54), .sc 46 false (.tmp 45) [⟨(some 47), .mov (.tmp 1)⟩, ⟨(some 48), .mov (.tmp 0)⟩, ⟨(some 49), .len 0 (.tmp 48)⟩, ⟨(some 50), .mov (.tmp 7)⟩, ⟨(some 51), .bin .sub (.tmp 49) (.tmp 50)⟩, ⟨(some 52), .bin .add (.tmp 51) (.c (.int .i64 1))⟩, ⟨(some 53), .bin .geq (.tmp 47) (.tmp 52)⟩] (.tmp 53)⟩])
   (.cond (.tmp 54)
    (.seq
     (.reg [⟨(some 4), .mov (.c (.int .i64 0))⟩,
       ⟨(some 5), .mov (.c (.int .i32 0))⟩])
    .ret)
    .skip))
  (.seq
   (.seq
    (.reg [⟨(some 10), .mov (.c (.int .i64 1))⟩])
   (.blk 0
    (.loop false af49l0)))
  (.seq
   (.seq
    (.reg [⟨(some 77), .mov (.tmp 8)⟩,
      ⟨(some 78), .mov (.tmp 9)⟩,
      ⟨(some 79), .bin .lss (.tmp 77) (.tmp 78)⟩,
      ⟨(some 83), .sc 80 false (.tmp 79) [⟨(some 81), .mov (.tmp 8)⟩, ⟨(some 82), .bin .gtr (.tmp 81) (.c (.int .i64 1114111))⟩] (.tmp 82)⟩,
      ⟨(some 91), .sc 84 false (.tmp 83) [⟨(some 85), .mov (.tmp 8)⟩, ⟨(some 86), .bin .geq (.tmp 85) (.c (.int .i64 55296))⟩, ⟨(some 90), .sc 87 true (.tmp 86) [⟨(some 88), .mov (.tmp 8)⟩, ⟨(some 89), .bin .lss (.tmp 88) (.c (.int .i64 57344))⟩] (.tmp 89)⟩] (.tmp 90)⟩])
   (.cond (.tmp 91)
    (.seq
     (.reg [⟨(some 4), .mov (.c (.int .i64 0))⟩,
       ⟨(some 5), .mov (.c (.int .i32 0))⟩])
    .ret)
    .skip))
  (.seq
   (.reg [⟨(some 92), .mov (.tmp 7)⟩,
     ⟨(some 93), .mov (.tmp 8)⟩,
     ⟨(some 94), .cvI .i32 (.tmp 93)⟩,
     ⟨(some 4), .mov (.tmp 92)⟩,
     ⟨(some 5), .mov (.tmp 94)⟩])
  .ret)))))))))))
def af49 : AFunc := ⟨95, [.tmp 4, .tmp 5], af49b, false⟩

/-- cascade/cascaderef05.has -/
def af50b : ACode :=
  (.seq
   (.reg [⟨(some 6), .mov (.c (.bool false))⟩])
  (.seq
   (.reg [⟨(some 7), .mov (.tmp 1)⟩,
     ⟨(some 8), .mov (.tmp 0)⟩,
     ⟨(some 9), .len 0 (.tmp 8)⟩,
     ⟨(some 10), .bin .lss (.tmp 7) (.tmp 9)⟩,
     ⟨(some 17), .sc 11 true (.tmp 10) [⟨(some 12), .mov (.tmp 0)⟩, ⟨(some 13), .mov (.tmp 1)⟩, ⟨(some 14), .idx (.tmp 12) (.tmp 13)⟩, ⟨(some 15), .mov (.tmp 2)⟩, ⟨(some 16), .bin .eql (.tmp 14) (.tmp 15)⟩] (.tmp 16)⟩,
     ⟨(some 6), .mov (.tmp 17)⟩])
  .ret))
def af50 : AFunc := ⟨18, [.tmp 6], af50b, false⟩

/-- cascade/cascaderef05.Key -/
def af51l0 : ACode :=
  (.seq
      (.seq
       (.reg [⟨(some 36), .mov (.tmp 11)⟩,
         ⟨(some 37), .fadr 4 (.tmp 5)⟩,
         ⟨(some 38), .load none (.tmp 37)⟩,
         ⟨(some 39), .len 1 (.tmp 38)⟩,
         ⟨(some 40), .bin .lss (.tmp 36) (.tmp 39)⟩])
      (.cond (.tmp 40)
       .skip
       (.exit 0)))
     (.seq
      (.blk 1
       (.seq
        (.reg [⟨(some 43), .fadr 4 (.tmp 5)⟩,
          ⟨(some 44), .load none (.tmp 43)⟩,
          ⟨(some 45), .mov (.tmp 11)⟩,
          ⟨(some 46), .iadr 6 (.tmp 44) (.tmp 45)⟩,
          ⟨(some 47), .fadr 0 (.tmp 46)⟩,
          ⟨(some 48), .load none (.tmp 47)⟩,
          ⟨(some 49), .mov (.tmp 8)⟩,
          ⟨(some 50), .bin .eql (.tmp 48) (.tmp 49)⟩])
       (.cond (.tmp 50)
        (.seq
         (.reg [⟨(some 51), .mov (.tmp 7)⟩,
           ⟨(some 52), .build [(.int .i64 0), (.int .i64 0), (.str []), (.sl .nil []), (.sl .nil []), (.int .i64 0), (.int .i64 0)] [(5, 1, (.tmp 51)), (6, 1, (.c (.int .i64 7)))]⟩,
           ⟨none, .store 7 (.tmp 6) (.tmp 52)⟩])
        .ret)
        .skip)))
     (.reg [⟨(some 41), .mov (.tmp 11)⟩,
       ⟨(some 42), .bin .add (.tmp 41) (.c (.int .i64 1))⟩,
       ⟨(some 11), .mov (.tmp 42)⟩])))
def af51b : ACode :=
  (.seq
   (.reg [⟨(some 5), .box 26 (.tmp 2)⟩,
     ⟨(some 6), .new 40 [(.int .i64 0), (.int .i64 0), (.str []), (.sl .nil []), (.sl .nil []), (.int .i64 0), (.int .i64 0)]⟩])
  (.seq
   (.reg [⟨(some 12), .mov (.tmp 0)⟩,
     ⟨(some 13), .mov (.tmp 1)⟩,
     ⟨(some 14), .call false false (.c (.fn (.func 13) [] [])) [(.tmp 12), (.tmp 13)]⟩,
     ⟨(some 7), .mov (.tmp 14)⟩])
  (.seq
   (.seq
    (.reg [⟨(some 15), .mov (.tmp 0)⟩,
      ⟨(some 16), .mov (.tmp 7)⟩,
      ⟨(some 17), .call false false (.c (.fn (.func 50) [] [])) [(.tmp 15), (.tmp 16), (.c (.int .u8 34))]⟩,
      ⟨(some 18), .un .not (.tmp 17)⟩])
   (.cond (.tmp 18)
    (.seq
     (.reg [⟨(some 19), .mov (.tmp 7)⟩,
       ⟨(some 20), .build [(.int .i64 0), (.int .i64 0), (.str []), (.sl .nil []), (.sl .nil []), (.int .i64 0), (.int .i64 0)] [(5, 1, (.tmp 19)), (6, 1, (.c (.int .i64 4)))]⟩,
       ⟨none, .store 7 (.tmp 6) (.tmp 20)⟩])
    .ret)
    .skip))
  (.seq
   (.reg [⟨(some 22), .mov (.tmp 0)⟩,
     ⟨(some 23), .mov (.tmp 7)⟩,
     ⟨(some 24), .slcS (.tmp 22) (some (.tmp 23)) none⟩,
     ⟨(some 25), .call false false (.c (.fn (.func 20) [] [])) [(.tmp 24)]⟩,
     ⟨(some 21), .mov (.tmp 25)⟩,
     ⟨(some 26), .ext (.tmp 21) 0⟩,
     ⟨(some 27), .ext (.tmp 21) 1⟩,
     ⟨(some 28), .ext (.tmp 21) 2⟩,
     ⟨(some 8), .mov (.tmp 26)⟩,
     ⟨(some 9), .mov (.tmp 27)⟩,
     ⟨(some 10), .mov (.tmp 28)⟩])
  (.seq
   (.seq
    (.reg [⟨(some 29), .mov (.tmp 10)⟩,
      ⟨(some 30), .bin .neq (.tmp 29) (.c (.int .i64 0))⟩])
   (.cond (.tmp 30)
    (.seq
     (.reg [⟨(some 31), .mov (.tmp 7)⟩,
       ⟨(some 32), .mov (.tmp 9)⟩,
       ⟨(some 33), .bin .add (.tmp 31) (.tmp 32)⟩,
       ⟨(some 34), .mov (.tmp 10)⟩,
       ⟨(some 35), .build [(.int .i64 0), (.int .i64 0), (.str []), (.sl .nil []), (.sl .nil []), (.int .i64 0), (.int .i64 0)] [(5, 1, (.tmp 33)), (6, 1, (.tmp 34))]⟩,
       ⟨none, .store 7 (.tmp 6) (.tmp 35)⟩])
    .ret)
    .skip))
  (.seq
   (.seq
    (.reg [⟨(some 11), .mov (.c (.int .i64 0))⟩])
   (.blk 0
    (.loop false af51l0)))
  (.seq
   (.reg [⟨(some 53), .mov (.tmp 0)⟩,
     ⟨(some 54), .mov (.tmp 7)⟩,
     ⟨(some 55), .mov (.tmp 9)⟩,
     ⟨(some 56), .bin .add (.tmp 54) (.tmp 55)⟩,
     ⟨(some 57), .call false false (.c (.fn (.func 13) [] [])) [(.tmp 53), (.tmp 56)]⟩,
     ⟨(some 7), .mov (.tmp 57)⟩])
  (.seq
   (.seq
    (.reg [⟨(some 58), .mov (.tmp 0)⟩,
      ⟨(some 59), .mov (.tmp 7)⟩,
      ⟨(some 60), .call false false (.c (.fn (.func 50) [] [])) [(.tmp 58), (.tmp 59), (.c (.int .u8 58))]⟩,
      ⟨(some 61), .un .not (.tmp 60)⟩])
   (.cond (.tmp 61)
    (.seq
     (.reg [⟨(some 62), .mov (.tmp 7)⟩,
       ⟨(some 63), .build [(.int .i64 0), (.int .i64 0), (.str []), (.sl .nil []), (.sl .nil []), (.int .i64 0), (.int .i64 0)] [(5, 1, (.tmp 62)), (6, 1, (.c (.int .i64 4)))]⟩,
       ⟨none, .store 7 (.tmp 6) (.tmp 63)⟩])
    .ret)
    .skip))
  (.seq
   (.reg [⟨(some 64), .mov (.tmp 8)⟩,
     ⟨(some 65), .build [(.int .i64 0), (.int .i64 0), (.str []), (.sl .nil []), (.sl .nil [])] [(0, 1, (.c (.int .i64 3))), (2, 1, (.tmp 64))]⟩,
     ⟨(some 66), .mov (.tmp 7)⟩,
     ⟨(some 67), .bin .add (.tmp 66) (.c (.int .i64 1))⟩,
     ⟨(some 68), .build [(.int .i64 0), (.int .i64 0), (.str []), (.sl .nil []), (.sl .nil []), (.int .i64 0), (.int .i64 0)] [(0, 5, (.tmp 65)), (5, 1, (.tmp 67))]⟩,
     ⟨none, .store 7 (.tmp 6) (.tmp 68)⟩])
  .ret)))))))))
def af51 : AFunc := ⟨69, [.cell 6 (some 7)], af51b, false⟩

/-- cascade/quote.Unquote -/
def af52l0 : ACode :=
  (.seq
      (.seq
       (.reg [⟨(some 12), .mov (.tmp 6)⟩,
         ⟨(some 13), .mov (.tmp 0)⟩,
         ⟨(some 14), .len 0 (.tmp 13)⟩,
         ⟨(some 15), .bin .lss (.tmp 12) (.tmp 14)⟩])
      (.cond (.tmp 15)
       .skip
       (.exit 0)))
     (.blk 1
      (.seq
       (.reg [⟨(some 17), .mov (.tmp 0)⟩,
         ⟨(some 18), .mov (.tmp 6)⟩,
         ⟨(some 19), .slcS (.tmp 17) (some (.tmp 18)) none⟩,
         ⟨(some 20), .call false false (.c (.fn (.func 68) [] [])) [(.tmp 19)]⟩,
         ⟨(some 16), .mov (.tmp 20)⟩,
         ⟨(some 21), .ext (.tmp 16) 0⟩,
         ⟨(some 22), .ext (.tmp 16) 1⟩,
         ⟨(some 7), .mov (.tmp 21)⟩,
         ⟨(some 8), .mov (.tmp 22)⟩])
      (.seq
       (.blk 2
        (.seq
         (.reg [⟨(some 24), .mov (.tmp 7)⟩,
           ⟨(some 25), .bin .eql (.tmp 24) (.c (.int .i32 34))⟩,
           ⟨(some 23), .mov (.tmp 25)⟩])
        (.cond (.tmp 23)
         (.seq
          (.reg [⟨(some 26), .call false false (.c (.fn (.func 19) [] [])) [(.tmp 5)]⟩,
            ⟨(some 27), .mov (.tmp 6)⟩,
            ⟨(some 28), .bin .add (.tmp 27) (.c (.int .i64 1))⟩,
            ⟨(some 2), .mov (.tmp 26)⟩,
            ⟨(some 3), .mov (.tmp 28)⟩,
            ⟨(some 4), .mov (.c (.int .i64 0))⟩])
         .ret)
         (.seq
          (.reg [⟨(some 30), .mov (.tmp 7)⟩,
            ⟨(some 31), .bin .lss (.tmp 30) (.c (.int .i32 32))⟩,
            ⟨(some 29), .mov (.tmp 31)⟩])
         (.cond (.tmp 29)
          (.seq
           (.reg [⟨(some 32), .mov (.tmp 6)⟩,
             ⟨(some 2), .mov (.c (.str []))⟩,
             ⟨(some 3), .mov (.tmp 32)⟩,
             ⟨(some 4), .mov (.c (.int .i64 4))⟩])
          .ret)
          (.seq
           (.reg [⟨(some 34), .mov (.tmp 7)⟩,
             ⟨(some 35), .bin .eql (.tmp 34) (.c (.int .i32 65533))⟩,
             ⟨(some 39), .sc 36 true (.tmp 35) [⟨(some 37), .mov (.tmp 8)⟩, ⟨(some 38), .bin .eql (.tmp 37) (.c (.int .i64 1))⟩] (.tmp 38)⟩,
             ⟨(some 33), .mov (.tmp 39)⟩])
          (.cond (.tmp 33)
           (.seq
            (.reg [⟨(some 40), .mov (.tmp 6)⟩,
              ⟨(some 2), .mov (.c (.str []))⟩,
              ⟨(some 3), .mov (.tmp 40)⟩,
              ⟨(some 4), .mov (.c (.int .i64 2))⟩])
           .ret)
           (.seq
            (.reg [⟨(some 42), .mov (.tmp 7)⟩,
              ⟨(some 43), .bin .eql (.tmp 42) (.c (.int .i32 92))⟩,
              ⟨(some 41), .mov (.tmp 43)⟩])
           (.cond (.tmp 41)
            (.seq
             (.reg [⟨(some 45), .mov (.tmp 0)⟩,
               ⟨(some 46), .mov (.tmp 6)⟩,
               ⟨(some 47), .slcS (.tmp 45) (some (.tmp 46)) none⟩,
               ⟨(some 48), .call false false (.c (.fn (.func 69) [] [])) [(.tmp 47)]⟩,
               ⟨(some 44), .mov (.tmp 48)⟩,
               ⟨(some 49), .ext (.tmp 44) 0⟩,
               ⟨(some 50), .ext (.tmp 44) 1⟩,
               ⟨(some 7), .mov (.tmp 49)⟩,
               ⟨(some 8), .mov (.tmp 50)⟩])
            (.seq
             (.reg [⟨(some 51), .mov (.tmp 8)⟩,
               ⟨(some 52), .bin .eql (.tmp 51) (.c (.int .i64 0))⟩])
            (.cond (.tmp 52)
             (.seq
              (.reg [⟨(some 53), .mov (.tmp 6)⟩,
                ⟨(some 2), .mov (.c (.str []))⟩,
                ⟨(some 3), .mov (.tmp 53)⟩,
                ⟨(some 4), .mov (.c (.int .i64 4))⟩])
             .ret)
             .skip)))
            .skip)))))))))
      (.seq
       (.reg [⟨(some 54), .mov (.tmp 7)⟩,
         ⟨(some 55), .call false false (.c (.fn (.func 66) [] [])) [(.tmp 5), (.tmp 54)]⟩])
      (.reg [⟨(some 56), .mov (.tmp 6)⟩,
        ⟨(some 57), .mov (.tmp 8)⟩,
        ⟨(some 58), .bin .add (.tmp 56) (.tmp 57)⟩,
        ⟨(some 6), .mov (.tmp 58)⟩]))))))
def af52b : ACode :=
  (.seq
   (.reg [⟨(some 2), .mov (.c (.str []))⟩,
     ⟨(some 3), .mov (.c (.int .i64 0))⟩,
     ⟨(some 4), .mov (.c (.int .i64 0))⟩])
  (.seq
   (.seq
    (.reg [⟨(some 9), .mov (.tmp 0)⟩,
      ⟨(some 10), .call false false (.c (.fn (.func 57) [] [])) [(.tmp 9), (.c (.str [34]))]⟩,
      ⟨(some 11), .un .not (.tmp 10)⟩])
   (.cond (.tmp 11)
    (.seq
     (.reg [⟨(some 2), .mov (.c (.str []))⟩,
       ⟨(some 3), .mov (.c (.int .i64 0))⟩,
       ⟨(some 4), .mov (.c (.int .i64 4))⟩])
    .ret)
    .skip))
  (.seq
   (.reg [⟨(some 5), .new 53 [.pnil, (.sl .nil [])]⟩])
  (.seq
   (.seq
    (.reg [⟨(some 6), .mov (.c (.int .i64 1))⟩])
   (.blk 0
    (.loop false af52l0)))
  (.seq
   (.reg [⟨(some 59), .mov (.tmp 0)⟩,
     ⟨(some 60), .len 0 (.tmp 59)⟩,
     ⟨(some 2), .mov (.c (.str []))⟩,
     ⟨(some 3), .mov (.tmp 60)⟩,
     ⟨(some 4), .mov (.c (.int .i64 4))⟩])
  .ret)))))
def af52 : AFunc := ⟨61, [.tmp 2, .tmp 3, .tmp 4], af52b, false⟩

/-- (*cascade/json.reader).digit -/
def af53b : ACode :=
  (.seq
   (.reg [⟨(some 4), .mov (.c (.bool false))⟩])
  (.seq
   (.reg [⟨(some 5), .mov (.tmp 1)⟩,
     ⟨(some 6), .mov (.tmp 0)⟩,
     ⟨(some 7), .nilchk (.tmp 6)⟩,
     ⟨(some 8), .fadr 0 (.tmp 7)⟩,
     ⟨(some 9), .load none (.tmp 8)⟩,
     ⟨(some 10), .len 0 (.tmp 9)⟩,
     ⟨(some 11), .bin .lss (.tmp 5) (.tmp 10)⟩,
     ⟨(some 20), .sc 12 true (.tmp 11) [⟨(some 13), .mov (.tmp 0)⟩, ⟨(some 14), .nilchk (.tmp 13)⟩, ⟨(some 15), .fadr 0 (.tmp 14)⟩, ⟨(some 16), .load none (.tmp 15)⟩, ⟨(some 17), .mov (.tmp 1)⟩, ⟨(some 18), .idx (.tmp 16) (.tmp 17)⟩, ⟨(some 19), .bin .geq (.tmp 18) (.c (.int .u8 48))⟩] (.tmp 19)⟩,
     ⟨(some 29), .sc 21 true (.tmp 20) [⟨(some 22), .mov (.tmp 0)⟩, ⟨(some 23), .nilchk (.tmp 22)⟩, ⟨(some 24), .fadr 0 (.tmp 23)⟩, ⟨(some 25), .load none (.tmp 24)⟩, ⟨(some 26), .mov (.tmp 1)⟩, ⟨(some 27), .idx (.tmp 25) (.tmp 26)⟩, ⟨(some 28), .bin .leq (.tmp 27) (.c (.int .u8 57))⟩] (.tmp 28)⟩,
     ⟨(some 4), .mov (.tmp 29)⟩])
  .ret))
def af53 : AFunc := ⟨30, [.tmp 4], af53b, false⟩

/-- (*cascade/json.reader).sign -/
def af55b : ACode :=
  (.seq
   (.seq
    (.regD [] [⟨(some 4), .mov (.tmp 0)⟩,
      ⟨(some 5), .call false false (.c (.fn (.func 25) [] [])) [(.tmp 4)]⟩,
      ⟨(some 6), .mov (.tmp 1)⟩,
      ⟨(some 7), .bin .neq (.tmp 5) (.tmp 6)⟩,
      ⟨(some 19), .sc 8 false (.tmp 7) [⟨(some 9), .mov (.tmp 0)⟩, ⟨(some 10), .nilchk (.tmp 9)⟩, ⟨(some 11), .fadr 1 (.tmp 10)⟩, ⟨(some 12), .load none (.tmp 11)⟩, ⟨(some 13), .mov (.tmp 0)⟩, ⟨(some 14), .nilchk (.tmp 13)⟩, ⟨(some 15), .fadr 0 (.tmp 14)⟩, ⟨(some 16), .load none (.tmp 15)⟩, ⟨(some 17), .len 0 (.tmp 16)⟩, ⟨(some 18), .bin .eql (.tmp 12) (.tmp 17)⟩] (.tmp 18)⟩])
   (.cond (.tmp 19)
    (.seq
     (.reg [⟨(some 20), .mov (.tmp 0)⟩,
       ⟨(some 21), .mov (.tmp 0)⟩,
       ⟨(some 22), .nilchk (.tmp 21)⟩,
       ⟨(some 23), .fadr 1 (.tmp 22)⟩,
       ⟨(some 24), .load none (.tmp 23)⟩,
       ⟨(some 25), .call false false (.c (.fn (.func 16) [] [])) [(.tmp 20), (.tmp 24), (.c (.int .i64 4))]⟩])
    .ret)
    .skip))
  (.reg [⟨(some 26), .mov (.tmp 0)⟩,
    ⟨(some 27), .nilchk (.tmp 26)⟩,
    ⟨(some 28), .fadr 1 (.tmp 27)⟩,
    ⟨(some 29), .load none (.tmp 28)⟩,
    ⟨(some 30), .bin .add (.tmp 29) (.c (.int .i64 1))⟩,
    ⟨(some 31), .nilchk (.tmp 26)⟩,
    ⟨(some 32), .fadr 1 (.tmp 31)⟩,
    ⟨none, .store 1 (.tmp 32) (.tmp 30)⟩]))
def af55 : AFunc := ⟨33, [], af55b, false⟩

/-- (*cascade/json.reader).pair$1 -/
def af56b : ACode :=
  (.seq
   (.reg [⟨(some 2), .box 49 (.tmp 0)⟩,
     ⟨(some 3), .mov (.c (.bool false))⟩])
  (.seq
   (.reg [⟨(some 4), .fadr 0 (.tmp 2)⟩,
     ⟨(some 5), .load none (.tmp 4)⟩,
     ⟨(some 6), .load none (.tmp 1)⟩,
     ⟨(some 7), .bin .eql (.tmp 5) (.tmp 6)⟩,
     ⟨(some 3), .mov (.tmp 7)⟩])
  .ret))
def af56 : AFunc := ⟨8, [.tmp 3], af56b, false⟩

/-- strings.HasPrefix -/
def af57b : ACode :=
  (.seq
   (.reg [⟨(some 4), .mov (.c (.bool false))⟩])
  (.seq
   (.reg [⟨(some 5), .mov (.tmp 0)⟩,
     ⟨(some 6), .mov (.tmp 1)⟩,
     ⟨(some 7), .call false false (.c (.fn (.func 72) [] [])) [(.tmp 5), (.tmp 6)]⟩,
     ⟨(some 4), .mov (.tmp 7)⟩])
  .ret))
def af57 : AFunc := ⟨8, [.tmp 4], af57b, false⟩

/-- cascade/text.Bad -/
def af59l0 : ACode :=
  (.seq
      (.reg [⟨(some 9), .nxt (.tmp 8)⟩,
        ⟨(some 10), .ext (.tmp 9) 0⟩])
     (.seq
      (.cond (.tmp 10)
       .skip
       (.exit 0))
     (.blk 1
      (.seq
       (.reg [⟨(some 11), .ext (.tmp 9) 1⟩,
         ⟨(some 12), .ext (.tmp 9) 2⟩,
         ⟨(some 3), .mov (.tmp 11)⟩,
         ⟨(some 4), .mov (.tmp 12)⟩])
      (.seq
       (.seq
        (.reg [⟨(some 13), .mov (.tmp 4)⟩,
          ⟨(some 14), .bin .neq (.tmp 13) (.c (.int .i32 65533))⟩])
       (.cond (.tmp 14)
        (.exit 1)
        .skip))
      (.seq
       (.reg [⟨(some 16), .mov (.tmp 0)⟩,
         ⟨(some 17), .mov (.tmp 3)⟩,
         ⟨(some 18), .slcS (.tmp 16) (some (.tmp 17)) none⟩,
         ⟨(some 19), .call false false (.c (.fn (.func 68) [] [])) [(.tmp 18)]⟩,
         ⟨(some 15), .mov (.tmp 19)⟩,
         ⟨(some 20), .ext (.tmp 15) 0⟩,
         ⟨(some 21), .ext (.tmp 15) 1⟩,
         ⟨(some 5), .mov (.tmp 20)⟩,
         ⟨(some 6), .mov (.tmp 21)⟩])
      (.seq
       (.reg [⟨(some 22), .mov (.tmp 6)⟩,
         ⟨(some 23), .bin .eql (.tmp 22) (.c (.int .i64 1))⟩])
      (.cond (.tmp 23)
       (.seq
        (.reg [⟨(some 24), .mov (.tmp 3)⟩,
          ⟨(some 2), .mov (.tmp 24)⟩])
       .ret)
       .skip))))))))
def af59b : ACode :=
  (.seq
   (.reg [⟨(some 2), .mov (.c (.int .i64 0))⟩])
  (.seq
   (.seq
    (.reg [⟨(some 7), .mov (.tmp 0)⟩,
      ⟨(some 8), .rng (.tmp 7)⟩])
   (.blk 0
    (.loop false af59l0)))
  (.seq
   (.reg [⟨(some 2), .mov (.c (.int .i64 (-1)))⟩])
  .ret)))
def af59 : AFunc := ⟨25, [.tmp 2], af59b, false⟩

/-- slices.IndexFunc[[]cascade/api.Value,cascade/api.Value] -/
def af60l0 : ACode :=
  (.seq
      (.reg [⟨(some 9), .bin .lss (.tmp 8) (.tmp 7)⟩])
     (.seq
      (.cond (.tmp 9)
       .skip
       (.exit 0))
     (.seq
      (.blk 1
       (.seq
        (.reg [⟨(some 10), .mov (.tmp 8)⟩,
          ⟨(some 5), .mov (.tmp 10)⟩])
       (.seq
        (.reg [⟨(some 11), .mov (.tmp 1)⟩,
          ⟨(some 12), .mov (.tmp 0)⟩,
          ⟨(some 13), .mov (.tmp 5)⟩,
          ⟨(some 14), .iadr 5 (.tmp 12) (.tmp 13)⟩,
          ⟨(some 15), .load (some 5) (.tmp 14)⟩,
          ⟨(some 16), .call false false (.tmp 11) [(.tmp 15)]⟩])
       (.cond (.tmp 16)
        (.seq
         (.reg [⟨(some 17), .mov (.tmp 5)⟩,
           ⟨(some 4), .mov (.tmp 17)⟩])
        .ret)
        .skip))))
     (.reg [⟨(some 18), .bin .add (.tmp 8) (.c (.int .i64 1))⟩,
       ⟨(some 8), .mov (.tmp 18)⟩]))))
def af60b : ACode :=
  (.seq
   (.reg [⟨(some 4), .mov (.c (.int .i64 0))⟩])
  (.seq
   (.seq
    (.reg [⟨(some 6), .mov (.tmp 0)⟩,
      ⟨(some 7), .len 1 (.tmp 6)⟩,
      ⟨(some 8), .mov (.c (.int .i64 0))⟩])
   (.blk 0
    (.loop false af60l0)))
  (.seq
   (.reg [⟨(some 4), .mov (.c (.int .i64 (-1)))⟩])
  .ret)))
def af60 : AFunc := ⟨19, [.tmp 4], af60b, false⟩

/-- slices.IndexFunc[[]cascade/api.Pair,cascade/api.Pair] -/
def af61l0 : ACode :=
  (.seq
      (.reg [⟨(some 9), .bin .lss (.tmp 8) (.tmp 7)⟩])
     (.seq
      (.cond (.tmp 9)
       .skip
       (.exit 0))
     (.seq
      (.blk 1
       (.seq
        (.reg [⟨(some 10), .mov (.tmp 8)⟩,
          ⟨(some 5), .mov (.tmp 10)⟩])
       (.seq
        (.reg [⟨(some 11), .mov (.tmp 1)⟩,
          ⟨(some 12), .mov (.tmp 0)⟩,
          ⟨(some 13), .mov (.tmp 5)⟩,
          ⟨(some 14), .iadr 6 (.tmp 12) (.tmp 13)⟩,
          ⟨(some 15), .load (some 6) (.tmp 14)⟩,
          ⟨(some 16), .call false false (.tmp 11) [(.tmp 15)]⟩])
       (.cond (.tmp 16)
        (.seq
         (.reg [⟨(some 17), .mov (.tmp 5)⟩,
           ⟨(some 4), .mov (.tmp 17)⟩])
        .ret)
        .skip))))
     (.reg [⟨(some 18), .bin .add (.tmp 8) (.c (.int .i64 1))⟩,
       ⟨(some 8), .mov (.tmp 18)⟩]))))
def af61b : ACode :=
  (.seq
   (.reg [⟨(some 4), .mov (.c (.int .i64 0))⟩])
  (.seq
   (.seq
    (.reg [⟨(some 6), .mov (.tmp 0)⟩,
      ⟨(some 7), .len 1 (.tmp 6)⟩,
      ⟨(some 8), .mov (.c (.int .i64 0))⟩])
   (.blk 0
    (.loop false af61l0)))
  (.seq
   (.reg [⟨(some 4), .mov (.c (.int .i64 (-1)))⟩])
  .ret)))
def af61 : AFunc := ⟨19, [.tmp 4], af61b, false⟩

/-- (*strings.Builder).copyCheck -/
def af62b : ACode :=
  (.seq
   (.reg [⟨(some 2), .mov (.tmp 0)⟩,
     ⟨(some 3), .nilchk (.tmp 2)⟩,
     ⟨(some 4), .fadr 0 (.tmp 3)⟩,
     ⟨(some 5), .load none (.tmp 4)⟩,
     ⟨(some 6), .eqp false (.tmp 5) (.c .pnil)⟩])
  (.cond (.tmp 6)
   (.reg [⟨(some 7), .mov (.tmp 0)⟩,
     ⟨(some 8), .mov (.tmp 0)⟩,
     ⟨(some 9), .pu (.tmp 8)⟩,
     ⟨(some 10), .call false false (.c (.fn (.func 74) [] [])) [(.tmp 9)]⟩,
     ⟨(some 11), .up 53 2 (.tmp 10)⟩,
     ⟨(some 12), .nilchk (.tmp 7)⟩,
     ⟨(some 13), .fadr 0 (.tmp 12)⟩,
     ⟨none, .store 1 (.tmp 13) (.tmp 11)⟩])
   (.seq
    (.reg [⟨(some 14), .mov (.tmp 0)⟩,
      ⟨(some 15), .nilchk (.tmp 14)⟩,
      ⟨(some 16), .fadr 0 (.tmp 15)⟩,
      ⟨(some 17), .load none (.tmp 16)⟩,
      ⟨(some 18), .mov (.tmp 0)⟩,
      ⟨(some 19), .eqp true (.tmp 17) (.tmp 18)⟩])
   (.cond (.tmp 19)
    .halt
    .skip))))
def af62 : AFunc := ⟨20, [], af62b, true⟩

/-- internal/strconv.FormatBool -/
def af63b : ACode :=
  (.seq
   (.reg [⟨(some 2), .mov (.c (.str []))⟩])
  (.seq
   (.seq
    (.reg [⟨(some 3), .mov (.tmp 0)⟩])
   (.cond (.tmp 3)
    (.seq
     (.reg [⟨(some 2), .mov (.c (.str [116, 114, 117, 101]))⟩])
    .ret)
    .skip))
  (.seq
   (.reg [⟨(some 2), .mov (.c (.str [102, 97, 108, 115, 101]))⟩])
  .ret)))
def af63 : AFunc := ⟨4, [.tmp 2], af63b, false⟩

/-- cascade/quote.escape -/
def af65b : ACode :=
  (.seq
   (.reg [⟨(some 2), .mov (.c (.str []))⟩])
  (.seq
   (.seq
    (.reg [⟨(some 3), .mov (.tmp 0)⟩])
   (.blk 0
    (.seq
     (.reg [⟨(some 5), .bin .eql (.tmp 3) (.c (.int .i32 34))⟩,
       ⟨(some 4), .mov (.tmp 5)⟩])
    (.cond (.tmp 4)
     (.seq
      (.reg [⟨(some 2), .mov (.c (.str [92, 34]))⟩])
     .ret)
     (.seq
      (.reg [⟨(some 7), .bin .eql (.tmp 3) (.c (.int .i32 92))⟩,
        ⟨(some 6), .mov (.tmp 7)⟩])
     (.cond (.tmp 6)
      (.seq
       (.reg [⟨(some 2), .mov (.c (.str [92, 92]))⟩])
      .ret)
      (.seq
       (.reg [⟨(some 9), .bin .eql (.tmp 3) (.c (.int .i32 8))⟩,
         ⟨(some 8), .mov (.tmp 9)⟩])
      (.cond (.tmp 8)
       (.seq
        (.reg [⟨(some 2), .mov (.c (.str [92, 98]))⟩])
       .ret)
       (.seq
        (.reg [⟨(some 11), .bin .eql (.tmp 3) (.c (.int .i32 12))⟩,
          ⟨(some 10), .mov (.tmp 11)⟩])
       (.cond (.tmp 10)
        (.seq
         (.reg [⟨(some 2), .mov (.c (.str [92, 102]))⟩])
        .ret)
        (.seq
         (.reg [⟨(some 13), .bin .eql (.tmp 3) (.c (.int .i32 10))⟩,
           ⟨(some 12), .mov (.tmp 13)⟩])
        (.cond (.tmp 12)
         (.seq
          (.reg [⟨(some 2), .mov (.c (.str [92, 110]))⟩])
         .ret)
         (.seq
          (.reg [⟨(some 15), .bin .eql (.tmp 3) (.c (.int .i32 13))⟩,
            ⟨(some 14), .mov (.tmp 15)⟩])
         (.cond (.tmp 14)
          (.seq
           (.reg [⟨(some 2), .mov (.c (.str [92, 114]))⟩])
          .ret)
          (.seq
           (.reg [⟨(some 17), .bin .eql (.tmp 3) (.c (.int .i32 9))⟩,
             ⟨(some 16), .mov (.tmp 17)⟩])
          (.cond (.tmp 16)
           (.seq
            (.reg [⟨(some 2), .mov (.c (.str [92, 116]))⟩])
           .ret)
           .skip))))))))))))))))
  (.seq
   (.seq
    (.reg [⟨(some 18), .mov (.tmp 0)⟩,
      ⟨(some 19), .bin .lss (.tmp 18) (.c (.int .i32 32))⟩])
   (.cond (.tmp 19)
    (.seq
     (.regD [] [⟨(some 20), .mov (.tmp 0)⟩,
       ⟨(some 21), .bin .shr (.tmp 20) (.c (.int .u64 4))⟩,
       ⟨(some 22), .mov (.tmp 0)⟩,
       ⟨(some 23), .bin .shr (.tmp 22) (.c (.int .u64 4))⟩,
       ⟨(some 24), .bin .add (.tmp 23) (.c (.int .i32 1))⟩,
       ⟨(some 25), .slcS (.c (.str [48, 49, 50, 51, 52, 53, 54, 55, 56, 57, 97, 98, 99, 100, 101, 102])) (some (.tmp 21)) (some (.tmp 24))⟩,
       ⟨(some 26), .bin .add (.c (.str [92, 117, 48, 48])) (.tmp 25)⟩,
       ⟨(some 27), .mov (.tmp 0)⟩,
       ⟨(some 28), .bin .and (.tmp 27) (.c (.int .i32 15))⟩,
       ⟨(some 29), .mov (.tmp 0)⟩,
       ⟨(some 30), .bin .and (.tmp 29) (.c (.int .i32 15))⟩,
       ⟨(some 31), .bin .add (.tmp 30) (.c (.int .i32 1))⟩,
       ⟨(some 32), .slcS (.c (.str [48, 49, 50, 51, 52, 53, 54, 55, 56, 57, 97, 98, 99, 100, 101, 102])) (some (.tmp 28)) (some (.tmp 31))⟩,
       ⟨(some 33), .bin .add (.tmp 26) (.tmp 32)⟩,
       ⟨(some 2), .mov (.tmp 33)⟩])
    .ret)
    .skip))
  (.seq
   (.reg [⟨(some 2), .mov (.c (.str []))⟩])
  .ret))))
def af65 : AFunc := ⟨34, [.tmp 2], af65b, false⟩

/-- (*strings.Builder).WriteRune -/
def af66b : ACode :=
  (.seq
   (.reg [⟨(some 4), .mov (.c (.int .i64 0))⟩,
     ⟨(some 5), .mov (.c .nilI)⟩])
  (.seq
   (.reg [⟨(some 7), .mov (.tmp 0)⟩,
     ⟨(some 8), .call false false (.c (.fn (.func 62) [] [])) [(.tmp 7)]⟩])
  (.seq
   (.reg [⟨(some 9), .mov (.tmp 0)⟩,
     ⟨(some 10), .nilchk (.tmp 9)⟩,
     ⟨(some 11), .fadr 1 (.tmp 10)⟩,
     ⟨(some 12), .load none (.tmp 11)⟩,
     ⟨(some 13), .len 1 (.tmp 12)⟩,
     ⟨(some 6), .mov (.tmp 13)⟩])
  (.seq
   (.reg [⟨(some 14), .mov (.tmp 0)⟩,
     ⟨(some 15), .mov (.tmp 0)⟩,
     ⟨(some 16), .nilchk (.tmp 15)⟩,
     ⟨(some 17), .fadr 1 (.tmp 16)⟩,
     ⟨(some 18), .load none (.tmp 17)⟩,
     ⟨(some 19), .mov (.tmp 1)⟩,
     ⟨(some 20), .call true false (.c (.fn (.func 79) [] [])) [(.tmp 18), (.tmp 19)]⟩,
     ⟨(some 21), .nilchk (.tmp 14)⟩,
     ⟨(some 22), .fadr 1 (.tmp 21)⟩,
     ⟨none, .store 1 (.tmp 22) (.tmp 20)⟩])
  (.seq
   (.reg [⟨(some 23), .mov (.tmp 0)⟩,
     ⟨(some 24), .nilchk (.tmp 23)⟩,
     ⟨(some 25), .fadr 1 (.tmp 24)⟩,
     ⟨(some 26), .load none (.tmp 25)⟩,
     ⟨(some 27), .len 1 (.tmp 26)⟩,
     ⟨(some 28), .mov (.tmp 6)⟩,
     ⟨(some 29), .bin .sub (.tmp 27) (.tmp 28)⟩,
     ⟨(some 4), .mov (.tmp 29)⟩,
     ⟨(some 5), .mov (.c .nilI)⟩])
  .ret)))))
def af66 : AFunc := ⟨30, [.tmp 4, .tmp 5], af66b, true⟩

/-- cascade/cascaderef02.four -/
def af67l0 : ACode :=
  (.seq
      (.seq
       (.reg [⟨(some 15), .mov (.tmp 6)⟩,
         ⟨(some 16), .mov (.tmp 1)⟩,
         ⟨(some 17), .bin .add (.tmp 16) (.c (.int .i64 4))⟩,
         ⟨(some 18), .bin .lss (.tmp 15) (.tmp 17)⟩])
      (.cond (.tmp 18)
       .skip
       (.exit 0)))
     (.seq
      (.blk 1
       (.seq
        (.reg [⟨(some 21), .mov (.tmp 0)⟩,
          ⟨(some 22), .mov (.tmp 6)⟩,
          ⟨(some 23), .idx (.tmp 21) (.tmp 22)⟩,
          ⟨(some 24), .cvI .i64 (.tmp 23)⟩,
          ⟨(some 7), .mov (.tmp 24)⟩])
       (.seq
        (.reg [⟨(some 8), .mov (.c (.int .i64 (-1)))⟩])
       (.seq
        (.seq
         (.reg [⟨(some 25), .mov (.tmp 7)⟩,
           ⟨(some 26), .bin .geq (.tmp 25) (.c (.int .i64 48))⟩,
           ⟨(some 30), .sc 27 true (.tmp 26) [⟨(some 28), .mov (.tmp 7)⟩, ⟨(some 29), .bin .leq (.tmp 28) (.c (.int .i64 57))⟩] (.tmp 29)⟩])
        (.cond (.tmp 30)
         (.reg [⟨(some 31), .mov (.tmp 7)⟩,
           ⟨(some 32), .bin .sub (.tmp 31) (.c (.int .i64 48))⟩,
           ⟨(some 8), .mov (.tmp 32)⟩])
         .skip))
       (.seq
        (.seq
         (.reg [⟨(some 33), .mov (.tmp 7)⟩,
           ⟨(some 34), .bin .geq (.tmp 33) (.c (.int .i64 97))⟩,
           ⟨(some 38), .sc 35 true (.tmp 34) [⟨(some 36), .mov (.tmp 7)⟩, ⟨(some 37), .bin .leq (.tmp 36) (.c (.int .i64 102))⟩] (.tmp 37)⟩])
        (.cond (.tmp 38)
         (.reg [⟨(some 39), .mov (.tmp 7)⟩,
           ⟨(some 40), .bin .sub (.tmp 39) (.c (.int .i64 87))⟩,
           ⟨(some 8), .mov (.tmp 40)⟩])
         .skip))
       (.seq
        (.seq
         (.reg [⟨(some 41), .mov (.tmp 7)⟩,
           ⟨(some 42), .bin .geq (.tmp 41) (.c (.int .i64 65))⟩,
           ⟨(some 46), .sc 43 true (.tmp 42) [⟨(some 44), .mov (.tmp 7)⟩, ⟨(some 45), .bin .leq (.tmp 44) (.c (.int .i64 70))⟩] (.tmp 45)⟩])
        (.cond (.tmp 46)
         (.reg [⟨(some 47), .mov (.tmp 7)⟩,
           ⟨(some 48), .bin .sub (.tmp 47) (.c (.int .i64 55))⟩,
           ⟨(some 8), .mov (.tmp 48)⟩])
         .skip))
       (.seq
        (.seq
         (.reg [⟨(some 49), .mov (.tmp 8)⟩,
           ⟨(some 50), .bin .lss (.tmp 49) (.c (.int .i64 0))⟩])
        (.cond (.tmp 50)
         (.seq
          (.reg [⟨(some 4), .mov (.c (.int .i64 (-1)))⟩])
         .ret)
         .skip))
       (.reg [⟨(some 51), .mov (.tmp 5)⟩,
         ⟨(some 52), .bin .mul (.tmp 51) (.c (.int .i64 16))⟩,
         ⟨(some 53), .mov (.tmp 8)⟩,
         ⟨(some 54), .bin .add (.tmp 52) (.tmp 53)⟩,
         ⟨(some 5), .mov (.tmp 54)⟩]))))))))
     (.reg [⟨(some 19), .mov (.tmp 6)⟩,
       ⟨(some 20), .bin .add (.tmp 19) (.c (.int .i64 1))⟩,
       ⟨(some 6), .mov (.tmp 20)⟩])))
def af67b : ACode :=
  (.seq
   (.reg [⟨(some 4), .mov (.c (.int .i64 0))⟩])
  (.seq
   (.seq
    (.reg [⟨(some 9), .mov (.tmp 1)⟩,
      ⟨(some 10), .mov (.tmp 0)⟩,
      ⟨(some 11), .len 0 (.tmp 10)⟩,
      ⟨(some 12), .bin .sub (.tmp 11) (.c (.int .i64 3))⟩,
      ⟨(some 13), .bin .geq (.tmp 9) (.tmp 12)⟩])
   (.cond (.tmp 13)
    (.seq
     (.reg [⟨(some 4), .mov (.c (.int .i64 (-1)))⟩])
    .ret)
    .skip))
  (.seq
   (.reg [⟨(some 5), .mov (.c (.int .i64 0))⟩])
  (.seq
   (.seq
    (.reg [⟨(some 14), .mov (.tmp 1)⟩,
      ⟨(some 6), .mov (.tmp 14)⟩])
   (.blk 0
    (.loop false af67l0)))
  (.seq
   (.reg [⟨(some 55), .mov (.tmp 5)⟩,
     ⟨(some 4), .mov (.tmp 55)⟩])
  .ret)))))
def af67 : AFunc := ⟨56, [.tmp 4], af67b, false⟩

/-- cascade/quote.escaped -/
def af69b : ACode :=
  (.seq
   (.reg [⟨(some 2), .mov (.c (.int .i32 0))⟩,
     ⟨(some 3), .mov (.c (.int .i64 0))⟩])
  (.seq
   (.seq
    (.reg [⟨(some 8), .mov (.tmp 0)⟩,
      ⟨(some 9), .len 0 (.tmp 8)⟩,
      ⟨(some 10), .bin .gtr (.tmp 9) (.c (.int .i64 1))⟩])
   (.cond (.tmp 10)
    (.seq
     (.reg [⟨(some 12), .mov (.tmp 0)⟩,
       ⟨(some 13), .idx (.tmp 12) (.c (.int .i64 1))⟩,
       ⟨(some 14), .call false false (.c (.fn (.func 81) [] [])) [(.tmp 13)]⟩,
       ⟨(some 11), .mov (.tmp 14)⟩,
       ⟨(some 15), .ext (.tmp 11) 0⟩,
       ⟨(some 16), .ext (.tmp 11) 1⟩,
       ⟨(some 4), .mov (.tmp 15)⟩,
       ⟨(some 5), .mov (.tmp 16)⟩])
    (.seq
     (.reg [⟨(some 17), .mov (.tmp 5)⟩])
    (.cond (.tmp 17)
     (.seq
      (.reg [⟨(some 18), .mov (.tmp 4)⟩,
        ⟨(some 2), .mov (.tmp 18)⟩,
        ⟨(some 3), .mov (.c (.int .i64 2))⟩])
     .ret)
     .skip)))
    .skip))
  (.seq
   (.reg [⟨(some 19), .mov (.tmp 0)⟩,
     ⟨(some 20), .call false false (.c (.fn (.func 82) [] [])) [(.tmp 19)]⟩,
     ⟨(some 6), .mov (.tmp 20)⟩])
  (.seq
   (.blk 0
    (.seq
     (.reg [⟨(some 22), .mov (.tmp 6)⟩,
       ⟨(some 23), .bin .lss (.tmp 22) (.c (.int .i32 0))⟩,
       ⟨(some 31), .sc 24 false (.tmp 23) [⟨(some 25), .mov (.tmp 6)⟩, ⟨(some 26), .bin .geq (.tmp 25) (.c (.int .i32 56320))⟩, ⟨(some 30), .sc 27 true (.tmp 26) [⟨(some 28), .mov (.tmp 6)⟩, ⟨(some 29), .bin .leq (.tmp 28) (.c (.int .i32 57343))⟩] (.tmp 29)⟩] (.tmp 30)⟩,
       ⟨(some 21), .mov (.tmp 31)⟩])
    (.cond (.tmp 21)
     (.seq
      (.reg [⟨(some 2), .mov (.c (.int .i32 0))⟩,
        ⟨(some 3), .mov (.c (.int .i64 0))⟩])
     .ret)
     (.seq
      (.reg [⟨(some 33), .mov (.tmp 6)⟩,
        ⟨(some 34), .bin .lss (.tmp 33) (.c (.int .i32 55296))⟩,
        ⟨(some 38), .sc 35 false (.tmp 34) [⟨(some 36), .mov (.tmp 6)⟩, ⟨(some 37), .bin .gtr (.tmp 36) (.c (.int .i32 57343))⟩] (.tmp 37)⟩,
        ⟨(some 32), .mov (.tmp 38)⟩])
     (.cond (.tmp 32)
      (.seq
       (.reg [⟨(some 39), .mov (.tmp 6)⟩,
         ⟨(some 2), .mov (.tmp 39)⟩,
         ⟨(some 3), .mov (.c (.int .i64 6))⟩])
      .ret)
      .skip)))))
  (.seq
   (.reg [⟨(some 40), .mov (.tmp 0)⟩,
     ⟨(some 41), .slcS (.tmp 40) (some (.c (.int .i64 6))) none⟩,
     ⟨(some 42), .call false false (.c (.fn (.func 82) [] [])) [(.tmp 41)]⟩,
     ⟨(some 7), .mov (.tmp 42)⟩])
  (.seq
   (.seq
    (.reg [⟨(some 43), .mov (.tmp 7)⟩,
      ⟨(some 44), .bin .lss (.tmp 43) (.c (.int .i32 56320))⟩,
      ⟨(some 48), .sc 45 false (.tmp 44) [⟨(some 46), .mov (.tmp 7)⟩, ⟨(some 47), .bin .gtr (.tmp 46) (.c (.int .i32 57343))⟩] (.tmp 47)⟩])
   (.cond (.tmp 48)
    (.seq
     (.reg [⟨(some 2), .mov (.c (.int .i32 0))⟩,
       ⟨(some 3), .mov (.c (.int .i64 0))⟩])
    .ret)
    .skip))
  (.seq
   (.reg [⟨(some 49), .mov (.tmp 6)⟩,
     ⟨(some 50), .bin .sub (.tmp 49) (.c (.int .i32 55296))⟩,
     ⟨(some 51), .bin .shl (.tmp 50) (.c (.int .u64 10))⟩,
     ⟨(some 52), .bin .add (.c (.int .i32 65536)) (.tmp 51)⟩,
     ⟨(some 53), .mov (.tmp 7)⟩,
     ⟨(some 54), .bin .add (.tmp 52) (.tmp 53)⟩,
     ⟨(some 55), .bin .sub (.tmp 54) (.c (.int .i32 56320))⟩,
     ⟨(some 2), .mov (.tmp 55)⟩,
     ⟨(some 3), .mov (.c (.int .i64 12))⟩])
  .ret)))))))
def af69 : AFunc := ⟨56, [.tmp 2, .tmp 3], af69b, false⟩

/-- internal/stringslite.HasPrefix -/
def af72b : ACode :=
  (.seq
   (.reg [⟨(some 4), .mov (.c (.bool false))⟩])
  (.seq
   (.reg [⟨(some 5), .mov (.tmp 0)⟩,
     ⟨(some 6), .len 0 (.tmp 5)⟩,
     ⟨(some 7), .mov (.tmp 1)⟩,
     ⟨(some 8), .len 0 (.tmp 7)⟩,
     ⟨(some 9), .bin .geq (.tmp 6) (.tmp 8)⟩,
     ⟨(some 17), .sc 10 true (.tmp 9) [⟨(some 11), .mov (.tmp 0)⟩, ⟨(some 12), .mov (.tmp 1)⟩, ⟨(some 13), .len 0 (.tmp 12)⟩, ⟨(some 14), .slcS (.tmp 11) none (some (.tmp 13))⟩, ⟨(some 15), .mov (.tmp 1)⟩, ⟨(some 16), .bin .eql (.tmp 14) (.tmp 15)⟩] (.tmp 16)⟩,
     ⟨(some 4), .mov (.tmp 17)⟩])
  .ret))
def af72 : AFunc := ⟨18, [.tmp 4], af72b, false⟩

/-- unicode/utf8.AppendRune -/
def af79b : ACode :=
  (.seq
   (.reg [⟨(some 4), .mov (.c (.sl .nil []))⟩])
  (.seq
   (.seq
    (.reg [⟨(some 5), .mov (.tmp 1)⟩,
      ⟨(some 6), .cvI .u32 (.tmp 5)⟩,
      ⟨(some 7), .bin .leq (.tmp 6) (.c (.int .u32 127))⟩])
   (.cond (.tmp 7)
    (.seq
     (.reg [⟨(some 8), .mov (.tmp 0)⟩,
       ⟨(some 9), .mov (.tmp 1)⟩,
       ⟨(some 10), .cvI .u8 (.tmp 9)⟩,
       ⟨(some 11), .bsl 1 (.int .u8 0) 1 [(0, (.tmp 10))]⟩,
       ⟨(some 12), .app false 1 (1, 5) (.tmp 8) (.tmp 11)⟩,
       ⟨(some 4), .mov (.tmp 12)⟩])
    .ret)
    .skip))
  (.seq
   (.reg [⟨(some 13), .mov (.tmp 0)⟩,
     ⟨(some 14), .mov (.tmp 1)⟩,
     ⟨(some 15), .call true false (.c (.fn (.func 93) [] [])) [(.tmp 13), (.tmp 14)]⟩,
     ⟨(some 4), .mov (.tmp 15)⟩])
  .ret)))
def af79 : AFunc := ⟨16, [.tmp 4], af79b, true⟩

/-- cascade/quote.short -/
def af81b : ACode :=
  (.seq
   (.reg [⟨(some 2), .mov (.c (.int .i32 0))⟩,
     ⟨(some 3), .mov (.c (.bool false))⟩])
  (.seq
   (.seq
    (.reg [⟨(some 4), .mov (.tmp 0)⟩])
   (.blk 0
    (.seq
     (.seq
      (.reg [⟨(some 6), .bin .eql (.tmp 4) (.c (.int .u8 34))⟩,
        ⟨(some 5), .mov (.tmp 6)⟩])
     (.cond (.tmp 5)
      .skip
      (.seq
       (.reg [⟨(some 7), .bin .eql (.tmp 4) (.c (.int .u8 92))⟩,
         ⟨(some 5), .mov (.tmp 7)⟩])
      (.cond (.tmp 5)
       .skip
       (.reg [⟨(some 8), .bin .eql (.tmp 4) (.c (.int .u8 47))⟩,
         ⟨(some 5), .mov (.tmp 8)⟩])))))
    (.cond (.tmp 5)
     (.seq
      (.reg [⟨(some 9), .mov (.tmp 0)⟩,
        ⟨(some 10), .cvI .i32 (.tmp 9)⟩,
        ⟨(some 2), .mov (.tmp 10)⟩,
        ⟨(some 3), .mov (.c (.bool true))⟩])
     .ret)
     (.seq
      (.reg [⟨(some 12), .bin .eql (.tmp 4) (.c (.int .u8 98))⟩,
        ⟨(some 11), .mov (.tmp 12)⟩])
     (.cond (.tmp 11)
      (.seq
       (.reg [⟨(some 2), .mov (.c (.int .i32 8))⟩,
         ⟨(some 3), .mov (.c (.bool true))⟩])
      .ret)
      (.seq
       (.reg [⟨(some 14), .bin .eql (.tmp 4) (.c (.int .u8 102))⟩,
         ⟨(some 13), .mov (.tmp 14)⟩])
      (.cond (.tmp 13)
       (.seq
        (.reg [⟨(some 2), .mov (.c (.int .i32 12))⟩,
          ⟨(some 3), .mov (.c (.bool true))⟩])
       .ret)
       (.seq
        (.reg [⟨(some 16), .bin .eql (.tmp 4) (.c (.int .u8 110))⟩,
          ⟨(some 15), .mov (.tmp 16)⟩])
       (.cond (.tmp 15)
        (.seq
         (.reg [⟨(some 2), .mov (.c (.int .i32 10))⟩,
           ⟨(some 3), .mov (.c (.bool true))⟩])
        .ret)
        (.seq
         (.reg [⟨(some 18), .bin .eql (.tmp 4) (.c (.int .u8 114))⟩,
           ⟨(some 17), .mov (.tmp 18)⟩])
        (.cond (.tmp 17)
         (.seq
          (.reg [⟨(some 2), .mov (.c (.int .i32 13))⟩,
            ⟨(some 3), .mov (.c (.bool true))⟩])
         .ret)
         (.seq
          (.reg [⟨(some 20), .bin .eql (.tmp 4) (.c (.int .u8 116))⟩,
            ⟨(some 19), .mov (.tmp 20)⟩])
         (.cond (.tmp 19)
          (.seq
           (.reg [⟨(some 2), .mov (.c (.int .i32 9))⟩,
             ⟨(some 3), .mov (.c (.bool true))⟩])
          .ret)
          .skip))))))))))))))
  (.seq
   (.reg [⟨(some 2), .mov (.c (.int .i32 0))⟩,
     ⟨(some 3), .mov (.c (.bool false))⟩])
  .ret)))
def af81 : AFunc := ⟨21, [.tmp 2, .tmp 3], af81b, false⟩

/-- cascade/quote.unit -/
def af82l0 : ACode :=
  (.seq
      (.reg [⟨(some 20), .bin .lss (.tmp 19) (.c (.int .i64 4))⟩])
     (.seq
      (.cond (.tmp 20)
       .skip
       (.exit 0))
     (.seq
      (.blk 1
       (.seq
        (.reg [⟨(some 21), .mov (.tmp 19)⟩,
          ⟨(some 4), .mov (.tmp 21)⟩])
       (.seq
        (.reg [⟨(some 22), .mov (.tmp 0)⟩,
          ⟨(some 23), .mov (.tmp 4)⟩,
          ⟨(some 24), .bin .add (.c (.int .i64 2)) (.tmp 23)⟩,
          ⟨(some 25), .idx (.tmp 22) (.tmp 24)⟩,
          ⟨(some 26), .call false false (.c (.fn (.func 94) [] [])) [(.tmp 25)]⟩,
          ⟨(some 5), .mov (.tmp 26)⟩])
       (.seq
        (.seq
         (.reg [⟨(some 27), .mov (.tmp 5)⟩,
           ⟨(some 28), .bin .lss (.tmp 27) (.c (.int .i32 0))⟩])
        (.cond (.tmp 28)
         (.seq
          (.reg [⟨(some 2), .mov (.c (.int .i32 (-1)))⟩])
         .ret)
         .skip))
       (.reg [⟨(some 29), .mov (.tmp 3)⟩,
         ⟨(some 30), .bin .shl (.tmp 29) (.c (.int .u64 4))⟩,
         ⟨(some 31), .mov (.tmp 5)⟩,
         ⟨(some 32), .bin .or (.tmp 30) (.tmp 31)⟩,
         ⟨(some 3), .mov (.tmp 32)⟩])))))
     (.reg [⟨(some 33), .bin .add (.tmp 19) (.c (.int .i64 1))⟩,
       ⟨(some 19), .mov (.tmp 33)⟩]))))
def af82b : ACode :=
  (.seq
   (.reg [⟨(some 2), .mov (.c (.int .i32 0))⟩])
  (.seq
   (.seq
    (.reg [⟨(some 6), .mov (.tmp 0)⟩,
      ⟨(some 7), .len 0 (.tmp 6)⟩,
      ⟨(some 8), .bin .lss (.tmp 7) (.c (.int .i64 6))⟩,
      ⟨(some 13), .sc 9 false (.tmp 8) [⟨(some 10), .mov (.tmp 0)⟩, ⟨(some 11), .idx (.tmp 10) (.c (.int .i64 0))⟩, ⟨(some 12), .bin .neq (.tmp 11) (.c (.int .u8 92))⟩] (.tmp 12)⟩,
      ⟨(some 18), .sc 14 false (.tmp 13) [⟨(some 15), .mov (.tmp 0)⟩, ⟨(some 16), .idx (.tmp 15) (.c (.int .i64 1))⟩, ⟨(some 17), .bin .neq (.tmp 16) (.c (.int .u8 117))⟩] (.tmp 17)⟩])
   (.cond (.tmp 18)
    (.seq
     (.reg [⟨(some 2), .mov (.c (.int .i32 (-1)))⟩])
    .ret)
    .skip))
  (.seq
   (.reg [⟨(some 3), .mov (.c (.int .i32 0))⟩])
  (.seq
   (.seq
    (.reg [⟨(some 19), .mov (.c (.int .i64 0))⟩])
   (.blk 0
    (.loop false af82l0)))
  (.seq
   (.reg [⟨(some 34), .mov (.tmp 3)⟩,
     ⟨(some 2), .mov (.tmp 34)⟩])
  .ret)))))
def af82 : AFunc := ⟨35, [.tmp 2], af82b, false⟩

/-- unicode/utf8.appendRuneNonASCII -/
def af93b : ACode :=
  (.seq
   (.reg [⟨(some 4), .mov (.c (.sl .nil []))⟩])
  (.seq
   (.reg [⟨(some 6), .mov (.tmp 1)⟩,
     ⟨(some 7), .cvI .u32 (.tmp 6)⟩,
     ⟨(some 5), .mov (.tmp 7)⟩])
  (.blk 0
   (.seq
    (.reg [⟨(some 12), .mov (.tmp 5)⟩,
      ⟨(some 13), .bin .leq (.tmp 12) (.c (.int .u32 2047))⟩,
      ⟨(some 11), .mov (.tmp 13)⟩])
   (.cond (.tmp 11)
    (.seq
     (.reg [⟨(some 14), .mov (.tmp 0)⟩,
       ⟨(some 15), .mov (.tmp 1)⟩,
       ⟨(some 16), .bin .shr (.tmp 15) (.c (.int .u64 6))⟩,
       ⟨(some 17), .cvI .u8 (.tmp 16)⟩,
       ⟨(some 18), .bin .or (.c (.int .u8 192)) (.tmp 17)⟩,
       ⟨(some 19), .mov (.tmp 1)⟩,
       ⟨(some 20), .cvI .u8 (.tmp 19)⟩,
       ⟨(some 21), .bin .and (.tmp 20) (.c (.int .u8 63))⟩,
       ⟨(some 22), .bin .or (.c (.int .u8 128)) (.tmp 21)⟩,
       ⟨(some 23), .bsl 1 (.int .u8 0) 2 [(0, (.tmp 18)), (1, (.tmp 22))]⟩,
       ⟨(some 24), .app false 1 (1, 5) (.tmp 14) (.tmp 23)⟩,
       ⟨(some 4), .mov (.tmp 24)⟩])
    .ret)
    (.seq
     (.seq
      (.reg [⟨(some 26), .mov (.tmp 5)⟩,
        ⟨(some 27), .bin .lss (.tmp 26) (.c (.int .u32 55296))⟩,
        ⟨(some 25), .mov (.tmp 27)⟩])
     (.cond (.tmp 25)
      .skip
      (.reg [⟨(some 28), .mov (.tmp 5)⟩,
        ⟨(some 29), .bin .lss (.c (.int .u32 57343)) (.tmp 28)⟩,
        ⟨(some 33), .sc 30 true (.tmp 29) [⟨(some 31), .mov (.tmp 5)⟩, ⟨(some 32), .bin .leq (.tmp 31) (.c (.int .u32 65535))⟩] (.tmp 32)⟩,
        ⟨(some 25), .mov (.tmp 33)⟩])))
    (.cond (.tmp 25)
     (.seq
      (.reg [⟨(some 34), .mov (.tmp 0)⟩,
        ⟨(some 35), .mov (.tmp 1)⟩,
        ⟨(some 36), .bin .shr (.tmp 35) (.c (.int .u64 12))⟩,
        ⟨(some 37), .cvI .u8 (.tmp 36)⟩,
        ⟨(some 38), .bin .or (.c (.int .u8 224)) (.tmp 37)⟩,
        ⟨(some 39), .mov (.tmp 1)⟩,
        ⟨(some 40), .bin .shr (.tmp 39) (.c (.int .u64 6))⟩,
        ⟨(some 41), .cvI .u8 (.tmp 40)⟩,
        ⟨(some 42), .bin .and (.tmp 41) (.c (.int .u8 63))⟩,
        ⟨(some 43), .bin .or (.c (.int .u8 128)) (.tmp 42)⟩,
        ⟨(some 44), .mov (.tmp 1)⟩,
        ⟨(some 45), .cvI .u8 (.tmp 44)⟩,
        ⟨(some 46), .bin .and (.tmp 45) (.c (.int .u8 63))⟩,
        ⟨(some 47), .bin .or (.c (.int .u8 128)) (.tmp 46)⟩,
        ⟨(some 48), .bsl 1 (.int .u8 0) 3 [(0, (.tmp 38)), (1, (.tmp 43)), (2, (.tmp 47))]⟩,
        ⟨(some 49), .app false 1 (1, 5) (.tmp 34) (.tmp 48)⟩,
        ⟨(some 4), .mov (.tmp 49)⟩])
     .ret)
     (.seq
      (.reg [⟨(some 51), .mov (.tmp 5)⟩,
        ⟨(some 52), .bin .gtr (.tmp 51) (.c (.int .u32 65535))⟩,
        ⟨(some 56), .sc 53 true (.tmp 52) [⟨(some 54), .mov (.tmp 5)⟩, ⟨(some 55), .bin .leq (.tmp 54) (.c (.int .u32 1114111))⟩] (.tmp 55)⟩,
        ⟨(some 50), .mov (.tmp 56)⟩])
     (.cond (.tmp 50)
      (.seq
       (.reg [⟨(some 57), .mov (.tmp 0)⟩,
         ⟨(some 58), .mov (.tmp 1)⟩,
         ⟨(some 59), .bin .shr (.tmp 58) (.c (.int .u64 18))⟩,
         ⟨(some 60), .cvI .u8 (.tmp 59)⟩,
         ⟨(some 61), .bin .or (.c (.int .u8 240)) (.tmp 60)⟩,
         ⟨(some 62), .mov (.tmp 1)⟩,
         ⟨(some 63), .bin .shr (.tmp 62) (.c (.int .u64 12))⟩,
         ⟨(some 64), .cvI .u8 (.tmp 63)⟩,
         ⟨(some 65), .bin .and (.tmp 64) (.c (.int .u8 63))⟩,
         ⟨(some 66), .bin .or (.c (.int .u8 128)) (.tmp 65)⟩,
         ⟨(some 67), .mov (.tmp 1)⟩,
         ⟨(some 68), .bin .shr (.tmp 67) (.c (.int .u64 6))⟩,
         ⟨(some 69), .cvI .u8 (.tmp 68)⟩,
         ⟨(some 70), .bin .and (.tmp 69) (.c (.int .u8 63))⟩,
         ⟨(some 71), .bin .or (.c (.int .u8 128)) (.tmp 70)⟩,
         ⟨(some 72), .mov (.tmp 1)⟩,
         ⟨(some 73), .cvI .u8 (.tmp 72)⟩,
         ⟨(some 74), .bin .and (.tmp 73) (.c (.int .u8 63))⟩,
         ⟨(some 75), .bin .or (.c (.int .u8 128)) (.tmp 74)⟩,
         ⟨(some 76), .bsl 1 (.int .u8 0) 4 [(0, (.tmp 61)), (1, (.tmp 66)), (2, (.tmp 71)), (3, (.tmp 75))]⟩,
         ⟨(some 77), .app false 1 (1, 5) (.tmp 57) (.tmp 76)⟩,
         ⟨(some 4), .mov (.tmp 77)⟩])
      .ret)
      (.seq
       (.reg [⟨(some 8), .mov (.tmp 0)⟩,
         ⟨(some 9), .bsl 1 (.int .u8 0) 3 [(0, (.c (.int .u8 239))), (1, (.c (.int .u8 191))), (2, (.c (.int .u8 189)))]⟩,
         ⟨(some 10), .app false 1 (1, 5) (.tmp 8) (.tmp 9)⟩,
         ⟨(some 4), .mov (.tmp 10)⟩])
      .ret))))))))))
def af93 : AFunc := ⟨78, [.tmp 4], af93b, true⟩

/-- cascade/quote.digit -/
def af94b : ACode :=
  (.seq
   (.reg [⟨(some 2), .mov (.c (.int .i32 0))⟩])
  (.seq
   (.blk 0
    (.seq
     (.reg [⟨(some 4), .mov (.tmp 0)⟩,
       ⟨(some 5), .bin .geq (.tmp 4) (.c (.int .u8 48))⟩,
       ⟨(some 9), .sc 6 true (.tmp 5) [⟨(some 7), .mov (.tmp 0)⟩, ⟨(some 8), .bin .leq (.tmp 7) (.c (.int .u8 57))⟩] (.tmp 8)⟩,
       ⟨(some 3), .mov (.tmp 9)⟩])
    (.cond (.tmp 3)
     (.seq
      (.reg [⟨(some 10), .mov (.tmp 0)⟩,
        ⟨(some 11), .bin .sub (.tmp 10) (.c (.int .u8 48))⟩,
        ⟨(some 12), .cvI .i32 (.tmp 11)⟩,
        ⟨(some 2), .mov (.tmp 12)⟩])
     .ret)
     (.seq
      (.reg [⟨(some 14), .mov (.tmp 0)⟩,
        ⟨(some 15), .bin .geq (.tmp 14) (.c (.int .u8 97))⟩,
        ⟨(some 19), .sc 16 true (.tmp 15) [⟨(some 17), .mov (.tmp 0)⟩, ⟨(some 18), .bin .leq (.tmp 17) (.c (.int .u8 102))⟩] (.tmp 18)⟩,
        ⟨(some 13), .mov (.tmp 19)⟩])
     (.cond (.tmp 13)
      (.seq
       (.reg [⟨(some 20), .mov (.tmp 0)⟩,
         ⟨(some 21), .bin .sub (.tmp 20) (.c (.int .u8 97))⟩,
         ⟨(some 22), .cvI .i32 (.tmp 21)⟩,
         ⟨(some 23), .bin .add (.tmp 22) (.c (.int .i32 10))⟩,
         ⟨(some 2), .mov (.tmp 23)⟩])
      .ret)
      (.seq
       (.reg [⟨(some 25), .mov (.tmp 0)⟩,
         ⟨(some 26), .bin .geq (.tmp 25) (.c (.int .u8 65))⟩,
         ⟨(some 30), .sc 27 true (.tmp 26) [⟨(some 28), .mov (.tmp 0)⟩, ⟨(some 29), .bin .leq (.tmp 28) (.c (.int .u8 70))⟩] (.tmp 29)⟩,
         ⟨(some 24), .mov (.tmp 30)⟩])
      (.cond (.tmp 24)
       (.seq
        (.reg [⟨(some 31), .mov (.tmp 0)⟩,
          ⟨(some 32), .bin .sub (.tmp 31) (.c (.int .u8 65))⟩,
          ⟨(some 33), .cvI .i32 (.tmp 32)⟩,
          ⟨(some 34), .bin .add (.tmp 33) (.c (.int .i32 10))⟩,
          ⟨(some 2), .mov (.tmp 34)⟩])
       .ret)
       .skip)))))))
  (.seq
   (.reg [⟨(some 2), .mov (.c (.int .i32 (-1)))⟩])
  .ret)))
def af94 : AFunc := ⟨35, [.tmp 2], af94b, false⟩

def tabL : List (FuncId × AFunc) := [(3, af3), (4, af4), (5, af5), (6, af6), (7, af7), (8, af8), (9, af9), (10, af10), (11, af11), (12, af12), (13, af13), (14, af14), (15, af15), (16, af16), (17, af17), (18, af18), (19, af19), (20, af20), (21, af21), (22, af22), (23, af23), (24, af24), (25, af25), (26, af26), (27, af27), (28, af28), (29, af29), (30, af30), (31, af31), (32, af32), (34, af34), (35, af35), (36, af36), (37, af37), (38, af38), (39, af39), (40, af40), (41, af41), (42, af42), (43, af43), (45, af45), (46, af46), (47, af47), (48, af48), (49, af49), (50, af50), (51, af51), (52, af52), (53, af53), (55, af55), (56, af56), (57, af57), (59, af59), (60, af60), (61, af61), (62, af62), (63, af63), (65, af65), (66, af66), (67, af67), (69, af69), (72, af72), (79, af79), (81, af81), (82, af82), (93, af93), (94, af94)]
set_option maxRecDepth 100000
theorem of3 : Of Tryz.prog 3 af3 := ⟨{}, by kernel_rfl⟩
theorem of4 : Of Tryz.prog 4 af4 := ⟨{}, by kernel_rfl⟩
theorem of5 : Of Tryz.prog 5 af5 := ⟨{}, by kernel_rfl⟩
theorem of6 : Of Tryz.prog 6 af6 := ⟨{}, by kernel_rfl⟩
theorem of7 : Of Tryz.prog 7 af7 := ⟨{}, by kernel_rfl⟩
theorem of8 : Of Tryz.prog 8 af8 := ⟨{}, by kernel_rfl⟩
theorem of9 : Of Tryz.prog 9 af9 := ⟨{}, by kernel_rfl⟩
theorem of10 : Of Tryz.prog 10 af10 := ⟨{}, by kernel_rfl⟩
theorem of11 : Of Tryz.prog 11 af11 := ⟨{}, by kernel_rfl⟩
theorem of12 : Of Tryz.prog 12 af12 := ⟨{}, by kernel_rfl⟩
theorem of13 : Of Tryz.prog 13 af13 := ⟨{}, by kernel_rfl⟩
theorem of14 : Of Tryz.prog 14 af14 := ⟨{}, by kernel_rfl⟩
theorem of15 : Of Tryz.prog 15 af15 := ⟨{}, by kernel_rfl⟩
theorem of16 : Of Tryz.prog 16 af16 := ⟨{}, by kernel_rfl⟩
theorem of17 : Of Tryz.prog 17 af17 := ⟨{}, by kernel_rfl⟩
theorem of18 : Of Tryz.prog 18 af18 := ⟨{}, by kernel_rfl⟩
theorem of19 : Of Tryz.prog 19 af19 := ⟨{}, by kernel_rfl⟩
theorem of20 : Of Tryz.prog 20 af20 := ⟨{}, by kernel_rfl⟩
theorem of21 : Of Tryz.prog 21 af21 := ⟨{}, by kernel_rfl⟩
theorem of22 : Of Tryz.prog 22 af22 := ⟨{}, by kernel_rfl⟩
theorem of23 : Of Tryz.prog 23 af23 := ⟨{}, by kernel_rfl⟩
theorem of24 : Of Tryz.prog 24 af24 := ⟨{}, by kernel_rfl⟩
theorem of25 : Of Tryz.prog 25 af25 := ⟨{}, by kernel_rfl⟩
theorem of26 : Of Tryz.prog 26 af26 := ⟨{}, by kernel_rfl⟩
theorem of27 : Of Tryz.prog 27 af27 := ⟨{}, by kernel_rfl⟩
theorem of28 : Of Tryz.prog 28 af28 := ⟨{}, by kernel_rfl⟩
theorem of29 : Of Tryz.prog 29 af29 := ⟨{quiet := [8], own := [8], lazy := [11, 12]}, by kernel_rfl⟩
theorem of30 : Of Tryz.prog 30 af30 := ⟨{quiet := [10], own := [10], lazy := [13, 14]}, by kernel_rfl⟩
theorem of31 : Of Tryz.prog 31 af31 := ⟨{quiet := [48], own := [48]}, by kernel_rfl⟩
theorem of32 : Of Tryz.prog 32 af32 := ⟨{}, by kernel_rfl⟩
theorem of34 : Of Tryz.prog 34 af34 := ⟨{}, by kernel_rfl⟩
theorem of35 : Of Tryz.prog 35 af35 := ⟨{}, by kernel_rfl⟩
theorem of36 : Of Tryz.prog 36 af36 := ⟨{}, by kernel_rfl⟩
theorem of37 : Of Tryz.prog 37 af37 := ⟨{}, by kernel_rfl⟩
theorem of38 : Of Tryz.prog 38 af38 := ⟨{}, by kernel_rfl⟩
theorem of39 : Of Tryz.prog 39 af39 := ⟨{}, by kernel_rfl⟩
theorem of40 : Of Tryz.prog 40 af40 := ⟨{}, by kernel_rfl⟩
theorem of41 : Of Tryz.prog 41 af41 := ⟨{}, by kernel_rfl⟩
theorem of42 : Of Tryz.prog 42 af42 := ⟨{}, by kernel_rfl⟩
theorem of43 : Of Tryz.prog 43 af43 := ⟨{}, by kernel_rfl⟩
theorem of45 : Of Tryz.prog 45 af45 := ⟨{}, by kernel_rfl⟩
theorem of46 : Of Tryz.prog 46 af46 := ⟨{}, by kernel_rfl⟩
theorem of47 : Of Tryz.prog 47 af47 := ⟨{}, by kernel_rfl⟩
theorem of48 : Of Tryz.prog 48 af48 := ⟨{}, by kernel_rfl⟩
theorem of49 : Of Tryz.prog 49 af49 := ⟨{}, by kernel_rfl⟩
theorem of50 : Of Tryz.prog 50 af50 := ⟨{}, by kernel_rfl⟩
theorem of51 : Of Tryz.prog 51 af51 := ⟨{}, by kernel_rfl⟩
theorem of52 : Of Tryz.prog 52 af52 := ⟨{}, by kernel_rfl⟩
theorem of53 : Of Tryz.prog 53 af53 := ⟨{}, by kernel_rfl⟩
theorem of55 : Of Tryz.prog 55 af55 := ⟨{}, by kernel_rfl⟩
theorem of56 : Of Tryz.prog 56 af56 := ⟨{}, by kernel_rfl⟩
theorem of57 : Of Tryz.prog 57 af57 := ⟨{}, by kernel_rfl⟩
theorem of59 : Of Tryz.prog 59 af59 := ⟨{}, by kernel_rfl⟩
theorem of60 : Of Tryz.prog 60 af60 := ⟨{}, by kernel_rfl⟩
theorem of61 : Of Tryz.prog 61 af61 := ⟨{}, by kernel_rfl⟩
theorem of62 : Of Tryz.prog 62 af62 := ⟨{}, by kernel_rfl⟩
theorem of63 : Of Tryz.prog 63 af63 := ⟨{}, by kernel_rfl⟩
theorem of65 : Of Tryz.prog 65 af65 := ⟨{}, by kernel_rfl⟩
theorem of66 : Of Tryz.prog 66 af66 := ⟨{own := [20]}, by kernel_rfl⟩
theorem of67 : Of Tryz.prog 67 af67 := ⟨{}, by kernel_rfl⟩
theorem of69 : Of Tryz.prog 69 af69 := ⟨{}, by kernel_rfl⟩
theorem of72 : Of Tryz.prog 72 af72 := ⟨{}, by kernel_rfl⟩
theorem of79 : Of Tryz.prog 79 af79 := ⟨{own := [15]}, by kernel_rfl⟩
theorem of81 : Of Tryz.prog 81 af81 := ⟨{}, by kernel_rfl⟩
theorem of82 : Of Tryz.prog 82 af82 := ⟨{}, by kernel_rfl⟩
theorem of93 : Of Tryz.prog 93 af93 := ⟨{}, by kernel_rfl⟩
theorem of94 : Of Tryz.prog 94 af94 := ⟨{}, by kernel_rfl⟩
theorem tabL_ok : ∀ p ∈ tabL, Of Tryz.prog p.1 p.2 ∧ okC p.2.body = true := by
  intro p hp
  simp only [tabL, List.mem_cons, List.not_mem_nil, or_false] at hp
  rcases hp with rfl | rfl | rfl | rfl | rfl | rfl | rfl | rfl | rfl | rfl | rfl | rfl | rfl | rfl | rfl | rfl | rfl | rfl | rfl | rfl | rfl | rfl | rfl | rfl | rfl | rfl | rfl | rfl | rfl | rfl | rfl | rfl | rfl | rfl | rfl | rfl | rfl | rfl | rfl | rfl | rfl | rfl | rfl | rfl | rfl | rfl | rfl | rfl | rfl | rfl | rfl | rfl | rfl | rfl | rfl | rfl | rfl | rfl | rfl | rfl | rfl | rfl | rfl | rfl | rfl | rfl | rfl
  · exact ⟨of3, by kernel_rfl⟩
  · exact ⟨of4, by kernel_rfl⟩
  · exact ⟨of5, by kernel_rfl⟩
  · exact ⟨of6, by kernel_rfl⟩
  · exact ⟨of7, by kernel_rfl⟩
  · exact ⟨of8, by kernel_rfl⟩
  · exact ⟨of9, by kernel_rfl⟩
  · exact ⟨of10, by kernel_rfl⟩
  · exact ⟨of11, by kernel_rfl⟩
  · exact ⟨of12, by kernel_rfl⟩
  · exact ⟨of13, by kernel_rfl⟩
  · exact ⟨of14, by kernel_rfl⟩
  · exact ⟨of15, by kernel_rfl⟩
  · exact ⟨of16, by kernel_rfl⟩
  · exact ⟨of17, by kernel_rfl⟩
  · exact ⟨of18, by kernel_rfl⟩
  · exact ⟨of19, by kernel_rfl⟩
  · exact ⟨of20, by kernel_rfl⟩
  · exact ⟨of21, by kernel_rfl⟩
  · exact ⟨of22, by kernel_rfl⟩
  · exact ⟨of23, by kernel_rfl⟩
  · exact ⟨of24, by kernel_rfl⟩
  · exact ⟨of25, by kernel_rfl⟩
  · exact ⟨of26, by kernel_rfl⟩
  · exact ⟨of27, by kernel_rfl⟩
  · exact ⟨of28, by kernel_rfl⟩
  · exact ⟨of29, by kernel_rfl⟩
  · exact ⟨of30, by kernel_rfl⟩
  · exact ⟨of31, by kernel_rfl⟩
  · exact ⟨of32, by kernel_rfl⟩
  · exact ⟨of34, by kernel_rfl⟩
  · exact ⟨of35, by kernel_rfl⟩
  · exact ⟨of36, by kernel_rfl⟩
  · exact ⟨of37, by kernel_rfl⟩
  · exact ⟨of38, by kernel_rfl⟩
  · exact ⟨of39, by kernel_rfl⟩
  · exact ⟨of40, by kernel_rfl⟩
  · exact ⟨of41, by kernel_rfl⟩
  · exact ⟨of42, by kernel_rfl⟩
  · exact ⟨of43, by kernel_rfl⟩
  · exact ⟨of45, by kernel_rfl⟩
  · exact ⟨of46, by kernel_rfl⟩
  · exact ⟨of47, by kernel_rfl⟩
  · exact ⟨of48, by kernel_rfl⟩
  · exact ⟨of49, by kernel_rfl⟩
  · exact ⟨of50, by kernel_rfl⟩
  · exact ⟨of51, by kernel_rfl⟩
  · exact ⟨of52, by kernel_rfl⟩
  · exact ⟨of53, by kernel_rfl⟩
  · exact ⟨of55, by kernel_rfl⟩
  · exact ⟨of56, by kernel_rfl⟩
  · exact ⟨of57, by kernel_rfl⟩
  · exact ⟨of59, by kernel_rfl⟩
  · exact ⟨of60, by kernel_rfl⟩
  · exact ⟨of61, by kernel_rfl⟩
  · exact ⟨of62, by kernel_rfl⟩
  · exact ⟨of63, by kernel_rfl⟩
  · exact ⟨of65, by kernel_rfl⟩
  · exact ⟨of66, by kernel_rfl⟩
  · exact ⟨of67, by kernel_rfl⟩
  · exact ⟨of69, by kernel_rfl⟩
  · exact ⟨of72, by kernel_rfl⟩
  · exact ⟨of79, by kernel_rfl⟩
  · exact ⟨of81, by kernel_rfl⟩
  · exact ⟨of82, by kernel_rfl⟩
  · exact ⟨of93, by kernel_rfl⟩
  · exact ⟨of94, by kernel_rfl⟩
def tab (f : FuncId) : Option AFunc := (tabL.find? (fun p => p.1 == f)).map (·.2)
theorem tab_3 : tab 3 = some af3 := rfl
theorem tab_4 : tab 4 = some af4 := rfl
theorem tab_5 : tab 5 = some af5 := rfl
theorem tab_6 : tab 6 = some af6 := rfl
theorem tab_7 : tab 7 = some af7 := rfl
theorem tab_8 : tab 8 = some af8 := rfl
theorem tab_9 : tab 9 = some af9 := rfl
theorem tab_10 : tab 10 = some af10 := rfl
theorem tab_11 : tab 11 = some af11 := rfl
theorem tab_12 : tab 12 = some af12 := rfl
theorem tab_13 : tab 13 = some af13 := rfl
theorem tab_14 : tab 14 = some af14 := rfl
theorem tab_15 : tab 15 = some af15 := rfl
theorem tab_16 : tab 16 = some af16 := rfl
theorem tab_17 : tab 17 = some af17 := rfl
theorem tab_18 : tab 18 = some af18 := rfl
theorem tab_19 : tab 19 = some af19 := rfl
theorem tab_20 : tab 20 = some af20 := rfl
theorem tab_21 : tab 21 = some af21 := rfl
theorem tab_22 : tab 22 = some af22 := rfl
theorem tab_23 : tab 23 = some af23 := rfl
theorem tab_24 : tab 24 = some af24 := rfl
theorem tab_25 : tab 25 = some af25 := rfl
theorem tab_26 : tab 26 = some af26 := rfl
theorem tab_27 : tab 27 = some af27 := rfl
theorem tab_28 : tab 28 = some af28 := rfl
theorem tab_29 : tab 29 = some af29 := rfl
theorem tab_30 : tab 30 = some af30 := rfl
theorem tab_31 : tab 31 = some af31 := rfl
theorem tab_32 : tab 32 = some af32 := rfl
theorem tab_34 : tab 34 = some af34 := rfl
theorem tab_35 : tab 35 = some af35 := rfl
theorem tab_36 : tab 36 = some af36 := rfl
theorem tab_37 : tab 37 = some af37 := rfl
theorem tab_38 : tab 38 = some af38 := rfl
theorem tab_39 : tab 39 = some af39 := rfl
theorem tab_40 : tab 40 = some af40 := rfl
theorem tab_41 : tab 41 = some af41 := rfl
theorem tab_42 : tab 42 = some af42 := rfl
theorem tab_43 : tab 43 = some af43 := rfl
theorem tab_45 : tab 45 = some af45 := rfl
theorem tab_46 : tab 46 = some af46 := rfl
theorem tab_47 : tab 47 = some af47 := rfl
theorem tab_48 : tab 48 = some af48 := rfl
theorem tab_49 : tab 49 = some af49 := rfl
theorem tab_50 : tab 50 = some af50 := rfl
theorem tab_51 : tab 51 = some af51 := rfl
theorem tab_52 : tab 52 = some af52 := rfl
theorem tab_53 : tab 53 = some af53 := rfl
theorem tab_55 : tab 55 = some af55 := rfl
theorem tab_56 : tab 56 = some af56 := rfl
theorem tab_57 : tab 57 = some af57 := rfl
theorem tab_59 : tab 59 = some af59 := rfl
theorem tab_60 : tab 60 = some af60 := rfl
theorem tab_61 : tab 61 = some af61 := rfl
theorem tab_62 : tab 62 = some af62 := rfl
theorem tab_63 : tab 63 = some af63 := rfl
theorem tab_65 : tab 65 = some af65 := rfl
theorem tab_66 : tab 66 = some af66 := rfl
theorem tab_67 : tab 67 = some af67 := rfl
theorem tab_69 : tab 69 = some af69 := rfl
theorem tab_72 : tab 72 = some af72 := rfl
theorem tab_79 : tab 79 = some af79 := rfl
theorem tab_81 : tab 81 = some af81 := rfl
theorem tab_82 : tab 82 = some af82 := rfl
theorem tab_93 : tab 93 = some af93 := rfl
theorem tab_94 : tab 94 = some af94 := rfl
theorem tab_ok {f : FuncId} {F : AFunc} (h : tab f = some F) : Of Tryz.prog f F ∧ okC F.body = true := by
  simp only [tab, Option.map_eq_some_iff] at h
  obtain ⟨p, hp, rfl⟩ := h
  have hm := List.mem_of_find?_eq_some hp
  have he := List.find?_some hp
  have : p.1 = f := by simpa using he
  subst this
  exact tabL_ok p hm

end Go.Proofs.YtjdppboomglenaaGreatDoor.Eng
