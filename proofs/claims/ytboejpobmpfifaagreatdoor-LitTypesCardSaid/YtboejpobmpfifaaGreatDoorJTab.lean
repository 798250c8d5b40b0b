/-
  The code of the functions, as the evaluator takes it; the table. Printed by a program of the session out of the program itself; that it is the program is proved here. No condition.
-/
import Derived.Test.YtboejpobmpfifaaGreatDoorEngP
import Derived.Test.YtboejpobmpfifaaGreatDoorProg
import Derived.KernelRfl
namespace Go.Proofs.YtboejpobmpfifaaGreatDoor.Eng
open Go

/-- cascade/cascadelaw09.LitTypes -/
def af11b : ACode :=
  (.seq
   (.reg [⟨(some 1), .box 90 (.tmp 0)⟩,
     ⟨(some 2), .mov (.c (.bool false))⟩])
  (.seq
   (.seq
    (.reg [⟨(some 8), .call false false (.c (.fn (.func 44) [] [])) []⟩,
      ⟨(some 9), .un .not (.tmp 8)⟩,
      ⟨(some 15), .sc 10 false (.tmp 9) [⟨(some 11), .fadr 0 (.tmp 1)⟩, ⟨(some 12), .load none (.tmp 11)⟩, ⟨(some 13), .len 0 (.tmp 12)⟩, ⟨(some 14), .bin .gtr (.tmp 13) (.c (.int .i64 100))⟩] (.tmp 14)⟩,
      ⟨(some 21), .sc 16 false (.tmp 15) [⟨(some 17), .fadr 1 (.tmp 1)⟩, ⟨(some 18), .load none (.tmp 17)⟩, ⟨(some 19), .len 0 (.tmp 18)⟩, ⟨(some 20), .bin .gtr (.tmp 19) (.c (.int .i64 100))⟩] (.tmp 20)⟩])
   (.cond (.tmp 21)
    (.seq
     (.reg [⟨(some 22), .call false false (.c (.fn (.func 44) [] [])) []⟩,
       ⟨(some 2), .mov (.tmp 22)⟩])
    .ret)
    .skip))
  (.seq
   (.reg [⟨(some 23), .load (some 2) (.tmp 1)⟩,
     ⟨(some 24), .call false false (.c (.fn (.func 45) [] [])) [(.tmp 23)]⟩,
     ⟨(some 3), .mov (.tmp 24)⟩])
  (.seq
   (.reg [⟨(some 26), .load (some 2) (.tmp 1)⟩,
     ⟨(some 27), .call false false (.c (.fn (.func 46) [] [])) [(.tmp 26)]⟩,
     ⟨(some 25), .mov (.tmp 27)⟩,
     ⟨(some 28), .ext (.tmp 25) 0⟩,
     ⟨(some 29), .ext (.tmp 25) 1⟩,
     ⟨(some 4), .mov (.tmp 28)⟩,
     ⟨(some 5), .mov (.tmp 29)⟩])
  (.seq
   (.seq
    (.reg [⟨(some 30), .load (some 2) (.tmp 1)⟩,
      ⟨(some 31), .call false false (.c (.fn (.func 47) [] [])) [(.tmp 30)]⟩,
      ⟨(some 32), .mov (.tmp 3)⟩,
      ⟨(some 33), .eqb true (.tmp 31) (.tmp 32)⟩])
   (.cond (.tmp 33)
    (.seq
     (.reg [⟨(some 2), .mov (.c (.bool false))⟩])
    .ret)
    .skip))
  (.seq
   (.seq
    (.reg [⟨(some 34), .mov (.tmp 3)⟩,
      ⟨(some 35), .un .not (.tmp 34)⟩])
   (.cond (.tmp 35)
    (.seq
     (.reg [⟨(some 36), .mov (.tmp 5)⟩,
       ⟨(some 37), .bin .eql (.tmp 36) (.c (.int .i64 1))⟩,
       ⟨(some 41), .sc 38 true (.tmp 37) [⟨(some 39), .mov (.tmp 4)⟩, ⟨(some 40), .bin .eql (.tmp 39) (.c (.str []))⟩] (.tmp 40)⟩,
       ⟨(some 2), .mov (.tmp 41)⟩])
    .ret)
    .skip))
  (.seq
   (.reg [⟨(some 43), .mov (.tmp 4)⟩,
     ⟨(some 44), .call false false (.c (.fn (.func 48) [] [])) [(.tmp 43)]⟩,
     ⟨(some 42), .mov (.tmp 44)⟩,
     ⟨(some 45), .ext (.tmp 42) 0⟩,
     ⟨(some 46), .ext (.tmp 42) 1⟩,
     ⟨(some 6), .new 90 [(.str []), (.str [])]⟩,
     ⟨(some 7), .new 29 [(.int .i64 0), (.int .i64 0)]⟩,
     ⟨none, .store 2 (.tmp 6) (.tmp 45)⟩,
     ⟨none, .store 2 (.tmp 7) (.tmp 46)⟩])
  (.seq
   (.reg [⟨(some 47), .mov (.tmp 5)⟩,
     ⟨(some 48), .bin .eql (.tmp 47) (.c (.int .i64 0))⟩,
     ⟨(some 54), .sc 49 true (.tmp 48) [⟨(some 50), .mov (.tmp 4)⟩, ⟨(some 51), .load (some 2) (.tmp 1)⟩, ⟨(some 52), .call false false (.c (.fn (.func 49) [] [])) [(.tmp 51)]⟩, ⟨(some 53), .bin .eql (.tmp 50) (.tmp 52)⟩] (.tmp 53)⟩,
     ⟨(some 59), .sc 55 true (.tmp 54) [⟨(some 56), .load (some 2) (.tmp 7)⟩, ⟨(some 57), .build [(.int .i64 0), (.int .i64 0)] []⟩, ⟨(some 58), .eqs false [0, 0] (.tmp 56) (.tmp 57)⟩] (.tmp 58)⟩,
     ⟨(some 64), .sc 60 true (.tmp 59) [⟨(some 61), .load (some 2) (.tmp 1)⟩, ⟨(some 62), .load (some 2) (.tmp 6)⟩, ⟨(some 63), .eqs false [2, 2] (.tmp 61) (.tmp 62)⟩] (.tmp 63)⟩,
     ⟨(some 2), .mov (.tmp 64)⟩])
  .ret))))))))
def af11 : AFunc := ⟨65, [.tmp 2], af11b, false⟩

/-- cascade/cascadelaw09.awake -/
def af44b : ACode :=
  (.seq
   (.reg [⟨(some 0), .mov (.c (.bool false))⟩])
  (.seq
   (.reg [⟨(some 4), .call false false (.c (.fn (.func 48) [] [])) [(.c (.str [91, 73, 110, 116, 33, 93]))]⟩,
     ⟨(some 3), .mov (.tmp 4)⟩,
     ⟨(some 5), .ext (.tmp 3) 0⟩,
     ⟨(some 6), .ext (.tmp 3) 1⟩,
     ⟨(some 1), .new 90 [(.str []), (.str [])]⟩,
     ⟨(some 2), .new 29 [(.int .i64 0), (.int .i64 0)]⟩,
     ⟨none, .store 2 (.tmp 1) (.tmp 5)⟩,
     ⟨none, .store 2 (.tmp 2) (.tmp 6)⟩])
  (.seq
   (.reg [⟨(some 7), .fadr 0 (.tmp 2)⟩,
     ⟨(some 8), .load none (.tmp 7)⟩,
     ⟨(some 9), .bin .eql (.tmp 8) (.c (.int .i64 0))⟩,
     ⟨(some 14), .sc 10 true (.tmp 9) [⟨(some 11), .load (some 2) (.tmp 1)⟩, ⟨(some 12), .build [(.str []), (.str [])] [(0, 1, (.c (.str [73, 110, 116]))), (1, 1, (.c (.str [33, 91])))]⟩, ⟨(some 13), .eqs false [2, 2] (.tmp 11) (.tmp 12)⟩] (.tmp 13)⟩,
     ⟨(some 0), .mov (.tmp 14)⟩])
  .ret)))
def af44 : AFunc := ⟨15, [.tmp 0], af44b, false⟩

/-- cascade/cascaderef09.RightType -/
def af45l0 : ACode :=
  (.seq
      (.seq
       (.reg [⟨(some 6), .mov (.tmp 4)⟩,
         ⟨(some 7), .fadr 1 (.tmp 1)⟩,
         ⟨(some 8), .load none (.tmp 7)⟩,
         ⟨(some 9), .len 0 (.tmp 8)⟩,
         ⟨(some 10), .bin .lss (.tmp 6) (.tmp 9)⟩])
      (.cond (.tmp 10)
       .skip
       (.exit 0)))
     (.seq
      (.blk 1
       (.seq
        (.reg [⟨(some 13), .fadr 1 (.tmp 1)⟩,
          ⟨(some 14), .load none (.tmp 13)⟩,
          ⟨(some 15), .mov (.tmp 4)⟩,
          ⟨(some 16), .idx (.tmp 14) (.tmp 15)⟩,
          ⟨(some 5), .mov (.tmp 16)⟩])
       (.seq
        (.seq
         (.reg [⟨(some 17), .mov (.tmp 5)⟩,
           ⟨(some 18), .bin .neq (.tmp 17) (.c (.int .u8 33))⟩,
           ⟨(some 22), .sc 19 true (.tmp 18) [⟨(some 20), .mov (.tmp 5)⟩, ⟨(some 21), .bin .neq (.tmp 20) (.c (.int .u8 91))⟩] (.tmp 21)⟩,
           ⟨(some 38), .sc 23 false (.tmp 22) [⟨(some 24), .mov (.tmp 5)⟩, ⟨(some 25), .bin .eql (.tmp 24) (.c (.int .u8 33))⟩, ⟨(some 29), .sc 26 true (.tmp 25) [⟨(some 27), .mov (.tmp 4)⟩, ⟨(some 28), .bin .gtr (.tmp 27) (.c (.int .i64 0))⟩] (.tmp 28)⟩, ⟨(some 37), .sc 30 true (.tmp 29) [⟨(some 31), .fadr 1 (.tmp 1)⟩, ⟨(some 32), .load none (.tmp 31)⟩, ⟨(some 33), .mov (.tmp 4)⟩, ⟨(some 34), .bin .sub (.tmp 33) (.c (.int .i64 1))⟩, ⟨(some 35), .idx (.tmp 32) (.tmp 34)⟩, ⟨(some 36), .bin .eql (.tmp 35) (.c (.int .u8 33))⟩] (.tmp 36)⟩] (.tmp 37)⟩])
        (.cond (.tmp 38)
         (.seq
          (.reg [⟨(some 2), .mov (.c (.bool false))⟩])
         .ret)
         .skip))
       (.seq
        (.reg [⟨(some 39), .mov (.tmp 5)⟩,
          ⟨(some 40), .bin .eql (.tmp 39) (.c (.int .u8 91))⟩])
       (.cond (.tmp 40)
        (.reg [⟨(some 41), .mov (.tmp 3)⟩,
          ⟨(some 42), .bin .add (.tmp 41) (.c (.int .i64 1))⟩,
          ⟨(some 3), .mov (.tmp 42)⟩])
        .skip)))))
     (.reg [⟨(some 11), .mov (.tmp 4)⟩,
       ⟨(some 12), .bin .add (.tmp 11) (.c (.int .i64 1))⟩,
       ⟨(some 4), .mov (.tmp 12)⟩])))
def af45b : ACode :=
  (.seq
   (.reg [⟨(some 1), .box 90 (.tmp 0)⟩,
     ⟨(some 2), .mov (.c (.bool false))⟩])
  (.seq
   (.reg [⟨(some 3), .mov (.c (.int .i64 0))⟩])
  (.seq
   (.seq
    (.reg [⟨(some 4), .mov (.c (.int .i64 0))⟩])
   (.blk 0
    (.loop false af45l0)))
  (.seq
   (.reg [⟨(some 43), .mov (.tmp 3)⟩,
     ⟨(some 44), .bin .leq (.tmp 43) (.c (.int .i64 4))⟩,
     ⟨(some 49), .sc 45 true (.tmp 44) [⟨(some 46), .fadr 0 (.tmp 1)⟩, ⟨(some 47), .load none (.tmp 46)⟩, ⟨(some 48), .call false false (.c (.fn (.func 122) [] [])) [(.tmp 47)]⟩] (.tmp 48)⟩,
     ⟨(some 2), .mov (.tmp 49)⟩])
  .ret))))
def af45 : AFunc := ⟨50, [.tmp 2], af45b, false⟩

/-- cascade/lit.ShowType -/
def af46l0 : ACode :=
  (.seq
      (.reg [⟨(some 15), .nxt (.tmp 14)⟩,
        ⟨(some 16), .ext (.tmp 15) 0⟩])
     (.seq
      (.cond (.tmp 16)
       .skip
       (.exit 0))
     (.blk 1
      (.seq
       (.reg [⟨(some 17), .ext (.tmp 15) 2⟩,
         ⟨(some 6), .mov (.tmp 17)⟩])
      (.seq
       (.reg [⟨(some 18), .mov (.tmp 6)⟩,
         ⟨(some 19), .bin .eql (.tmp 18) (.c (.int .i32 91))⟩])
      (.cond (.tmp 19)
       (.reg [⟨(some 20), .mov (.tmp 4)⟩,
         ⟨(some 21), .bin .add (.c (.str [91])) (.tmp 20)⟩,
         ⟨(some 22), .bin .add (.tmp 21) (.c (.str [93]))⟩,
         ⟨(some 4), .mov (.tmp 22)⟩])
       (.reg [⟨(some 23), .mov (.tmp 4)⟩,
         ⟨(some 24), .bin .add (.tmp 23) (.c (.str [33]))⟩,
         ⟨(some 4), .mov (.tmp 24)⟩])))))))
def af46b : ACode :=
  (.seq
   (.reg [⟨(some 1), .box 90 (.tmp 0)⟩,
     ⟨(some 2), .mov (.c (.str []))⟩,
     ⟨(some 3), .mov (.c (.int .i64 0))⟩])
  (.seq
   (.seq
    (.reg [⟨(some 7), .load (some 2) (.tmp 1)⟩,
      ⟨(some 8), .call false false (.c (.fn (.func 47) [] [])) [(.tmp 7)]⟩,
      ⟨(some 9), .un .not (.tmp 8)⟩])
   (.cond (.tmp 9)
    (.seq
     (.reg [⟨(some 2), .mov (.c (.str []))⟩,
       ⟨(some 3), .mov (.c (.int .i64 1))⟩])
    .ret)
    .skip))
  (.seq
   (.reg [⟨(some 10), .fadr 0 (.tmp 1)⟩,
     ⟨(some 11), .load none (.tmp 10)⟩,
     ⟨(some 4), .mov (.tmp 11)⟩])
  (.seq
   (.seq
    (.reg [⟨(some 12), .fadr 1 (.tmp 1)⟩,
      ⟨(some 13), .load none (.tmp 12)⟩,
      ⟨(some 14), .rng (.tmp 13)⟩])
   (.blk 0
    (.loop false af46l0)))
  (.seq
   (.reg [⟨(some 25), .mov (.tmp 4)⟩,
     ⟨(some 2), .mov (.tmp 25)⟩,
     ⟨(some 3), .mov (.c (.int .i64 0))⟩])
  .ret)))))
def af46 : AFunc := ⟨26, [.tmp 2, .tmp 3], af46b, false⟩

/-- cascade/lit.RightType -/
def af47l0 : ACode :=
  (.seq
      (.reg [⟨(some 10), .nxt (.tmp 9)⟩,
        ⟨(some 11), .ext (.tmp 10) 0⟩])
     (.seq
      (.cond (.tmp 11)
       .skip
       (.exit 0))
     (.blk 1
      (.seq
       (.reg [⟨(some 12), .ext (.tmp 10) 2⟩,
         ⟨(some 6), .mov (.tmp 12)⟩])
      (.seq
       (.blk 2
        (.seq
         (.reg [⟨(some 14), .mov (.tmp 6)⟩,
           ⟨(some 15), .bin .eql (.tmp 14) (.c (.int .i32 91))⟩,
           ⟨(some 13), .mov (.tmp 15)⟩])
        (.cond (.tmp 13)
         (.reg [⟨(some 16), .mov (.tmp 3)⟩,
           ⟨(some 17), .bin .add (.tmp 16) (.c (.int .i64 1))⟩,
           ⟨(some 3), .mov (.tmp 17)⟩])
         (.seq
          (.reg [⟨(some 19), .mov (.tmp 6)⟩,
            ⟨(some 20), .bin .neq (.tmp 19) (.c (.int .i32 33))⟩,
            ⟨(some 24), .sc 21 false (.tmp 20) [⟨(some 22), .mov (.tmp 4)⟩, ⟨(some 23), .bin .eql (.tmp 22) (.c (.int .i32 33))⟩] (.tmp 23)⟩,
            ⟨(some 18), .mov (.tmp 24)⟩])
         (.cond (.tmp 18)
          (.seq
           (.reg [⟨(some 2), .mov (.c (.bool false))⟩])
          .ret)
          .skip)))))
      (.reg [⟨(some 25), .mov (.tmp 6)⟩,
        ⟨(some 4), .mov (.tmp 25)⟩]))))))
def af47b : ACode :=
  (.seq
   (.reg [⟨(some 1), .box 90 (.tmp 0)⟩,
     ⟨(some 2), .mov (.c (.bool false))⟩])
  (.seq
   (.reg [⟨(some 3), .mov (.c (.int .i64 0))⟩,
     ⟨(some 4), .mov (.c (.int .i32 0))⟩])
  (.seq
   (.seq
    (.reg [⟨(some 7), .fadr 1 (.tmp 1)⟩,
      ⟨(some 8), .load none (.tmp 7)⟩,
      ⟨(some 9), .rng (.tmp 8)⟩])
   (.blk 0
    (.loop false af47l0)))
  (.seq
   (.reg [⟨(some 26), .mov (.tmp 3)⟩,
     ⟨(some 27), .bin .leq (.tmp 26) (.c (.int .i64 4))⟩,
     ⟨(some 32), .sc 28 true (.tmp 27) [⟨(some 29), .fadr 0 (.tmp 1)⟩, ⟨(some 30), .load none (.tmp 29)⟩, ⟨(some 31), .call false false (.c (.fn (.func 123) [] [])) [(.tmp 30)]⟩] (.tmp 31)⟩,
     ⟨(some 2), .mov (.tmp 32)⟩])
  .ret))))
def af47 : AFunc := ⟨33, [.tmp 2], af47b, false⟩

/-- cascade/lit.ParseType -/
def af48b : ACode :=
  (.seq
   (.reg [⟨(some 2), .new 90 [(.str []), (.str [])]⟩,
     ⟨(some 3), .new 29 [(.int .i64 0), (.int .i64 0)]⟩])
  (.seq
   (.reg [⟨(some 7), .mov (.tmp 0)⟩,
     ⟨(some 8), .call false false (.c (.fn (.func 50) [] [])) [(.tmp 7)]⟩,
     ⟨(some 4), .mov (.tmp 8)⟩])
  (.seq
   (.reg [⟨(some 9), .mov (.tmp 4)⟩,
     ⟨(some 10), .call false false (.c (.fn (.func 124) [] [])) [(.tmp 9)]⟩,
     ⟨(some 5), .new 90 [(.str []), (.str [])]⟩,
     ⟨none, .store 2 (.tmp 5) (.tmp 10)⟩])
  (.seq
   (.seq
    (.reg [⟨(some 11), .mov (.tmp 4)⟩,
      ⟨(some 12), .call false false (.c (.fn (.func 125) [] [])) [(.tmp 11)]⟩,
      ⟨(some 6), .new 29 [(.int .i64 0), (.int .i64 0)]⟩,
      ⟨none, .store 2 (.tmp 6) (.tmp 12)⟩])
   (.seq
    (.reg [⟨(some 13), .fadr 0 (.tmp 6)⟩,
      ⟨(some 14), .load none (.tmp 13)⟩,
      ⟨(some 15), .bin .neq (.tmp 14) (.c (.int .i64 0))⟩])
   (.cond (.tmp 15)
    (.seq
     (.regD [(6, 2)] [⟨(some 16), .build [(.str []), (.str [])] []⟩,
       ⟨(some 17), .load (some 2) (.tmp 6)⟩,
       ⟨none, .store 2 (.tmp 2) (.tmp 16)⟩,
       ⟨none, .store 2 (.tmp 3) (.tmp 17)⟩])
    .ret)
    .skip)))
  (.seq
   (.reg [⟨(some 18), .load (some 2) (.tmp 5)⟩,
     ⟨(some 19), .build [(.int .i64 0), (.int .i64 0)] []⟩,
     ⟨none, .store 2 (.tmp 2) (.tmp 18)⟩,
     ⟨none, .store 2 (.tmp 3) (.tmp 19)⟩])
  .ret)))))
def af48 : AFunc := ⟨20, [.cell 2 (some 2), .cell 3 (some 2)], af48b, false⟩

/-- cascade/cascaderef09.ShowType -/
def af49l0 : ACode :=
  (.seq
      (.seq
       (.reg [⟨(some 7), .mov (.tmp 4)⟩,
         ⟨(some 8), .fadr 1 (.tmp 1)⟩,
         ⟨(some 9), .load none (.tmp 8)⟩,
         ⟨(some 10), .len 0 (.tmp 9)⟩,
         ⟨(some 11), .bin .lss (.tmp 7) (.tmp 10)⟩])
      (.cond (.tmp 11)
       .skip
       (.exit 0)))
     (.seq
      (.blk 1
       (.seq
        (.reg [⟨(some 14), .fadr 1 (.tmp 1)⟩,
          ⟨(some 15), .load none (.tmp 14)⟩,
          ⟨(some 16), .mov (.tmp 4)⟩,
          ⟨(some 17), .idx (.tmp 15) (.tmp 16)⟩,
          ⟨(some 18), .bin .eql (.tmp 17) (.c (.int .u8 33))⟩])
       (.cond (.tmp 18)
        (.reg [⟨(some 19), .mov (.tmp 3)⟩,
          ⟨(some 20), .bin .add (.tmp 19) (.c (.str [33]))⟩,
          ⟨(some 3), .mov (.tmp 20)⟩])
        (.reg [⟨(some 21), .mov (.tmp 3)⟩,
          ⟨(some 22), .bin .add (.c (.str [91])) (.tmp 21)⟩,
          ⟨(some 23), .bin .add (.tmp 22) (.c (.str [93]))⟩,
          ⟨(some 3), .mov (.tmp 23)⟩]))))
     (.reg [⟨(some 12), .mov (.tmp 4)⟩,
       ⟨(some 13), .bin .add (.tmp 12) (.c (.int .i64 1))⟩,
       ⟨(some 4), .mov (.tmp 13)⟩])))
def af49b : ACode :=
  (.seq
   (.reg [⟨(some 1), .box 90 (.tmp 0)⟩,
     ⟨(some 2), .mov (.c (.str []))⟩])
  (.seq
   (.reg [⟨(some 5), .fadr 0 (.tmp 1)⟩,
     ⟨(some 6), .load none (.tmp 5)⟩,
     ⟨(some 3), .mov (.tmp 6)⟩])
  (.seq
   (.seq
    (.reg [⟨(some 4), .mov (.c (.int .i64 0))⟩])
   (.blk 0
    (.loop false af49l0)))
  (.seq
   (.reg [⟨(some 24), .mov (.tmp 3)⟩,
     ⟨(some 2), .mov (.tmp 24)⟩])
  .ret))))
def af49 : AFunc := ⟨25, [.tmp 2], af49b, false⟩

/-- cascade/lit.NewReader -/
def af50b : ACode :=
  (.seq
   (.reg [⟨(some 2), .mov (.c .pnil)⟩])
  (.seq
   (.reg [⟨(some 6), .mov (.tmp 0)⟩,
     ⟨(some 7), .call false false (.c (.fn (.func 126) [] [])) [(.tmp 6)]⟩,
     ⟨(some 5), .mov (.tmp 7)⟩,
     ⟨(some 8), .ext (.tmp 5) 0⟩,
     ⟨(some 9), .ext (.tmp 5) 1⟩,
     ⟨(some 4), .new 29 [(.int .i64 0), (.int .i64 0)]⟩,
     ⟨(some 3), .mov (.tmp 8)⟩,
     ⟨none, .store 2 (.tmp 4) (.tmp 9)⟩])
  (.seq
   (.reg [⟨(some 10), .mov (.tmp 3)⟩,
     ⟨(some 11), .mov (.tmp 0)⟩,
     ⟨(some 12), .len 0 (.tmp 11)⟩,
     ⟨(some 13), .load (some 2) (.tmp 4)⟩,
     ⟨(some 14), .build [(.sl .nil []), (.int .i64 0), (.int .i64 0), (.int .i64 0)] [(0, 1, (.tmp 10)), (1, 1, (.tmp 12)), (2, 2, (.tmp 13))]⟩,
     ⟨(some 15), .box 185 (.tmp 14)⟩,
     ⟨(some 2), .mov (.tmp 15)⟩])
  .ret)))
def af50 : AFunc := ⟨16, [.tmp 2], af50b, true⟩

/-- (*cascade/lit.Reader).At -/
def af54b : ACode :=
  (.seq
   (.reg [⟨(some 2), .mov (.c (.int .i64 0))⟩])
  (.seq
   (.blk 0
    (.seq
     (.reg [⟨(some 4), .mov (.tmp 0)⟩,
       ⟨(some 5), .nilchk (.tmp 4)⟩,
       ⟨(some 6), .fadr 2 (.tmp 5)⟩,
       ⟨(some 7), .fadr 0 (.tmp 6)⟩,
       ⟨(some 8), .load none (.tmp 7)⟩,
       ⟨(some 9), .bin .neq (.tmp 8) (.c (.int .i64 0))⟩,
       ⟨(some 3), .mov (.tmp 9)⟩])
    (.cond (.tmp 3)
     (.seq
      (.reg [⟨(some 10), .mov (.tmp 0)⟩,
        ⟨(some 11), .nilchk (.tmp 10)⟩,
        ⟨(some 12), .fadr 2 (.tmp 11)⟩,
        ⟨(some 13), .fadr 1 (.tmp 12)⟩,
        ⟨(some 14), .load none (.tmp 13)⟩,
        ⟨(some 2), .mov (.tmp 14)⟩])
     .ret)
     (.seq
      (.reg [⟨(some 16), .mov (.tmp 0)⟩,
        ⟨(some 17), .nilchk (.tmp 16)⟩,
        ⟨(some 18), .fadr 0 (.tmp 17)⟩,
        ⟨(some 19), .load none (.tmp 18)⟩,
        ⟨(some 20), .len 1 (.tmp 19)⟩,
        ⟨(some 21), .bin .eql (.tmp 20) (.c (.int .i64 0))⟩,
        ⟨(some 15), .mov (.tmp 21)⟩])
     (.cond (.tmp 15)
      (.seq
       (.reg [⟨(some 22), .mov (.tmp 0)⟩,
         ⟨(some 23), .nilchk (.tmp 22)⟩,
         ⟨(some 24), .fadr 1 (.tmp 23)⟩,
         ⟨(some 25), .load none (.tmp 24)⟩,
         ⟨(some 2), .mov (.tmp 25)⟩])
      .ret)
      .skip)))))
  (.seq
   (.reg [⟨(some 26), .mov (.tmp 0)⟩,
     ⟨(some 27), .nilchk (.tmp 26)⟩,
     ⟨(some 28), .fadr 0 (.tmp 27)⟩,
     ⟨(some 29), .load none (.tmp 28)⟩,
     ⟨(some 30), .iadr 3 (.tmp 29) (.c (.int .i64 0))⟩,
     ⟨(some 31), .fadr 2 (.tmp 30)⟩,
     ⟨(some 32), .load none (.tmp 31)⟩,
     ⟨(some 2), .mov (.tmp 32)⟩])
  .ret)))
def af54 : AFunc := ⟨33, [.tmp 2], af54b, false⟩

/-- (*cascade/lit.Reader).End -/
def af56b : ACode :=
  (.seq
   (.reg [⟨(some 2), .mov (.c (.bool false))⟩])
  (.seq
   (.reg [⟨(some 3), .mov (.tmp 0)⟩,
     ⟨(some 4), .nilchk (.tmp 3)⟩,
     ⟨(some 5), .fadr 2 (.tmp 4)⟩,
     ⟨(some 6), .fadr 0 (.tmp 5)⟩,
     ⟨(some 7), .load none (.tmp 6)⟩,
     ⟨(some 8), .bin .neq (.tmp 7) (.c (.int .i64 0))⟩,
     ⟨(some 16), .sc 9 false (.tmp 8) [⟨(some 10), .mov (.tmp 0)⟩, ⟨(some 11), .nilchk (.tmp 10)⟩, ⟨(some 12), .fadr 0 (.tmp 11)⟩, ⟨(some 13), .load none (.tmp 12)⟩, ⟨(some 14), .len 1 (.tmp 13)⟩, ⟨(some 15), .bin .eql (.tmp 14) (.c (.int .i64 0))⟩] (.tmp 15)⟩,
     ⟨(some 2), .mov (.tmp 16)⟩])
  .ret))
def af56 : AFunc := ⟨17, [.tmp 2], af56b, false⟩

/-- (*strings.Builder).String -/
def af75b : ACode :=
  (.seq
   (.reg [⟨(some 2), .mov (.c (.str []))⟩])
  (.seq
   (.regD [] [⟨(some 3), .mov (.tmp 0)⟩,
     ⟨(some 4), .nilchk (.tmp 3)⟩,
     ⟨(some 5), .fadr 1 (.tmp 4)⟩,
     ⟨(some 6), .load none (.tmp 5)⟩,
     ⟨(some 7), .sdata (.tmp 6)⟩,
     ⟨(some 8), .mov (.tmp 0)⟩,
     ⟨(some 9), .nilchk (.tmp 8)⟩,
     ⟨(some 10), .fadr 1 (.tmp 9)⟩,
     ⟨(some 11), .load none (.tmp 10)⟩,
     ⟨(some 12), .len 1 (.tmp 11)⟩,
     ⟨(some 13), .ustr 5 (.tmp 7) (.tmp 12)⟩,
     ⟨(some 2), .mov (.tmp 13)⟩])
  .ret))
def af75 : AFunc := ⟨14, [.tmp 2], af75b, false⟩

/-- cascade/cascaderef01.Name -/
def af122l0 : ACode :=
  (.seq
      (.seq
       (.reg [⟨(some 4), .mov (.tmp 3)⟩,
         ⟨(some 5), .mov (.tmp 0)⟩,
         ⟨(some 6), .len 0 (.tmp 5)⟩,
         ⟨(some 7), .bin .lss (.tmp 4) (.tmp 6)⟩])
      (.cond (.tmp 7)
       .skip
       (.exit 0)))
     (.seq
      (.blk 1
       (.seq
        (.reg [⟨(some 10), .mov (.tmp 0)⟩,
          ⟨(some 11), .mov (.tmp 3)⟩,
          ⟨(some 12), .idx (.tmp 10) (.tmp 11)⟩,
          ⟨(some 13), .call false false (.c (.fn (.func 198) [] [])) [(.tmp 12)]⟩,
          ⟨(some 14), .un .not (.tmp 13)⟩,
          ⟨(some 25), .sc 15 true (.tmp 14) [⟨(some 16), .mov (.tmp 3)⟩, ⟨(some 17), .bin .eql (.tmp 16) (.c (.int .i64 0))⟩, ⟨(some 24), .sc 18 false (.tmp 17) [⟨(some 19), .mov (.tmp 0)⟩, ⟨(some 20), .mov (.tmp 3)⟩, ⟨(some 21), .idx (.tmp 19) (.tmp 20)⟩, ⟨(some 22), .call false false (.c (.fn (.func 199) [] [])) [(.tmp 21)]⟩, ⟨(some 23), .un .not (.tmp 22)⟩] (.tmp 23)⟩] (.tmp 24)⟩])
       (.cond (.tmp 25)
        (.seq
         (.reg [⟨(some 2), .mov (.c (.bool false))⟩])
        .ret)
        .skip)))
     (.reg [⟨(some 8), .mov (.tmp 3)⟩,
       ⟨(some 9), .bin .add (.tmp 8) (.c (.int .i64 1))⟩,
       ⟨(some 3), .mov (.tmp 9)⟩])))
def af122b : ACode :=
  (.seq
   (.reg [⟨(some 2), .mov (.c (.bool false))⟩])
  (.seq
   (.seq
    (.reg [⟨(some 3), .mov (.c (.int .i64 0))⟩])
   (.blk 0
    (.loop false af122l0)))
  (.seq
   (.reg [⟨(some 26), .mov (.tmp 0)⟩,
     ⟨(some 27), .len 0 (.tmp 26)⟩,
     ⟨(some 28), .bin .gtr (.tmp 27) (.c (.int .i64 0))⟩,
     ⟨(some 2), .mov (.tmp 28)⟩])
  .ret)))
def af122 : AFunc := ⟨29, [.tmp 2], af122b, false⟩

/-- cascade/text.Name -/
def af123l0 : ACode :=
  (.seq
      (.reg [⟨(some 7), .nxt (.tmp 6)⟩,
        ⟨(some 8), .ext (.tmp 7) 0⟩])
     (.seq
      (.cond (.tmp 8)
       .skip
       (.exit 0))
     (.blk 1
      (.seq
       (.reg [⟨(some 9), .ext (.tmp 7) 1⟩,
         ⟨(some 10), .ext (.tmp 7) 2⟩,
         ⟨(some 3), .mov (.tmp 9)⟩,
         ⟨(some 4), .mov (.tmp 10)⟩])
      (.seq
       (.reg [⟨(some 11), .mov (.tmp 4)⟩,
         ⟨(some 12), .call false false (.c (.fn (.func 200) [] [])) [(.tmp 11)]⟩,
         ⟨(some 13), .un .not (.tmp 12)⟩,
         ⟨(some 25), .sc 14 true (.tmp 13) [⟨(some 15), .mov (.tmp 3)⟩, ⟨(some 16), .bin .eql (.tmp 15) (.c (.int .i64 0))⟩, ⟨(some 20), .sc 17 false (.tmp 16) [⟨(some 18), .mov (.tmp 4)⟩, ⟨(some 19), .bin .lss (.tmp 18) (.c (.int .i32 48))⟩] (.tmp 19)⟩, ⟨(some 24), .sc 21 false (.tmp 20) [⟨(some 22), .mov (.tmp 4)⟩, ⟨(some 23), .bin .gtr (.tmp 22) (.c (.int .i32 57))⟩] (.tmp 23)⟩] (.tmp 24)⟩])
      (.cond (.tmp 25)
       (.seq
        (.reg [⟨(some 2), .mov (.c (.bool false))⟩])
       .ret)
       .skip))))))
def af123b : ACode :=
  (.seq
   (.reg [⟨(some 2), .mov (.c (.bool false))⟩])
  (.seq
   (.seq
    (.reg [⟨(some 5), .mov (.tmp 0)⟩,
      ⟨(some 6), .rng (.tmp 5)⟩])
   (.blk 0
    (.loop false af123l0)))
  (.seq
   (.reg [⟨(some 26), .mov (.tmp 0)⟩,
     ⟨(some 27), .bin .neq (.tmp 26) (.c (.str []))⟩,
     ⟨(some 2), .mov (.tmp 27)⟩])
  .ret)))
def af123 : AFunc := ⟨28, [.tmp 2], af123b, false⟩

/-- (*cascade/lit.Reader).Type -/
def af124b : ACode :=
  (.seq
   (.reg [⟨(some 2), .new 90 [(.str []), (.str [])]⟩])
  (.seq
   (.reg [⟨(some 4), .mov (.tmp 0)⟩,
     ⟨(some 5), .call false false (.c (.fn (.func 201) [] [])) [(.tmp 4), (.c (.int .i64 4))]⟩,
     ⟨(some 3), .new 90 [(.str []), (.str [])]⟩,
     ⟨none, .store 2 (.tmp 3) (.tmp 5)⟩])
  (.seq
   (.seq
    (.reg [⟨(some 6), .mov (.tmp 0)⟩,
      ⟨(some 7), .nilchk (.tmp 6)⟩,
      ⟨(some 8), .fadr 2 (.tmp 7)⟩,
      ⟨(some 9), .fadr 0 (.tmp 8)⟩,
      ⟨(some 10), .load none (.tmp 9)⟩,
      ⟨(some 11), .bin .neq (.tmp 10) (.c (.int .i64 0))⟩])
   (.cond (.tmp 11)
    (.seq
     (.reg [⟨(some 12), .build [(.str []), (.str [])] []⟩,
       ⟨none, .store 2 (.tmp 2) (.tmp 12)⟩])
    .ret)
    .skip))
  (.seq
   (.reg [⟨(some 13), .load (some 2) (.tmp 3)⟩,
     ⟨none, .store 2 (.tmp 2) (.tmp 13)⟩])
  .ret))))
def af124 : AFunc := ⟨14, [.cell 2 (some 2)], af124b, false⟩

/-- (*cascade/lit.Reader).whole -/
def af125b : ACode :=
  (.seq
   (.reg [⟨(some 2), .new 29 [(.int .i64 0), (.int .i64 0)]⟩])
  (.seq
   (.seq
    (.reg [⟨(some 3), .mov (.tmp 0)⟩,
      ⟨(some 4), .call false false (.c (.fn (.func 56) [] [])) [(.tmp 3)]⟩,
      ⟨(some 5), .un .not (.tmp 4)⟩])
   (.cond (.tmp 5)
    (.reg [⟨(some 6), .mov (.tmp 0)⟩,
      ⟨(some 7), .call false false (.c (.fn (.func 202) [] [])) [(.tmp 6)]⟩])
    .skip))
  (.seq
   (.reg [⟨(some 8), .mov (.tmp 0)⟩,
     ⟨(some 9), .nilchk (.tmp 8)⟩,
     ⟨(some 10), .fadr 2 (.tmp 9)⟩,
     ⟨(some 11), .load (some 2) (.tmp 10)⟩,
     ⟨none, .store 2 (.tmp 2) (.tmp 11)⟩])
  .ret)))
def af125 : AFunc := ⟨12, [.cell 2 (some 2)], af125b, false⟩

/-- cascade/token.Lex -/
def af126l0 : ACode :=
  (.seq
      (.seq
       (.reg [⟨(some 21), .mov (.tmp 5)⟩,
         ⟨(some 22), .nilchk (.tmp 21)⟩,
         ⟨(some 23), .fadr 1 (.tmp 22)⟩,
         ⟨(some 24), .load none (.tmp 23)⟩,
         ⟨(some 25), .mov (.tmp 0)⟩,
         ⟨(some 26), .len 0 (.tmp 25)⟩,
         ⟨(some 27), .bin .lss (.tmp 24) (.tmp 26)⟩,
         ⟨(some 35), .sc 28 true (.tmp 27) [⟨(some 29), .mov (.tmp 5)⟩, ⟨(some 30), .nilchk (.tmp 29)⟩, ⟨(some 31), .fadr 3 (.tmp 30)⟩, ⟨(some 32), .fadr 0 (.tmp 31)⟩, ⟨(some 33), .load none (.tmp 32)⟩, ⟨(some 34), .bin .eql (.tmp 33) (.c (.int .i64 0))⟩] (.tmp 34)⟩])
      (.cond (.tmp 35)
       .skip
       (.exit 0)))
     (.seq
      (.blk 1
       (.reg [⟨(some 38), .mov (.tmp 5)⟩,
         ⟨(some 39), .call false false (.c (.fn (.func 204) [] [])) [(.tmp 38)]⟩]))
     (.reg [⟨(some 36), .mov (.tmp 5)⟩,
       ⟨(some 37), .call false false (.c (.fn (.func 203) [] [])) [(.tmp 36)]⟩])))
def af126b : ACode :=
  (.seq
   (.reg [⟨(some 2), .mov (.c (.sl .nil []))⟩,
     ⟨(some 3), .new 29 [(.int .i64 0), (.int .i64 0)]⟩])
  (.seq
   (.seq
    (.reg [⟨(some 6), .mov (.tmp 0)⟩,
      ⟨(some 7), .len 0 (.tmp 6)⟩,
      ⟨(some 8), .bin .gtr (.tmp 7) (.c (.int .i64 4000))⟩])
   (.cond (.tmp 8)
    (.seq
     (.reg [⟨(some 9), .build [(.int .i64 0), (.int .i64 0)] [(0, 1, (.c (.int .i64 6)))]⟩,
       ⟨(some 2), .mov (.c (.sl .nil []))⟩,
       ⟨none, .store 2 (.tmp 3) (.tmp 9)⟩])
    .ret)
    .skip))
  (.seq
   (.seq
    (.reg [⟨(some 10), .mov (.tmp 0)⟩,
      ⟨(some 11), .call false false (.c (.fn (.func 172) [] [])) [(.tmp 10)]⟩,
      ⟨(some 4), .mov (.tmp 11)⟩])
   (.seq
    (.reg [⟨(some 12), .mov (.tmp 4)⟩,
      ⟨(some 13), .bin .geq (.tmp 12) (.c (.int .i64 0))⟩])
   (.cond (.tmp 13)
    (.seq
     (.reg [⟨(some 14), .mov (.tmp 4)⟩,
       ⟨(some 15), .build [(.int .i64 0), (.int .i64 0)] [(0, 1, (.c (.int .i64 2))), (1, 1, (.tmp 14))]⟩,
       ⟨(some 2), .mov (.c (.sl .nil []))⟩,
       ⟨none, .store 2 (.tmp 3) (.tmp 15)⟩])
    .ret)
    .skip)))
  (.seq
   (.reg [⟨(some 16), .mov (.tmp 0)⟩,
     ⟨(some 17), .build [(.str []), (.int .i64 0), (.sl .nil []), (.int .i64 0), (.int .i64 0)] [(0, 1, (.tmp 16))]⟩,
     ⟨(some 18), .box 259 (.tmp 17)⟩,
     ⟨(some 5), .mov (.tmp 18)⟩])
  (.seq
   (.seq
    (.reg [⟨(some 19), .mov (.tmp 5)⟩,
      ⟨(some 20), .call false false (.c (.fn (.func 203) [] [])) [(.tmp 19)]⟩])
   (.blk 0
    (.loop false af126l0)))
  (.seq
   (.seq
    (.reg [⟨(some 40), .mov (.tmp 5)⟩,
      ⟨(some 41), .nilchk (.tmp 40)⟩,
      ⟨(some 42), .fadr 3 (.tmp 41)⟩,
      ⟨(some 43), .fadr 0 (.tmp 42)⟩,
      ⟨(some 44), .load none (.tmp 43)⟩,
      ⟨(some 45), .bin .neq (.tmp 44) (.c (.int .i64 0))⟩])
   (.cond (.tmp 45)
    (.seq
     (.regD [] [⟨(some 46), .mov (.tmp 5)⟩,
       ⟨(some 47), .nilchk (.tmp 46)⟩,
       ⟨(some 48), .fadr 3 (.tmp 47)⟩,
       ⟨(some 49), .load (some 2) (.tmp 48)⟩,
       ⟨(some 2), .mov (.c (.sl .nil []))⟩,
       ⟨none, .store 2 (.tmp 3) (.tmp 49)⟩])
    .ret)
    .skip))
  (.seq
   (.reg [⟨(some 50), .mov (.tmp 5)⟩,
     ⟨(some 51), .nilchk (.tmp 50)⟩,
     ⟨(some 52), .fadr 2 (.tmp 51)⟩,
     ⟨(some 53), .load none (.tmp 52)⟩,
     ⟨(some 54), .build [(.int .i64 0), (.int .i64 0)] []⟩,
     ⟨(some 2), .mov (.tmp 53)⟩,
     ⟨none, .store 2 (.tmp 3) (.tmp 54)⟩])
  .ret)))))))
def af126 : AFunc := ⟨55, [.tmp 2, .cell 3 (some 2)], af126b, false⟩

/-- (*cascade/lit.Reader).Is -/
def af128b : ACode :=
  (.seq
   (.reg [⟨(some 4), .mov (.c (.bool false))⟩])
  (.seq
   (.reg [⟨(some 5), .mov (.tmp 0)⟩,
     ⟨(some 6), .call false false (.c (.fn (.func 207) [] [])) [(.tmp 5)]⟩,
     ⟨(some 7), .bin .eql (.tmp 6) (.c (.int .i64 1))⟩,
     ⟨(some 12), .sc 8 false (.tmp 7) [⟨(some 9), .mov (.tmp 0)⟩, ⟨(some 10), .call false false (.c (.fn (.func 207) [] [])) [(.tmp 9)]⟩, ⟨(some 11), .bin .eql (.tmp 10) (.c (.int .i64 2))⟩] (.tmp 11)⟩,
     ⟨(some 23), .sc 13 true (.tmp 12) [⟨(some 14), .mov (.tmp 0)⟩, ⟨(some 15), .nilchk (.tmp 14)⟩, ⟨(some 16), .fadr 0 (.tmp 15)⟩, ⟨(some 17), .load none (.tmp 16)⟩, ⟨(some 18), .iadr 3 (.tmp 17) (.c (.int .i64 0))⟩, ⟨(some 19), .fadr 1 (.tmp 18)⟩, ⟨(some 20), .load none (.tmp 19)⟩, ⟨(some 21), .mov (.tmp 1)⟩, ⟨(some 22), .bin .eql (.tmp 20) (.tmp 21)⟩] (.tmp 22)⟩,
     ⟨(some 4), .mov (.tmp 23)⟩])
  .ret))
def af128 : AFunc := ⟨24, [.tmp 4], af128b, false⟩

/-- (*cascade/lit.Reader).Take -/
def af129b : ACode :=
  (.seq
   (.reg [⟨(some 4), .mov (.c (.bool false))⟩])
  (.seq
   (.reg [⟨(some 6), .mov (.tmp 0)⟩,
     ⟨(some 7), .mov (.tmp 1)⟩,
     ⟨(some 8), .call false false (.c (.fn (.func 128) [] [])) [(.tmp 6), (.tmp 7)]⟩,
     ⟨(some 5), .mov (.tmp 8)⟩])
  (.seq
   (.seq
    (.reg [⟨(some 9), .mov (.tmp 5)⟩])
   (.cond (.tmp 9)
    (.reg [⟨(some 10), .mov (.tmp 0)⟩,
      ⟨(some 11), .call false false (.c (.fn (.func 208) [] [])) [(.tmp 10)]⟩])
    .skip))
  (.seq
   (.reg [⟨(some 12), .mov (.tmp 5)⟩,
     ⟨(some 4), .mov (.tmp 12)⟩])
  .ret))))
def af129 : AFunc := ⟨13, [.tmp 4], af129b, false⟩

/-- (*cascade/lit.Reader).Must -/
def af130b : ACode :=
  (.seq
   (.reg [⟨(some 4), .mov (.tmp 0)⟩,
     ⟨(some 5), .mov (.tmp 1)⟩,
     ⟨(some 6), .call false false (.c (.fn (.func 129) [] [])) [(.tmp 4), (.tmp 5)]⟩,
     ⟨(some 7), .un .not (.tmp 6)⟩])
  (.cond (.tmp 7)
   (.reg [⟨(some 8), .mov (.tmp 0)⟩,
     ⟨(some 9), .call false false (.c (.fn (.func 202) [] [])) [(.tmp 8)]⟩])
   .skip))
def af130 : AFunc := ⟨10, [], af130b, false⟩

/-- (*cascade/lit.Reader).Name -/
def af131b : ACode :=
  (.seq
   (.reg [⟨(some 2), .mov (.c (.str []))⟩])
  (.seq
   (.seq
    (.reg [⟨(some 3), .mov (.tmp 0)⟩,
      ⟨(some 4), .call false false (.c (.fn (.func 207) [] [])) [(.tmp 3)]⟩,
      ⟨(some 5), .bin .neq (.tmp 4) (.c (.int .i64 2))⟩])
   (.cond (.tmp 5)
    (.seq
     (.reg [⟨(some 6), .mov (.tmp 0)⟩,
       ⟨(some 7), .call false false (.c (.fn (.func 202) [] [])) [(.tmp 6)]⟩])
    (.seq
     (.reg [⟨(some 2), .mov (.c (.str []))⟩])
    .ret))
    .skip))
  (.seq
   (.reg [⟨(some 8), .mov (.tmp 0)⟩,
     ⟨(some 9), .call false false (.c (.fn (.func 208) [] [])) [(.tmp 8)]⟩,
     ⟨(some 10), .fld 1 none (.tmp 9)⟩,
     ⟨(some 2), .mov (.tmp 10)⟩])
  .ret)))
def af131 : AFunc := ⟨11, [.tmp 2], af131b, false⟩

/-- (*cascade/lit.Reader).Fail -/
def af135b : ACode :=
  (.seq
   (.reg [⟨(some 6), .mov (.tmp 0)⟩,
     ⟨(some 7), .nilchk (.tmp 6)⟩,
     ⟨(some 8), .fadr 2 (.tmp 7)⟩,
     ⟨(some 9), .fadr 0 (.tmp 8)⟩,
     ⟨(some 10), .load none (.tmp 9)⟩,
     ⟨(some 11), .bin .eql (.tmp 10) (.c (.int .i64 0))⟩,
     ⟨(some 15), .sc 12 true (.tmp 11) [⟨(some 13), .mov (.tmp 2)⟩, ⟨(some 14), .bin .neq (.tmp 13) (.c (.int .i64 0))⟩] (.tmp 14)⟩])
  (.cond (.tmp 15)
   (.reg [⟨(some 16), .mov (.tmp 0)⟩,
     ⟨(some 17), .mov (.tmp 2)⟩,
     ⟨(some 18), .mov (.tmp 1)⟩,
     ⟨(some 19), .build [(.int .i64 0), (.int .i64 0)] [(0, 1, (.tmp 17)), (1, 1, (.tmp 18))]⟩,
     ⟨(some 20), .nilchk (.tmp 16)⟩,
     ⟨(some 21), .fadr 2 (.tmp 20)⟩,
     ⟨none, .store 2 (.tmp 21) (.tmp 19)⟩])
   .skip))
def af135 : AFunc := ⟨22, [], af135b, false⟩

/-- (*strings.Builder).copyCheck -/
def af147b : ACode :=
  (.seq
   (.reg [⟨(some 2), .mov (.tmp 0)⟩,
     ⟨(some 3), .nilchk (.tmp 2)⟩,
     ⟨(some 4), .fadr 0 (.tmp 3)⟩,
     ⟨(some 5), .load none (.tmp 4)⟩,
     ⟨(some 6), .eqp false (.tmp 5) (.c .pnil)⟩])
  (.cond (.tmp 6)
   (.reg [⟨(some 7), .mov (.tmp 0)⟩,
     ⟨(some 8), .mov (.tmp 0)⟩,
     ⟨(some 9), .pu (.tmp 8)⟩,
     ⟨(some 10), .call false false (.c (.fn (.func 227) [] [])) [(.tmp 9)]⟩,
     ⟨(some 11), .up 128 2 (.tmp 10)⟩,
     ⟨(some 12), .nilchk (.tmp 7)⟩,
     ⟨(some 13), .fadr 0 (.tmp 12)⟩,
     ⟨none, .store 1 (.tmp 13) (.tmp 11)⟩])
   (.seq
    (.reg [⟨(some 14), .mov (.tmp 0)⟩,
      ⟨(some 15), .nilchk (.tmp 14)⟩,
      ⟨(some 16), .fadr 0 (.tmp 15)⟩,
      ⟨(some 17), .load none (.tmp 16)⟩,
      ⟨(some 18), .mov (.tmp 0)⟩,
      ⟨(some 19), .eqp true (.tmp 17) (.tmp 18)⟩])
   (.cond (.tmp 19)
    .halt
    .skip))))
def af147 : AFunc := ⟨20, [], af147b, true⟩

/-- cascade/text.Bad -/
def af172l0 : ACode :=
  (.seq
      (.reg [⟨(some 9), .nxt (.tmp 8)⟩,
        ⟨(some 10), .ext (.tmp 9) 0⟩])
     (.seq
      (.cond (.tmp 10)
       .skip
       (.exit 0))
     (.blk 1
      (.seq
       (.reg [⟨(some 11), .ext (.tmp 9) 1⟩,
         ⟨(some 12), .ext (.tmp 9) 2⟩,
         ⟨(some 3), .mov (.tmp 11)⟩,
         ⟨(some 4), .mov (.tmp 12)⟩])
      (.seq
       (.seq
        (.reg [⟨(some 13), .mov (.tmp 4)⟩,
          ⟨(some 14), .bin .neq (.tmp 13) (.c (.int .i32 65533))⟩])
       (.cond (.tmp 14)
        (.exit 1)
        .skip))
      (.seq
       (.reg [⟨(some 16), .mov (.tmp 0)⟩,
         ⟨(some 17), .mov (.tmp 3)⟩,
         ⟨(some 18), .slcS (.tmp 16) (some (.tmp 17)) none⟩,
         ⟨(some 19), .call false false (.c (.fn (.func 240) [] [])) [(.tmp 18)]⟩,
         ⟨(some 15), .mov (.tmp 19)⟩,
         ⟨(some 20), .ext (.tmp 15) 0⟩,
         ⟨(some 21), .ext (.tmp 15) 1⟩,
         ⟨(some 5), .mov (.tmp 20)⟩,
         ⟨(some 6), .mov (.tmp 21)⟩])
      (.seq
       (.reg [⟨(some 22), .mov (.tmp 6)⟩,
         ⟨(some 23), .bin .eql (.tmp 22) (.c (.int .i64 1))⟩])
      (.cond (.tmp 23)
       (.seq
        (.reg [⟨(some 24), .mov (.tmp 3)⟩,
          ⟨(some 2), .mov (.tmp 24)⟩])
       .ret)
       .skip))))))))
def af172b : ACode :=
  (.seq
   (.reg [⟨(some 2), .mov (.c (.int .i64 0))⟩])
  (.seq
   (.seq
    (.reg [⟨(some 7), .mov (.tmp 0)⟩,
      ⟨(some 8), .rng (.tmp 7)⟩])
   (.blk 0
    (.loop false af172l0)))
  (.seq
   (.reg [⟨(some 2), .mov (.c (.int .i64 (-1)))⟩])
  .ret)))
def af172 : AFunc := ⟨25, [.tmp 2], af172b, false⟩

/-- cascade/cascaderef01.Letter -/
def af198b : ACode :=
  (.seq
   (.reg [⟨(some 2), .mov (.c (.bool false))⟩])
  (.seq
   (.reg [⟨(some 3), .mov (.tmp 0)⟩,
     ⟨(some 4), .bin .geq (.tmp 3) (.c (.int .u8 97))⟩,
     ⟨(some 8), .sc 5 true (.tmp 4) [⟨(some 6), .mov (.tmp 0)⟩, ⟨(some 7), .bin .leq (.tmp 6) (.c (.int .u8 122))⟩] (.tmp 7)⟩,
     ⟨(some 16), .sc 9 false (.tmp 8) [⟨(some 10), .mov (.tmp 0)⟩, ⟨(some 11), .bin .geq (.tmp 10) (.c (.int .u8 65))⟩, ⟨(some 15), .sc 12 true (.tmp 11) [⟨(some 13), .mov (.tmp 0)⟩, ⟨(some 14), .bin .leq (.tmp 13) (.c (.int .u8 90))⟩] (.tmp 14)⟩] (.tmp 15)⟩,
     ⟨(some 20), .sc 17 false (.tmp 16) [⟨(some 18), .mov (.tmp 0)⟩, ⟨(some 19), .bin .eql (.tmp 18) (.c (.int .u8 95))⟩] (.tmp 19)⟩,
     ⟨(some 2), .mov (.tmp 20)⟩])
  .ret))
def af198 : AFunc := ⟨21, [.tmp 2], af198b, false⟩

/-- cascade/cascaderef01.Digit -/
def af199b : ACode :=
  (.seq
   (.reg [⟨(some 2), .mov (.c (.bool false))⟩])
  (.seq
   (.reg [⟨(some 3), .mov (.tmp 0)⟩,
     ⟨(some 4), .bin .geq (.tmp 3) (.c (.int .u8 48))⟩,
     ⟨(some 8), .sc 5 true (.tmp 4) [⟨(some 6), .mov (.tmp 0)⟩, ⟨(some 7), .bin .leq (.tmp 6) (.c (.int .u8 57))⟩] (.tmp 7)⟩,
     ⟨(some 2), .mov (.tmp 8)⟩])
  .ret))
def af199 : AFunc := ⟨9, [.tmp 2], af199b, false⟩

/-- cascade/text.letter -/
def af200b : ACode :=
  (.seq
   (.reg [⟨(some 2), .mov (.c (.bool false))⟩])
  (.seq
   (.reg [⟨(some 3), .mov (.tmp 0)⟩,
     ⟨(some 4), .bin .geq (.tmp 3) (.c (.int .i32 97))⟩,
     ⟨(some 8), .sc 5 true (.tmp 4) [⟨(some 6), .mov (.tmp 0)⟩, ⟨(some 7), .bin .leq (.tmp 6) (.c (.int .i32 122))⟩] (.tmp 7)⟩,
     ⟨(some 16), .sc 9 false (.tmp 8) [⟨(some 10), .mov (.tmp 0)⟩, ⟨(some 11), .bin .geq (.tmp 10) (.c (.int .i32 65))⟩, ⟨(some 15), .sc 12 true (.tmp 11) [⟨(some 13), .mov (.tmp 0)⟩, ⟨(some 14), .bin .leq (.tmp 13) (.c (.int .i32 90))⟩] (.tmp 14)⟩] (.tmp 15)⟩,
     ⟨(some 20), .sc 17 false (.tmp 16) [⟨(some 18), .mov (.tmp 0)⟩, ⟨(some 19), .bin .eql (.tmp 18) (.c (.int .i32 95))⟩] (.tmp 19)⟩,
     ⟨(some 2), .mov (.tmp 20)⟩])
  .ret))
def af200 : AFunc := ⟨21, [.tmp 2], af200b, false⟩

/-- (*cascade/lit.Reader).typ -/
def af201b : ACode :=
  (.seq
   (.reg [⟨(some 4), .new 90 [(.str []), (.str [])]⟩])
  (.seq
   (.reg [⟨(some 5), .new 90 [(.str []), (.str [])]⟩])
  (.seq
   (.seq
    (.reg [⟨(some 6), .mov (.tmp 0)⟩,
      ⟨(some 7), .call false false (.c (.fn (.func 128) [] [])) [(.tmp 6), (.c (.str [91]))]⟩,
      ⟨(some 11), .sc 8 true (.tmp 7) [⟨(some 9), .mov (.tmp 1)⟩, ⟨(some 10), .bin .lss (.tmp 9) (.c (.int .i64 1))⟩] (.tmp 10)⟩])
   (.cond (.tmp 11)
    (.seq
     (.reg [⟨(some 12), .mov (.tmp 0)⟩,
       ⟨(some 13), .mov (.tmp 0)⟩,
       ⟨(some 14), .call false false (.c (.fn (.func 54) [] [])) [(.tmp 13)]⟩,
       ⟨(some 15), .call false false (.c (.fn (.func 135) [] [])) [(.tmp 12), (.tmp 14), (.c (.int .i64 5))]⟩])
    (.seq
     (.reg [⟨(some 16), .load (some 2) (.tmp 5)⟩,
       ⟨none, .store 2 (.tmp 4) (.tmp 16)⟩])
    .ret))
    .skip))
  (.seq
   (.seq
    (.reg [⟨(some 17), .mov (.tmp 0)⟩,
      ⟨(some 18), .call false false (.c (.fn (.func 129) [] [])) [(.tmp 17), (.c (.str [91]))]⟩])
   (.cond (.tmp 18)
    (.seq
     (.reg [⟨(some 19), .mov (.tmp 0)⟩,
       ⟨(some 20), .mov (.tmp 1)⟩,
       ⟨(some 21), .bin .sub (.tmp 20) (.c (.int .i64 1))⟩,
       ⟨(some 22), .call false false (.c (.fn (.func 201) [] [])) [(.tmp 19), (.tmp 21)]⟩,
       ⟨none, .store 2 (.tmp 5) (.tmp 22)⟩])
    (.seq
     (.reg [⟨(some 23), .mov (.tmp 0)⟩,
       ⟨(some 24), .call false false (.c (.fn (.func 130) [] [])) [(.tmp 23), (.c (.str [93]))]⟩])
    (.reg [⟨(some 25), .fadr 1 (.tmp 5)⟩,
      ⟨(some 26), .load none (.tmp 25)⟩,
      ⟨(some 27), .bin .add (.tmp 26) (.c (.str [91]))⟩,
      ⟨(some 28), .fadr 1 (.tmp 5)⟩,
      ⟨none, .store 1 (.tmp 28) (.tmp 27)⟩])))
    (.reg [⟨(some 29), .mov (.tmp 0)⟩,
      ⟨(some 30), .call false false (.c (.fn (.func 131) [] [])) [(.tmp 29)]⟩,
      ⟨(some 31), .fadr 0 (.tmp 5)⟩,
      ⟨none, .store 1 (.tmp 31) (.tmp 30)⟩])))
  (.seq
   (.seq
    (.reg [⟨(some 32), .mov (.tmp 0)⟩,
      ⟨(some 33), .call false false (.c (.fn (.func 129) [] [])) [(.tmp 32), (.c (.str [33]))]⟩])
   (.cond (.tmp 33)
    (.reg [⟨(some 34), .fadr 1 (.tmp 5)⟩,
      ⟨(some 35), .load none (.tmp 34)⟩,
      ⟨(some 36), .bin .add (.tmp 35) (.c (.str [33]))⟩,
      ⟨(some 37), .fadr 1 (.tmp 5)⟩,
      ⟨none, .store 1 (.tmp 37) (.tmp 36)⟩])
    .skip))
  (.seq
   (.reg [⟨(some 38), .load (some 2) (.tmp 5)⟩,
     ⟨none, .store 2 (.tmp 4) (.tmp 38)⟩])
  .ret))))))
def af201 : AFunc := ⟨39, [.cell 4 (some 2)], af201b, false⟩

/-- (*cascade/lit.Reader).form -/
def af202b : ACode :=
  (.reg [⟨(some 2), .mov (.tmp 0)⟩,
    ⟨(some 3), .mov (.tmp 0)⟩,
    ⟨(some 4), .call false false (.c (.fn (.func 54) [] [])) [(.tmp 3)]⟩,
    ⟨(some 5), .call false false (.c (.fn (.func 135) [] [])) [(.tmp 2), (.tmp 4), (.c (.int .i64 4))]⟩])
def af202 : AFunc := ⟨6, [], af202b, false⟩

/-- (*cascade/token.lexer).skip -/
def af203l0 : ACode :=
  (.seq
     (.seq
      (.regD [] [⟨(some 3), .mov (.tmp 0)⟩,
        ⟨(some 4), .nilchk (.tmp 3)⟩,
        ⟨(some 5), .fadr 1 (.tmp 4)⟩,
        ⟨(some 6), .load none (.tmp 5)⟩,
        ⟨(some 7), .mov (.tmp 0)⟩,
        ⟨(some 8), .nilchk (.tmp 7)⟩,
        ⟨(some 9), .fadr 0 (.tmp 8)⟩,
        ⟨(some 10), .load none (.tmp 9)⟩,
        ⟨(some 11), .len 0 (.tmp 10)⟩,
        ⟨(some 12), .bin .lss (.tmp 6) (.tmp 11)⟩])
     (.cond (.tmp 12)
      .skip
      (.exit 0)))
    (.blk 1
     (.seq
      (.regD [] [⟨(some 13), .mov (.tmp 0)⟩,
        ⟨(some 14), .nilchk (.tmp 13)⟩,
        ⟨(some 15), .fadr 0 (.tmp 14)⟩,
        ⟨(some 16), .load none (.tmp 15)⟩,
        ⟨(some 17), .mov (.tmp 0)⟩,
        ⟨(some 18), .nilchk (.tmp 17)⟩,
        ⟨(some 19), .fadr 1 (.tmp 18)⟩,
        ⟨(some 20), .load none (.tmp 19)⟩,
        ⟨(some 21), .idx (.tmp 16) (.tmp 20)⟩,
        ⟨(some 2), .mov (.tmp 21)⟩])
     (.blk 2
      (.seq
       (.reg [⟨(some 23), .mov (.tmp 2)⟩,
         ⟨(some 24), .call false false (.c (.fn (.func 256) [] [])) [(.c (.str [32, 9, 10, 13, 44])), (.tmp 23)]⟩,
         ⟨(some 25), .bin .geq (.tmp 24) (.c (.int .i64 0))⟩,
         ⟨(some 22), .mov (.tmp 25)⟩])
      (.cond (.tmp 22)
       (.reg [⟨(some 26), .mov (.tmp 0)⟩,
         ⟨(some 27), .nilchk (.tmp 26)⟩,
         ⟨(some 28), .fadr 1 (.tmp 27)⟩,
         ⟨(some 29), .load none (.tmp 28)⟩,
         ⟨(some 30), .bin .add (.tmp 29) (.c (.int .i64 1))⟩,
         ⟨(some 31), .nilchk (.tmp 26)⟩,
         ⟨(some 32), .fadr 1 (.tmp 31)⟩,
         ⟨none, .store 1 (.tmp 32) (.tmp 30)⟩])
       (.seq
        (.reg [⟨(some 34), .mov (.tmp 2)⟩,
          ⟨(some 35), .bin .eql (.tmp 34) (.c (.int .u8 35))⟩,
          ⟨(some 33), .mov (.tmp 35)⟩])
       (.cond (.tmp 33)
        (.reg [⟨(some 36), .mov (.tmp 0)⟩,
          ⟨(some 37), .mov (.tmp 0)⟩,
          ⟨(some 38), .mov (.tmp 0)⟩,
          ⟨(some 39), .nilchk (.tmp 38)⟩,
          ⟨(some 40), .fadr 1 (.tmp 39)⟩,
          ⟨(some 41), .load none (.tmp 40)⟩,
          ⟨(some 42), .call false false (.c (.fn (.func 257) [] [])) [(.tmp 37), (.tmp 41), (.c (.fn (.func 258) [] []))]⟩,
          ⟨(some 43), .nilchk (.tmp 36)⟩,
          ⟨(some 44), .fadr 1 (.tmp 43)⟩,
          ⟨none, .store 1 (.tmp 44) (.tmp 42)⟩])
        .ret))))))))
def af203b : ACode :=
  (.blk 0
   (.loop false af203l0))
def af203 : AFunc := ⟨45, [], af203b, false⟩

/-- (*cascade/token.lexer).next -/
def af204b : ACode :=
  (.seq
   (.regD [] [⟨(some 5), .mov (.tmp 0)⟩,
     ⟨(some 6), .nilchk (.tmp 5)⟩,
     ⟨(some 7), .fadr 0 (.tmp 6)⟩,
     ⟨(some 8), .load none (.tmp 7)⟩,
     ⟨(some 9), .mov (.tmp 0)⟩,
     ⟨(some 10), .nilchk (.tmp 9)⟩,
     ⟨(some 11), .fadr 1 (.tmp 10)⟩,
     ⟨(some 12), .load none (.tmp 11)⟩,
     ⟨(some 13), .slcS (.tmp 8) (some (.tmp 12)) none⟩,
     ⟨(some 2), .mov (.tmp 13)⟩])
  (.seq
   (.reg [⟨(some 14), .mov (.tmp 2)⟩,
     ⟨(some 15), .idx (.tmp 14) (.c (.int .i64 0))⟩,
     ⟨(some 3), .mov (.tmp 15)⟩])
  (.blk 0
   (.seq
    (.reg [⟨(some 23), .mov (.tmp 0)⟩,
      ⟨(some 24), .nilchk (.tmp 23)⟩,
      ⟨(some 25), .fadr 2 (.tmp 24)⟩,
      ⟨(some 26), .load none (.tmp 25)⟩,
      ⟨(some 27), .len 1 (.tmp 26)⟩,
      ⟨(some 28), .bin .eql (.tmp 27) (.c (.int .i64 900))⟩,
      ⟨(some 22), .mov (.tmp 28)⟩])
   (.cond (.tmp 22)
    (.reg [⟨(some 29), .mov (.tmp 0)⟩,
      ⟨(some 30), .mov (.tmp 0)⟩,
      ⟨(some 31), .nilchk (.tmp 30)⟩,
      ⟨(some 32), .fadr 1 (.tmp 31)⟩,
      ⟨(some 33), .load none (.tmp 32)⟩,
      ⟨(some 34), .call false false (.c (.fn (.func 259) [] [])) [(.tmp 29), (.tmp 33), (.c (.int .i64 6))]⟩])
    (.seq
     (.reg [⟨(some 36), .mov (.tmp 3)⟩,
       ⟨(some 37), .call false false (.c (.fn (.func 256) [] [])) [(.c (.str [33, 36, 38, 40, 41, 58, 61, 64, 91, 93, 123, 124, 125])), (.tmp 36)]⟩,
       ⟨(some 38), .bin .geq (.tmp 37) (.c (.int .i64 0))⟩,
       ⟨(some 35), .mov (.tmp 38)⟩])
    (.cond (.tmp 35)
     (.regD [] [⟨(some 39), .mov (.tmp 0)⟩,
       ⟨(some 40), .mov (.tmp 2)⟩,
       ⟨(some 41), .slcS (.tmp 40) none (some (.c (.int .i64 1)))⟩,
       ⟨(some 42), .mov (.tmp 0)⟩,
       ⟨(some 43), .nilchk (.tmp 42)⟩,
       ⟨(some 44), .fadr 1 (.tmp 43)⟩,
       ⟨(some 45), .load none (.tmp 44)⟩,
       ⟨(some 46), .bin .add (.tmp 45) (.c (.int .i64 1))⟩,
       ⟨(some 47), .call false false (.c (.fn (.func 260) [] [])) [(.tmp 39), (.c (.int .i64 1)), (.tmp 41), (.tmp 46)]⟩])
     (.seq
      (.reg [⟨(some 49), .mov (.tmp 2)⟩,
        ⟨(some 50), .call false false (.c (.fn (.func 261) [] [])) [(.tmp 49), (.c (.str [46, 46, 46]))]⟩,
        ⟨(some 48), .mov (.tmp 50)⟩])
     (.cond (.tmp 48)
      (.reg [⟨(some 51), .mov (.tmp 0)⟩,
        ⟨(some 52), .mov (.tmp 0)⟩,
        ⟨(some 53), .nilchk (.tmp 52)⟩,
        ⟨(some 54), .fadr 1 (.tmp 53)⟩,
        ⟨(some 55), .load none (.tmp 54)⟩,
        ⟨(some 56), .bin .add (.tmp 55) (.c (.int .i64 3))⟩,
        ⟨(some 57), .call false false (.c (.fn (.func 260) [] [])) [(.tmp 51), (.c (.int .i64 1)), (.c (.str [46, 46, 46])), (.tmp 56)]⟩])
      (.seq
       (.reg [⟨(some 59), .mov (.tmp 3)⟩,
         ⟨(some 60), .call false false (.c (.fn (.func 262) [] [])) [(.tmp 59)]⟩,
         ⟨(some 58), .mov (.tmp 60)⟩])
      (.cond (.tmp 58)
       (.seq
        (.reg [⟨(some 61), .mov (.tmp 0)⟩,
          ⟨(some 62), .mov (.tmp 0)⟩,
          ⟨(some 63), .nilchk (.tmp 62)⟩,
          ⟨(some 64), .fadr 1 (.tmp 63)⟩,
          ⟨(some 65), .load none (.tmp 64)⟩,
          ⟨(some 66), .call false false (.c (.fn (.func 257) [] [])) [(.tmp 61), (.tmp 65), (.c (.fn (.func 263) [] []))]⟩,
          ⟨(some 4), .mov (.tmp 66)⟩])
       (.regD [] [⟨(some 67), .mov (.tmp 0)⟩,
         ⟨(some 68), .mov (.tmp 0)⟩,
         ⟨(some 69), .nilchk (.tmp 68)⟩,
         ⟨(some 70), .fadr 0 (.tmp 69)⟩,
         ⟨(some 71), .load none (.tmp 70)⟩,
         ⟨(some 72), .mov (.tmp 0)⟩,
         ⟨(some 73), .nilchk (.tmp 72)⟩,
         ⟨(some 74), .fadr 1 (.tmp 73)⟩,
         ⟨(some 75), .load none (.tmp 74)⟩,
         ⟨(some 76), .mov (.tmp 4)⟩,
         ⟨(some 77), .slcS (.tmp 71) (some (.tmp 75)) (some (.tmp 76))⟩,
         ⟨(some 78), .mov (.tmp 4)⟩,
         ⟨(some 79), .call false false (.c (.fn (.func 260) [] [])) [(.tmp 67), (.c (.int .i64 2)), (.tmp 77), (.tmp 78)]⟩]))
       (.seq
        (.reg [⟨(some 81), .mov (.tmp 3)⟩,
          ⟨(some 82), .call false false (.c (.fn (.func 264) [] [])) [(.tmp 81)]⟩,
          ⟨(some 86), .sc 83 false (.tmp 82) [⟨(some 84), .mov (.tmp 3)⟩, ⟨(some 85), .bin .eql (.tmp 84) (.c (.int .u8 45))⟩] (.tmp 85)⟩,
          ⟨(some 80), .mov (.tmp 86)⟩])
       (.cond (.tmp 80)
        (.reg [⟨(some 87), .mov (.tmp 0)⟩,
          ⟨(some 88), .call false false (.c (.fn (.func 265) [] [])) [(.tmp 87)]⟩])
        (.seq
         (.reg [⟨(some 90), .mov (.tmp 2)⟩,
           ⟨(some 91), .call false false (.c (.fn (.func 261) [] [])) [(.tmp 90), (.c (.str [34, 34, 34]))]⟩,
           ⟨(some 89), .mov (.tmp 91)⟩])
        (.cond (.tmp 89)
         (.reg [⟨(some 92), .mov (.tmp 0)⟩,
           ⟨(some 93), .call false false (.c (.fn (.func 266) [] [])) [(.tmp 92)]⟩])
         (.seq
          (.reg [⟨(some 95), .mov (.tmp 3)⟩,
            ⟨(some 96), .bin .eql (.tmp 95) (.c (.int .u8 34))⟩,
            ⟨(some 94), .mov (.tmp 96)⟩])
         (.cond (.tmp 94)
          (.reg [⟨(some 97), .mov (.tmp 0)⟩,
            ⟨(some 98), .call false false (.c (.fn (.func 267) [] [])) [(.tmp 97)]⟩])
          (.reg [⟨(some 16), .mov (.tmp 0)⟩,
            ⟨(some 17), .mov (.tmp 0)⟩,
            ⟨(some 18), .nilchk (.tmp 17)⟩,
            ⟨(some 19), .fadr 1 (.tmp 18)⟩,
            ⟨(some 20), .load none (.tmp 19)⟩,
            ⟨(some 21), .call false false (.c (.fn (.func 259) [] [])) [(.tmp 16), (.tmp 20), (.c (.int .i64 3))]⟩]))))))))))))))))))
def af204 : AFunc := ⟨99, [], af204b, false⟩

/-- (*cascade/lit.Reader).kind -/
def af207b : ACode :=
  (.seq
   (.reg [⟨(some 2), .mov (.c (.int .i64 0))⟩])
  (.seq
   (.seq
    (.reg [⟨(some 3), .mov (.tmp 0)⟩,
      ⟨(some 4), .call false false (.c (.fn (.func 56) [] [])) [(.tmp 3)]⟩])
   (.cond (.tmp 4)
    (.seq
     (.reg [⟨(some 2), .mov (.c (.int .i64 0))⟩])
    .ret)
    .skip))
  (.seq
   (.reg [⟨(some 5), .mov (.tmp 0)⟩,
     ⟨(some 6), .nilchk (.tmp 5)⟩,
     ⟨(some 7), .fadr 0 (.tmp 6)⟩,
     ⟨(some 8), .load none (.tmp 7)⟩,
     ⟨(some 9), .iadr 3 (.tmp 8) (.c (.int .i64 0))⟩,
     ⟨(some 10), .fadr 0 (.tmp 9)⟩,
     ⟨(some 11), .load none (.tmp 10)⟩,
     ⟨(some 2), .mov (.tmp 11)⟩])
  .ret)))
def af207 : AFunc := ⟨12, [.tmp 2], af207b, false⟩

/-- (*cascade/lit.Reader).next -/
def af208b : ACode :=
  (.seq
   (.reg [⟨(some 2), .new 195 [(.int .i64 0), (.str []), (.int .i64 0)]⟩])
  (.seq
   (.seq
    (.reg [⟨(some 4), .mov (.tmp 0)⟩,
      ⟨(some 5), .call false false (.c (.fn (.func 56) [] [])) [(.tmp 4)]⟩])
   (.cond (.tmp 5)
    (.seq
     (.reg [⟨(some 6), .mov (.tmp 0)⟩,
       ⟨(some 7), .call false false (.c (.fn (.func 202) [] [])) [(.tmp 6)]⟩])
    (.seq
     (.reg [⟨(some 8), .build [(.int .i64 0), (.str []), (.int .i64 0)] []⟩,
       ⟨none, .store 3 (.tmp 2) (.tmp 8)⟩])
    .ret))
    .skip))
  (.seq
   (.reg [⟨(some 9), .mov (.tmp 0)⟩,
     ⟨(some 10), .nilchk (.tmp 9)⟩,
     ⟨(some 11), .fadr 0 (.tmp 10)⟩,
     ⟨(some 12), .load none (.tmp 11)⟩,
     ⟨(some 13), .iadr 3 (.tmp 12) (.c (.int .i64 0))⟩,
     ⟨(some 14), .load (some 3) (.tmp 13)⟩,
     ⟨(some 3), .new 195 [(.int .i64 0), (.str []), (.int .i64 0)]⟩,
     ⟨none, .store 3 (.tmp 3) (.tmp 14)⟩])
  (.seq
   (.reg [⟨(some 15), .mov (.tmp 0)⟩,
     ⟨(some 16), .mov (.tmp 0)⟩,
     ⟨(some 17), .nilchk (.tmp 16)⟩,
     ⟨(some 18), .fadr 0 (.tmp 17)⟩,
     ⟨(some 19), .load none (.tmp 18)⟩,
     ⟨(some 20), .slc 3 (.tmp 19) (some (.c (.int .i64 1))) none⟩,
     ⟨(some 21), .nilchk (.tmp 15)⟩,
     ⟨(some 22), .fadr 0 (.tmp 21)⟩,
     ⟨none, .store 1 (.tmp 22) (.tmp 20)⟩])
  (.seq
   (.reg [⟨(some 23), .load (some 3) (.tmp 3)⟩,
     ⟨none, .store 3 (.tmp 2) (.tmp 23)⟩])
  .ret)))))
def af208 : AFunc := ⟨24, [.cell 2 (some 3)], af208b, false⟩

/-- (*cascade/token.lexer).while -/
def af257l0 : ACode :=
  (.seq
      (.seq
       (.reg [⟨(some 7), .mov (.tmp 1)⟩,
         ⟨(some 8), .mov (.tmp 0)⟩,
         ⟨(some 9), .nilchk (.tmp 8)⟩,
         ⟨(some 10), .fadr 0 (.tmp 9)⟩,
         ⟨(some 11), .load none (.tmp 10)⟩,
         ⟨(some 12), .len 0 (.tmp 11)⟩,
         ⟨(some 13), .bin .lss (.tmp 7) (.tmp 12)⟩,
         ⟨(some 23), .sc 14 true (.tmp 13) [⟨(some 15), .mov (.tmp 2)⟩, ⟨(some 16), .mov (.tmp 0)⟩, ⟨(some 17), .nilchk (.tmp 16)⟩, ⟨(some 18), .fadr 0 (.tmp 17)⟩, ⟨(some 19), .load none (.tmp 18)⟩, ⟨(some 20), .mov (.tmp 1)⟩, ⟨(some 21), .idx (.tmp 19) (.tmp 20)⟩, ⟨(some 22), .call false false (.tmp 15) [(.tmp 21)]⟩] (.tmp 22)⟩])
      (.cond (.tmp 23)
       .skip
       (.exit 0)))
     (.blk 1
      (.reg [⟨(some 24), .mov (.tmp 1)⟩,
        ⟨(some 25), .bin .add (.tmp 24) (.c (.int .i64 1))⟩,
        ⟨(some 1), .mov (.tmp 25)⟩])))
def af257b : ACode :=
  (.seq
   (.reg [⟨(some 6), .mov (.c (.int .i64 0))⟩])
  (.seq
   (.blk 0
    (.loop false af257l0))
  (.seq
   (.reg [⟨(some 26), .mov (.tmp 1)⟩,
     ⟨(some 6), .mov (.tmp 26)⟩])
  .ret)))
def af257 : AFunc := ⟨27, [.tmp 6], af257b, false⟩

/-- (*cascade/token.lexer).skip$1 -/
def af258b : ACode :=
  (.seq
   (.reg [⟨(some 2), .mov (.c (.bool false))⟩])
  (.seq
   (.reg [⟨(some 3), .mov (.tmp 0)⟩,
     ⟨(some 4), .bin .neq (.tmp 3) (.c (.int .u8 10))⟩,
     ⟨(some 8), .sc 5 true (.tmp 4) [⟨(some 6), .mov (.tmp 0)⟩, ⟨(some 7), .bin .neq (.tmp 6) (.c (.int .u8 13))⟩] (.tmp 7)⟩,
     ⟨(some 2), .mov (.tmp 8)⟩])
  .ret))
def af258 : AFunc := ⟨9, [.tmp 2], af258b, false⟩

/-- (*cascade/token.lexer).fail -/
def af259b : ACode :=
  (.seq
   (.reg [⟨(some 6), .mov (.tmp 0)⟩,
     ⟨(some 7), .nilchk (.tmp 6)⟩,
     ⟨(some 8), .fadr 3 (.tmp 7)⟩,
     ⟨(some 9), .fadr 0 (.tmp 8)⟩,
     ⟨(some 10), .load none (.tmp 9)⟩,
     ⟨(some 11), .bin .eql (.tmp 10) (.c (.int .i64 0))⟩])
  (.cond (.tmp 11)
   (.reg [⟨(some 12), .mov (.tmp 0)⟩,
     ⟨(some 13), .mov (.tmp 2)⟩,
     ⟨(some 14), .mov (.tmp 1)⟩,
     ⟨(some 15), .build [(.int .i64 0), (.int .i64 0)] [(0, 1, (.tmp 13)), (1, 1, (.tmp 14))]⟩,
     ⟨(some 16), .nilchk (.tmp 12)⟩,
     ⟨(some 17), .fadr 3 (.tmp 16)⟩,
     ⟨none, .store 2 (.tmp 17) (.tmp 15)⟩])
   .skip))
def af259 : AFunc := ⟨18, [], af259b, false⟩

/-- (*cascade/token.lexer).take -/
def af260b : ACode :=
  (.seq
   (.regD [] [⟨(some 8), .mov (.tmp 0)⟩,
     ⟨(some 9), .mov (.tmp 0)⟩,
     ⟨(some 10), .nilchk (.tmp 9)⟩,
     ⟨(some 11), .fadr 2 (.tmp 10)⟩,
     ⟨(some 12), .load none (.tmp 11)⟩,
     ⟨(some 13), .mov (.tmp 1)⟩,
     ⟨(some 14), .mov (.tmp 2)⟩,
     ⟨(some 15), .mov (.tmp 0)⟩,
     ⟨(some 16), .nilchk (.tmp 15)⟩,
     ⟨(some 17), .fadr 1 (.tmp 16)⟩,
     ⟨(some 18), .load none (.tmp 17)⟩,
     ⟨(some 19), .build [(.int .i64 0), (.str []), (.int .i64 0)] [(0, 1, (.tmp 13)), (1, 1, (.tmp 14)), (2, 1, (.tmp 18))]⟩,
     ⟨(some 20), .bsl 3 (.agg [(.int .i64 0), (.str []), (.int .i64 0)]) 1 [(0, (.tmp 19))]⟩,
     ⟨(some 21), .app false 3 (32, 195) (.tmp 12) (.tmp 20)⟩,
     ⟨(some 22), .nilchk (.tmp 8)⟩,
     ⟨(some 23), .fadr 2 (.tmp 22)⟩,
     ⟨none, .store 1 (.tmp 23) (.tmp 21)⟩])
  (.reg [⟨(some 24), .mov (.tmp 0)⟩,
    ⟨(some 25), .mov (.tmp 3)⟩,
    ⟨(some 26), .nilchk (.tmp 24)⟩,
    ⟨(some 27), .fadr 1 (.tmp 26)⟩,
    ⟨none, .store 1 (.tmp 27) (.tmp 25)⟩]))
def af260 : AFunc := ⟨28, [], af260b, false⟩

/-- strings.HasPrefix -/
def af261b : ACode :=
  (.seq
   (.reg [⟨(some 4), .mov (.c (.bool false))⟩])
  (.seq
   (.reg [⟨(some 5), .mov (.tmp 0)⟩,
     ⟨(some 6), .mov (.tmp 1)⟩,
     ⟨(some 7), .call false false (.c (.fn (.func 300) [] [])) [(.tmp 5), (.tmp 6)]⟩,
     ⟨(some 4), .mov (.tmp 7)⟩])
  .ret))
def af261 : AFunc := ⟨8, [.tmp 4], af261b, false⟩

/-- cascade/token.letter -/
def af262b : ACode :=
  (.seq
   (.reg [⟨(some 2), .mov (.c (.bool false))⟩])
  (.seq
   (.reg [⟨(some 3), .mov (.tmp 0)⟩,
     ⟨(some 4), .bin .geq (.tmp 3) (.c (.int .u8 97))⟩,
     ⟨(some 8), .sc 5 true (.tmp 4) [⟨(some 6), .mov (.tmp 0)⟩, ⟨(some 7), .bin .leq (.tmp 6) (.c (.int .u8 122))⟩] (.tmp 7)⟩,
     ⟨(some 16), .sc 9 false (.tmp 8) [⟨(some 10), .mov (.tmp 0)⟩, ⟨(some 11), .bin .geq (.tmp 10) (.c (.int .u8 65))⟩, ⟨(some 15), .sc 12 true (.tmp 11) [⟨(some 13), .mov (.tmp 0)⟩, ⟨(some 14), .bin .leq (.tmp 13) (.c (.int .u8 90))⟩] (.tmp 14)⟩] (.tmp 15)⟩,
     ⟨(some 20), .sc 17 false (.tmp 16) [⟨(some 18), .mov (.tmp 0)⟩, ⟨(some 19), .bin .eql (.tmp 18) (.c (.int .u8 95))⟩] (.tmp 19)⟩,
     ⟨(some 2), .mov (.tmp 20)⟩])
  .ret))
def af262 : AFunc := ⟨21, [.tmp 2], af262b, false⟩

/-- (*cascade/token.lexer).next$1 -/
def af263b : ACode :=
  (.seq
   (.reg [⟨(some 2), .mov (.c (.bool false))⟩])
  (.seq
   (.reg [⟨(some 3), .mov (.tmp 0)⟩,
     ⟨(some 4), .call false false (.c (.fn (.func 262) [] [])) [(.tmp 3)]⟩,
     ⟨(some 8), .sc 5 false (.tmp 4) [⟨(some 6), .mov (.tmp 0)⟩, ⟨(some 7), .call false false (.c (.fn (.func 264) [] [])) [(.tmp 6)]⟩] (.tmp 7)⟩,
     ⟨(some 2), .mov (.tmp 8)⟩])
  .ret))
def af263 : AFunc := ⟨9, [.tmp 2], af263b, false⟩

/-- cascade/token.digit -/
def af264b : ACode :=
  (.seq
   (.reg [⟨(some 2), .mov (.c (.bool false))⟩])
  (.seq
   (.reg [⟨(some 3), .mov (.tmp 0)⟩,
     ⟨(some 4), .bin .geq (.tmp 3) (.c (.int .u8 48))⟩,
     ⟨(some 8), .sc 5 true (.tmp 4) [⟨(some 6), .mov (.tmp 0)⟩, ⟨(some 7), .bin .leq (.tmp 6) (.c (.int .u8 57))⟩] (.tmp 7)⟩,
     ⟨(some 2), .mov (.tmp 8)⟩])
  .ret))
def af264 : AFunc := ⟨9, [.tmp 2], af264b, false⟩

/-- (*cascade/token.lexer).number -/
def af265b : ACode :=
  (.seq
   (.reg [⟨(some 7), .mov (.tmp 0)⟩,
     ⟨(some 8), .nilchk (.tmp 7)⟩,
     ⟨(some 9), .fadr 1 (.tmp 8)⟩,
     ⟨(some 10), .load none (.tmp 9)⟩,
     ⟨(some 2), .mov (.tmp 10)⟩])
  (.seq
   (.seq
    (.reg [⟨(some 11), .mov (.tmp 0)⟩,
      ⟨(some 12), .nilchk (.tmp 11)⟩,
      ⟨(some 13), .fadr 0 (.tmp 12)⟩,
      ⟨(some 14), .load none (.tmp 13)⟩,
      ⟨(some 15), .mov (.tmp 2)⟩,
      ⟨(some 16), .idx (.tmp 14) (.tmp 15)⟩,
      ⟨(some 17), .bin .eql (.tmp 16) (.c (.int .u8 45))⟩])
   (.cond (.tmp 17)
    (.reg [⟨(some 18), .mov (.tmp 2)⟩,
      ⟨(some 19), .bin .add (.tmp 18) (.c (.int .i64 1))⟩,
      ⟨(some 2), .mov (.tmp 19)⟩])
    .skip))
  (.seq
   (.reg [⟨(some 20), .mov (.tmp 0)⟩,
     ⟨(some 21), .mov (.tmp 2)⟩,
     ⟨(some 22), .call false false (.c (.fn (.func 257) [] [])) [(.tmp 20), (.tmp 21), (.c (.fn (.func 264) [] []))]⟩,
     ⟨(some 3), .mov (.tmp 22)⟩])
  (.seq
   (.seq
    (.reg [⟨(some 23), .mov (.tmp 2)⟩,
      ⟨(some 24), .mov (.tmp 0)⟩,
      ⟨(some 25), .nilchk (.tmp 24)⟩,
      ⟨(some 26), .fadr 0 (.tmp 25)⟩,
      ⟨(some 27), .load none (.tmp 26)⟩,
      ⟨(some 28), .len 0 (.tmp 27)⟩,
      ⟨(some 29), .bin .lss (.tmp 23) (.tmp 28)⟩,
      ⟨(some 38), .sc 30 true (.tmp 29) [⟨(some 31), .mov (.tmp 0)⟩, ⟨(some 32), .nilchk (.tmp 31)⟩, ⟨(some 33), .fadr 0 (.tmp 32)⟩, ⟨(some 34), .load none (.tmp 33)⟩, ⟨(some 35), .mov (.tmp 2)⟩, ⟨(some 36), .idx (.tmp 34) (.tmp 35)⟩, ⟨(some 37), .bin .eql (.tmp 36) (.c (.int .u8 48))⟩] (.tmp 37)⟩])
   (.cond (.tmp 38)
    (.reg [⟨(some 39), .mov (.tmp 2)⟩,
      ⟨(some 40), .bin .add (.tmp 39) (.c (.int .i64 1))⟩,
      ⟨(some 3), .mov (.tmp 40)⟩])
    .skip))
  (.seq
   (.regD [] [⟨(some 41), .mov (.tmp 0)⟩,
     ⟨(some 42), .nilchk (.tmp 41)⟩,
     ⟨(some 43), .fadr 0 (.tmp 42)⟩,
     ⟨(some 44), .load none (.tmp 43)⟩,
     ⟨(some 45), .mov (.tmp 0)⟩,
     ⟨(some 46), .nilchk (.tmp 45)⟩,
     ⟨(some 47), .fadr 1 (.tmp 46)⟩,
     ⟨(some 48), .load none (.tmp 47)⟩,
     ⟨(some 49), .mov (.tmp 3)⟩,
     ⟨(some 50), .slcS (.tmp 44) (some (.tmp 48)) (some (.tmp 49))⟩,
     ⟨(some 4), .mov (.tmp 50)⟩])
  (.seq
   (.reg [⟨(some 52), .mov (.tmp 4)⟩,
     ⟨(some 53), .call false false (.c (.fn (.func 273) [] [])) [(.tmp 52), (.c (.int .i64 10)), (.c (.int .i64 64))]⟩,
     ⟨(some 51), .mov (.tmp 53)⟩,
     ⟨(some 54), .ext (.tmp 51) 0⟩,
     ⟨(some 55), .ext (.tmp 51) 1⟩,
     ⟨(some 5), .mov (.tmp 54)⟩,
     ⟨(some 6), .mov (.tmp 55)⟩])
  (.seq
   (.blk 0
    (.seq
     (.seq
      (.reg [⟨(some 57), .mov (.tmp 3)⟩,
        ⟨(some 58), .mov (.tmp 2)⟩,
        ⟨(some 59), .bin .eql (.tmp 57) (.tmp 58)⟩,
        ⟨(some 56), .mov (.tmp 59)⟩])
     (.cond (.tmp 56)
      .skip
      (.seq
       (.reg [⟨(some 60), .mov (.tmp 4)⟩,
         ⟨(some 61), .bin .eql (.tmp 60) (.c (.str [45, 48]))⟩,
         ⟨(some 56), .mov (.tmp 61)⟩])
      (.cond (.tmp 56)
       .skip
       (.seq
        (.reg [⟨(some 62), .mov (.tmp 4)⟩,
          ⟨(some 63), .len 0 (.tmp 62)⟩,
          ⟨(some 64), .bin .gtr (.tmp 63) (.c (.int .i64 17))⟩,
          ⟨(some 56), .mov (.tmp 64)⟩])
       (.cond (.tmp 56)
        .skip
        (.seq
         (.reg [⟨(some 65), .mov (.tmp 6)⟩,
           ⟨(some 66), .eqn false true (.tmp 65)⟩,
           ⟨(some 56), .mov (.tmp 66)⟩])
        (.cond (.tmp 56)
         .skip
         (.seq
          (.reg [⟨(some 67), .mov (.tmp 5)⟩,
            ⟨(some 68), .bin .lss (.tmp 67) (.c (.int .i64 (-9007199254740991)))⟩,
            ⟨(some 56), .mov (.tmp 68)⟩])
         (.cond (.tmp 56)
          .skip
          (.reg [⟨(some 69), .mov (.tmp 5)⟩,
            ⟨(some 70), .bin .gtr (.tmp 69) (.c (.int .i64 9007199254740991))⟩,
            ⟨(some 56), .mov (.tmp 70)⟩])))))))))))
    (.cond (.tmp 56)
     (.reg [⟨(some 71), .mov (.tmp 0)⟩,
       ⟨(some 72), .mov (.tmp 0)⟩,
       ⟨(some 73), .nilchk (.tmp 72)⟩,
       ⟨(some 74), .fadr 1 (.tmp 73)⟩,
       ⟨(some 75), .load none (.tmp 74)⟩,
       ⟨(some 76), .call false false (.c (.fn (.func 259) [] [])) [(.tmp 71), (.tmp 75), (.c (.int .i64 3))]⟩])
     (.seq
      (.reg [⟨(some 78), .mov (.tmp 3)⟩,
        ⟨(some 79), .mov (.tmp 0)⟩,
        ⟨(some 80), .nilchk (.tmp 79)⟩,
        ⟨(some 81), .fadr 0 (.tmp 80)⟩,
        ⟨(some 82), .load none (.tmp 81)⟩,
        ⟨(some 83), .len 0 (.tmp 82)⟩,
        ⟨(some 84), .bin .lss (.tmp 78) (.tmp 83)⟩,
        ⟨(some 111), .sc 85 true (.tmp 84) [⟨(some 86), .mov (.tmp 0)⟩, ⟨(some 87), .nilchk (.tmp 86)⟩, ⟨(some 88), .fadr 0 (.tmp 87)⟩, ⟨(some 89), .load none (.tmp 88)⟩, ⟨(some 90), .mov (.tmp 3)⟩, ⟨(some 91), .idx (.tmp 89) (.tmp 90)⟩, ⟨(some 92), .call false false (.c (.fn (.func 262) [] [])) [(.tmp 91)]⟩, ⟨(some 101), .sc 93 false (.tmp 92) [⟨(some 94), .mov (.tmp 0)⟩, ⟨(some 95), .nilchk (.tmp 94)⟩, ⟨(some 96), .fadr 0 (.tmp 95)⟩, ⟨(some 97), .load none (.tmp 96)⟩, ⟨(some 98), .mov (.tmp 3)⟩, ⟨(some 99), .idx (.tmp 97) (.tmp 98)⟩, ⟨(some 100), .call false false (.c (.fn (.func 264) [] [])) [(.tmp 99)]⟩] (.tmp 100)⟩, ⟨(some 110), .sc 102 false (.tmp 101) [⟨(some 103), .mov (.tmp 0)⟩, ⟨(some 104), .nilchk (.tmp 103)⟩, ⟨(some 105), .fadr 0 (.tmp 104)⟩, ⟨(some 106), .load none (.tmp 105)⟩, ⟨(some 107), .mov (.tmp 3)⟩, ⟨(some 108), .idx (.tmp 106) (.tmp 107)⟩, ⟨(some 109), .bin .eql (.tmp 108) (.c (.int .u8 46))⟩] (.tmp 109)⟩] (.tmp 110)⟩,
        ⟨(some 77), .mov (.tmp 111)⟩])
     (.cond (.tmp 77)
      (.reg [⟨(some 112), .mov (.tmp 0)⟩,
        ⟨(some 113), .mov (.tmp 3)⟩,
        ⟨(some 114), .call false false (.c (.fn (.func 259) [] [])) [(.tmp 112), (.tmp 113), (.c (.int .i64 3))]⟩])
      .skip)))))
  (.reg [⟨(some 115), .mov (.tmp 0)⟩,
    ⟨(some 116), .mov (.tmp 4)⟩,
    ⟨(some 117), .mov (.tmp 3)⟩,
    ⟨(some 118), .call false false (.c (.fn (.func 260) [] [])) [(.tmp 115), (.c (.int .i64 3)), (.tmp 116), (.tmp 117)]⟩]))))))))
def af265 : AFunc := ⟨119, [], af265b, false⟩

/-- (*cascade/token.lexer).raw -/
def af266b : ACode :=
  (.seq
   (.reg [⟨(some 5), .mov (.tmp 0)⟩,
     ⟨(some 6), .nilchk (.tmp 5)⟩,
     ⟨(some 7), .fadr 1 (.tmp 6)⟩,
     ⟨(some 8), .load none (.tmp 7)⟩,
     ⟨(some 9), .bin .add (.tmp 8) (.c (.int .i64 3))⟩,
     ⟨(some 2), .mov (.tmp 9)⟩])
  (.seq
   (.reg [⟨(some 10), .mov (.tmp 0)⟩,
     ⟨(some 11), .mov (.tmp 2)⟩,
     ⟨(some 12), .call false false (.c (.fn (.func 301) [] [])) [(.tmp 10), (.tmp 11)]⟩,
     ⟨(some 3), .mov (.tmp 12)⟩])
  (.seq
   (.seq
    (.reg [⟨(some 13), .mov (.tmp 3)⟩,
      ⟨(some 14), .bin .lss (.tmp 13) (.c (.int .i64 0))⟩])
   (.cond (.tmp 14)
    (.seq
     (.reg [⟨(some 15), .mov (.tmp 0)⟩,
       ⟨(some 16), .mov (.tmp 0)⟩,
       ⟨(some 17), .nilchk (.tmp 16)⟩,
       ⟨(some 18), .fadr 1 (.tmp 17)⟩,
       ⟨(some 19), .load none (.tmp 18)⟩,
       ⟨(some 20), .call false false (.c (.fn (.func 259) [] [])) [(.tmp 15), (.tmp 19), (.c (.int .i64 3))]⟩])
    .ret)
    .skip))
  (.seq
   (.reg [⟨(some 21), .mov (.tmp 0)⟩,
     ⟨(some 22), .nilchk (.tmp 21)⟩,
     ⟨(some 23), .fadr 0 (.tmp 22)⟩,
     ⟨(some 24), .load none (.tmp 23)⟩,
     ⟨(some 25), .mov (.tmp 2)⟩,
     ⟨(some 26), .mov (.tmp 3)⟩,
     ⟨(some 27), .slcS (.tmp 24) (some (.tmp 25)) (some (.tmp 26))⟩,
     ⟨(some 4), .mov (.tmp 27)⟩])
  (.seq
   (.seq
    (.reg [⟨(some 28), .mov (.tmp 4)⟩,
      ⟨(some 29), .call false false (.c (.fn (.func 302) [] [])) [(.tmp 28), (.c (.fn (.func 303) [] []))]⟩])
   (.cond (.tmp 29)
    (.reg [⟨(some 30), .mov (.tmp 0)⟩,
      ⟨(some 31), .mov (.tmp 0)⟩,
      ⟨(some 32), .nilchk (.tmp 31)⟩,
      ⟨(some 33), .fadr 1 (.tmp 32)⟩,
      ⟨(some 34), .load none (.tmp 33)⟩,
      ⟨(some 35), .call false false (.c (.fn (.func 259) [] [])) [(.tmp 30), (.tmp 34), (.c (.int .i64 3))]⟩])
    .skip))
  (.reg [⟨(some 36), .mov (.tmp 0)⟩,
    ⟨(some 37), .mov (.tmp 4)⟩,
    ⟨(some 38), .call false false (.c (.fn (.func 304) [] [])) [(.tmp 37)]⟩,
    ⟨(some 39), .mov (.tmp 3)⟩,
    ⟨(some 40), .bin .add (.tmp 39) (.c (.int .i64 3))⟩,
    ⟨(some 41), .call false false (.c (.fn (.func 260) [] [])) [(.tmp 36), (.c (.int .i64 4)), (.tmp 38), (.tmp 40)]⟩]))))))
def af266 : AFunc := ⟨42, [], af266b, false⟩

/-- (*cascade/token.lexer).quoted -/
def af267b : ACode :=
  (.seq
   (.regD [] [⟨(some 6), .mov (.tmp 0)⟩,
     ⟨(some 7), .nilchk (.tmp 6)⟩,
     ⟨(some 8), .fadr 0 (.tmp 7)⟩,
     ⟨(some 9), .load none (.tmp 8)⟩,
     ⟨(some 10), .mov (.tmp 0)⟩,
     ⟨(some 11), .nilchk (.tmp 10)⟩,
     ⟨(some 12), .fadr 1 (.tmp 11)⟩,
     ⟨(some 13), .load none (.tmp 12)⟩,
     ⟨(some 14), .slcS (.tmp 9) (some (.tmp 13)) none⟩,
     ⟨(some 15), .call false false (.c (.fn (.func 305) [] [])) [(.tmp 14)]⟩,
     ⟨(some 5), .mov (.tmp 15)⟩,
     ⟨(some 16), .ext (.tmp 5) 0⟩,
     ⟨(some 17), .ext (.tmp 5) 1⟩,
     ⟨(some 18), .ext (.tmp 5) 2⟩,
     ⟨(some 2), .mov (.tmp 16)⟩,
     ⟨(some 3), .mov (.tmp 17)⟩,
     ⟨(some 4), .mov (.tmp 18)⟩])
  (.seq
   (.seq
    (.reg [⟨(some 19), .mov (.tmp 4)⟩,
      ⟨(some 20), .bin .neq (.tmp 19) (.c (.int .i64 0))⟩])
   (.cond (.tmp 20)
    (.reg [⟨(some 21), .mov (.tmp 0)⟩,
      ⟨(some 22), .mov (.tmp 0)⟩,
      ⟨(some 23), .nilchk (.tmp 22)⟩,
      ⟨(some 24), .fadr 1 (.tmp 23)⟩,
      ⟨(some 25), .load none (.tmp 24)⟩,
      ⟨(some 26), .mov (.tmp 3)⟩,
      ⟨(some 27), .bin .add (.tmp 25) (.tmp 26)⟩,
      ⟨(some 28), .call false false (.c (.fn (.func 259) [] [])) [(.tmp 21), (.tmp 27), (.c (.int .i64 3))]⟩])
    .skip))
  (.reg [⟨(some 29), .mov (.tmp 0)⟩,
    ⟨(some 30), .mov (.tmp 2)⟩,
    ⟨(some 31), .mov (.tmp 0)⟩,
    ⟨(some 32), .nilchk (.tmp 31)⟩,
    ⟨(some 33), .fadr 1 (.tmp 32)⟩,
    ⟨(some 34), .load none (.tmp 33)⟩,
    ⟨(some 35), .mov (.tmp 3)⟩,
    ⟨(some 36), .bin .add (.tmp 34) (.tmp 35)⟩,
    ⟨(some 37), .call false false (.c (.fn (.func 260) [] [])) [(.tmp 29), (.c (.int .i64 4)), (.tmp 30), (.tmp 36)]⟩])))
def af267 : AFunc := ⟨38, [], af267b, false⟩

/-- (*strings.Builder).WriteRune -/
def af279b : ACode :=
  (.seq
   (.reg [⟨(some 4), .mov (.c (.int .i64 0))⟩,
     ⟨(some 5), .mov (.c .nilI)⟩])
  (.seq
   (.reg [⟨(some 7), .mov (.tmp 0)⟩,
     ⟨(some 8), .call false false (.c (.fn (.func 147) [] [])) [(.tmp 7)]⟩])
  (.seq
   (.reg [⟨(some 9), .mov (.tmp 0)⟩,
     ⟨(some 10), .nilchk (.tmp 9)⟩,
     ⟨(some 11), .fadr 1 (.tmp 10)⟩,
     ⟨(some 12), .load none (.tmp 11)⟩,
     ⟨(some 13), .len 1 (.tmp 12)⟩,
     ⟨(some 6), .mov (.tmp 13)⟩])
  (.seq
   (.reg [⟨(some 14), .mov (.tmp 0)⟩,
     ⟨(some 15), .mov (.tmp 0)⟩,
     ⟨(some 16), .nilchk (.tmp 15)⟩,
     ⟨(some 17), .fadr 1 (.tmp 16)⟩,
     ⟨(some 18), .load none (.tmp 17)⟩,
     ⟨(some 19), .mov (.tmp 1)⟩,
     ⟨(some 20), .call true false (.c (.fn (.func 313) [] [])) [(.tmp 18), (.tmp 19)]⟩,
     ⟨(some 21), .nilchk (.tmp 14)⟩,
     ⟨(some 22), .fadr 1 (.tmp 21)⟩,
     ⟨none, .store 1 (.tmp 22) (.tmp 20)⟩])
  (.seq
   (.reg [⟨(some 23), .mov (.tmp 0)⟩,
     ⟨(some 24), .nilchk (.tmp 23)⟩,
     ⟨(some 25), .fadr 1 (.tmp 24)⟩,
     ⟨(some 26), .load none (.tmp 25)⟩,
     ⟨(some 27), .len 1 (.tmp 26)⟩,
     ⟨(some 28), .mov (.tmp 6)⟩,
     ⟨(some 29), .bin .sub (.tmp 27) (.tmp 28)⟩,
     ⟨(some 4), .mov (.tmp 29)⟩,
     ⟨(some 5), .mov (.c .nilI)⟩])
  .ret)))))
def af279 : AFunc := ⟨30, [.tmp 4, .tmp 5], af279b, true⟩

/-- internal/stringslite.HasPrefix -/
def af300b : ACode :=
  (.seq
   (.reg [⟨(some 4), .mov (.c (.bool false))⟩])
  (.seq
   (.reg [⟨(some 5), .mov (.tmp 0)⟩,
     ⟨(some 6), .len 0 (.tmp 5)⟩,
     ⟨(some 7), .mov (.tmp 1)⟩,
     ⟨(some 8), .len 0 (.tmp 7)⟩,
     ⟨(some 9), .bin .geq (.tmp 6) (.tmp 8)⟩,
     ⟨(some 17), .sc 10 true (.tmp 9) [⟨(some 11), .mov (.tmp 0)⟩, ⟨(some 12), .mov (.tmp 1)⟩, ⟨(some 13), .len 0 (.tmp 12)⟩, ⟨(some 14), .slcS (.tmp 11) none (some (.tmp 13))⟩, ⟨(some 15), .mov (.tmp 1)⟩, ⟨(some 16), .bin .eql (.tmp 14) (.tmp 15)⟩] (.tmp 16)⟩,
     ⟨(some 4), .mov (.tmp 17)⟩])
  .ret))
def af300 : AFunc := ⟨18, [.tmp 4], af300b, false⟩

/-- (*cascade/token.lexer).rawEnd -/
def af301l0 : ACode :=
  (.blk 1
     (.seq
      (.reg [⟨(some 6), .mov (.tmp 0)⟩,
        ⟨(some 7), .nilchk (.tmp 6)⟩,
        ⟨(some 8), .fadr 0 (.tmp 7)⟩,
        ⟨(some 9), .load none (.tmp 8)⟩,
        ⟨(some 10), .mov (.tmp 1)⟩,
        ⟨(some 11), .slcS (.tmp 9) (some (.tmp 10)) none⟩,
        ⟨(some 12), .call false false (.c (.fn (.func 322) [] [])) [(.tmp 11), (.c (.str [34, 34, 34]))]⟩,
        ⟨(some 5), .mov (.tmp 12)⟩])
     (.seq
      (.seq
       (.reg [⟨(some 13), .mov (.tmp 5)⟩,
         ⟨(some 14), .bin .lss (.tmp 13) (.c (.int .i64 0))⟩])
      (.cond (.tmp 14)
       (.seq
        (.reg [⟨(some 4), .mov (.c (.int .i64 (-1)))⟩])
       .ret)
       .skip))
     (.seq
      (.seq
       (.reg [⟨(some 15), .mov (.tmp 1)⟩,
         ⟨(some 16), .mov (.tmp 5)⟩,
         ⟨(some 17), .bin .add (.tmp 15) (.tmp 16)⟩,
         ⟨(some 1), .mov (.tmp 17)⟩])
      (.seq
       (.reg [⟨(some 18), .mov (.tmp 0)⟩,
         ⟨(some 19), .nilchk (.tmp 18)⟩,
         ⟨(some 20), .fadr 0 (.tmp 19)⟩,
         ⟨(some 21), .load none (.tmp 20)⟩,
         ⟨(some 22), .mov (.tmp 1)⟩,
         ⟨(some 23), .bin .sub (.tmp 22) (.c (.int .i64 1))⟩,
         ⟨(some 24), .idx (.tmp 21) (.tmp 23)⟩,
         ⟨(some 25), .bin .neq (.tmp 24) (.c (.int .u8 92))⟩])
      (.cond (.tmp 25)
       (.seq
        (.reg [⟨(some 26), .mov (.tmp 1)⟩,
          ⟨(some 4), .mov (.tmp 26)⟩])
       .ret)
       .skip)))
     (.reg [⟨(some 27), .mov (.tmp 1)⟩,
       ⟨(some 28), .bin .add (.tmp 27) (.c (.int .i64 3))⟩,
       ⟨(some 1), .mov (.tmp 28)⟩])))))
def af301b : ACode :=
  (.seq
   (.reg [⟨(some 4), .mov (.c (.int .i64 0))⟩])
  (.blk 0
   (.loop false af301l0)))
def af301 : AFunc := ⟨29, [.tmp 4], af301b, false⟩

/-- strings.ContainsFunc -/
def af302b : ACode :=
  (.seq
   (.reg [⟨(some 4), .mov (.c (.bool false))⟩])
  (.seq
   (.reg [⟨(some 5), .mov (.tmp 0)⟩,
     ⟨(some 6), .mov (.tmp 1)⟩,
     ⟨(some 7), .call false false (.c (.fn (.func 323) [] [])) [(.tmp 5), (.tmp 6)]⟩,
     ⟨(some 8), .bin .geq (.tmp 7) (.c (.int .i64 0))⟩,
     ⟨(some 4), .mov (.tmp 8)⟩])
  .ret))
def af302 : AFunc := ⟨9, [.tmp 4], af302b, false⟩

/-- (*cascade/token.lexer).raw$1 -/
def af303b : ACode :=
  (.seq
   (.reg [⟨(some 2), .mov (.c (.bool false))⟩])
  (.seq
   (.reg [⟨(some 3), .mov (.tmp 0)⟩,
     ⟨(some 4), .bin .lss (.tmp 3) (.c (.int .i32 32))⟩,
     ⟨(some 8), .sc 5 true (.tmp 4) [⟨(some 6), .mov (.tmp 0)⟩, ⟨(some 7), .bin .neq (.tmp 6) (.c (.int .i32 9))⟩] (.tmp 7)⟩,
     ⟨(some 12), .sc 9 true (.tmp 8) [⟨(some 10), .mov (.tmp 0)⟩, ⟨(some 11), .bin .neq (.tmp 10) (.c (.int .i32 10))⟩] (.tmp 11)⟩,
     ⟨(some 16), .sc 13 true (.tmp 12) [⟨(some 14), .mov (.tmp 0)⟩, ⟨(some 15), .bin .neq (.tmp 14) (.c (.int .i32 13))⟩] (.tmp 15)⟩,
     ⟨(some 2), .mov (.tmp 16)⟩])
  .ret))
def af303 : AFunc := ⟨17, [.tmp 2], af303b, false⟩

/-- cascade/block.Value -/
def af304l0 : ACode :=
  (.seq
      (.reg [⟨(some 14), .bin .lss (.tmp 13) (.tmp 12)⟩])
     (.seq
      (.cond (.tmp 14)
       .skip
       (.exit 0))
     (.seq
      (.blk 1
       (.seq
        (.reg [⟨(some 15), .mov (.tmp 13)⟩,
          ⟨(some 5), .mov (.tmp 15)⟩])
       (.seq
        (.reg [⟨(some 16), .mov (.tmp 5)⟩,
          ⟨(some 17), .bin .gtr (.tmp 16) (.c (.int .i64 0))⟩])
       (.cond (.tmp 17)
        (.regD [] [⟨(some 18), .mov (.tmp 3)⟩,
          ⟨(some 19), .mov (.tmp 5)⟩,
          ⟨(some 20), .mov (.tmp 3)⟩,
          ⟨(some 21), .mov (.tmp 5)⟩,
          ⟨(some 22), .iadr 1 (.tmp 20) (.tmp 21)⟩,
          ⟨(some 23), .load none (.tmp 22)⟩,
          ⟨(some 24), .mov (.tmp 4)⟩,
          ⟨(some 25), .mov (.tmp 3)⟩,
          ⟨(some 26), .mov (.tmp 5)⟩,
          ⟨(some 27), .iadr 1 (.tmp 25) (.tmp 26)⟩,
          ⟨(some 28), .load none (.tmp 27)⟩,
          ⟨(some 29), .len 0 (.tmp 28)⟩,
          ⟨(some 30), .mxn false (.tmp 24) (.tmp 29)⟩,
          ⟨(some 31), .slcS (.tmp 23) (some (.tmp 30)) none⟩,
          ⟨(some 32), .iadr 1 (.tmp 18) (.tmp 19)⟩,
          ⟨none, .store 1 (.tmp 32) (.tmp 31)⟩])
        .skip))))
     (.reg [⟨(some 33), .bin .add (.tmp 13) (.c (.int .i64 1))⟩,
       ⟨(some 13), .mov (.tmp 33)⟩]))))
def af304l1 : ACode :=
  (.seq
      (.seq
       (.reg [⟨(some 34), .mov (.tmp 3)⟩,
         ⟨(some 35), .len 1 (.tmp 34)⟩,
         ⟨(some 36), .bin .gtr (.tmp 35) (.c (.int .i64 0))⟩,
         ⟨(some 42), .sc 37 true (.tmp 36) [⟨(some 38), .mov (.tmp 3)⟩, ⟨(some 39), .iadr 1 (.tmp 38) (.c (.int .i64 0))⟩, ⟨(some 40), .load none (.tmp 39)⟩, ⟨(some 41), .call false false (.c (.fn (.func 327) [] [])) [(.tmp 40)]⟩] (.tmp 41)⟩])
      (.cond (.tmp 42)
       .skip
       (.exit 2)))
     (.blk 3
      (.reg [⟨(some 43), .mov (.tmp 3)⟩,
        ⟨(some 44), .slc 1 (.tmp 43) (some (.c (.int .i64 1))) none⟩,
        ⟨(some 3), .mov (.tmp 44)⟩])))
def af304l2 : ACode :=
  (.seq
      (.seq
       (.reg [⟨(some 45), .mov (.tmp 3)⟩,
         ⟨(some 46), .len 1 (.tmp 45)⟩,
         ⟨(some 47), .bin .gtr (.tmp 46) (.c (.int .i64 0))⟩,
         ⟨(some 56), .sc 48 true (.tmp 47) [⟨(some 49), .mov (.tmp 3)⟩, ⟨(some 50), .mov (.tmp 3)⟩, ⟨(some 51), .len 1 (.tmp 50)⟩, ⟨(some 52), .bin .sub (.tmp 51) (.c (.int .i64 1))⟩, ⟨(some 53), .iadr 1 (.tmp 49) (.tmp 52)⟩, ⟨(some 54), .load none (.tmp 53)⟩, ⟨(some 55), .call false false (.c (.fn (.func 327) [] [])) [(.tmp 54)]⟩] (.tmp 55)⟩])
      (.cond (.tmp 56)
       .skip
       (.exit 4)))
     (.blk 5
      (.reg [⟨(some 57), .mov (.tmp 3)⟩,
        ⟨(some 58), .mov (.tmp 3)⟩,
        ⟨(some 59), .len 1 (.tmp 58)⟩,
        ⟨(some 60), .bin .sub (.tmp 59) (.c (.int .i64 1))⟩,
        ⟨(some 61), .slc 1 (.tmp 57) none (some (.tmp 60))⟩,
        ⟨(some 3), .mov (.tmp 61)⟩])))
def af304b : ACode :=
  (.seq
   (.reg [⟨(some 2), .mov (.c (.str []))⟩])
  (.seq
   (.reg [⟨(some 6), .mov (.tmp 0)⟩,
     ⟨(some 7), .call false false (.c (.fn (.func 325) [] [])) [(.tmp 6), (.c (.str [92, 34, 34, 34])), (.c (.str [34, 34, 34]))]⟩,
     ⟨(some 8), .call false false (.c (.fn (.func 324) [] [])) [(.tmp 7)]⟩,
     ⟨(some 3), .mov (.tmp 8)⟩])
  (.seq
   (.reg [⟨(some 9), .mov (.tmp 3)⟩,
     ⟨(some 10), .call false false (.c (.fn (.func 326) [] [])) [(.tmp 9)]⟩,
     ⟨(some 4), .mov (.tmp 10)⟩])
  (.seq
   (.seq
    (.reg [⟨(some 11), .mov (.tmp 3)⟩,
      ⟨(some 12), .len 1 (.tmp 11)⟩,
      ⟨(some 13), .mov (.c (.int .i64 0))⟩])
   (.blk 0
    (.loop false af304l0)))
  (.seq
   (.blk 2
    (.loop false af304l1))
  (.seq
   (.blk 4
    (.loop false af304l2))
  (.seq
   (.reg [⟨(some 62), .mov (.tmp 3)⟩,
     ⟨(some 63), .call false false (.c (.fn (.func 79) [] [])) [(.tmp 62), (.c (.str [10]))]⟩,
     ⟨(some 2), .mov (.tmp 63)⟩])
  .ret)))))))
def af304 : AFunc := ⟨64, [.tmp 2], af304b, false⟩

/-- cascade/quote.Unquote -/
def af305l0 : ACode :=
  (.seq
      (.seq
       (.reg [⟨(some 12), .mov (.tmp 6)⟩,
         ⟨(some 13), .mov (.tmp 0)⟩,
         ⟨(some 14), .len 0 (.tmp 13)⟩,
         ⟨(some 15), .bin .lss (.tmp 12) (.tmp 14)⟩])
      (.cond (.tmp 15)
       .skip
       (.exit 0)))
     (.blk 1
      (.seq
       (.reg [⟨(some 17), .mov (.tmp 0)⟩,
         ⟨(some 18), .mov (.tmp 6)⟩,
         ⟨(some 19), .slcS (.tmp 17) (some (.tmp 18)) none⟩,
         ⟨(some 20), .call false false (.c (.fn (.func 240) [] [])) [(.tmp 19)]⟩,
         ⟨(some 16), .mov (.tmp 20)⟩,
         ⟨(some 21), .ext (.tmp 16) 0⟩,
         ⟨(some 22), .ext (.tmp 16) 1⟩,
         ⟨(some 7), .mov (.tmp 21)⟩,
         ⟨(some 8), .mov (.tmp 22)⟩])
      (.seq
       (.blk 2
        (.seq
         (.reg [⟨(some 24), .mov (.tmp 7)⟩,
           ⟨(some 25), .bin .eql (.tmp 24) (.c (.int .i32 34))⟩,
           ⟨(some 23), .mov (.tmp 25)⟩])
        (.cond (.tmp 23)
         (.seq
          (.reg [⟨(some 26), .call false false (.c (.fn (.func 75) [] [])) [(.tmp 5)]⟩,
            ⟨(some 27), .mov (.tmp 6)⟩,
            ⟨(some 28), .bin .add (.tmp 27) (.c (.int .i64 1))⟩,
            ⟨(some 2), .mov (.tmp 26)⟩,
            ⟨(some 3), .mov (.tmp 28)⟩,
            ⟨(some 4), .mov (.c (.int .i64 0))⟩])
         .ret)
         (.seq
          (.reg [⟨(some 30), .mov (.tmp 7)⟩,
            ⟨(some 31), .bin .lss (.tmp 30) (.c (.int .i32 32))⟩,
            ⟨(some 29), .mov (.tmp 31)⟩])
         (.cond (.tmp 29)
          (.seq
           (.reg [⟨(some 32), .mov (.tmp 6)⟩,
             ⟨(some 2), .mov (.c (.str []))⟩,
             ⟨(some 3), .mov (.tmp 32)⟩,
             ⟨(some 4), .mov (.c (.int .i64 4))⟩])
          .ret)
          (.seq
           (.reg [⟨(some 34), .mov (.tmp 7)⟩,
             ⟨(some 35), .bin .eql (.tmp 34) (.c (.int .i32 65533))⟩,
             ⟨(some 39), .sc 36 true (.tmp 35) [⟨(some 37), .mov (.tmp 8)⟩, ⟨(some 38), .bin .eql (.tmp 37) (.c (.int .i64 1))⟩] (.tmp 38)⟩,
             ⟨(some 33), .mov (.tmp 39)⟩])
          (.cond (.tmp 33)
           (.seq
            (.reg [⟨(some 40), .mov (.tmp 6)⟩,
              ⟨(some 2), .mov (.c (.str []))⟩,
              ⟨(some 3), .mov (.tmp 40)⟩,
              ⟨(some 4), .mov (.c (.int .i64 2))⟩])
           .ret)
           (.seq
            (.reg [⟨(some 42), .mov (.tmp 7)⟩,
              ⟨(some 43), .bin .eql (.tmp 42) (.c (.int .i32 92))⟩,
              ⟨(some 41), .mov (.tmp 43)⟩])
           (.cond (.tmp 41)
            (.seq
             (.reg [⟨(some 45), .mov (.tmp 0)⟩,
               ⟨(some 46), .mov (.tmp 6)⟩,
               ⟨(some 47), .slcS (.tmp 45) (some (.tmp 46)) none⟩,
               ⟨(some 48), .call false false (.c (.fn (.func 328) [] [])) [(.tmp 47)]⟩,
               ⟨(some 44), .mov (.tmp 48)⟩,
               ⟨(some 49), .ext (.tmp 44) 0⟩,
               ⟨(some 50), .ext (.tmp 44) 1⟩,
               ⟨(some 7), .mov (.tmp 49)⟩,
               ⟨(some 8), .mov (.tmp 50)⟩])
            (.seq
             (.reg [⟨(some 51), .mov (.tmp 8)⟩,
               ⟨(some 52), .bin .eql (.tmp 51) (.c (.int .i64 0))⟩])
            (.cond (.tmp 52)
             (.seq
              (.reg [⟨(some 53), .mov (.tmp 6)⟩,
                ⟨(some 2), .mov (.c (.str []))⟩,
                ⟨(some 3), .mov (.tmp 53)⟩,
                ⟨(some 4), .mov (.c (.int .i64 4))⟩])
             .ret)
             .skip)))
            .skip)))))))))
      (.seq
       (.reg [⟨(some 54), .mov (.tmp 7)⟩,
         ⟨(some 55), .call false false (.c (.fn (.func 279) [] [])) [(.tmp 5), (.tmp 54)]⟩])
      (.reg [⟨(some 56), .mov (.tmp 6)⟩,
        ⟨(some 57), .mov (.tmp 8)⟩,
        ⟨(some 58), .bin .add (.tmp 56) (.tmp 57)⟩,
        ⟨(some 6), .mov (.tmp 58)⟩]))))))
def af305b : ACode :=
  (.seq
   (.reg [⟨(some 2), .mov (.c (.str []))⟩,
     ⟨(some 3), .mov (.c (.int .i64 0))⟩,
     ⟨(some 4), .mov (.c (.int .i64 0))⟩])
  (.seq
   (.seq
    (.reg [⟨(some 9), .mov (.tmp 0)⟩,
      ⟨(some 10), .call false false (.c (.fn (.func 261) [] [])) [(.tmp 9), (.c (.str [34]))]⟩,
      ⟨(some 11), .un .not (.tmp 10)⟩])
   (.cond (.tmp 11)
    (.seq
     (.reg [⟨(some 2), .mov (.c (.str []))⟩,
       ⟨(some 3), .mov (.c (.int .i64 0))⟩,
       ⟨(some 4), .mov (.c (.int .i64 4))⟩])
    .ret)
    .skip))
  (.seq
   (.reg [⟨(some 5), .new 128 [.pnil, (.sl .nil [])]⟩])
  (.seq
   (.seq
    (.reg [⟨(some 6), .mov (.c (.int .i64 1))⟩])
   (.blk 0
    (.loop false af305l0)))
  (.seq
   (.reg [⟨(some 59), .mov (.tmp 0)⟩,
     ⟨(some 60), .len 0 (.tmp 59)⟩,
     ⟨(some 2), .mov (.c (.str []))⟩,
     ⟨(some 3), .mov (.tmp 60)⟩,
     ⟨(some 4), .mov (.c (.int .i64 4))⟩])
  .ret)))))
def af305 : AFunc := ⟨61, [.tmp 2, .tmp 3, .tmp 4], af305b, false⟩

/-- unicode/utf8.AppendRune -/
def af313b : ACode :=
  (.seq
   (.reg [⟨(some 4), .mov (.c (.sl .nil []))⟩])
  (.seq
   (.seq
    (.reg [⟨(some 5), .mov (.tmp 1)⟩,
      ⟨(some 6), .cvI .u32 (.tmp 5)⟩,
      ⟨(some 7), .bin .leq (.tmp 6) (.c (.int .u32 127))⟩])
   (.cond (.tmp 7)
    (.seq
     (.reg [⟨(some 8), .mov (.tmp 0)⟩,
       ⟨(some 9), .mov (.tmp 1)⟩,
       ⟨(some 10), .cvI .u8 (.tmp 9)⟩,
       ⟨(some 11), .bsl 1 (.int .u8 0) 1 [(0, (.tmp 10))]⟩,
       ⟨(some 12), .app false 1 (1, 5) (.tmp 8) (.tmp 11)⟩,
       ⟨(some 4), .mov (.tmp 12)⟩])
    .ret)
    .skip))
  (.seq
   (.reg [⟨(some 13), .mov (.tmp 0)⟩,
     ⟨(some 14), .mov (.tmp 1)⟩,
     ⟨(some 15), .call true false (.c (.fn (.func 339) [] [])) [(.tmp 13), (.tmp 14)]⟩,
     ⟨(some 4), .mov (.tmp 15)⟩])
  .ret)))
def af313 : AFunc := ⟨16, [.tmp 4], af313b, true⟩

/-- strings.IndexFunc -/
def af323b : ACode :=
  (.seq
   (.reg [⟨(some 4), .mov (.c (.int .i64 0))⟩])
  (.seq
   (.reg [⟨(some 5), .mov (.tmp 0)⟩,
     ⟨(some 6), .mov (.tmp 1)⟩,
     ⟨(some 7), .call false false (.c (.fn (.func 343) [] [])) [(.tmp 5), (.tmp 6), (.c (.bool true))]⟩,
     ⟨(some 4), .mov (.tmp 7)⟩])
  .ret))
def af323 : AFunc := ⟨8, [.tmp 4], af323b, false⟩

/-- cascade/text.Lines -/
def af324l0 : ACode :=
  (.blk 1
     (.seq
      (.reg [⟨(some 6), .mov (.tmp 0)⟩,
        ⟨(some 7), .call false false (.c (.fn (.func 256) [] [])) [(.tmp 6), (.c (.int .u8 10))]⟩,
        ⟨(some 4), .mov (.tmp 7)⟩])
     (.seq
      (.seq
       (.reg [⟨(some 8), .mov (.tmp 0)⟩,
         ⟨(some 9), .call false false (.c (.fn (.func 256) [] [])) [(.tmp 8), (.c (.int .u8 13))]⟩,
         ⟨(some 5), .mov (.tmp 9)⟩])
      (.seq
       (.reg [⟨(some 10), .mov (.tmp 5)⟩,
         ⟨(some 11), .bin .geq (.tmp 10) (.c (.int .i64 0))⟩,
         ⟨(some 20), .sc 12 true (.tmp 11) [⟨(some 13), .mov (.tmp 4)⟩, ⟨(some 14), .bin .lss (.tmp 13) (.c (.int .i64 0))⟩, ⟨(some 19), .sc 15 false (.tmp 14) [⟨(some 16), .mov (.tmp 5)⟩, ⟨(some 17), .mov (.tmp 4)⟩, ⟨(some 18), .bin .lss (.tmp 16) (.tmp 17)⟩] (.tmp 18)⟩] (.tmp 19)⟩])
      (.cond (.tmp 20)
       (.reg [⟨(some 21), .mov (.tmp 5)⟩,
         ⟨(some 4), .mov (.tmp 21)⟩])
       .skip)))
     (.seq
      (.seq
       (.reg [⟨(some 22), .mov (.tmp 4)⟩,
         ⟨(some 23), .bin .lss (.tmp 22) (.c (.int .i64 0))⟩])
      (.cond (.tmp 23)
       (.seq
        (.reg [⟨(some 24), .mov (.tmp 3)⟩,
          ⟨(some 25), .mov (.tmp 0)⟩,
          ⟨(some 26), .bsl 1 (.str []) 1 [(0, (.tmp 25))]⟩,
          ⟨(some 27), .appm 1 (16, 9) (.tmp 24) (.tmp 26)⟩,
          ⟨(some 2), .mov (.tmp 27)⟩])
       .ret)
       .skip))
     (.seq
      (.reg [⟨(some 28), .mov (.tmp 3)⟩,
        ⟨(some 29), .mov (.tmp 0)⟩,
        ⟨(some 30), .mov (.tmp 4)⟩,
        ⟨(some 31), .slcS (.tmp 29) none (some (.tmp 30))⟩,
        ⟨(some 32), .bsl 1 (.str []) 1 [(0, (.tmp 31))]⟩,
        ⟨(some 33), .appm 1 (16, 9) (.tmp 28) (.tmp 32)⟩,
        ⟨(some 3), .mov (.tmp 33)⟩])
     (.seq
      (.seq
       (.reg [⟨(some 34), .mov (.tmp 0)⟩,
         ⟨(some 35), .mov (.tmp 4)⟩,
         ⟨(some 36), .slcS (.tmp 34) (some (.tmp 35)) none⟩,
         ⟨(some 37), .call false false (.c (.fn (.func 261) [] [])) [(.tmp 36), (.c (.str [13, 10]))]⟩])
      (.cond (.tmp 37)
       (.reg [⟨(some 38), .mov (.tmp 4)⟩,
         ⟨(some 39), .bin .add (.tmp 38) (.c (.int .i64 1))⟩,
         ⟨(some 4), .mov (.tmp 39)⟩])
       .skip))
     (.reg [⟨(some 40), .mov (.tmp 0)⟩,
       ⟨(some 41), .mov (.tmp 4)⟩,
       ⟨(some 42), .bin .add (.tmp 41) (.c (.int .i64 1))⟩,
       ⟨(some 43), .slcS (.tmp 40) (some (.tmp 42)) none⟩,
       ⟨(some 0), .mov (.tmp 43)⟩])))))))
def af324b : ACode :=
  (.seq
   (.reg [⟨(some 2), .mov (.c (.sl .nil []))⟩])
  (.seq
   (.reg [⟨(some 3), .mov (.c (.sl .nil []))⟩])
  (.blk 0
   (.loop false af324l0))))
def af324 : AFunc := ⟨44, [.tmp 2], af324b, false⟩

/-- cascade/block.Indent -/
def af326l0 : ACode :=
  (.seq
      (.reg [⟨(some 12), .bin .lss (.tmp 11) (.tmp 10)⟩])
     (.seq
      (.cond (.tmp 12)
       .skip
       (.exit 0))
     (.seq
      (.blk 1
       (.seq
        (.reg [⟨(some 13), .mov (.tmp 11)⟩,
          ⟨(some 14), .iadr 1 (.tmp 9) (.tmp 11)⟩,
          ⟨(some 15), .load none (.tmp 14)⟩,
          ⟨(some 5), .mov (.tmp 13)⟩,
          ⟨(some 6), .mov (.tmp 15)⟩])
       (.seq
        (.reg [⟨(some 17), .mov (.tmp 6)⟩,
          ⟨(some 18), .call false false (.c (.fn (.func 345) [] [])) [(.tmp 17)]⟩,
          ⟨(some 16), .mov (.tmp 18)⟩,
          ⟨(some 19), .ext (.tmp 16) 0⟩,
          ⟨(some 20), .ext (.tmp 16) 1⟩,
          ⟨(some 7), .mov (.tmp 19)⟩,
          ⟨(some 8), .mov (.tmp 20)⟩])
       (.seq
        (.seq
         (.reg [⟨(some 21), .mov (.tmp 5)⟩,
           ⟨(some 22), .bin .eql (.tmp 21) (.c (.int .i64 0))⟩,
           ⟨(some 26), .sc 23 false (.tmp 22) [⟨(some 24), .mov (.tmp 8)⟩, ⟨(some 25), .un .not (.tmp 24)⟩] (.tmp 25)⟩])
        (.cond (.tmp 26)
         (.exit 1)
         .skip))
       (.seq
        (.seq
         (.reg [⟨(some 27), .mov (.tmp 4)⟩,
           ⟨(some 28), .un .not (.tmp 27)⟩,
           ⟨(some 33), .sc 29 false (.tmp 28) [⟨(some 30), .mov (.tmp 7)⟩, ⟨(some 31), .mov (.tmp 3)⟩, ⟨(some 32), .bin .lss (.tmp 30) (.tmp 31)⟩] (.tmp 32)⟩])
        (.cond (.tmp 33)
         (.reg [⟨(some 34), .mov (.tmp 7)⟩,
           ⟨(some 3), .mov (.tmp 34)⟩])
         .skip))
       (.reg [⟨(some 4), .mov (.c (.bool true))⟩]))))))
     (.reg [⟨(some 35), .bin .add (.tmp 11) (.c (.int .i64 1))⟩,
       ⟨(some 11), .mov (.tmp 35)⟩]))))
def af326b : ACode :=
  (.seq
   (.reg [⟨(some 2), .mov (.c (.int .i64 0))⟩])
  (.seq
   (.reg [⟨(some 3), .mov (.c (.int .i64 0))⟩,
     ⟨(some 4), .mov (.c (.bool false))⟩])
  (.seq
   (.seq
    (.reg [⟨(some 9), .mov (.tmp 0)⟩,
      ⟨(some 10), .len 1 (.tmp 9)⟩,
      ⟨(some 11), .mov (.c (.int .i64 0))⟩])
   (.blk 0
    (.loop false af326l0)))
  (.seq
   (.reg [⟨(some 36), .mov (.tmp 3)⟩,
     ⟨(some 2), .mov (.tmp 36)⟩])
  .ret))))
def af326 : AFunc := ⟨37, [.tmp 2], af326b, false⟩

/-- cascade/block.empty -/
def af327b : ACode :=
  (.seq
   (.reg [⟨(some 2), .mov (.c (.bool false))⟩])
  (.seq
   (.reg [⟨(some 6), .mov (.tmp 0)⟩,
     ⟨(some 7), .call false false (.c (.fn (.func 345) [] [])) [(.tmp 6)]⟩,
     ⟨(some 5), .mov (.tmp 7)⟩,
     ⟨(some 8), .ext (.tmp 5) 0⟩,
     ⟨(some 9), .ext (.tmp 5) 1⟩,
     ⟨(some 3), .mov (.tmp 8)⟩,
     ⟨(some 4), .mov (.tmp 9)⟩])
  (.seq
   (.reg [⟨(some 10), .mov (.tmp 4)⟩,
     ⟨(some 11), .un .not (.tmp 10)⟩,
     ⟨(some 2), .mov (.tmp 11)⟩])
  .ret)))
def af327 : AFunc := ⟨12, [.tmp 2], af327b, false⟩

/-- cascade/quote.escaped -/
def af328b : ACode :=
  (.seq
   (.reg [⟨(some 2), .mov (.c (.int .i32 0))⟩,
     ⟨(some 3), .mov (.c (.int .i64 0))⟩])
  (.seq
   (.seq
    (.reg [⟨(some 8), .mov (.tmp 0)⟩,
      ⟨(some 9), .len 0 (.tmp 8)⟩,
      ⟨(some 10), .bin .gtr (.tmp 9) (.c (.int .i64 1))⟩])
   (.cond (.tmp 10)
    (.seq
     (.reg [⟨(some 12), .mov (.tmp 0)⟩,
       ⟨(some 13), .idx (.tmp 12) (.c (.int .i64 1))⟩,
       ⟨(some 14), .call false false (.c (.fn (.func 346) [] [])) [(.tmp 13)]⟩,
       ⟨(some 11), .mov (.tmp 14)⟩,
       ⟨(some 15), .ext (.tmp 11) 0⟩,
       ⟨(some 16), .ext (.tmp 11) 1⟩,
       ⟨(some 4), .mov (.tmp 15)⟩,
       ⟨(some 5), .mov (.tmp 16)⟩])
    (.seq
     (.reg [⟨(some 17), .mov (.tmp 5)⟩])
    (.cond (.tmp 17)
     (.seq
      (.reg [⟨(some 18), .mov (.tmp 4)⟩,
        ⟨(some 2), .mov (.tmp 18)⟩,
        ⟨(some 3), .mov (.c (.int .i64 2))⟩])
     .ret)
     .skip)))
    .skip))
  (.seq
   (.reg [⟨(some 19), .mov (.tmp 0)⟩,
     ⟨(some 20), .call false false (.c (.fn (.func 347) [] [])) [(.tmp 19)]⟩,
     ⟨(some 6), .mov (.tmp 20)⟩])
  (.seq
   (.blk 0
    (.seq
     (.reg [⟨(some 22), .mov (.tmp 6)⟩,
       ⟨(some 23), .bin .lss (.tmp 22) (.c (.int .i32 0))⟩,
       ⟨(some 31), .sc 24 false (.tmp 23) [⟨(some 25), .mov (.tmp 6)⟩, ⟨(some 26), .bin .geq (.tmp 25) (.c (.int .i32 56320))⟩, ⟨(some 30), .sc 27 true (.tmp 26) [⟨(some 28), .mov (.tmp 6)⟩, ⟨(some 29), .bin .leq (.tmp 28) (.c (.int .i32 57343))⟩] (.tmp 29)⟩] (.tmp 30)⟩,
       ⟨(some 21), .mov (.tmp 31)⟩])
    (.cond (.tmp 21)
     (.seq
      (.reg [⟨(some 2), .mov (.c (.int .i32 0))⟩,
        ⟨(some 3), .mov (.c (.int .i64 0))⟩])
     .ret)
     (.seq
      (.reg [⟨(some 33), .mov (.tmp 6)⟩,
        ⟨(some 34), .bin .lss (.tmp 33) (.c (.int .i32 55296))⟩,
        ⟨(some 38), .sc 35 false (.tmp 34) [⟨(some 36), .mov (.tmp 6)⟩, ⟨(some 37), .bin .gtr (.tmp 36) (.c (.int .i32 57343))⟩] (.tmp 37)⟩,
        ⟨(some 32), .mov (.tmp 38)⟩])
     (.cond (.tmp 32)
      (.seq
       (.reg [⟨(some 39), .mov (.tmp 6)⟩,
         ⟨(some 2), .mov (.tmp 39)⟩,
         ⟨(some 3), .mov (.c (.int .i64 6))⟩])
      .ret)
      .skip)))))
  (.seq
   (.reg [⟨(some 40), .mov (.tmp 0)⟩,
     ⟨(some 41), .slcS (.tmp 40) (some (.c (.int .i64 6))) none⟩,
     ⟨(some 42), .call false false (.c (.fn (.func 347) [] [])) [(.tmp 41)]⟩,
     ⟨(some 7), .mov (.tmp 42)⟩])
  (.seq
   (.seq
    (.reg [⟨(some 43), .mov (.tmp 7)⟩,
      ⟨(some 44), .bin .lss (.tmp 43) (.c (.int .i32 56320))⟩,
      ⟨(some 48), .sc 45 false (.tmp 44) [⟨(some 46), .mov (.tmp 7)⟩, ⟨(some 47), .bin .gtr (.tmp 46) (.c (.int .i32 57343))⟩] (.tmp 47)⟩])
   (.cond (.tmp 48)
    (.seq
     (.reg [⟨(some 2), .mov (.c (.int .i32 0))⟩,
       ⟨(some 3), .mov (.c (.int .i64 0))⟩])
    .ret)
    .skip))
  (.seq
   (.reg [⟨(some 49), .mov (.tmp 6)⟩,
     ⟨(some 50), .bin .sub (.tmp 49) (.c (.int .i32 55296))⟩,
     ⟨(some 51), .bin .shl (.tmp 50) (.c (.int .u64 10))⟩,
     ⟨(some 52), .bin .add (.c (.int .i32 65536)) (.tmp 51)⟩,
     ⟨(some 53), .mov (.tmp 7)⟩,
     ⟨(some 54), .bin .add (.tmp 52) (.tmp 53)⟩,
     ⟨(some 55), .bin .sub (.tmp 54) (.c (.int .i32 56320))⟩,
     ⟨(some 2), .mov (.tmp 55)⟩,
     ⟨(some 3), .mov (.c (.int .i64 12))⟩])
  .ret)))))))
def af328 : AFunc := ⟨56, [.tmp 2, .tmp 3], af328b, false⟩

/-- unicode/utf8.appendRuneNonASCII -/
def af339b : ACode :=
  (.seq
   (.reg [⟨(some 4), .mov (.c (.sl .nil []))⟩])
  (.seq
   (.reg [⟨(some 6), .mov (.tmp 1)⟩,
     ⟨(some 7), .cvI .u32 (.tmp 6)⟩,
     ⟨(some 5), .mov (.tmp 7)⟩])
  (.blk 0
   (.seq
    (.reg [⟨(some 12), .mov (.tmp 5)⟩,
      ⟨(some 13), .bin .leq (.tmp 12) (.c (.int .u32 2047))⟩,
      ⟨(some 11), .mov (.tmp 13)⟩])
   (.cond (.tmp 11)
    (.seq
     (.reg [⟨(some 14), .mov (.tmp 0)⟩,
       ⟨(some 15), .mov (.tmp 1)⟩,
       ⟨(some 16), .bin .shr (.tmp 15) (.c (.int .u64 6))⟩,
       ⟨(some 17), .cvI .u8 (.tmp 16)⟩,
       ⟨(some 18), .bin .or (.c (.int .u8 192)) (.tmp 17)⟩,
       ⟨(some 19), .mov (.tmp 1)⟩,
       ⟨(some 20), .cvI .u8 (.tmp 19)⟩,
       ⟨(some 21), .bin .and (.tmp 20) (.c (.int .u8 63))⟩,
       ⟨(some 22), .bin .or (.c (.int .u8 128)) (.tmp 21)⟩,
       ⟨(some 23), .bsl 1 (.int .u8 0) 2 [(0, (.tmp 18)), (1, (.tmp 22))]⟩,
       ⟨(some 24), .app false 1 (1, 5) (.tmp 14) (.tmp 23)⟩,
       ⟨(some 4), .mov (.tmp 24)⟩])
    .ret)
    (.seq
     (.seq
      (.reg [⟨(some 26), .mov (.tmp 5)⟩,
        ⟨(some 27), .bin .lss (.tmp 26) (.c (.int .u32 55296))⟩,
        ⟨(some 25), .mov (.tmp 27)⟩])
     (.cond (.tmp 25)
      .skip
      (.reg [⟨(some 28), .mov (.tmp 5)⟩,
        ⟨(some 29), .bin .lss (.c (.int .u32 57343)) (.tmp 28)⟩,
        ⟨(some 33), .sc 30 true (.tmp 29) [⟨(some 31), .mov (.tmp 5)⟩, ⟨(some 32), .bin .leq (.tmp 31) (.c (.int .u32 65535))⟩] (.tmp 32)⟩,
        ⟨(some 25), .mov (.tmp 33)⟩])))
    (.cond (.tmp 25)
     (.seq
      (.reg [⟨(some 34), .mov (.tmp 0)⟩,
        ⟨(some 35), .mov (.tmp 1)⟩,
        ⟨(some 36), .bin .shr (.tmp 35) (.c (.int .u64 12))⟩,
        ⟨(some 37), .cvI .u8 (.tmp 36)⟩,
        ⟨(some 38), .bin .or (.c (.int .u8 224)) (.tmp 37)⟩,
        ⟨(some 39), .mov (.tmp 1)⟩,
        ⟨(some 40), .bin .shr (.tmp 39) (.c (.int .u64 6))⟩,
        ⟨(some 41), .cvI .u8 (.tmp 40)⟩,
        ⟨(some 42), .bin .and (.tmp 41) (.c (.int .u8 63))⟩,
        ⟨(some 43), .bin .or (.c (.int .u8 128)) (.tmp 42)⟩,
        ⟨(some 44), .mov (.tmp 1)⟩,
        ⟨(some 45), .cvI .u8 (.tmp 44)⟩,
        ⟨(some 46), .bin .and (.tmp 45) (.c (.int .u8 63))⟩,
        ⟨(some 47), .bin .or (.c (.int .u8 128)) (.tmp 46)⟩,
        ⟨(some 48), .bsl 1 (.int .u8 0) 3 [(0, (.tmp 38)), (1, (.tmp 43)), (2, (.tmp 47))]⟩,
        ⟨(some 49), .app false 1 (1, 5) (.tmp 34) (.tmp 48)⟩,
        ⟨(some 4), .mov (.tmp 49)⟩])
     .ret)
     (.seq
      (.reg [⟨(some 51), .mov (.tmp 5)⟩,
        ⟨(some 52), .bin .gtr (.tmp 51) (.c (.int .u32 65535))⟩,
        ⟨(some 56), .sc 53 true (.tmp 52) [⟨(some 54), .mov (.tmp 5)⟩, ⟨(some 55), .bin .leq (.tmp 54) (.c (.int .u32 1114111))⟩] (.tmp 55)⟩,
        ⟨(some 50), .mov (.tmp 56)⟩])
     (.cond (.tmp 50)
      (.seq
       (.reg [⟨(some 57), .mov (.tmp 0)⟩,
         ⟨(some 58), .mov (.tmp 1)⟩,
         ⟨(some 59), .bin .shr (.tmp 58) (.c (.int .u64 18))⟩,
         ⟨(some 60), .cvI .u8 (.tmp 59)⟩,
         ⟨(some 61), .bin .or (.c (.int .u8 240)) (.tmp 60)⟩,
         ⟨(some 62), .mov (.tmp 1)⟩,
         ⟨(some 63), .bin .shr (.tmp 62) (.c (.int .u64 12))⟩,
         ⟨(some 64), .cvI .u8 (.tmp 63)⟩,
         ⟨(some 65), .bin .and (.tmp 64) (.c (.int .u8 63))⟩,
         ⟨(some 66), .bin .or (.c (.int .u8 128)) (.tmp 65)⟩,
         ⟨(some 67), .mov (.tmp 1)⟩,
         ⟨(some 68), .bin .shr (.tmp 67) (.c (.int .u64 6))⟩,
         ⟨(some 69), .cvI .u8 (.tmp 68)⟩,
         ⟨(some 70), .bin .and (.tmp 69) (.c (.int .u8 63))⟩,
         ⟨(some 71), .bin .or (.c (.int .u8 128)) (.tmp 70)⟩,
         ⟨(some 72), .mov (.tmp 1)⟩,
         ⟨(some 73), .cvI .u8 (.tmp 72)⟩,
         ⟨(some 74), .bin .and (.tmp 73) (.c (.int .u8 63))⟩,
         ⟨(some 75), .bin .or (.c (.int .u8 128)) (.tmp 74)⟩,
         ⟨(some 76), .bsl 1 (.int .u8 0) 4 [(0, (.tmp 61)), (1, (.tmp 66)), (2, (.tmp 71)), (3, (.tmp 75))]⟩,
         ⟨(some 77), .app false 1 (1, 5) (.tmp 57) (.tmp 76)⟩,
         ⟨(some 4), .mov (.tmp 77)⟩])
      .ret)
      (.seq
       (.reg [⟨(some 8), .mov (.tmp 0)⟩,
         ⟨(some 9), .bsl 1 (.int .u8 0) 3 [(0, (.c (.int .u8 239))), (1, (.c (.int .u8 191))), (2, (.c (.int .u8 189)))]⟩,
         ⟨(some 10), .app false 1 (1, 5) (.tmp 8) (.tmp 9)⟩,
         ⟨(some 4), .mov (.tmp 10)⟩])
      .ret))))))))))
def af339 : AFunc := ⟨78, [.tmp 4], af339b, true⟩

/-- strings.indexFunc -/
def af343l0 : ACode :=
  (.seq
      (.reg [⟨(some 11), .nxt (.tmp 10)⟩,
        ⟨(some 12), .ext (.tmp 11) 0⟩])
     (.seq
      (.cond (.tmp 12)
       .skip
       (.exit 0))
     (.blk 1
      (.seq
       (.reg [⟨(some 13), .ext (.tmp 11) 1⟩,
         ⟨(some 14), .ext (.tmp 11) 2⟩,
         ⟨(some 7), .mov (.tmp 13)⟩,
         ⟨(some 8), .mov (.tmp 14)⟩])
      (.seq
       (.reg [⟨(some 15), .mov (.tmp 1)⟩,
         ⟨(some 16), .mov (.tmp 8)⟩,
         ⟨(some 17), .call false false (.tmp 15) [(.tmp 16)]⟩,
         ⟨(some 18), .mov (.tmp 2)⟩,
         ⟨(some 19), .eqb false (.tmp 17) (.tmp 18)⟩])
      (.cond (.tmp 19)
       (.seq
        (.reg [⟨(some 20), .mov (.tmp 7)⟩,
          ⟨(some 6), .mov (.tmp 20)⟩])
       .ret)
       .skip))))))
def af343b : ACode :=
  (.seq
   (.reg [⟨(some 6), .mov (.c (.int .i64 0))⟩])
  (.seq
   (.seq
    (.reg [⟨(some 9), .mov (.tmp 0)⟩,
      ⟨(some 10), .rng (.tmp 9)⟩])
   (.blk 0
    (.loop false af343l0)))
  (.seq
   (.reg [⟨(some 6), .mov (.c (.int .i64 (-1)))⟩])
  .ret)))
def af343 : AFunc := ⟨21, [.tmp 6], af343b, false⟩

/-- cascade/block.lead -/
def af345b : ACode :=
  (.seq
   (.reg [⟨(some 2), .mov (.c (.int .i64 0))⟩,
     ⟨(some 3), .mov (.c (.bool false))⟩])
  (.seq
   (.reg [⟨(some 5), .mov (.tmp 0)⟩,
     ⟨(some 6), .call false false (.c (.fn (.func 356) [] [])) [(.tmp 5), (.c (.str [32, 9]))]⟩,
     ⟨(some 4), .mov (.tmp 6)⟩])
  (.seq
   (.reg [⟨(some 7), .mov (.tmp 0)⟩,
     ⟨(some 8), .len 0 (.tmp 7)⟩,
     ⟨(some 9), .mov (.tmp 4)⟩,
     ⟨(some 10), .len 0 (.tmp 9)⟩,
     ⟨(some 11), .bin .sub (.tmp 8) (.tmp 10)⟩,
     ⟨(some 12), .mov (.tmp 4)⟩,
     ⟨(some 13), .bin .neq (.tmp 12) (.c (.str []))⟩,
     ⟨(some 2), .mov (.tmp 11)⟩,
     ⟨(some 3), .mov (.tmp 13)⟩])
  .ret)))
def af345 : AFunc := ⟨14, [.tmp 2, .tmp 3], af345b, false⟩

/-- cascade/quote.short -/
def af346b : ACode :=
  (.seq
   (.reg [⟨(some 2), .mov (.c (.int .i32 0))⟩,
     ⟨(some 3), .mov (.c (.bool false))⟩])
  (.seq
   (.seq
    (.reg [⟨(some 4), .mov (.tmp 0)⟩])
   (.blk 0
    (.seq
     (.seq
      (.reg [⟨(some 6), .bin .eql (.tmp 4) (.c (.int .u8 34))⟩,
        ⟨(some 5), .mov (.tmp 6)⟩])
     (.cond (.tmp 5)
      .skip
      (.seq
       (.reg [⟨(some 7), .bin .eql (.tmp 4) (.c (.int .u8 92))⟩,
         ⟨(some 5), .mov (.tmp 7)⟩])
      (.cond (.tmp 5)
       .skip
       (.reg [⟨(some 8), .bin .eql (.tmp 4) (.c (.int .u8 47))⟩,
         ⟨(some 5), .mov (.tmp 8)⟩])))))
    (.cond (.tmp 5)
     (.seq
      (.reg [⟨(some 9), .mov (.tmp 0)⟩,
        ⟨(some 10), .cvI .i32 (.tmp 9)⟩,
        ⟨(some 2), .mov (.tmp 10)⟩,
        ⟨(some 3), .mov (.c (.bool true))⟩])
     .ret)
     (.seq
      (.reg [⟨(some 12), .bin .eql (.tmp 4) (.c (.int .u8 98))⟩,
        ⟨(some 11), .mov (.tmp 12)⟩])
     (.cond (.tmp 11)
      (.seq
       (.reg [⟨(some 2), .mov (.c (.int .i32 8))⟩,
         ⟨(some 3), .mov (.c (.bool true))⟩])
      .ret)
      (.seq
       (.reg [⟨(some 14), .bin .eql (.tmp 4) (.c (.int .u8 102))⟩,
         ⟨(some 13), .mov (.tmp 14)⟩])
      (.cond (.tmp 13)
       (.seq
        (.reg [⟨(some 2), .mov (.c (.int .i32 12))⟩,
          ⟨(some 3), .mov (.c (.bool true))⟩])
       .ret)
       (.seq
        (.reg [⟨(some 16), .bin .eql (.tmp 4) (.c (.int .u8 110))⟩,
          ⟨(some 15), .mov (.tmp 16)⟩])
       (.cond (.tmp 15)
        (.seq
         (.reg [⟨(some 2), .mov (.c (.int .i32 10))⟩,
           ⟨(some 3), .mov (.c (.bool true))⟩])
        .ret)
        (.seq
         (.reg [⟨(some 18), .bin .eql (.tmp 4) (.c (.int .u8 114))⟩,
           ⟨(some 17), .mov (.tmp 18)⟩])
        (.cond (.tmp 17)
         (.seq
          (.reg [⟨(some 2), .mov (.c (.int .i32 13))⟩,
            ⟨(some 3), .mov (.c (.bool true))⟩])
         .ret)
         (.seq
          (.reg [⟨(some 20), .bin .eql (.tmp 4) (.c (.int .u8 116))⟩,
            ⟨(some 19), .mov (.tmp 20)⟩])
         (.cond (.tmp 19)
          (.seq
           (.reg [⟨(some 2), .mov (.c (.int .i32 9))⟩,
             ⟨(some 3), .mov (.c (.bool true))⟩])
          .ret)
          .skip))))))))))))))
  (.seq
   (.reg [⟨(some 2), .mov (.c (.int .i32 0))⟩,
     ⟨(some 3), .mov (.c (.bool false))⟩])
  .ret)))
def af346 : AFunc := ⟨21, [.tmp 2, .tmp 3], af346b, false⟩

/-- cascade/quote.unit -/
def af347l0 : ACode :=
  (.seq
      (.reg [⟨(some 20), .bin .lss (.tmp 19) (.c (.int .i64 4))⟩])
     (.seq
      (.cond (.tmp 20)
       .skip
       (.exit 0))
     (.seq
      (.blk 1
       (.seq
        (.reg [⟨(some 21), .mov (.tmp 19)⟩,
          ⟨(some 4), .mov (.tmp 21)⟩])
       (.seq
        (.reg [⟨(some 22), .mov (.tmp 0)⟩,
          ⟨(some 23), .mov (.tmp 4)⟩,
          ⟨(some 24), .bin .add (.c (.int .i64 2)) (.tmp 23)⟩,
          ⟨(some 25), .idx (.tmp 22) (.tmp 24)⟩,
          ⟨(some 26), .call false false (.c (.fn (.func 357) [] [])) [(.tmp 25)]⟩,
          ⟨(some 5), .mov (.tmp 26)⟩])
       (.seq
        (.seq
         (.reg [⟨(some 27), .mov (.tmp 5)⟩,
           ⟨(some 28), .bin .lss (.tmp 27) (.c (.int .i32 0))⟩])
        (.cond (.tmp 28)
         (.seq
          (.reg [⟨(some 2), .mov (.c (.int .i32 (-1)))⟩])
         .ret)
         .skip))
       (.reg [⟨(some 29), .mov (.tmp 3)⟩,
         ⟨(some 30), .bin .shl (.tmp 29) (.c (.int .u64 4))⟩,
         ⟨(some 31), .mov (.tmp 5)⟩,
         ⟨(some 32), .bin .or (.tmp 30) (.tmp 31)⟩,
         ⟨(some 3), .mov (.tmp 32)⟩])))))
     (.reg [⟨(some 33), .bin .add (.tmp 19) (.c (.int .i64 1))⟩,
       ⟨(some 19), .mov (.tmp 33)⟩]))))
def af347b : ACode :=
  (.seq
   (.reg [⟨(some 2), .mov (.c (.int .i32 0))⟩])
  (.seq
   (.seq
    (.reg [⟨(some 6), .mov (.tmp 0)⟩,
      ⟨(some 7), .len 0 (.tmp 6)⟩,
      ⟨(some 8), .bin .lss (.tmp 7) (.c (.int .i64 6))⟩,
      ⟨(some 13), .sc 9 false (.tmp 8) [⟨(some 10), .mov (.tmp 0)⟩, ⟨(some 11), .idx (.tmp 10) (.c (.int .i64 0))⟩, ⟨(some 12), .bin .neq (.tmp 11) (.c (.int .u8 92))⟩] (.tmp 12)⟩,
      ⟨(some 18), .sc 14 false (.tmp 13) [⟨(some 15), .mov (.tmp 0)⟩, ⟨(some 16), .idx (.tmp 15) (.c (.int .i64 1))⟩, ⟨(some 17), .bin .neq (.tmp 16) (.c (.int .u8 117))⟩] (.tmp 17)⟩])
   (.cond (.tmp 18)
    (.seq
     (.reg [⟨(some 2), .mov (.c (.int .i32 (-1)))⟩])
    .ret)
    .skip))
  (.seq
   (.reg [⟨(some 3), .mov (.c (.int .i32 0))⟩])
  (.seq
   (.seq
    (.reg [⟨(some 19), .mov (.c (.int .i64 0))⟩])
   (.blk 0
    (.loop false af347l0)))
  (.seq
   (.reg [⟨(some 34), .mov (.tmp 3)⟩,
     ⟨(some 2), .mov (.tmp 34)⟩])
  .ret)))))
def af347 : AFunc := ⟨35, [.tmp 2], af347b, false⟩

/-- cascade/quote.digit -/
def af357b : ACode :=
  (.seq
   (.reg [⟨(some 2), .mov (.c (.int .i32 0))⟩])
  (.seq
   (.blk 0
    (.seq
     (.reg [⟨(some 4), .mov (.tmp 0)⟩,
       ⟨(some 5), .bin .geq (.tmp 4) (.c (.int .u8 48))⟩,
       ⟨(some 9), .sc 6 true (.tmp 5) [⟨(some 7), .mov (.tmp 0)⟩, ⟨(some 8), .bin .leq (.tmp 7) (.c (.int .u8 57))⟩] (.tmp 8)⟩,
       ⟨(some 3), .mov (.tmp 9)⟩])
    (.cond (.tmp 3)
     (.seq
      (.reg [⟨(some 10), .mov (.tmp 0)⟩,
        ⟨(some 11), .bin .sub (.tmp 10) (.c (.int .u8 48))⟩,
        ⟨(some 12), .cvI .i32 (.tmp 11)⟩,
        ⟨(some 2), .mov (.tmp 12)⟩])
     .ret)
     (.seq
      (.reg [⟨(some 14), .mov (.tmp 0)⟩,
        ⟨(some 15), .bin .geq (.tmp 14) (.c (.int .u8 97))⟩,
        ⟨(some 19), .sc 16 true (.tmp 15) [⟨(some 17), .mov (.tmp 0)⟩, ⟨(some 18), .bin .leq (.tmp 17) (.c (.int .u8 102))⟩] (.tmp 18)⟩,
        ⟨(some 13), .mov (.tmp 19)⟩])
     (.cond (.tmp 13)
      (.seq
       (.reg [⟨(some 20), .mov (.tmp 0)⟩,
         ⟨(some 21), .bin .sub (.tmp 20) (.c (.int .u8 97))⟩,
         ⟨(some 22), .cvI .i32 (.tmp 21)⟩,
         ⟨(some 23), .bin .add (.tmp 22) (.c (.int .i32 10))⟩,
         ⟨(some 2), .mov (.tmp 23)⟩])
      .ret)
      (.seq
       (.reg [⟨(some 25), .mov (.tmp 0)⟩,
         ⟨(some 26), .bin .geq (.tmp 25) (.c (.int .u8 65))⟩,
         ⟨(some 30), .sc 27 true (.tmp 26) [⟨(some 28), .mov (.tmp 0)⟩, ⟨(some 29), .bin .leq (.tmp 28) (.c (.int .u8 70))⟩] (.tmp 29)⟩,
         ⟨(some 24), .mov (.tmp 30)⟩])
      (.cond (.tmp 24)
       (.seq
        (.reg [⟨(some 31), .mov (.tmp 0)⟩,
          ⟨(some 32), .bin .sub (.tmp 31) (.c (.int .u8 65))⟩,
          ⟨(some 33), .cvI .i32 (.tmp 32)⟩,
          ⟨(some 34), .bin .add (.tmp 33) (.c (.int .i32 10))⟩,
          ⟨(some 2), .mov (.tmp 34)⟩])
       .ret)
       .skip)))))))
  (.seq
   (.reg [⟨(some 2), .mov (.c (.int .i32 (-1)))⟩])
  .ret)))
def af357 : AFunc := ⟨35, [.tmp 2], af357b, false⟩

def tabL : List (FuncId × AFunc) := [(11, af11), (44, af44), (45, af45), (46, af46), (47, af47), (48, af48), (49, af49), (50, af50), (54, af54), (56, af56), (75, af75), (122, af122), (123, af123), (124, af124), (125, af125), (126, af126), (128, af128), (129, af129), (130, af130), (131, af131), (135, af135), (147, af147), (172, af172), (198, af198), (199, af199), (200, af200), (201, af201), (202, af202), (203, af203), (204, af204), (207, af207), (208, af208), (257, af257), (258, af258), (259, af259), (260, af260), (261, af261), (262, af262), (263, af263), (264, af264), (265, af265), (266, af266), (267, af267), (279, af279), (300, af300), (301, af301), (302, af302), (303, af303), (304, af304), (305, af305), (313, af313), (323, af323), (324, af324), (326, af326), (327, af327), (328, af328), (339, af339), (343, af343), (345, af345), (346, af346), (347, af347), (357, af357)]
set_option maxRecDepth 100000
theorem of11 : Of Tryz.prog 11 af11 := ⟨{}, by kernel_rfl⟩
theorem of44 : Of Tryz.prog 44 af44 := ⟨{}, by kernel_rfl⟩
theorem of45 : Of Tryz.prog 45 af45 := ⟨{}, by kernel_rfl⟩
theorem of46 : Of Tryz.prog 46 af46 := ⟨{}, by kernel_rfl⟩
theorem of47 : Of Tryz.prog 47 af47 := ⟨{}, by kernel_rfl⟩
theorem of48 : Of Tryz.prog 48 af48 := ⟨{}, by kernel_rfl⟩
theorem of49 : Of Tryz.prog 49 af49 := ⟨{}, by kernel_rfl⟩
theorem of50 : Of Tryz.prog 50 af50 := ⟨{}, by kernel_rfl⟩
theorem of54 : Of Tryz.prog 54 af54 := ⟨{}, by kernel_rfl⟩
theorem of56 : Of Tryz.prog 56 af56 := ⟨{}, by kernel_rfl⟩
theorem of75 : Of Tryz.prog 75 af75 := ⟨{}, by kernel_rfl⟩
theorem of122 : Of Tryz.prog 122 af122 := ⟨{}, by kernel_rfl⟩
theorem of123 : Of Tryz.prog 123 af123 := ⟨{}, by kernel_rfl⟩
theorem of124 : Of Tryz.prog 124 af124 := ⟨{}, by kernel_rfl⟩
theorem of125 : Of Tryz.prog 125 af125 := ⟨{}, by kernel_rfl⟩
theorem of126 : Of Tryz.prog 126 af126 := ⟨{}, by kernel_rfl⟩
theorem of128 : Of Tryz.prog 128 af128 := ⟨{}, by kernel_rfl⟩
theorem of129 : Of Tryz.prog 129 af129 := ⟨{}, by kernel_rfl⟩
theorem of130 : Of Tryz.prog 130 af130 := ⟨{}, by kernel_rfl⟩
theorem of131 : Of Tryz.prog 131 af131 := ⟨{}, by kernel_rfl⟩
theorem of135 : Of Tryz.prog 135 af135 := ⟨{}, by kernel_rfl⟩
theorem of147 : Of Tryz.prog 147 af147 := ⟨{}, by kernel_rfl⟩
theorem of172 : Of Tryz.prog 172 af172 := ⟨{}, by kernel_rfl⟩
theorem of198 : Of Tryz.prog 198 af198 := ⟨{}, by kernel_rfl⟩
theorem of199 : Of Tryz.prog 199 af199 := ⟨{}, by kernel_rfl⟩
theorem of200 : Of Tryz.prog 200 af200 := ⟨{}, by kernel_rfl⟩
theorem of201 : Of Tryz.prog 201 af201 := ⟨{}, by kernel_rfl⟩
theorem of202 : Of Tryz.prog 202 af202 := ⟨{}, by kernel_rfl⟩
theorem of203 : Of Tryz.prog 203 af203 := ⟨{}, by kernel_rfl⟩
theorem of204 : Of Tryz.prog 204 af204 := ⟨{}, by kernel_rfl⟩
theorem of207 : Of Tryz.prog 207 af207 := ⟨{}, by kernel_rfl⟩
theorem of208 : Of Tryz.prog 208 af208 := ⟨{}, by kernel_rfl⟩
theorem of257 : Of Tryz.prog 257 af257 := ⟨{}, by kernel_rfl⟩
theorem of258 : Of Tryz.prog 258 af258 := ⟨{}, by kernel_rfl⟩
theorem of259 : Of Tryz.prog 259 af259 := ⟨{}, by kernel_rfl⟩
theorem of260 : Of Tryz.prog 260 af260 := ⟨{}, by kernel_rfl⟩
theorem of261 : Of Tryz.prog 261 af261 := ⟨{}, by kernel_rfl⟩
theorem of262 : Of Tryz.prog 262 af262 := ⟨{}, by kernel_rfl⟩
theorem of263 : Of Tryz.prog 263 af263 := ⟨{}, by kernel_rfl⟩
theorem of264 : Of Tryz.prog 264 af264 := ⟨{}, by kernel_rfl⟩
theorem of265 : Of Tryz.prog 265 af265 := ⟨{}, by kernel_rfl⟩
theorem of266 : Of Tryz.prog 266 af266 := ⟨{}, by kernel_rfl⟩
theorem of267 : Of Tryz.prog 267 af267 := ⟨{}, by kernel_rfl⟩
theorem of279 : Of Tryz.prog 279 af279 := ⟨{own := [20]}, by kernel_rfl⟩
theorem of300 : Of Tryz.prog 300 af300 := ⟨{}, by kernel_rfl⟩
theorem of301 : Of Tryz.prog 301 af301 := ⟨{}, by kernel_rfl⟩
theorem of302 : Of Tryz.prog 302 af302 := ⟨{}, by kernel_rfl⟩
theorem of303 : Of Tryz.prog 303 af303 := ⟨{}, by kernel_rfl⟩
theorem of304 : Of Tryz.prog 304 af304 := ⟨{}, by kernel_rfl⟩
theorem of305 : Of Tryz.prog 305 af305 := ⟨{}, by kernel_rfl⟩
theorem of313 : Of Tryz.prog 313 af313 := ⟨{own := [15]}, by kernel_rfl⟩
theorem of323 : Of Tryz.prog 323 af323 := ⟨{}, by kernel_rfl⟩
theorem of324 : Of Tryz.prog 324 af324 := ⟨{grow := [27, 33]}, by kernel_rfl⟩
theorem of326 : Of Tryz.prog 326 af326 := ⟨{}, by kernel_rfl⟩
theorem of327 : Of Tryz.prog 327 af327 := ⟨{}, by kernel_rfl⟩
theorem of328 : Of Tryz.prog 328 af328 := ⟨{}, by kernel_rfl⟩
theorem of339 : Of Tryz.prog 339 af339 := ⟨{}, by kernel_rfl⟩
theorem of343 : Of Tryz.prog 343 af343 := ⟨{}, by kernel_rfl⟩
theorem of345 : Of Tryz.prog 345 af345 := ⟨{}, by kernel_rfl⟩
theorem of346 : Of Tryz.prog 346 af346 := ⟨{}, by kernel_rfl⟩
theorem of347 : Of Tryz.prog 347 af347 := ⟨{}, by kernel_rfl⟩
theorem of357 : Of Tryz.prog 357 af357 := ⟨{}, by kernel_rfl⟩
theorem tabL_ok : ∀ p ∈ tabL, Of Tryz.prog p.1 p.2 ∧ okC p.2.body = true := by
  intro p hp
  simp only [tabL, List.mem_cons, List.not_mem_nil, or_false] at hp
  rcases hp with rfl | rfl | rfl | rfl | rfl | rfl | rfl | rfl | rfl | rfl | rfl | rfl | rfl | rfl | rfl | rfl | rfl | rfl | rfl | rfl | rfl | rfl | rfl | rfl | rfl | rfl | rfl | rfl | rfl | rfl | rfl | rfl | rfl | rfl | rfl | rfl | rfl | rfl | rfl | rfl | rfl | rfl | rfl | rfl | rfl | rfl | rfl | rfl | rfl | rfl | rfl | rfl | rfl | rfl | rfl | rfl | rfl | rfl | rfl | rfl | rfl | rfl
  · exact ⟨of11, by kernel_rfl⟩
  · exact ⟨of44, by kernel_rfl⟩
  · exact ⟨of45, by kernel_rfl⟩
  · exact ⟨of46, by kernel_rfl⟩
  · exact ⟨of47, by kernel_rfl⟩
  · exact ⟨of48, by kernel_rfl⟩
  · exact ⟨of49, by kernel_rfl⟩
  · exact ⟨of50, by kernel_rfl⟩
  · exact ⟨of54, by kernel_rfl⟩
  · exact ⟨of56, by kernel_rfl⟩
  · exact ⟨of75, by kernel_rfl⟩
  · exact ⟨of122, by kernel_rfl⟩
  · exact ⟨of123, by kernel_rfl⟩
  · exact ⟨of124, by kernel_rfl⟩
  · exact ⟨of125, by kernel_rfl⟩
  · exact ⟨of126, by kernel_rfl⟩
  · exact ⟨of128, by kernel_rfl⟩
  · exact ⟨of129, by kernel_rfl⟩
  · exact ⟨of130, by kernel_rfl⟩
  · exact ⟨of131, by kernel_rfl⟩
  · exact ⟨of135, by kernel_rfl⟩
  · exact ⟨of147, by kernel_rfl⟩
  · exact ⟨of172, by kernel_rfl⟩
  · exact ⟨of198, by kernel_rfl⟩
  · exact ⟨of199, by kernel_rfl⟩
  · exact ⟨of200, by kernel_rfl⟩
  · exact ⟨of201, by kernel_rfl⟩
  · exact ⟨of202, by kernel_rfl⟩
  · exact ⟨of203, by kernel_rfl⟩
  · exact ⟨of204, by kernel_rfl⟩
  · exact ⟨of207, by kernel_rfl⟩
  · exact ⟨of208, by kernel_rfl⟩
  · exact ⟨of257, by kernel_rfl⟩
  · exact ⟨of258, by kernel_rfl⟩
  · exact ⟨of259, by kernel_rfl⟩
  · exact ⟨of260, by kernel_rfl⟩
  · exact ⟨of261, by kernel_rfl⟩
  · exact ⟨of262, by kernel_rfl⟩
  · exact ⟨of263, by kernel_rfl⟩
  · exact ⟨of264, by kernel_rfl⟩
  · exact ⟨of265, by kernel_rfl⟩
  · exact ⟨of266, by kernel_rfl⟩
  · exact ⟨of267, by kernel_rfl⟩
  · exact ⟨of279, by kernel_rfl⟩
  · exact ⟨of300, by kernel_rfl⟩
  · exact ⟨of301, by kernel_rfl⟩
  · exact ⟨of302, by kernel_rfl⟩
  · exact ⟨of303, by kernel_rfl⟩
  · exact ⟨of304, by kernel_rfl⟩
  · exact ⟨of305, by kernel_rfl⟩
  · exact ⟨of313, by kernel_rfl⟩
  · exact ⟨of323, by kernel_rfl⟩
  · exact ⟨of324, by kernel_rfl⟩
  · exact ⟨of326, by kernel_rfl⟩
  · exact ⟨of327, by kernel_rfl⟩
  · exact ⟨of328, by kernel_rfl⟩
  · exact ⟨of339, by kernel_rfl⟩
  · exact ⟨of343, by kernel_rfl⟩
  · exact ⟨of345, by kernel_rfl⟩
  · exact ⟨of346, by kernel_rfl⟩
  · exact ⟨of347, by kernel_rfl⟩
  · exact ⟨of357, by kernel_rfl⟩
def tab (f : FuncId) : Option AFunc := (tabL.find? (fun p => p.1 == f)).map (·.2)
theorem tab_ok {f : FuncId} {F : AFunc} (h : tab f = some F) : Of Tryz.prog f F ∧ okC F.body = true := by
  simp only [tab, Option.map_eq_some_iff] at h
  obtain ⟨p, hp, rfl⟩ := h
  have hm := List.mem_of_find?_eq_some hp
  have he := List.find?_some hp
  have : p.1 = f := by simpa using he
  subst this
  exact tabL_ok p hm

end Go.Proofs.YtboejpobmpfifaaGreatDoor.Eng
