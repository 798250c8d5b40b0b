/-
 The code of the functions, as the evaluator takes it; the table. Printed by a program of the session out of the program itself; that it is the program is proved here. No condition.
-/
import Derived.Test.YtboejpobmpfifaaGreatDoorEngP
import Derived.Test.YtboejpobmpfifaaGreatDoorProg
import Derived.KernelRfl
namespace Go.Proofs.YtboejpobmpfifaaGreatDoor.Eng
open Go

/-- cascade/cascadelaw27.ChunkValues -/
def af4b : ACode :=
 (.seq
 (.reg [⟨(some 1), .box 51 (.tmp 0)⟩,
 ⟨(some 2), .mov (.c (.bool false))⟩])
 (.seq
 (.seq
 (.reg [⟨(some 8), .call false false (.c (.fn (.func 21) [] [])) []⟩,
 ⟨(some 9), .un .not (.tmp 8)⟩,
 ⟨(some 14), .sc 10 false (.tmp 9) [⟨(some 11), .load (some 15) (.tmp 1)⟩, ⟨(some 12), .call false false (.c (.fn (.func 22) [] [])) [(.tmp 11)]⟩, ⟨(some 13), .un .not (.tmp 12)⟩] (.tmp 13)⟩])
 (.cond (.tmp 14)
 (.seq
 (.reg [⟨(some 15), .call false false (.c (.fn (.func 21) [] [])) []⟩,
 ⟨(some 2), .mov (.tmp 15)⟩])
 .ret)
 .skip))
 (.seq
 (.reg [⟨(some 16), .load (some 15) (.tmp 1)⟩,
 ⟨(some 17), .call false false (.c (.fn (.func 23) [] [])) [(.tmp 16)]⟩,
 ⟨(some 3), .mov (.tmp 17)⟩])
 (.seq
 (.reg [⟨(some 19), .load (some 15) (.tmp 1)⟩,
 ⟨(some 20), .call false false (.c (.fn (.func 24) [] [])) [(.tmp 19)]⟩,
 ⟨(some 18), .mov (.tmp 20)⟩,
 ⟨(some 21), .ext (.tmp 18) 0⟩,
 ⟨(some 22), .ext (.tmp 18) 1⟩,
 ⟨(some 4), .new 46 [(.int .i64 0), (.int .i64 0), (.str []), (.sl .nil []), (.sl .nil [])]⟩,
 ⟨none, .store 5 (.tmp 4) (.tmp 21)⟩,
 ⟨(some 5), .mov (.tmp 22)⟩])
 (.seq
 (.seq
 (.reg [⟨(some 23), .load (some 15) (.tmp 1)⟩,
 ⟨(some 24), .call false false (.c (.fn (.func 25) [] [])) [(.tmp 23)]⟩,
 ⟨(some 25), .mov (.tmp 3)⟩,
 ⟨(some 26), .eqb true (.tmp 24) (.tmp 25)⟩])
 (.cond (.tmp 26)
 (.seq
 (.reg [⟨(some 2), .mov (.c (.bool false))⟩])
 .ret)
 .skip))
 (.seq
 (.seq
 (.reg [⟨(some 27), .mov (.tmp 3)⟩,
 ⟨(some 28), .un .not (.tmp 27)⟩])
 (.cond (.tmp 28)
 (.seq
 (.reg [⟨(some 29), .mov (.tmp 5)⟩,
 ⟨(some 30), .bin .eql (.tmp 29) (.c (.int .i64 1))⟩,
 ⟨(some 35), .sc 31 true (.tmp 30) [⟨(some 32), .load (some 5) (.tmp 4)⟩, ⟨(some 33), .build [(.int .i64 0), (.int .i64 0), (.str []), (.sl .nil []), (.sl .nil [])] []⟩, ⟨(some 34), .call false false (.c (.fn (.func 26) [] [])) [(.tmp 32), (.tmp 33)]⟩] (.tmp 34)⟩,
 ⟨(some 2), .mov (.tmp 35)⟩])
 .ret)
 .skip))
 (.seq
 (.reg [⟨(some 37), .load (some 5) (.tmp 4)⟩,
 ⟨(some 38), .call false false (.c (.fn (.func 27) [] [])) [(.tmp 37)]⟩,
 ⟨(some 36), .mov (.tmp 38)⟩,
 ⟨(some 39), .ext (.tmp 36) 0⟩,
 ⟨(some 40), .ext (.tmp 36) 1⟩,
 ⟨(some 6), .new 51 [(.bool false), (.int .i64 0), (.int .i64 0), (.str []), (.sl .nil []), (.sl .nil []), (.sl .nil []), (.sl .nil []), (.bool false), (.int .i64 0), (.bool false), (.sl .nil []), (.bool false), (.bool false), (.bool false)]⟩,
 ⟨none, .store 15 (.tmp 6) (.tmp 39)⟩,
 ⟨(some 7), .mov (.tmp 40)⟩])
 (.seq
 (.regD [] [⟨(some 41), .mov (.tmp 5)⟩,
 ⟨(some 42), .bin .eql (.tmp 41) (.c (.int .i64 0))⟩,
 ⟨(some 48), .sc 43 true (.tmp 42) [⟨(some 44), .load (some 5) (.tmp 4)⟩, ⟨(some 45), .load (some 15) (.tmp 1)⟩, ⟨(some 46), .call false true (.c (.fn (.func 28) [] [])) [(.tmp 45)]⟩, ⟨(some 47), .call false false (.c (.fn (.func 26) [] [])) [(.tmp 44), (.tmp 46)]⟩] (.tmp 47)⟩,
 ⟨(some 52), .sc 49 true (.tmp 48) [⟨(some 50), .mov (.tmp 7)⟩, ⟨(some 51), .bin .eql (.tmp 50) (.c (.int .i64 0))⟩] (.tmp 51)⟩,
 ⟨(some 57), .sc 53 true (.tmp 52) [⟨(some 54), .load (some 15) (.tmp 1)⟩, ⟨(some 55), .load (some 15) (.tmp 6)⟩, ⟨(some 56), .call false false (.c (.fn (.func 29) [] [])) [(.tmp 54), (.tmp 55)]⟩] (.tmp 56)⟩,
 ⟨(some 2), .mov (.tmp 57)⟩])
 .ret))))))))
def af4 : AFunc := ⟨58, [.tmp 2], af4b, false⟩

/-- cascade/cascadelaw27.ChunkOf -/
def af5b : ACode :=
 (.seq
 (.reg [⟨(some 1), .box 46 (.tmp 0)⟩,
 ⟨(some 2), .mov (.c (.bool false))⟩])
 (.seq
 (.seq
 (.reg [⟨(some 5), .call false false (.c (.fn (.func 21) [] [])) []⟩,
 ⟨(some 6), .un .not (.tmp 5)⟩,
 ⟨(some 11), .sc 7 false (.tmp 6) [⟨(some 8), .load (some 5) (.tmp 1)⟩, ⟨(some 9), .call false false (.c (.fn (.func 30) [] [])) [(.tmp 8), (.c (.int .i64 80))]⟩, ⟨(some 10), .un .not (.tmp 9)⟩] (.tmp 10)⟩])
 (.cond (.tmp 11)
 (.seq
 (.reg [⟨(some 12), .call false false (.c (.fn (.func 21) [] [])) []⟩,
 ⟨(some 2), .mov (.tmp 12)⟩])
 .ret)
 .skip))
 (.seq
 (.reg [⟨(some 14), .load (some 5) (.tmp 1)⟩,
 ⟨(some 15), .call false false (.c (.fn (.func 27) [] [])) [(.tmp 14)]⟩,
 ⟨(some 13), .mov (.tmp 15)⟩,
 ⟨(some 16), .ext (.tmp 13) 0⟩,
 ⟨(some 17), .ext (.tmp 13) 1⟩,
 ⟨(some 3), .new 51 [(.bool false), (.int .i64 0), (.int .i64 0), (.str []), (.sl .nil []), (.sl .nil []), (.sl .nil []), (.sl .nil []), (.bool false), (.int .i64 0), (.bool false), (.sl .nil []), (.bool false), (.bool false), (.bool false)]⟩,
 ⟨none, .store 15 (.tmp 3) (.tmp 16)⟩,
 ⟨(some 4), .mov (.tmp 17)⟩])
 (.seq
 (.seq
 (.reg [⟨(some 18), .mov (.tmp 4)⟩,
 ⟨(some 19), .bin .neq (.tmp 18) (.c (.int .i64 0))⟩])
 (.cond (.tmp 19)
 (.seq
 (.reg [⟨(some 20), .mov (.tmp 4)⟩,
 ⟨(some 21), .bin .eql (.tmp 20) (.c (.int .i64 4))⟩,
 ⟨(some 26), .sc 22 true (.tmp 21) [⟨(some 23), .load (some 15) (.tmp 3)⟩, ⟨(some 24), .build [(.bool false), (.int .i64 0), (.int .i64 0), (.str []), (.sl .nil []), (.sl .nil []), (.sl .nil []), (.sl .nil []), (.bool false), (.int .i64 0), (.bool false), (.sl .nil []), (.bool false), (.bool false), (.bool false)] []⟩, ⟨(some 25), .call false false (.c (.fn (.func 29) [] [])) [(.tmp 23), (.tmp 24)]⟩] (.tmp 25)⟩,
 ⟨(some 2), .mov (.tmp 26)⟩])
 .ret)
 .skip))
 (.seq
 (.regD [] [⟨(some 27), .load (some 15) (.tmp 3)⟩,
 ⟨(some 28), .call false false (.c (.fn (.func 23) [] [])) [(.tmp 27)]⟩,
 ⟨(some 34), .sc 29 true (.tmp 28) [⟨(some 30), .load (some 15) (.tmp 3)⟩, ⟨(some 31), .call false true (.c (.fn (.func 28) [] [])) [(.tmp 30)]⟩, ⟨(some 32), .load (some 5) (.tmp 1)⟩, ⟨(some 33), .call false false (.c (.fn (.func 26) [] [])) [(.tmp 31), (.tmp 32)]⟩] (.tmp 33)⟩,
 ⟨(some 2), .mov (.tmp 34)⟩])
 .ret)))))
def af5 : AFunc := ⟨35, [.tmp 2], af5b, false⟩

/-- cascade/cascadelaw27.ChunkBent -/
def af6b : ACode :=
 (.seq
 (.reg [⟨(some 3), .box 51 (.tmp 0)⟩,
 ⟨(some 5), .box 46 (.tmp 2)⟩,
 ⟨(some 6), .mov (.c (.bool false))⟩])
 (.seq
 (.seq
 (.reg [⟨(some 13), .call false false (.c (.fn (.func 21) [] [])) []⟩,
 ⟨(some 14), .un .not (.tmp 13)⟩,
 ⟨(some 19), .sc 15 false (.tmp 14) [⟨(some 16), .load (some 15) (.tmp 3)⟩, ⟨(some 17), .call false false (.c (.fn (.func 22) [] [])) [(.tmp 16)]⟩, ⟨(some 18), .un .not (.tmp 17)⟩] (.tmp 18)⟩,
 ⟨(some 24), .sc 20 false (.tmp 19) [⟨(some 21), .load (some 15) (.tmp 3)⟩, ⟨(some 22), .call false false (.c (.fn (.func 23) [] [])) [(.tmp 21)]⟩, ⟨(some 23), .un .not (.tmp 22)⟩] (.tmp 23)⟩,
 ⟨(some 29), .sc 25 false (.tmp 24) [⟨(some 26), .load (some 5) (.tmp 5)⟩, ⟨(some 27), .call false false (.c (.fn (.func 30) [] [])) [(.tmp 26), (.c (.int .i64 20))]⟩, ⟨(some 28), .un .not (.tmp 27)⟩] (.tmp 28)⟩])
 (.cond (.tmp 29)
 (.seq
 (.reg [⟨(some 30), .call false false (.c (.fn (.func 21) [] [])) []⟩,
 ⟨(some 6), .mov (.tmp 30)⟩])
 .ret)
 .skip))
 (.seq
 (.reg [⟨(some 32), .load (some 15) (.tmp 3)⟩,
 ⟨(some 33), .call false false (.c (.fn (.func 24) [] [])) [(.tmp 32)]⟩,
 ⟨(some 31), .mov (.tmp 33)⟩,
 ⟨(some 34), .ext (.tmp 31) 0⟩,
 ⟨(some 35), .ext (.tmp 31) 1⟩,
 ⟨(some 7), .new 46 [(.int .i64 0), (.int .i64 0), (.str []), (.sl .nil []), (.sl .nil [])]⟩,
 ⟨none, .store 5 (.tmp 7) (.tmp 34)⟩,
 ⟨(some 8), .mov (.tmp 35)⟩])
 (.seq
 (.seq
 (.reg [⟨(some 36), .fadr 4 (.tmp 7)⟩,
 ⟨(some 37), .load none (.tmp 36)⟩,
 ⟨(some 38), .len 1 (.tmp 37)⟩,
 ⟨(some 39), .bin .eql (.tmp 38) (.c (.int .i64 0))⟩])
 (.cond (.tmp 39)
 (.seq
 (.reg [⟨(some 6), .mov (.c (.bool false))⟩])
 .ret)
 .skip))
 (.seq
 (.reg [⟨(some 40), .mov (.tmp 1)⟩,
 ⟨(some 41), .cvI .i64 (.tmp 40)⟩,
 ⟨(some 42), .fadr 4 (.tmp 7)⟩,
 ⟨(some 43), .load none (.tmp 42)⟩,
 ⟨(some 44), .len 1 (.tmp 43)⟩,
 ⟨(some 45), .bin .rem (.tmp 41) (.tmp 44)⟩,
 ⟨(some 9), .mov (.tmp 45)⟩])
 (.seq
 (.reg [⟨(some 46), .bsl 6 (.agg [(.str []), (.int .i64 0), (.int .i64 0), (.str []), (.sl .nil []), (.sl .nil [])]) 0 []⟩,
 ⟨(some 47), .fadr 4 (.tmp 7)⟩,
 ⟨(some 48), .load none (.tmp 47)⟩,
 ⟨(some 49), .appm 6 (96, 63) (.tmp 46) (.tmp 48)⟩,
 ⟨(some 50), .build [(.int .i64 0), (.int .i64 0), (.str []), (.sl .nil []), (.sl .nil [])] [(0, 1, (.c (.int .i64 5))), (4, 1, (.tmp 49))]⟩,
 ⟨(some 10), .new 46 [(.int .i64 0), (.int .i64 0), (.str []), (.sl .nil []), (.sl .nil [])]⟩,
 ⟨none, .store 5 (.tmp 10) (.tmp 50)⟩])
 (.seq
 (.regD [(10, 4000004)] [⟨(some 51), .fadr 4 (.tmp 10)⟩,
 ⟨(some 52), .load none (.tmp 51)⟩,
 ⟨(some 53), .mov (.tmp 9)⟩,
 ⟨(some 54), .fadr 4 (.tmp 10)⟩,
 ⟨(some 55), .load none (.tmp 54)⟩,
 ⟨(some 56), .mov (.tmp 9)⟩,
 ⟨(some 57), .iadr 6 (.tmp 55) (.tmp 56)⟩,
 ⟨(some 58), .fadr 0 (.tmp 57)⟩,
 ⟨(some 59), .load none (.tmp 58)⟩,
 ⟨(some 60), .load (some 5) (.tmp 5)⟩,
 ⟨(some 61), .build [(.str []), (.int .i64 0), (.int .i64 0), (.str []), (.sl .nil []), (.sl .nil [])] [(0, 1, (.tmp 59)), (1, 5, (.tmp 60))]⟩,
 ⟨(some 62), .iadr 6 (.tmp 52) (.tmp 53)⟩,
 ⟨none, .store 6 (.tmp 62) (.tmp 61)⟩])
 (.seq
 (.reg [⟨(some 64), .load (some 5) (.tmp 10)⟩,
 ⟨(some 65), .call false false (.c (.fn (.func 27) [] [])) [(.tmp 64)]⟩,
 ⟨(some 63), .mov (.tmp 65)⟩,
 ⟨(some 66), .ext (.tmp 63) 0⟩,
 ⟨(some 67), .ext (.tmp 63) 1⟩,
 ⟨(some 11), .new 51 [(.bool false), (.int .i64 0), (.int .i64 0), (.str []), (.sl .nil []), (.sl .nil []), (.sl .nil []), (.sl .nil []), (.bool false), (.int .i64 0), (.bool false), (.sl .nil []), (.bool false), (.bool false), (.bool false)]⟩,
 ⟨none, .store 15 (.tmp 11) (.tmp 66)⟩,
 ⟨(some 12), .mov (.tmp 67)⟩])
 (.seq
 (.regD [] [⟨(some 68), .mov (.tmp 12)⟩,
 ⟨(some 69), .bin .neq (.tmp 68) (.c (.int .i64 0))⟩,
 ⟨(some 78), .sc 70 false (.tmp 69) [⟨(some 71), .load (some 15) (.tmp 3)⟩, ⟨(some 72), .load (some 15) (.tmp 11)⟩, ⟨(some 73), .call false true (.c (.fn (.func 29) [] [])) [(.tmp 71), (.tmp 72)]⟩, ⟨(some 74), .load (some 5) (.tmp 7)⟩, ⟨(some 75), .load (some 5) (.tmp 10)⟩, ⟨(some 76), .call false false (.c (.fn (.func 26) [] [])) [(.tmp 74), (.tmp 75)]⟩, ⟨(some 77), .eqb false (.tmp 73) (.tmp 76)⟩] (.tmp 77)⟩,
 ⟨(some 6), .mov (.tmp 78)⟩])
 .ret)))))))))
def af6 : AFunc := ⟨79, [.tmp 6], af6b, false⟩

/-- cascade/cascadelaw27.awake -/
def af21b : ACode :=
 (.seq
 (.reg [⟨(some 0), .mov (.c (.bool false))⟩])
 (.seq
 (.reg [⟨(some 4), .build [(.bool false), (.int .i64 0), (.int .i64 0), (.str []), (.sl .nil []), (.sl .nil []), (.sl .nil []), (.sl .nil []), (.bool false), (.int .i64 0), (.bool false), (.sl .nil []), (.bool false), (.bool false), (.bool false)] [(0, 1, (.c (.bool true)))]⟩,
 ⟨(some 1), .new 51 [(.bool false), (.int .i64 0), (.int .i64 0), (.str []), (.sl .nil []), (.sl .nil []), (.sl .nil []), (.sl .nil []), (.bool false), (.int .i64 0), (.bool false), (.sl .nil []), (.bool false), (.bool false), (.bool false)]⟩,
 ⟨none, .store 15 (.tmp 1) (.tmp 4)⟩])
 (.seq
 (.reg [⟨(some 6), .load (some 15) (.tmp 1)⟩,
 ⟨(some 7), .call false false (.c (.fn (.func 24) [] [])) [(.tmp 6)]⟩,
 ⟨(some 5), .mov (.tmp 7)⟩,
 ⟨(some 8), .ext (.tmp 5) 0⟩,
 ⟨(some 9), .ext (.tmp 5) 1⟩,
 ⟨(some 2), .new 46 [(.int .i64 0), (.int .i64 0), (.str []), (.sl .nil []), (.sl .nil [])]⟩,
 ⟨none, .store 5 (.tmp 2) (.tmp 8)⟩,
 ⟨(some 3), .mov (.tmp 9)⟩])
 (.seq
 (.reg [⟨(some 10), .mov (.tmp 3)⟩,
 ⟨(some 11), .bin .eql (.tmp 10) (.c (.int .i64 0))⟩,
 ⟨(some 17), .sc 12 true (.tmp 11) [⟨(some 13), .fadr 4 (.tmp 2)⟩, ⟨(some 14), .load none (.tmp 13)⟩, ⟨(some 15), .len 1 (.tmp 14)⟩, ⟨(some 16), .bin .eql (.tmp 15) (.c (.int .i64 2))⟩] (.tmp 16)⟩,
 ⟨(some 21), .sc 18 true (.tmp 17) [⟨(some 19), .load (some 15) (.tmp 1)⟩, ⟨(some 20), .call false false (.c (.fn (.func 25) [] [])) [(.tmp 19)]⟩] (.tmp 20)⟩,
 ⟨(some 0), .mov (.tmp 21)⟩])
 .ret))))
def af21 : AFunc := ⟨22, [.tmp 0], af21b, false⟩

/-- cascade/cascaderef27.Few -/
def af22l0 : ACode :=
 (.seq
 (.seq
 (.reg [⟨(some 6), .mov (.tmp 3)⟩,
 ⟨(some 7), .fadr 6 (.tmp 1)⟩,
 ⟨(some 8), .load none (.tmp 7)⟩,
 ⟨(some 9), .len 1 (.tmp 8)⟩,
 ⟨(some 10), .bin .lss (.tmp 6) (.tmp 9)⟩,
 ⟨(some 14), .sc 11 true (.tmp 10) [⟨(some 12), .mov (.tmp 3)⟩, ⟨(some 13), .bin .lss (.tmp 12) (.c (.int .i64 12))⟩] (.tmp 13)⟩])
 (.cond (.tmp 14)
 .skip
 (.exit 0)))
 (.seq
 (.blk 1
 (.seq
 (.reg [⟨(some 17), .fadr 6 (.tmp 1)⟩,
 ⟨(some 18), .load none (.tmp 17)⟩,
 ⟨(some 19), .mov (.tmp 3)⟩,
 ⟨(some 20), .iadr 2 (.tmp 18) (.tmp 19)⟩,
 ⟨(some 21), .fadr 0 (.tmp 20)⟩,
 ⟨(some 22), .load none (.tmp 21)⟩,
 ⟨(some 23), .call false false (.c (.fn (.func 85) [] [])) [(.tmp 22)]⟩,
 ⟨(some 24), .un .not (.tmp 23)⟩])
 (.cond (.tmp 24)
 (.seq
 (.reg [⟨(some 2), .mov (.c (.bool false))⟩])
 .ret)
 .skip)))
 (.reg [⟨(some 15), .mov (.tmp 3)⟩,
 ⟨(some 16), .bin .add (.tmp 15) (.c (.int .i64 1))⟩,
 ⟨(some 3), .mov (.tmp 16)⟩])))
def af22l1 : ACode :=
 (.seq
 (.seq
 (.reg [⟨(some 25), .mov (.tmp 4)⟩,
 ⟨(some 26), .fadr 7 (.tmp 1)⟩,
 ⟨(some 27), .load none (.tmp 26)⟩,
 ⟨(some 28), .len 1 (.tmp 27)⟩,
 ⟨(some 29), .bin .lss (.tmp 25) (.tmp 28)⟩,
 ⟨(some 33), .sc 30 true (.tmp 29) [⟨(some 31), .mov (.tmp 4)⟩, ⟨(some 32), .bin .lss (.tmp 31) (.c (.int .i64 12))⟩] (.tmp 32)⟩])
 (.cond (.tmp 33)
 .skip
 (.exit 2)))
 (.seq
 (.blk 3
 (.seq
 (.reg [⟨(some 36), .fadr 7 (.tmp 1)⟩,
 ⟨(some 37), .load none (.tmp 36)⟩,
 ⟨(some 38), .mov (.tmp 4)⟩,
 ⟨(some 39), .iadr 4 (.tmp 37) (.tmp 38)⟩,
 ⟨(some 40), .fadr 1 (.tmp 39)⟩,
 ⟨(some 41), .load none (.tmp 40)⟩,
 ⟨(some 42), .call false false (.c (.fn (.func 85) [] [])) [(.tmp 41)]⟩,
 ⟨(some 43), .un .not (.tmp 42)⟩,
 ⟨(some 53), .sc 44 false (.tmp 43) [⟨(some 45), .fadr 7 (.tmp 1)⟩, ⟨(some 46), .load none (.tmp 45)⟩, ⟨(some 47), .mov (.tmp 4)⟩, ⟨(some 48), .iadr 4 (.tmp 46) (.tmp 47)⟩, ⟨(some 49), .fadr 2 (.tmp 48)⟩, ⟨(some 50), .load none (.tmp 49)⟩, ⟨(some 51), .len 0 (.tmp 50)⟩, ⟨(some 52), .bin .gtr (.tmp 51) (.c (.int .i64 100))⟩] (.tmp 52)⟩])
 (.cond (.tmp 53)
 (.seq
 (.reg [⟨(some 2), .mov (.c (.bool false))⟩])
 .ret)
 .skip)))
 (.reg [⟨(some 34), .mov (.tmp 4)⟩,
 ⟨(some 35), .bin .add (.tmp 34) (.c (.int .i64 1))⟩,
 ⟨(some 4), .mov (.tmp 35)⟩])))
def af22l2 : ACode :=
 (.seq
 (.seq
 (.reg [⟨(some 54), .mov (.tmp 5)⟩,
 ⟨(some 55), .fadr 11 (.tmp 1)⟩,
 ⟨(some 56), .load none (.tmp 55)⟩,
 ⟨(some 57), .len 1 (.tmp 56)⟩,
 ⟨(some 58), .bin .lss (.tmp 54) (.tmp 57)⟩,
 ⟨(some 62), .sc 59 true (.tmp 58) [⟨(some 60), .mov (.tmp 5)⟩, ⟨(some 61), .bin .lss (.tmp 60) (.c (.int .i64 40))⟩] (.tmp 61)⟩])
 (.cond (.tmp 62)
 .skip
 (.exit 4)))
 (.seq
 (.blk 5
 (.seq
 (.reg [⟨(some 65), .fadr 11 (.tmp 1)⟩,
 ⟨(some 66), .load none (.tmp 65)⟩,
 ⟨(some 67), .mov (.tmp 5)⟩,
 ⟨(some 68), .iadr 1 (.tmp 66) (.tmp 67)⟩,
 ⟨(some 69), .load none (.tmp 68)⟩,
 ⟨(some 70), .len 0 (.tmp 69)⟩,
 ⟨(some 71), .bin .gtr (.tmp 70) (.c (.int .i64 100))⟩])
 (.cond (.tmp 71)
 (.seq
 (.reg [⟨(some 2), .mov (.c (.bool false))⟩])
 .ret)
 .skip)))
 (.reg [⟨(some 63), .mov (.tmp 5)⟩,
 ⟨(some 64), .bin .add (.tmp 63) (.c (.int .i64 1))⟩,
 ⟨(some 5), .mov (.tmp 64)⟩])))
def af22b : ACode :=
 (.seq
 (.reg [⟨(some 1), .box 51 (.tmp 0)⟩,
 ⟨(some 2), .mov (.c (.bool false))⟩])
 (.seq
 (.seq
 (.reg [⟨(some 3), .mov (.c (.int .i64 0))⟩])
 (.blk 0
 (.loop false af22l0)))
 (.seq
 (.seq
 (.reg [⟨(some 4), .mov (.c (.int .i64 0))⟩])
 (.blk 2
 (.loop false af22l1)))
 (.seq
 (.seq
 (.reg [⟨(some 5), .mov (.c (.int .i64 0))⟩])
 (.blk 4
 (.loop false af22l2)))
 (.seq
 (.reg [⟨(some 72), .fadr 6 (.tmp 1)⟩,
 ⟨(some 73), .load none (.tmp 72)⟩,
 ⟨(some 74), .len 1 (.tmp 73)⟩,
 ⟨(some 75), .bin .leq (.tmp 74) (.c (.int .i64 8))⟩,
 ⟨(some 81), .sc 76 true (.tmp 75) [⟨(some 77), .fadr 7 (.tmp 1)⟩, ⟨(some 78), .load none (.tmp 77)⟩, ⟨(some 79), .len 1 (.tmp 78)⟩, ⟨(some 80), .bin .leq (.tmp 79) (.c (.int .i64 8))⟩] (.tmp 80)⟩,
 ⟨(some 87), .sc 82 true (.tmp 81) [⟨(some 83), .fadr 11 (.tmp 1)⟩, ⟨(some 84), .load none (.tmp 83)⟩, ⟨(some 85), .len 1 (.tmp 84)⟩, ⟨(some 86), .bin .leq (.tmp 85) (.c (.int .i64 30))⟩] (.tmp 86)⟩,
 ⟨(some 92), .sc 88 true (.tmp 87) [⟨(some 89), .fadr 1 (.tmp 1)⟩, ⟨(some 90), .load (some 5) (.tmp 89)⟩, ⟨(some 91), .call false false (.c (.fn (.func 30) [] [])) [(.tmp 90), (.c (.int .i64 60))]⟩] (.tmp 91)⟩,
 ⟨(some 2), .mov (.tmp 92)⟩])
 .ret)))))
def af22 : AFunc := ⟨93, [.tmp 2], af22b, false⟩

/-- cascade/cascaderef27.Right -/
def af23l0 : ACode :=
 (.seq
 (.seq
 (.reg [⟨(some 26), .mov (.tmp 3)⟩,
 ⟨(some 27), .fadr 11 (.tmp 1)⟩,
 ⟨(some 28), .load none (.tmp 27)⟩,
 ⟨(some 29), .len 1 (.tmp 28)⟩,
 ⟨(some 30), .bin .lss (.tmp 26) (.tmp 29)⟩])
 (.cond (.tmp 30)
 .skip
 (.exit 0)))
 (.seq
 (.blk 1
 (.seq
 (.reg [⟨(some 33), .fadr 11 (.tmp 1)⟩,
 ⟨(some 34), .load none (.tmp 33)⟩,
 ⟨(some 35), .mov (.tmp 3)⟩,
 ⟨(some 36), .iadr 1 (.tmp 34) (.tmp 35)⟩,
 ⟨(some 37), .load none (.tmp 36)⟩,
 ⟨(some 38), .call false false (.c (.fn (.func 87) [] [])) [(.tmp 37)]⟩,
 ⟨(some 39), .un .not (.tmp 38)⟩])
 (.cond (.tmp 39)
 (.seq
 (.reg [⟨(some 2), .mov (.c (.bool false))⟩])
 .ret)
 .skip)))
 (.reg [⟨(some 31), .mov (.tmp 3)⟩,
 ⟨(some 32), .bin .add (.tmp 31) (.c (.int .i64 1))⟩,
 ⟨(some 3), .mov (.tmp 32)⟩])))
def af23l1 : ACode :=
 (.seq
 (.seq
 (.reg [⟨(some 40), .mov (.tmp 4)⟩,
 ⟨(some 41), .fadr 6 (.tmp 1)⟩,
 ⟨(some 42), .load none (.tmp 41)⟩,
 ⟨(some 43), .len 1 (.tmp 42)⟩,
 ⟨(some 44), .bin .lss (.tmp 40) (.tmp 43)⟩])
 (.cond (.tmp 44)
 .skip
 (.exit 2)))
 (.seq
 (.blk 3
 (.seq
 (.reg [⟨(some 47), .fadr 6 (.tmp 1)⟩,
 ⟨(some 48), .load none (.tmp 47)⟩,
 ⟨(some 49), .mov (.tmp 4)⟩,
 ⟨(some 50), .iadr 2 (.tmp 48) (.tmp 49)⟩,
 ⟨(some 51), .fadr 1 (.tmp 50)⟩,
 ⟨(some 52), .load none (.tmp 51)⟩,
 ⟨(some 53), .bin .lss (.tmp 52) (.c (.int .i64 1))⟩,
 ⟨(some 62), .sc 54 false (.tmp 53) [⟨(some 55), .fadr 6 (.tmp 1)⟩, ⟨(some 56), .load none (.tmp 55)⟩, ⟨(some 57), .mov (.tmp 4)⟩, ⟨(some 58), .iadr 2 (.tmp 56) (.tmp 57)⟩, ⟨(some 59), .fadr 1 (.tmp 58)⟩, ⟨(some 60), .load none (.tmp 59)⟩, ⟨(some 61), .bin .gtr (.tmp 60) (.c (.int .i64 65535))⟩] (.tmp 61)⟩,
 ⟨(some 72), .sc 63 false (.tmp 62) [⟨(some 64), .fadr 6 (.tmp 1)⟩, ⟨(some 65), .load none (.tmp 64)⟩, ⟨(some 66), .mov (.tmp 4)⟩, ⟨(some 67), .iadr 2 (.tmp 65) (.tmp 66)⟩, ⟨(some 68), .fadr 0 (.tmp 67)⟩, ⟨(some 69), .load none (.tmp 68)⟩, ⟨(some 70), .call false false (.c (.fn (.func 88) [] [])) [(.tmp 69)]⟩, ⟨(some 71), .un .not (.tmp 70)⟩] (.tmp 71)⟩])
 (.cond (.tmp 72)
 (.seq
 (.reg [⟨(some 2), .mov (.c (.bool false))⟩])
 .ret)
 .skip)))
 (.reg [⟨(some 45), .mov (.tmp 4)⟩,
 ⟨(some 46), .bin .add (.tmp 45) (.c (.int .i64 1))⟩,
 ⟨(some 4), .mov (.tmp 46)⟩])))
def af23l2 : ACode :=
 (.seq
 (.seq
 (.reg [⟨(some 73), .mov (.tmp 5)⟩,
 ⟨(some 74), .fadr 7 (.tmp 1)⟩,
 ⟨(some 75), .load none (.tmp 74)⟩,
 ⟨(some 76), .len 1 (.tmp 75)⟩,
 ⟨(some 77), .bin .lss (.tmp 73) (.tmp 76)⟩])
 (.cond (.tmp 77)
 .skip
 (.exit 4)))
 (.seq
 (.blk 5
 (.seq
 (.reg [⟨(some 80), .fadr 7 (.tmp 1)⟩,
 ⟨(some 81), .load none (.tmp 80)⟩,
 ⟨(some 82), .mov (.tmp 5)⟩,
 ⟨(some 83), .iadr 4 (.tmp 81) (.tmp 82)⟩,
 ⟨(some 84), .load (some 4) (.tmp 83)⟩,
 ⟨(some 6), .new 148 [(.int .i64 0), (.sl .nil []), (.str []), (.bool false)]⟩,
 ⟨none, .store 4 (.tmp 6) (.tmp 84)⟩])
 (.seq
 (.reg [⟨(some 85), .fadr 0 (.tmp 6)⟩,
 ⟨(some 86), .load none (.tmp 85)⟩,
 ⟨(some 87), .bin .lss (.tmp 86) (.c (.int .i64 0))⟩,
 ⟨(some 92), .sc 88 false (.tmp 87) [⟨(some 89), .fadr 0 (.tmp 6)⟩, ⟨(some 90), .load none (.tmp 89)⟩, ⟨(some 91), .bin .gtr (.tmp 90) (.c (.int .i64 9007199254740991))⟩] (.tmp 91)⟩,
 ⟨(some 98), .sc 93 false (.tmp 92) [⟨(some 94), .fadr 1 (.tmp 6)⟩, ⟨(some 95), .load none (.tmp 94)⟩, ⟨(some 96), .call false false (.c (.fn (.func 88) [] [])) [(.tmp 95)]⟩, ⟨(some 97), .un .not (.tmp 96)⟩] (.tmp 97)⟩,
 ⟨(some 104), .sc 99 false (.tmp 98) [⟨(some 100), .fadr 2 (.tmp 6)⟩, ⟨(some 101), .load none (.tmp 100)⟩, ⟨(some 102), .call false false (.c (.fn (.func 87) [] [])) [(.tmp 101)]⟩, ⟨(some 103), .un .not (.tmp 102)⟩] (.tmp 103)⟩,
 ⟨(some 114), .sc 105 false (.tmp 104) [⟨(some 106), .fadr 2 (.tmp 6)⟩, ⟨(some 107), .load none (.tmp 106)⟩, ⟨(some 108), .bin .neq (.tmp 107) (.c (.str []))⟩, ⟨(some 113), .sc 109 true (.tmp 108) [⟨(some 110), .fadr 3 (.tmp 6)⟩, ⟨(some 111), .load none (.tmp 110)⟩, ⟨(some 112), .un .not (.tmp 111)⟩] (.tmp 112)⟩] (.tmp 113)⟩])
 (.cond (.tmp 114)
 (.seq
 (.reg [⟨(some 2), .mov (.c (.bool false))⟩])
 .ret)
 .skip))))
 (.reg [⟨(some 78), .mov (.tmp 5)⟩,
 ⟨(some 79), .bin .add (.tmp 78) (.c (.int .i64 1))⟩,
 ⟨(some 5), .mov (.tmp 79)⟩])))
def af23b : ACode :=
 (.seq
 (.reg [⟨(some 1), .box 51 (.tmp 0)⟩,
 ⟨(some 2), .mov (.c (.bool false))⟩])
 (.seq
 (.seq
 (.reg [⟨(some 7), .fadr 9 (.tmp 1)⟩,
 ⟨(some 8), .load none (.tmp 7)⟩,
 ⟨(some 9), .bin .lss (.tmp 8) (.c (.int .i64 0))⟩,
 ⟨(some 14), .sc 10 false (.tmp 9) [⟨(some 11), .fadr 9 (.tmp 1)⟩, ⟨(some 12), .load none (.tmp 11)⟩, ⟨(some 13), .bin .gtr (.tmp 12) (.c (.int .i64 9007199254740991))⟩] (.tmp 13)⟩,
 ⟨(some 20), .sc 15 false (.tmp 14) [⟨(some 16), .fadr 1 (.tmp 1)⟩, ⟨(some 17), .load (some 5) (.tmp 16)⟩, ⟨(some 18), .call false false (.c (.fn (.func 32) [] [])) [(.tmp 17)]⟩, ⟨(some 19), .un .not (.tmp 18)⟩] (.tmp 19)⟩,
 ⟨(some 25), .sc 21 false (.tmp 20) [⟨(some 22), .load (some 15) (.tmp 1)⟩, ⟨(some 23), .call false false (.c (.fn (.func 86) [] [])) [(.tmp 22)]⟩, ⟨(some 24), .un .not (.tmp 23)⟩] (.tmp 24)⟩])
 (.cond (.tmp 25)
 (.seq
 (.reg [⟨(some 2), .mov (.c (.bool false))⟩])
 .ret)
 .skip))
 (.seq
 (.seq
 (.reg [⟨(some 3), .mov (.c (.int .i64 0))⟩])
 (.blk 0
 (.loop false af23l0)))
 (.seq
 (.seq
 (.reg [⟨(some 4), .mov (.c (.int .i64 0))⟩])
 (.blk 2
 (.loop false af23l1)))
 (.seq
 (.seq
 (.reg [⟨(some 5), .mov (.c (.int .i64 0))⟩])
 (.blk 4
 (.loop false af23l2)))
 (.seq
 (.reg [⟨(some 115), .load (some 15) (.tmp 1)⟩,
 ⟨(some 116), .call false false (.c (.fn (.func 28) [] [])) [(.tmp 115)]⟩,
 ⟨(some 117), .call false false (.c (.fn (.func 32) [] [])) [(.tmp 116)]⟩,
 ⟨(some 2), .mov (.tmp 117)⟩])
 .ret))))))
def af23 : AFunc := ⟨118, [.tmp 2], af23b, false⟩

/-- cascade/chunk.Value -/
def af24b : ACode :=
 (.seq
 (.reg [⟨(some 1), .box 51 (.tmp 0)⟩,
 ⟨(some 2), .new 46 [(.int .i64 0), (.int .i64 0), (.str []), (.sl .nil []), (.sl .nil [])]⟩,
 ⟨(some 3), .mov (.c (.int .i64 0))⟩])
 (.seq
 (.seq
 (.reg [⟨(some 4), .load (some 15) (.tmp 1)⟩,
 ⟨(some 5), .call false false (.c (.fn (.func 25) [] [])) [(.tmp 4)]⟩,
 ⟨(some 6), .un .not (.tmp 5)⟩])
 (.cond (.tmp 6)
 (.seq
 (.reg [⟨(some 7), .build [(.int .i64 0), (.int .i64 0), (.str []), (.sl .nil []), (.sl .nil [])] []⟩,
 ⟨none, .store 5 (.tmp 2) (.tmp 7)⟩,
 ⟨(some 3), .mov (.c (.int .i64 1))⟩])
 .ret)
 .skip))
 (.seq
 (.reg [⟨(some 8), .load (some 15) (.tmp 1)⟩,
 ⟨(some 9), .call false false (.c (.fn (.func 90) [] [])) [(.tmp 8)]⟩,
 ⟨(some 10), .call false false (.c (.fn (.func 89) [] [])) [(.tmp 9)]⟩,
 ⟨none, .store 5 (.tmp 2) (.tmp 10)⟩,
 ⟨(some 3), .mov (.c (.int .i64 0))⟩])
 .ret)))
def af24 : AFunc := ⟨11, [.cell 2 (some 5), .tmp 3], af24b, false⟩

/-- cascade/chunk.Right -/
def af25b : ACode :=
 (.seq
 (.reg [⟨(some 1), .box 51 (.tmp 0)⟩,
 ⟨(some 2), .mov (.c (.bool false))⟩])
 (.seq
 (.seq
 (.reg [⟨(some 3), .fadr 9 (.tmp 1)⟩,
 ⟨(some 4), .load none (.tmp 3)⟩,
 ⟨(some 5), .call false false (.c (.fn (.func 91) [] [])) [(.tmp 4)]⟩,
 ⟨(some 6), .un .not (.tmp 5)⟩,
 ⟨(some 12), .sc 7 false (.tmp 6) [⟨(some 8), .fadr 1 (.tmp 1)⟩, ⟨(some 9), .load (some 5) (.tmp 8)⟩, ⟨(some 10), .call false false (.c (.fn (.func 92) [] [])) [(.tmp 9)]⟩, ⟨(some 11), .un .not (.tmp 10)⟩] (.tmp 11)⟩,
 ⟨(some 17), .sc 13 false (.tmp 12) [⟨(some 14), .load (some 15) (.tmp 1)⟩, ⟨(some 15), .call false false (.c (.fn (.func 93) [] [])) [(.tmp 14)]⟩, ⟨(some 16), .un .not (.tmp 15)⟩] (.tmp 16)⟩,
 ⟨(some 22), .sc 18 false (.tmp 17) [⟨(some 19), .load (some 15) (.tmp 1)⟩, ⟨(some 20), .call false false (.c (.fn (.func 94) [] [])) [(.tmp 19)]⟩, ⟨(some 21), .un .not (.tmp 20)⟩] (.tmp 21)⟩,
 ⟨(some 27), .sc 23 false (.tmp 22) [⟨(some 24), .fadr 11 (.tmp 1)⟩, ⟨(some 25), .load none (.tmp 24)⟩, ⟨(some 26), .call false false (.c (.fn (.func 95) [] [])) [(.tmp 25), (.c (.fn (.func 96) [] []))]⟩] (.tmp 26)⟩])
 (.cond (.tmp 27)
 (.seq
 (.reg [⟨(some 2), .mov (.c (.bool false))⟩])
 .ret)
 .skip))
 (.seq
 (.reg [⟨(some 28), .load (some 15) (.tmp 1)⟩,
 ⟨(some 29), .call false false (.c (.fn (.func 90) [] [])) [(.tmp 28)]⟩,
 ⟨(some 30), .call false false (.c (.fn (.func 92) [] [])) [(.tmp 29)]⟩,
 ⟨(some 2), .mov (.tmp 30)⟩])
 .ret)))
def af25 : AFunc := ⟨31, [.tmp 2], af25b, false⟩

/-- cascade/cascaderef03.Same -/
def af26l0 : ACode :=
 (.seq
 (.seq
 (.reg [⟨(some 44), .mov (.tmp 5)⟩,
 ⟨(some 45), .fadr 3 (.tmp 2)⟩,
 ⟨(some 46), .load none (.tmp 45)⟩,
 ⟨(some 47), .len 1 (.tmp 46)⟩,
 ⟨(some 48), .bin .lss (.tmp 44) (.tmp 47)⟩])
 (.cond (.tmp 48)
 .skip
 (.exit 0)))
 (.seq
 (.blk 1
 (.seq
 (.regD [] [⟨(some 51), .fadr 3 (.tmp 2)⟩,
 ⟨(some 52), .load none (.tmp 51)⟩,
 ⟨(some 53), .mov (.tmp 5)⟩,
 ⟨(some 54), .iadr 5 (.tmp 52) (.tmp 53)⟩,
 ⟨(some 55), .load (some 5) (.tmp 54)⟩,
 ⟨(some 56), .fadr 3 (.tmp 3)⟩,
 ⟨(some 57), .load none (.tmp 56)⟩,
 ⟨(some 58), .mov (.tmp 5)⟩,
 ⟨(some 59), .iadr 5 (.tmp 57) (.tmp 58)⟩,
 ⟨(some 60), .load (some 5) (.tmp 59)⟩,
 ⟨(some 61), .call false false (.c (.fn (.func 26) [] [])) [(.tmp 55), (.tmp 60)]⟩,
 ⟨(some 62), .un .not (.tmp 61)⟩])
 (.cond (.tmp 62)
 (.seq
 (.reg [⟨(some 4), .mov (.c (.bool false))⟩])
 .ret)
 .skip)))
 (.reg [⟨(some 49), .mov (.tmp 5)⟩,
 ⟨(some 50), .bin .add (.tmp 49) (.c (.int .i64 1))⟩,
 ⟨(some 5), .mov (.tmp 50)⟩])))
def af26l1 : ACode :=
 (.seq
 (.seq
 (.reg [⟨(some 63), .mov (.tmp 6)⟩,
 ⟨(some 64), .fadr 4 (.tmp 2)⟩,
 ⟨(some 65), .load none (.tmp 64)⟩,
 ⟨(some 66), .len 1 (.tmp 65)⟩,
 ⟨(some 67), .bin .lss (.tmp 63) (.tmp 66)⟩])
 (.cond (.tmp 67)
 .skip
 (.exit 2)))
 (.seq
 (.blk 3
 (.seq
 (.regD [] [⟨(some 70), .fadr 4 (.tmp 2)⟩,
 ⟨(some 71), .load none (.tmp 70)⟩,
 ⟨(some 72), .mov (.tmp 6)⟩,
 ⟨(some 73), .iadr 6 (.tmp 71) (.tmp 72)⟩,
 ⟨(some 74), .fadr 0 (.tmp 73)⟩,
 ⟨(some 75), .load none (.tmp 74)⟩,
 ⟨(some 76), .fadr 4 (.tmp 3)⟩,
 ⟨(some 77), .load none (.tmp 76)⟩,
 ⟨(some 78), .mov (.tmp 6)⟩,
 ⟨(some 79), .iadr 6 (.tmp 77) (.tmp 78)⟩,
 ⟨(some 80), .fadr 0 (.tmp 79)⟩,
 ⟨(some 81), .load none (.tmp 80)⟩,
 ⟨(some 82), .bin .neq (.tmp 75) (.tmp 81)⟩,
 ⟨(some 98), .sc 83 false (.tmp 82) [⟨(some 84), .fadr 4 (.tmp 2)⟩, ⟨(some 85), .load none (.tmp 84)⟩, ⟨(some 86), .mov (.tmp 6)⟩, ⟨(some 87), .iadr 6 (.tmp 85) (.tmp 86)⟩, ⟨(some 88), .fadr 1 (.tmp 87)⟩, ⟨(some 89), .load (some 5) (.tmp 88)⟩, ⟨(some 90), .fadr 4 (.tmp 3)⟩, ⟨(some 91), .load none (.tmp 90)⟩, ⟨(some 92), .mov (.tmp 6)⟩, ⟨(some 93), .iadr 6 (.tmp 91) (.tmp 92)⟩, ⟨(some 94), .fadr 1 (.tmp 93)⟩, ⟨(some 95), .load (some 5) (.tmp 94)⟩, ⟨(some 96), .call false false (.c (.fn (.func 26) [] [])) [(.tmp 89), (.tmp 95)]⟩, ⟨(some 97), .un .not (.tmp 96)⟩] (.tmp 97)⟩])
 (.cond (.tmp 98)
 (.seq
 (.reg [⟨(some 4), .mov (.c (.bool false))⟩])
 .ret)
 .skip)))
 (.reg [⟨(some 68), .mov (.tmp 6)⟩,
 ⟨(some 69), .bin .add (.tmp 68) (.c (.int .i64 1))⟩,
 ⟨(some 6), .mov (.tmp 69)⟩])))
def af26b : ACode :=
 (.seq
 (.reg [⟨(some 2), .box 46 (.tmp 0)⟩,
 ⟨(some 3), .box 46 (.tmp 1)⟩,
 ⟨(some 4), .mov (.c (.bool false))⟩])
 (.seq
 (.seq
 (.reg [⟨(some 7), .fadr 0 (.tmp 2)⟩,
 ⟨(some 8), .load none (.tmp 7)⟩,
 ⟨(some 9), .fadr 0 (.tmp 3)⟩,
 ⟨(some 10), .load none (.tmp 9)⟩,
 ⟨(some 11), .bin .neq (.tmp 8) (.tmp 10)⟩,
 ⟨(some 18), .sc 12 false (.tmp 11) [⟨(some 13), .fadr 1 (.tmp 2)⟩, ⟨(some 14), .load none (.tmp 13)⟩, ⟨(some 15), .fadr 1 (.tmp 3)⟩, ⟨(some 16), .load none (.tmp 15)⟩, ⟨(some 17), .bin .neq (.tmp 14) (.tmp 16)⟩] (.tmp 17)⟩,
 ⟨(some 25), .sc 19 false (.tmp 18) [⟨(some 20), .fadr 2 (.tmp 2)⟩, ⟨(some 21), .load none (.tmp 20)⟩, ⟨(some 22), .fadr 2 (.tmp 3)⟩, ⟨(some 23), .load none (.tmp 22)⟩, ⟨(some 24), .bin .neq (.tmp 21) (.tmp 23)⟩] (.tmp 24)⟩,
 ⟨(some 34), .sc 26 false (.tmp 25) [⟨(some 27), .fadr 3 (.tmp 2)⟩, ⟨(some 28), .load none (.tmp 27)⟩, ⟨(some 29), .len 1 (.tmp 28)⟩, ⟨(some 30), .fadr 3 (.tmp 3)⟩, ⟨(some 31), .load none (.tmp 30)⟩, ⟨(some 32), .len 1 (.tmp 31)⟩, ⟨(some 33), .bin .neq (.tmp 29) (.tmp 32)⟩] (.tmp 33)⟩,
 ⟨(some 43), .sc 35 false (.tmp 34) [⟨(some 36), .fadr 4 (.tmp 2)⟩, ⟨(some 37), .load none (.tmp 36)⟩, ⟨(some 38), .len 1 (.tmp 37)⟩, ⟨(some 39), .fadr 4 (.tmp 3)⟩, ⟨(some 40), .load none (.tmp 39)⟩, ⟨(some 41), .len 1 (.tmp 40)⟩, ⟨(some 42), .bin .neq (.tmp 38) (.tmp 41)⟩] (.tmp 42)⟩])
 (.cond (.tmp 43)
 (.seq
 (.reg [⟨(some 4), .mov (.c (.bool false))⟩])
 .ret)
 .skip))
 (.seq
 (.seq
 (.reg [⟨(some 5), .mov (.c (.int .i64 0))⟩])
 (.blk 0
 (.loop false af26l0)))
 (.seq
 (.seq
 (.reg [⟨(some 6), .mov (.c (.int .i64 0))⟩])
 (.blk 2
 (.loop false af26l1)))
 (.seq
 (.reg [⟨(some 4), .mov (.c (.bool true))⟩])
 .ret)))))
def af26 : AFunc := ⟨99, [.tmp 4], af26b, false⟩

/-- cascade/chunk.Of -/
def af27b : ACode :=
 (.seq
 (.reg [⟨(some 1), .box 46 (.tmp 0)⟩,
 ⟨(some 2), .new 51 [(.bool false), (.int .i64 0), (.int .i64 0), (.str []), (.sl .nil []), (.sl .nil []), (.sl .nil []), (.sl .nil []), (.bool false), (.int .i64 0), (.bool false), (.sl .nil []), (.bool false), (.bool false), (.bool false)]⟩,
 ⟨(some 3), .mov (.c (.int .i64 0))⟩])
 (.seq
 (.seq
 (.reg [⟨(some 7), .load (some 5) (.tmp 1)⟩,
 ⟨(some 8), .call false false (.c (.fn (.func 92) [] [])) [(.tmp 7)]⟩,
 ⟨(some 9), .un .not (.tmp 8)⟩])
 (.cond (.tmp 9)
 (.seq
 (.reg [⟨(some 10), .build [(.bool false), (.int .i64 0), (.int .i64 0), (.str []), (.sl .nil []), (.sl .nil []), (.sl .nil []), (.sl .nil []), (.bool false), (.int .i64 0), (.bool false), (.sl .nil []), (.bool false), (.bool false), (.bool false)] []⟩,
 ⟨none, .store 15 (.tmp 2) (.tmp 10)⟩,
 ⟨(some 3), .mov (.c (.int .i64 4))⟩])
 .ret)
 .skip))
 (.seq
 (.reg [⟨(some 11), .load (some 5) (.tmp 1)⟩,
 ⟨(some 12), .call false false (.c (.fn (.func 98) [] [])) [(.tmp 11)]⟩,
 ⟨(some 4), .new 51 [(.bool false), (.int .i64 0), (.int .i64 0), (.str []), (.sl .nil []), (.sl .nil []), (.sl .nil []), (.sl .nil []), (.bool false), (.int .i64 0), (.bool false), (.sl .nil []), (.bool false), (.bool false), (.bool false)]⟩,
 ⟨none, .store 15 (.tmp 4) (.tmp 12)⟩])
 (.seq
 (.reg [⟨(some 14), .load (some 15) (.tmp 4)⟩,
 ⟨(some 15), .call false false (.c (.fn (.func 24) [] [])) [(.tmp 14)]⟩,
 ⟨(some 13), .mov (.tmp 15)⟩,
 ⟨(some 16), .ext (.tmp 13) 0⟩,
 ⟨(some 17), .ext (.tmp 13) 1⟩,
 ⟨(some 5), .new 46 [(.int .i64 0), (.int .i64 0), (.str []), (.sl .nil []), (.sl .nil [])]⟩,
 ⟨none, .store 5 (.tmp 5) (.tmp 16)⟩,
 ⟨(some 6), .mov (.tmp 17)⟩])
 (.seq
 (.seq
 (.reg [⟨(some 18), .mov (.tmp 6)⟩,
 ⟨(some 19), .bin .neq (.tmp 18) (.c (.int .i64 0))⟩,
 ⟨(some 25), .sc 20 false (.tmp 19) [⟨(some 21), .load (some 5) (.tmp 1)⟩, ⟨(some 22), .load (some 5) (.tmp 5)⟩, ⟨(some 23), .call false false (.c (.fn (.func 99) [] [])) [(.tmp 21), (.tmp 22)]⟩, ⟨(some 24), .un .not (.tmp 23)⟩] (.tmp 24)⟩])
 (.cond (.tmp 25)
 (.seq
 (.reg [⟨(some 26), .build [(.bool false), (.int .i64 0), (.int .i64 0), (.str []), (.sl .nil []), (.sl .nil []), (.sl .nil []), (.sl .nil []), (.bool false), (.int .i64 0), (.bool false), (.sl .nil []), (.bool false), (.bool false), (.bool false)] []⟩,
 ⟨none, .store 15 (.tmp 2) (.tmp 26)⟩,
 ⟨(some 3), .mov (.c (.int .i64 4))⟩])
 .ret)
 .skip))
 (.seq
 (.reg [⟨(some 27), .fadr 1 (.tmp 4)⟩,
 ⟨(some 28), .load (some 5) (.tmp 27)⟩,
 ⟨(some 29), .call false false (.c (.fn (.func 89) [] [])) [(.tmp 28)]⟩,
 ⟨(some 30), .fadr 1 (.tmp 4)⟩,
 ⟨none, .store 5 (.tmp 30) (.tmp 29)⟩])
 (.seq
 (.reg [⟨(some 31), .load (some 15) (.tmp 4)⟩,
 ⟨none, .store 15 (.tmp 2) (.tmp 31)⟩,
 ⟨(some 3), .mov (.c (.int .i64 0))⟩])
 .ret)))))))
def af27 : AFunc := ⟨32, [.cell 2 (some 15), .tmp 3], af27b, false⟩

/-- cascade/cascaderef27.Value -/
def af28l0 : ACode :=
 (.seq
 (.seq
 (.reg [⟨(some 34), .mov (.tmp 5)⟩,
 ⟨(some 35), .fadr 7 (.tmp 1)⟩,
 ⟨(some 36), .load none (.tmp 35)⟩,
 ⟨(some 37), .len 1 (.tmp 36)⟩,
 ⟨(some 38), .bin .lss (.tmp 34) (.tmp 37)⟩])
 (.cond (.tmp 38)
 .skip
 (.exit 0)))
 (.seq
 (.blk 1
 (.seq
 (.reg [⟨(some 41), .fadr 7 (.tmp 1)⟩,
 ⟨(some 42), .load none (.tmp 41)⟩,
 ⟨(some 43), .mov (.tmp 5)⟩,
 ⟨(some 44), .iadr 4 (.tmp 42) (.tmp 43)⟩,
 ⟨(some 45), .load (some 4) (.tmp 44)⟩,
 ⟨(some 6), .new 148 [(.int .i64 0), (.sl .nil []), (.str []), (.bool false)]⟩,
 ⟨none, .store 4 (.tmp 6) (.tmp 45)⟩])
 (.seq
 (.regD [] [⟨(some 46), .build [(.int .i64 0), (.int .i64 0), (.str []), (.sl .nil []), (.sl .nil [])] []⟩,
 ⟨(some 47), .fadr 0 (.tmp 6)⟩,
 ⟨(some 48), .load none (.tmp 47)⟩,
 ⟨(some 49), .call false true (.c (.fn (.func 102) [] [])) [(.tmp 48)]⟩,
 ⟨(some 50), .call false true (.c (.fn (.func 100) [] [])) [(.tmp 46), (.c (.str [105, 100])), (.tmp 49)]⟩,
 ⟨(some 51), .fadr 1 (.tmp 6)⟩,
 ⟨(some 52), .load none (.tmp 51)⟩,
 ⟨(some 53), .call false true (.c (.fn (.func 103) [] [])) [(.tmp 52)]⟩,
 ⟨(some 54), .call false true (.c (.fn (.func 100) [] [])) [(.tmp 50), (.c (.str [112, 97, 116, 104])), (.tmp 53)]⟩,
 ⟨(some 7), .new 46 [(.int .i64 0), (.int .i64 0), (.str []), (.sl .nil []), (.sl .nil [])]⟩,
 ⟨none, .store 5 (.tmp 7) (.tmp 54)⟩])
 (.seq
 (.seq
 (.reg [⟨(some 55), .fadr 3 (.tmp 6)⟩,
 ⟨(some 56), .load none (.tmp 55)⟩])
 (.cond (.tmp 56)
 (.reg [⟨(some 57), .load (some 5) (.tmp 7)⟩,
 ⟨(some 58), .fadr 2 (.tmp 6)⟩,
 ⟨(some 59), .load none (.tmp 58)⟩,
 ⟨(some 60), .build [(.int .i64 0), (.int .i64 0), (.str []), (.sl .nil []), (.sl .nil [])] [(0, 1, (.c (.int .i64 3))), (2, 1, (.tmp 59))]⟩,
 ⟨(some 61), .call false false (.c (.fn (.func 100) [] [])) [(.tmp 57), (.c (.str [108, 97, 98, 101, 108])), (.tmp 60)]⟩,
 ⟨none, .store 5 (.tmp 7) (.tmp 61)⟩])
 .skip))
 (.reg [⟨(some 62), .fadr 3 (.tmp 4)⟩,
 ⟨(some 63), .load none (.tmp 62)⟩,
 ⟨(some 64), .load (some 5) (.tmp 7)⟩,
 ⟨(some 65), .bsl 5 (.agg [(.int .i64 0), (.int .i64 0), (.str []), (.sl .nil []), (.sl .nil [])]) 1 [(0, (.tmp 64))]⟩,
 ⟨(some 66), .app false 5 (80, 46) (.tmp 63) (.tmp 65)⟩,
 ⟨(some 67), .fadr 3 (.tmp 4)⟩,
 ⟨none, .store 1 (.tmp 67) (.tmp 66)⟩])))))
 (.reg [⟨(some 39), .mov (.tmp 5)⟩,
 ⟨(some 40), .bin .add (.tmp 39) (.c (.int .i64 1))⟩,
 ⟨(some 5), .mov (.tmp 40)⟩])))
def af28l1 : ACode :=
 (.seq
 (.seq
 (.reg [⟨(some 87), .mov (.tmp 10)⟩,
 ⟨(some 88), .fadr 11 (.tmp 1)⟩,
 ⟨(some 89), .load none (.tmp 88)⟩,
 ⟨(some 90), .len 1 (.tmp 89)⟩,
 ⟨(some 91), .bin .lss (.tmp 87) (.tmp 90)⟩])
 (.cond (.tmp 91)
 .skip
 (.exit 2)))
 (.seq
 (.blk 3
 (.regD [] [⟨(some 94), .fadr 3 (.tmp 9)⟩,
 ⟨(some 95), .load none (.tmp 94)⟩,
 ⟨(some 96), .fadr 11 (.tmp 1)⟩,
 ⟨(some 97), .load none (.tmp 96)⟩,
 ⟨(some 98), .mov (.tmp 10)⟩,
 ⟨(some 99), .iadr 1 (.tmp 97) (.tmp 98)⟩,
 ⟨(some 100), .load none (.tmp 99)⟩,
 ⟨(some 101), .build [(.int .i64 0), (.int .i64 0), (.str []), (.sl .nil []), (.sl .nil [])] [(0, 1, (.c (.int .i64 3))), (2, 1, (.tmp 100))]⟩,
 ⟨(some 102), .bsl 5 (.agg [(.int .i64 0), (.int .i64 0), (.str []), (.sl .nil []), (.sl .nil [])]) 1 [(0, (.tmp 101))]⟩,
 ⟨(some 103), .app false 5 (80, 46) (.tmp 95) (.tmp 102)⟩,
 ⟨(some 104), .fadr 3 (.tmp 9)⟩,
 ⟨none, .store 1 (.tmp 104) (.tmp 103)⟩]))
 (.reg [⟨(some 92), .mov (.tmp 10)⟩,
 ⟨(some 93), .bin .add (.tmp 92) (.c (.int .i64 1))⟩,
 ⟨(some 10), .mov (.tmp 93)⟩])))
def af28b : ACode :=
 (.seq
 (.reg [⟨(some 1), .box 51 (.tmp 0)⟩,
 ⟨(some 2), .new 46 [(.int .i64 0), (.int .i64 0), (.str []), (.sl .nil []), (.sl .nil [])]⟩])
 (.seq
 (.reg [⟨(some 13), .build [(.int .i64 0), (.int .i64 0), (.str []), (.sl .nil []), (.sl .nil [])] [(0, 1, (.c (.int .i64 5)))]⟩,
 ⟨(some 3), .new 46 [(.int .i64 0), (.int .i64 0), (.str []), (.sl .nil []), (.sl .nil [])]⟩,
 ⟨none, .store 5 (.tmp 3) (.tmp 13)⟩])
 (.seq
 (.seq
 (.reg [⟨(some 14), .fadr 0 (.tmp 1)⟩,
 ⟨(some 15), .load none (.tmp 14)⟩])
 (.cond (.tmp 15)
 (.seq
 (.reg [⟨(some 16), .load (some 5) (.tmp 3)⟩,
 ⟨(some 17), .fadr 1 (.tmp 1)⟩,
 ⟨(some 18), .load (some 5) (.tmp 17)⟩,
 ⟨(some 19), .call false false (.c (.fn (.func 100) [] [])) [(.tmp 16), (.c (.str [100, 97, 116, 97])), (.tmp 18)]⟩,
 ⟨none, .store 5 (.tmp 3) (.tmp 19)⟩])
 (.seq
 (.reg [⟨(some 20), .fadr 6 (.tmp 1)⟩,
 ⟨(some 21), .load none (.tmp 20)⟩,
 ⟨(some 22), .len 1 (.tmp 21)⟩,
 ⟨(some 23), .bin .gtr (.tmp 22) (.c (.int .i64 0))⟩])
 (.cond (.tmp 23)
 (.regD [] [⟨(some 24), .load (some 5) (.tmp 3)⟩,
 ⟨(some 25), .fadr 6 (.tmp 1)⟩,
 ⟨(some 26), .load none (.tmp 25)⟩,
 ⟨(some 27), .call false true (.c (.fn (.func 101) [] [])) [(.tmp 26)]⟩,
 ⟨(some 28), .call false false (.c (.fn (.func 100) [] [])) [(.tmp 24), (.c (.str [101, 114, 114, 111, 114, 115])), (.tmp 27)]⟩,
 ⟨none, .store 5 (.tmp 3) (.tmp 28)⟩])
 .skip)))
 .skip))
 (.seq
 (.seq
 (.reg [⟨(some 29), .fadr 7 (.tmp 1)⟩,
 ⟨(some 30), .load none (.tmp 29)⟩,
 ⟨(some 31), .len 1 (.tmp 30)⟩,
 ⟨(some 32), .bin .gtr (.tmp 31) (.c (.int .i64 0))⟩])
 (.cond (.tmp 32)
 (.seq
 (.reg [⟨(some 33), .build [(.int .i64 0), (.int .i64 0), (.str []), (.sl .nil []), (.sl .nil [])] [(0, 1, (.c (.int .i64 4)))]⟩,
 ⟨(some 4), .new 46 [(.int .i64 0), (.int .i64 0), (.str []), (.sl .nil []), (.sl .nil [])]⟩,
 ⟨none, .store 5 (.tmp 4) (.tmp 33)⟩])
 (.seq
 (.seq
 (.reg [⟨(some 5), .mov (.c (.int .i64 0))⟩])
 (.blk 0
 (.loop false af28l0)))
 (.reg [⟨(some 68), .load (some 5) (.tmp 3)⟩,
 ⟨(some 69), .load (some 5) (.tmp 4)⟩,
 ⟨(some 70), .call false false (.c (.fn (.func 100) [] [])) [(.tmp 68), (.c (.str [112, 101, 110, 100, 105, 110, 103])), (.tmp 69)]⟩,
 ⟨none, .store 5 (.tmp 3) (.tmp 70)⟩])))
 .skip))
 (.seq
 (.seq
 (.reg [⟨(some 71), .fadr 8 (.tmp 1)⟩,
 ⟨(some 72), .load none (.tmp 71)⟩])
 (.cond (.tmp 72)
 (.seq
 (.reg [⟨(some 73), .build [(.int .i64 0), (.int .i64 0), (.str []), (.sl .nil []), (.sl .nil [])] []⟩,
 ⟨(some 74), .fadr 9 (.tmp 1)⟩,
 ⟨(some 75), .load none (.tmp 74)⟩,
 ⟨(some 76), .call false false (.c (.fn (.func 102) [] [])) [(.tmp 75)]⟩,
 ⟨(some 77), .call false false (.c (.fn (.func 100) [] [])) [(.tmp 73), (.c (.str [105, 100])), (.tmp 76)]⟩,
 ⟨(some 8), .new 46 [(.int .i64 0), (.int .i64 0), (.str []), (.sl .nil []), (.sl .nil [])]⟩,
 ⟨none, .store 5 (.tmp 8) (.tmp 77)⟩])
 (.seq
 (.seq
 (.reg [⟨(some 78), .fadr 10 (.tmp 1)⟩,
 ⟨(some 79), .load none (.tmp 78)⟩])
 (.cond (.tmp 79)
 (.reg [⟨(some 80), .load (some 5) (.tmp 8)⟩,
 ⟨(some 81), .fadr 1 (.tmp 1)⟩,
 ⟨(some 82), .load (some 5) (.tmp 81)⟩,
 ⟨(some 83), .bsl 5 (.agg [(.int .i64 0), (.int .i64 0), (.str []), (.sl .nil []), (.sl .nil [])]) 1 [(0, (.tmp 82))]⟩,
 ⟨(some 84), .build [(.int .i64 0), (.int .i64 0), (.str []), (.sl .nil []), (.sl .nil [])] [(0, 1, (.c (.int .i64 4))), (3, 1, (.tmp 83))]⟩,
 ⟨(some 85), .call false false (.c (.fn (.func 100) [] [])) [(.tmp 80), (.c (.str [105, 116, 101, 109, 115])), (.tmp 84)]⟩,
 ⟨none, .store 5 (.tmp 8) (.tmp 85)⟩])
 (.seq
 (.reg [⟨(some 86), .build [(.int .i64 0), (.int .i64 0), (.str []), (.sl .nil []), (.sl .nil [])] [(0, 1, (.c (.int .i64 4)))]⟩,
 ⟨(some 9), .new 46 [(.int .i64 0), (.int .i64 0), (.str []), (.sl .nil []), (.sl .nil [])]⟩,
 ⟨none, .store 5 (.tmp 9) (.tmp 86)⟩])
 (.seq
 (.seq
 (.reg [⟨(some 10), .mov (.c (.int .i64 0))⟩])
 (.blk 2
 (.loop false af28l1)))
 (.regD [] [⟨(some 105), .load (some 5) (.tmp 8)⟩,
 ⟨(some 106), .fadr 1 (.tmp 1)⟩,
 ⟨(some 107), .load (some 5) (.tmp 106)⟩,
 ⟨(some 108), .call false true (.c (.fn (.func 100) [] [])) [(.tmp 105), (.c (.str [100, 97, 116, 97])), (.tmp 107)]⟩,
 ⟨(some 109), .load (some 5) (.tmp 9)⟩,
 ⟨(some 110), .call false false (.c (.fn (.func 100) [] [])) [(.tmp 108), (.c (.str [111, 114, 100, 101, 114])), (.tmp 109)]⟩,
 ⟨none, .store 5 (.tmp 8) (.tmp 110)⟩])))))
 (.seq
 (.seq
 (.reg [⟨(some 111), .fadr 6 (.tmp 1)⟩,
 ⟨(some 112), .load none (.tmp 111)⟩,
 ⟨(some 113), .len 1 (.tmp 112)⟩,
 ⟨(some 114), .bin .gtr (.tmp 113) (.c (.int .i64 0))⟩])
 (.cond (.tmp 114)
 (.regD [] [⟨(some 115), .load (some 5) (.tmp 8)⟩,
 ⟨(some 116), .fadr 6 (.tmp 1)⟩,
 ⟨(some 117), .load none (.tmp 116)⟩,
 ⟨(some 118), .call false true (.c (.fn (.func 101) [] [])) [(.tmp 117)]⟩,
 ⟨(some 119), .call false false (.c (.fn (.func 100) [] [])) [(.tmp 115), (.c (.str [101, 114, 114, 111, 114, 115])), (.tmp 118)]⟩,
 ⟨none, .store 5 (.tmp 8) (.tmp 119)⟩])
 .skip))
 (.reg [⟨(some 120), .load (some 5) (.tmp 3)⟩,
 ⟨(some 121), .load (some 5) (.tmp 8)⟩,
 ⟨(some 122), .bsl 5 (.agg [(.int .i64 0), (.int .i64 0), (.str []), (.sl .nil []), (.sl .nil [])]) 1 [(0, (.tmp 121))]⟩,
 ⟨(some 123), .build [(.int .i64 0), (.int .i64 0), (.str []), (.sl .nil []), (.sl .nil [])] [(0, 1, (.c (.int .i64 4))), (3, 1, (.tmp 122))]⟩,
 ⟨(some 124), .call false false (.c (.fn (.func 100) [] [])) [(.tmp 120), (.c (.str [105, 110, 99, 114, 101, 109, 101, 110, 116, 97, 108])), (.tmp 123)]⟩,
 ⟨none, .store 5 (.tmp 3) (.tmp 124)⟩]))))
 .skip))
 (.seq
 (.seq
 (.reg [⟨(some 125), .fadr 12 (.tmp 1)⟩,
 ⟨(some 126), .load none (.tmp 125)⟩])
 (.cond (.tmp 126)
 (.seq
 (.reg [⟨(some 127), .build [(.int .i64 0), (.int .i64 0), (.str []), (.sl .nil []), (.sl .nil [])] []⟩,
 ⟨(some 128), .fadr 9 (.tmp 1)⟩,
 ⟨(some 129), .load none (.tmp 128)⟩,
 ⟨(some 130), .call false false (.c (.fn (.func 102) [] [])) [(.tmp 129)]⟩,
 ⟨(some 131), .call false false (.c (.fn (.func 100) [] [])) [(.tmp 127), (.c (.str [105, 100])), (.tmp 130)]⟩,
 ⟨(some 11), .new 46 [(.int .i64 0), (.int .i64 0), (.str []), (.sl .nil []), (.sl .nil [])]⟩,
 ⟨none, .store 5 (.tmp 11) (.tmp 131)⟩])
 (.seq
 (.seq
 (.reg [⟨(some 132), .fadr 13 (.tmp 1)⟩,
 ⟨(some 133), .load none (.tmp 132)⟩])
 (.cond (.tmp 133)
 (.regD [] [⟨(some 134), .load (some 5) (.tmp 11)⟩,
 ⟨(some 135), .fadr 6 (.tmp 1)⟩,
 ⟨(some 136), .load none (.tmp 135)⟩,
 ⟨(some 137), .call false true (.c (.fn (.func 101) [] [])) [(.tmp 136)]⟩,
 ⟨(some 138), .call false false (.c (.fn (.func 100) [] [])) [(.tmp 134), (.c (.str [101, 114, 114, 111, 114, 115])), (.tmp 137)]⟩,
 ⟨none, .store 5 (.tmp 11) (.tmp 138)⟩])
 .skip))
 (.reg [⟨(some 139), .load (some 5) (.tmp 3)⟩,
 ⟨(some 140), .load (some 5) (.tmp 11)⟩,
 ⟨(some 141), .bsl 5 (.agg [(.int .i64 0), (.int .i64 0), (.str []), (.sl .nil []), (.sl .nil [])]) 1 [(0, (.tmp 140))]⟩,
 ⟨(some 142), .build [(.int .i64 0), (.int .i64 0), (.str []), (.sl .nil []), (.sl .nil [])] [(0, 1, (.c (.int .i64 4))), (3, 1, (.tmp 141))]⟩,
 ⟨(some 143), .call false false (.c (.fn (.func 100) [] [])) [(.tmp 139), (.c (.str [99, 111, 109, 112, 108, 101, 116, 101, 100])), (.tmp 142)]⟩,
 ⟨none, .store 5 (.tmp 3) (.tmp 143)⟩])))
 .skip))
 (.seq
 (.reg [⟨(some 144), .build [(.int .i64 0), (.int .i64 0), (.str []), (.sl .nil []), (.sl .nil [])] [(0, 1, (.c (.int .i64 1)))]⟩,
 ⟨(some 12), .new 46 [(.int .i64 0), (.int .i64 0), (.str []), (.sl .nil []), (.sl .nil [])]⟩,
 ⟨none, .store 5 (.tmp 12) (.tmp 144)⟩])
 (.seq
 (.seq
 (.reg [⟨(some 145), .fadr 14 (.tmp 1)⟩,
 ⟨(some 146), .load none (.tmp 145)⟩])
 (.cond (.tmp 146)
 (.reg [⟨(some 147), .fadr 1 (.tmp 12)⟩,
 ⟨none, .store 1 (.tmp 147) (.c (.int .i64 1))⟩])
 .skip))
 (.seq
 (.reg [⟨(some 148), .load (some 5) (.tmp 3)⟩,
 ⟨(some 149), .load (some 5) (.tmp 12)⟩,
 ⟨(some 150), .call false false (.c (.fn (.func 100) [] [])) [(.tmp 148), (.c (.str [104, 97, 115, 78, 101, 120, 116])), (.tmp 149)]⟩,
 ⟨none, .store 5 (.tmp 2) (.tmp 150)⟩])
 .ret)))))))))
def af28 : AFunc := ⟨151, [.cell 2 (some 5)], af28b, false⟩

/-- cascade/cascaderef26.Same -/
def af29l0 : ACode :=
 (.seq
 (.seq
 (.reg [⟨(some 86), .mov (.tmp 5)⟩,
 ⟨(some 87), .fadr 7 (.tmp 2)⟩,
 ⟨(some 88), .load none (.tmp 87)⟩,
 ⟨(some 89), .len 1 (.tmp 88)⟩,
 ⟨(some 90), .bin .lss (.tmp 86) (.tmp 89)⟩])
 (.cond (.tmp 90)
 .skip
 (.exit 0)))
 (.seq
 (.blk 1
 (.seq
 (.regD [(98, 6), (101, 6)] [⟨(some 93), .fadr 7 (.tmp 2)⟩,
 ⟨(some 94), .load none (.tmp 93)⟩,
 ⟨(some 95), .mov (.tmp 5)⟩,
 ⟨(some 96), .iadr 4 (.tmp 94) (.tmp 95)⟩,
 ⟨(some 97), .load (some 4) (.tmp 96)⟩,
 ⟨(some 98), .fadr 7 (.tmp 3)⟩,
 ⟨(some 99), .load none (.tmp 98)⟩,
 ⟨(some 100), .mov (.tmp 5)⟩,
 ⟨(some 101), .iadr 4 (.tmp 99) (.tmp 100)⟩,
 ⟨(some 102), .load (some 4) (.tmp 101)⟩,
 ⟨(some 6), .new 148 [(.int .i64 0), (.sl .nil []), (.str []), (.bool false)]⟩,
 ⟨(some 7), .new 148 [(.int .i64 0), (.sl .nil []), (.str []), (.bool false)]⟩,
 ⟨none, .store 4 (.tmp 6) (.tmp 97)⟩,
 ⟨none, .store 4 (.tmp 7) (.tmp 102)⟩])
 (.seq
 (.reg [⟨(some 103), .fadr 0 (.tmp 6)⟩,
 ⟨(some 104), .load none (.tmp 103)⟩,
 ⟨(some 105), .fadr 0 (.tmp 7)⟩,
 ⟨(some 106), .load none (.tmp 105)⟩,
 ⟨(some 107), .bin .neq (.tmp 104) (.tmp 106)⟩,
 ⟨(some 114), .sc 108 false (.tmp 107) [⟨(some 109), .fadr 2 (.tmp 6)⟩, ⟨(some 110), .load none (.tmp 109)⟩, ⟨(some 111), .fadr 2 (.tmp 7)⟩, ⟨(some 112), .load none (.tmp 111)⟩, ⟨(some 113), .bin .neq (.tmp 110) (.tmp 112)⟩] (.tmp 113)⟩,
 ⟨(some 121), .sc 115 false (.tmp 114) [⟨(some 116), .fadr 3 (.tmp 6)⟩, ⟨(some 117), .load none (.tmp 116)⟩, ⟨(some 118), .fadr 3 (.tmp 7)⟩, ⟨(some 119), .load none (.tmp 118)⟩, ⟨(some 120), .eqb true (.tmp 117) (.tmp 119)⟩] (.tmp 120)⟩,
 ⟨(some 129), .sc 122 false (.tmp 121) [⟨(some 123), .fadr 1 (.tmp 6)⟩, ⟨(some 124), .load none (.tmp 123)⟩, ⟨(some 125), .fadr 1 (.tmp 7)⟩, ⟨(some 126), .load none (.tmp 125)⟩, ⟨(some 127), .call false false (.c (.fn (.func 106) [] [])) [(.tmp 124), (.tmp 126)]⟩, ⟨(some 128), .un .not (.tmp 127)⟩] (.tmp 128)⟩])
 (.cond (.tmp 129)
 (.seq
 (.reg [⟨(some 4), .mov (.c (.bool false))⟩])
 .ret)
 .skip))))
 (.reg [⟨(some 91), .mov (.tmp 5)⟩,
 ⟨(some 92), .bin .add (.tmp 91) (.c (.int .i64 1))⟩,
 ⟨(some 5), .mov (.tmp 92)⟩])))
def af29b : ACode :=
 (.seq
 (.reg [⟨(some 2), .box 51 (.tmp 0)⟩,
 ⟨(some 3), .box 51 (.tmp 1)⟩,
 ⟨(some 4), .mov (.c (.bool false))⟩])
 (.seq
 (.seq
 (.reg [⟨(some 8), .fadr 0 (.tmp 2)⟩,
 ⟨(some 9), .load none (.tmp 8)⟩,
 ⟨(some 10), .fadr 0 (.tmp 3)⟩,
 ⟨(some 11), .load none (.tmp 10)⟩,
 ⟨(some 12), .eqb true (.tmp 9) (.tmp 11)⟩,
 ⟨(some 19), .sc 13 false (.tmp 12) [⟨(some 14), .fadr 8 (.tmp 2)⟩, ⟨(some 15), .load none (.tmp 14)⟩, ⟨(some 16), .fadr 8 (.tmp 3)⟩, ⟨(some 17), .load none (.tmp 16)⟩, ⟨(some 18), .eqb true (.tmp 15) (.tmp 17)⟩] (.tmp 18)⟩,
 ⟨(some 26), .sc 20 false (.tmp 19) [⟨(some 21), .fadr 9 (.tmp 2)⟩, ⟨(some 22), .load none (.tmp 21)⟩, ⟨(some 23), .fadr 9 (.tmp 3)⟩, ⟨(some 24), .load none (.tmp 23)⟩, ⟨(some 25), .bin .neq (.tmp 22) (.tmp 24)⟩] (.tmp 25)⟩,
 ⟨(some 33), .sc 27 false (.tmp 26) [⟨(some 28), .fadr 10 (.tmp 2)⟩, ⟨(some 29), .load none (.tmp 28)⟩, ⟨(some 30), .fadr 10 (.tmp 3)⟩, ⟨(some 31), .load none (.tmp 30)⟩, ⟨(some 32), .eqb true (.tmp 29) (.tmp 31)⟩] (.tmp 32)⟩,
 ⟨(some 40), .sc 34 false (.tmp 33) [⟨(some 35), .fadr 12 (.tmp 2)⟩, ⟨(some 36), .load none (.tmp 35)⟩, ⟨(some 37), .fadr 12 (.tmp 3)⟩, ⟨(some 38), .load none (.tmp 37)⟩, ⟨(some 39), .eqb true (.tmp 36) (.tmp 38)⟩] (.tmp 39)⟩,
 ⟨(some 47), .sc 41 false (.tmp 40) [⟨(some 42), .fadr 13 (.tmp 2)⟩, ⟨(some 43), .load none (.tmp 42)⟩, ⟨(some 44), .fadr 13 (.tmp 3)⟩, ⟨(some 45), .load none (.tmp 44)⟩, ⟨(some 46), .eqb true (.tmp 43) (.tmp 45)⟩] (.tmp 46)⟩,
 ⟨(some 54), .sc 48 false (.tmp 47) [⟨(some 49), .fadr 14 (.tmp 2)⟩, ⟨(some 50), .load none (.tmp 49)⟩, ⟨(some 51), .fadr 14 (.tmp 3)⟩, ⟨(some 52), .load none (.tmp 51)⟩, ⟨(some 53), .eqb true (.tmp 50) (.tmp 52)⟩] (.tmp 53)⟩])
 (.cond (.tmp 54)
 (.seq
 (.reg [⟨(some 4), .mov (.c (.bool false))⟩])
 .ret)
 .skip))
 (.seq
 (.seq
 (.reg [⟨(some 55), .fadr 1 (.tmp 2)⟩,
 ⟨(some 56), .load (some 5) (.tmp 55)⟩,
 ⟨(some 57), .fadr 1 (.tmp 3)⟩,
 ⟨(some 58), .load (some 5) (.tmp 57)⟩,
 ⟨(some 59), .call false false (.c (.fn (.func 26) [] [])) [(.tmp 56), (.tmp 58)]⟩,
 ⟨(some 60), .un .not (.tmp 59)⟩,
 ⟨(some 68), .sc 61 false (.tmp 60) [⟨(some 62), .fadr 6 (.tmp 2)⟩, ⟨(some 63), .load none (.tmp 62)⟩, ⟨(some 64), .fadr 6 (.tmp 3)⟩, ⟨(some 65), .load none (.tmp 64)⟩, ⟨(some 66), .call false false (.c (.fn (.func 104) [] [])) [(.tmp 63), (.tmp 65)]⟩, ⟨(some 67), .un .not (.tmp 66)⟩] (.tmp 67)⟩,
 ⟨(some 76), .sc 69 false (.tmp 68) [⟨(some 70), .fadr 11 (.tmp 2)⟩, ⟨(some 71), .load none (.tmp 70)⟩, ⟨(some 72), .fadr 11 (.tmp 3)⟩, ⟨(some 73), .load none (.tmp 72)⟩, ⟨(some 74), .call false false (.c (.fn (.func 105) [] [])) [(.tmp 71), (.tmp 73)]⟩, ⟨(some 75), .un .not (.tmp 74)⟩] (.tmp 75)⟩,
 ⟨(some 85), .sc 77 false (.tmp 76) [⟨(some 78), .fadr 7 (.tmp 2)⟩, ⟨(some 79), .load none (.tmp 78)⟩, ⟨(some 80), .len 1 (.tmp 79)⟩, ⟨(some 81), .fadr 7 (.tmp 3)⟩, ⟨(some 82), .load none (.tmp 81)⟩, ⟨(some 83), .len 1 (.tmp 82)⟩, ⟨(some 84), .bin .neq (.tmp 80) (.tmp 83)⟩] (.tmp 84)⟩])
 (.cond (.tmp 85)
 (.seq
 (.reg [⟨(some 4), .mov (.c (.bool false))⟩])
 .ret)
 .skip))
 (.seq
 (.seq
 (.reg [⟨(some 5), .mov (.c (.int .i64 0))⟩])
 (.blk 0
 (.loop false af29l0)))
 (.seq
 (.reg [⟨(some 4), .mov (.c (.bool true))⟩])
 .ret)))))
def af29 : AFunc := ⟨130, [.tmp 4], af29b, false⟩

/-- cascade/cascaderef03.Few -/
def af30b : ACode :=
 (.seq
 (.reg [⟨(some 2), .box 46 (.tmp 0)⟩,
 ⟨(some 4), .mov (.c (.bool false))⟩])
 (.seq
 (.reg [⟨(some 5), .load (some 5) (.tmp 2)⟩,
 ⟨(some 6), .mov (.tmp 1)⟩,
 ⟨(some 7), .call false false (.c (.fn (.func 107) [] [])) [(.tmp 5), (.tmp 6)]⟩,
 ⟨(some 8), .bin .geq (.tmp 7) (.c (.int .i64 0))⟩,
 ⟨(some 4), .mov (.tmp 8)⟩])
 .ret))
def af30 : AFunc := ⟨9, [.tmp 4], af30b, false⟩

/-- cascade/cascaderef03.Right -/
def af32b : ACode :=
 (.seq
 (.reg [⟨(some 1), .box 46 (.tmp 0)⟩,
 ⟨(some 2), .mov (.c (.bool false))⟩])
 (.seq
 (.reg [⟨(some 3), .load (some 5) (.tmp 1)⟩,
 ⟨(some 4), .call false false (.c (.fn (.func 108) [] [])) [(.tmp 3), (.c (.int .i64 12))]⟩,
 ⟨(some 2), .mov (.tmp 4)⟩])
 .ret))
def af32 : AFunc := ⟨5, [.tmp 2], af32b, false⟩

/-- cascade/cascaderef06.Few -/
def af85l0 : ACode :=
 (.seq
 (.seq
 (.reg [⟨(some 4), .mov (.tmp 3)⟩,
 ⟨(some 5), .mov (.tmp 0)⟩,
 ⟨(some 6), .len 1 (.tmp 5)⟩,
 ⟨(some 7), .bin .lss (.tmp 4) (.tmp 6)⟩,
 ⟨(some 11), .sc 8 true (.tmp 7) [⟨(some 9), .mov (.tmp 3)⟩, ⟨(some 10), .bin .lss (.tmp 9) (.c (.int .i64 50))⟩] (.tmp 10)⟩])
 (.cond (.tmp 11)
 .skip
 (.exit 0)))
 (.seq
 (.blk 1
 (.seq
 (.reg [⟨(some 14), .mov (.tmp 0)⟩,
 ⟨(some 15), .mov (.tmp 3)⟩,
 ⟨(some 16), .iadr 3 (.tmp 14) (.tmp 15)⟩,
 ⟨(some 17), .fadr 0 (.tmp 16)⟩,
 ⟨(some 18), .load none (.tmp 17)⟩,
 ⟨(some 19), .len 0 (.tmp 18)⟩,
 ⟨(some 20), .bin .gtr (.tmp 19) (.c (.int .i64 200))⟩])
 (.cond (.tmp 20)
 (.seq
 (.reg [⟨(some 2), .mov (.c (.bool false))⟩])
 .ret)
 .skip)))
 (.reg [⟨(some 12), .mov (.tmp 3)⟩,
 ⟨(some 13), .bin .add (.tmp 12) (.c (.int .i64 1))⟩,
 ⟨(some 3), .mov (.tmp 13)⟩])))
def af85b : ACode :=
 (.seq
 (.reg [⟨(some 2), .mov (.c (.bool false))⟩])
 (.seq
 (.seq
 (.reg [⟨(some 3), .mov (.c (.int .i64 0))⟩])
 (.blk 0
 (.loop false af85l0)))
 (.seq
 (.reg [⟨(some 21), .mov (.tmp 0)⟩,
 ⟨(some 22), .len 1 (.tmp 21)⟩,
 ⟨(some 23), .bin .leq (.tmp 22) (.c (.int .i64 40))⟩,
 ⟨(some 2), .mov (.tmp 23)⟩])
 .ret)))
def af85 : AFunc := ⟨24, [.tmp 2], af85b, false⟩

/-- cascade/cascaderef27.together -/
def af86b : ACode :=
 (.seq
 (.reg [⟨(some 1), .box 51 (.tmp 0)⟩,
 ⟨(some 2), .mov (.c (.bool false))⟩])
 (.seq
 (.seq
 (.reg [⟨(some 3), .fadr 0 (.tmp 1)⟩,
 ⟨(some 4), .load none (.tmp 3)⟩])
 (.cond (.tmp 4)
 (.seq
 (.reg [⟨(some 5), .fadr 9 (.tmp 1)⟩,
 ⟨(some 6), .load none (.tmp 5)⟩,
 ⟨(some 7), .bin .eql (.tmp 6) (.c (.int .i64 0))⟩,
 ⟨(some 12), .sc 8 true (.tmp 7) [⟨(some 9), .fadr 8 (.tmp 1)⟩, ⟨(some 10), .load none (.tmp 9)⟩, ⟨(some 11), .un .not (.tmp 10)⟩] (.tmp 11)⟩,
 ⟨(some 17), .sc 13 true (.tmp 12) [⟨(some 14), .fadr 10 (.tmp 1)⟩, ⟨(some 15), .load none (.tmp 14)⟩, ⟨(some 16), .un .not (.tmp 15)⟩] (.tmp 16)⟩,
 ⟨(some 23), .sc 18 true (.tmp 17) [⟨(some 19), .fadr 11 (.tmp 1)⟩, ⟨(some 20), .load none (.tmp 19)⟩, ⟨(some 21), .len 1 (.tmp 20)⟩, ⟨(some 22), .bin .eql (.tmp 21) (.c (.int .i64 0))⟩] (.tmp 22)⟩,
 ⟨(some 28), .sc 24 true (.tmp 23) [⟨(some 25), .fadr 12 (.tmp 1)⟩, ⟨(some 26), .load none (.tmp 25)⟩, ⟨(some 27), .un .not (.tmp 26)⟩] (.tmp 27)⟩,
 ⟨(some 33), .sc 29 true (.tmp 28) [⟨(some 30), .fadr 13 (.tmp 1)⟩, ⟨(some 31), .load none (.tmp 30)⟩, ⟨(some 32), .un .not (.tmp 31)⟩] (.tmp 32)⟩,
 ⟨(some 2), .mov (.tmp 33)⟩])
 .ret)
 .skip))
 (.seq
 (.seq
 (.reg [⟨(some 34), .fadr 8 (.tmp 1)⟩,
 ⟨(some 35), .load none (.tmp 34)⟩])
 (.cond (.tmp 35)
 (.seq
 (.reg [⟨(some 36), .fadr 13 (.tmp 1)⟩,
 ⟨(some 37), .load none (.tmp 36)⟩,
 ⟨(some 38), .un .not (.tmp 37)⟩,
 ⟨(some 48), .sc 39 true (.tmp 38) [⟨(some 40), .fadr 10 (.tmp 1)⟩, ⟨(some 41), .load none (.tmp 40)⟩, ⟨(some 47), .sc 42 false (.tmp 41) [⟨(some 43), .fadr 1 (.tmp 1)⟩, ⟨(some 44), .fadr 0 (.tmp 43)⟩, ⟨(some 45), .load none (.tmp 44)⟩, ⟨(some 46), .bin .eql (.tmp 45) (.c (.int .i64 5))⟩] (.tmp 46)⟩] (.tmp 47)⟩,
 ⟨(some 59), .sc 49 true (.tmp 48) [⟨(some 50), .fadr 10 (.tmp 1)⟩, ⟨(some 51), .load none (.tmp 50)⟩, ⟨(some 52), .un .not (.tmp 51)⟩, ⟨(some 58), .sc 53 false (.tmp 52) [⟨(some 54), .fadr 11 (.tmp 1)⟩, ⟨(some 55), .load none (.tmp 54)⟩, ⟨(some 56), .len 1 (.tmp 55)⟩, ⟨(some 57), .bin .eql (.tmp 56) (.c (.int .i64 0))⟩] (.tmp 57)⟩] (.tmp 58)⟩,
 ⟨(some 2), .mov (.tmp 59)⟩])
 .ret)
 .skip))
 (.seq
 (.reg [⟨(some 60), .fadr 12 (.tmp 1)⟩,
 ⟨(some 61), .load none (.tmp 60)⟩,
 ⟨(some 65), .sc 62 true (.tmp 61) [⟨(some 63), .fadr 13 (.tmp 1)⟩, ⟨(some 64), .load none (.tmp 63)⟩] (.tmp 64)⟩,
 ⟨(some 70), .sc 66 true (.tmp 65) [⟨(some 67), .fadr 10 (.tmp 1)⟩, ⟨(some 68), .load none (.tmp 67)⟩, ⟨(some 69), .un .not (.tmp 68)⟩] (.tmp 69)⟩,
 ⟨(some 76), .sc 71 true (.tmp 70) [⟨(some 72), .fadr 11 (.tmp 1)⟩, ⟨(some 73), .load none (.tmp 72)⟩, ⟨(some 74), .len 1 (.tmp 73)⟩, ⟨(some 75), .bin .eql (.tmp 74) (.c (.int .i64 0))⟩] (.tmp 75)⟩,
 ⟨(some 82), .sc 77 true (.tmp 76) [⟨(some 78), .fadr 7 (.tmp 1)⟩, ⟨(some 79), .load none (.tmp 78)⟩, ⟨(some 80), .len 1 (.tmp 79)⟩, ⟨(some 81), .bin .eql (.tmp 80) (.c (.int .i64 0))⟩] (.tmp 81)⟩,
 ⟨(some 88), .sc 83 true (.tmp 82) [⟨(some 84), .fadr 1 (.tmp 1)⟩, ⟨(some 85), .fadr 0 (.tmp 84)⟩, ⟨(some 86), .load none (.tmp 85)⟩, ⟨(some 87), .bin .eql (.tmp 86) (.c (.int .i64 0))⟩] (.tmp 87)⟩,
 ⟨(some 2), .mov (.tmp 88)⟩])
 .ret))))
def af86 : AFunc := ⟨89, [.tmp 2], af86b, false⟩

/-- cascade/cascaderef01.Right -/
def af87b : ACode :=
 (.seq
 (.reg [⟨(some 2), .mov (.c (.bool false))⟩])
 (.seq
 (.reg [⟨(some 3), .mov (.tmp 0)⟩,
 ⟨(some 4), .call false false (.c (.fn (.func 150) [] [])) [(.tmp 3)]⟩,
 ⟨(some 5), .bin .eql (.tmp 4) (.c (.int .i64 (-1)))⟩,
 ⟨(some 2), .mov (.tmp 5)⟩])
 .ret))
def af87 : AFunc := ⟨6, [.tmp 2], af87b, false⟩

/-- cascade/cascaderef06.Right -/
def af88l0 : ACode :=
 (.seq
 (.seq
 (.reg [⟨(some 5), .mov (.tmp 3)⟩,
 ⟨(some 6), .mov (.tmp 0)⟩,
 ⟨(some 7), .len 1 (.tmp 6)⟩,
 ⟨(some 8), .bin .lss (.tmp 5) (.tmp 7)⟩,
 ⟨(some 12), .sc 9 true (.tmp 8) [⟨(some 10), .mov (.tmp 3)⟩, ⟨(some 11), .bin .lss (.tmp 10) (.c (.int .i64 40))⟩] (.tmp 11)⟩])
 (.cond (.tmp 12)
 .skip
 (.exit 0)))
 (.seq
 (.blk 1
 (.seq
 (.reg [⟨(some 15), .mov (.tmp 0)⟩,
 ⟨(some 16), .mov (.tmp 3)⟩,
 ⟨(some 17), .iadr 3 (.tmp 15) (.tmp 16)⟩,
 ⟨(some 18), .load (some 3) (.tmp 17)⟩,
 ⟨(some 4), .new 214 [(.str []), (.int .i64 0), (.bool false)]⟩,
 ⟨none, .store 3 (.tmp 4) (.tmp 18)⟩])
 (.seq
 (.reg [⟨(some 19), .fadr 2 (.tmp 4)⟩,
 ⟨(some 20), .load none (.tmp 19)⟩,
 ⟨(some 35), .sc 21 true (.tmp 20) [⟨(some 22), .fadr 0 (.tmp 4)⟩, ⟨(some 23), .load none (.tmp 22)⟩, ⟨(some 24), .bin .neq (.tmp 23) (.c (.str []))⟩, ⟨(some 29), .sc 25 false (.tmp 24) [⟨(some 26), .fadr 1 (.tmp 4)⟩, ⟨(some 27), .load none (.tmp 26)⟩, ⟨(some 28), .bin .lss (.tmp 27) (.c (.int .i64 0))⟩] (.tmp 28)⟩, ⟨(some 34), .sc 30 false (.tmp 29) [⟨(some 31), .fadr 1 (.tmp 4)⟩, ⟨(some 32), .load none (.tmp 31)⟩, ⟨(some 33), .bin .gtr (.tmp 32) (.c (.int .i64 9007199254740991))⟩] (.tmp 33)⟩] (.tmp 34)⟩,
 ⟨(some 51), .sc 36 false (.tmp 35) [⟨(some 37), .fadr 2 (.tmp 4)⟩, ⟨(some 38), .load none (.tmp 37)⟩, ⟨(some 39), .un .not (.tmp 38)⟩, ⟨(some 50), .sc 40 true (.tmp 39) [⟨(some 41), .fadr 1 (.tmp 4)⟩, ⟨(some 42), .load none (.tmp 41)⟩, ⟨(some 43), .bin .neq (.tmp 42) (.c (.int .i64 0))⟩, ⟨(some 49), .sc 44 false (.tmp 43) [⟨(some 45), .fadr 0 (.tmp 4)⟩, ⟨(some 46), .load none (.tmp 45)⟩, ⟨(some 47), .call false false (.c (.fn (.func 87) [] [])) [(.tmp 46)]⟩, ⟨(some 48), .un .not (.tmp 47)⟩] (.tmp 48)⟩] (.tmp 49)⟩] (.tmp 50)⟩])
 (.cond (.tmp 51)
 (.seq
 (.reg [⟨(some 2), .mov (.c (.bool false))⟩])
 .ret)
 .skip))))
 (.reg [⟨(some 13), .mov (.tmp 3)⟩,
 ⟨(some 14), .bin .add (.tmp 13) (.c (.int .i64 1))⟩,
 ⟨(some 3), .mov (.tmp 14)⟩])))
def af88b : ACode :=
 (.seq
 (.reg [⟨(some 2), .mov (.c (.bool false))⟩])
 (.seq
 (.seq
 (.reg [⟨(some 3), .mov (.c (.int .i64 0))⟩])
 (.blk 0
 (.loop false af88l0)))
 (.seq
 (.reg [⟨(some 52), .mov (.tmp 0)⟩,
 ⟨(some 53), .len 1 (.tmp 52)⟩,
 ⟨(some 54), .bin .leq (.tmp 53) (.c (.int .i64 30))⟩,
 ⟨(some 2), .mov (.tmp 54)⟩])
 .ret)))
def af88 : AFunc := ⟨55, [.tmp 2], af88b, false⟩

/-- cascade/tree.Clone -/
def af89b : ACode :=
 (.seq
 (.reg [⟨(some 1), .box 46 (.tmp 0)⟩,
 ⟨(some 2), .new 46 [(.int .i64 0), (.int .i64 0), (.str []), (.sl .nil []), (.sl .nil [])]⟩])
 (.seq
 (.seq
 (.reg [⟨(some 3), .load (some 5) (.tmp 1)⟩,
 ⟨(some 4), .call false false (.c (.fn (.func 92) [] [])) [(.tmp 3)]⟩,
 ⟨(some 5), .un .not (.tmp 4)⟩])
 (.cond (.tmp 5)
 (.seq
 (.reg [⟨(some 6), .build [(.int .i64 0), (.int .i64 0), (.str []), (.sl .nil []), (.sl .nil [])] []⟩,
 ⟨none, .store 5 (.tmp 2) (.tmp 6)⟩])
 .ret)
 .skip))
 (.seq
 (.reg [⟨(some 7), .load (some 5) (.tmp 1)⟩,
 ⟨(some 8), .call false false (.c (.fn (.func 151) [] [])) [(.tmp 7)]⟩,
 ⟨none, .store 5 (.tmp 2) (.tmp 8)⟩])
 .ret)))
def af89 : AFunc := ⟨9, [.cell 2 (some 5)], af89b, false⟩

/-- cascade/chunk.value -/
def af90b : ACode :=
 (.seq
 (.reg [⟨(some 1), .box 51 (.tmp 0)⟩,
 ⟨(some 2), .new 46 [(.int .i64 0), (.int .i64 0), (.str []), (.sl .nil []), (.sl .nil [])]⟩])
 (.seq
 (.reg [⟨(some 6), .fadr 14 (.tmp 1)⟩,
 ⟨(some 7), .load none (.tmp 6)⟩,
 ⟨(some 8), .call false false (.c (.fn (.func 152) [] [])) [(.tmp 7)]⟩,
 ⟨(some 9), .build [(.str []), (.int .i64 0), (.int .i64 0), (.str []), (.sl .nil []), (.sl .nil []), (.bool false)] [(0, 1, (.c (.str [104, 97, 115, 78, 101, 120, 116]))), (1, 5, (.tmp 8)), (6, 1, (.c (.bool true)))]⟩,
 ⟨(some 3), .new 218 [(.str []), (.int .i64 0), (.int .i64 0), (.str []), (.sl .nil []), (.sl .nil []), (.bool false)]⟩,
 ⟨none, .store 7 (.tmp 3) (.tmp 9)⟩])
 (.seq
 (.regD [] [⟨(some 10), .fadr 7 (.tmp 1)⟩,
 ⟨(some 11), .load none (.tmp 10)⟩,
 ⟨(some 12), .call false true (.c (.fn (.func 153) [] [])) [(.tmp 11)]⟩,
 ⟨(some 13), .fadr 7 (.tmp 1)⟩,
 ⟨(some 14), .load none (.tmp 13)⟩,
 ⟨(some 15), .len 1 (.tmp 14)⟩,
 ⟨(some 16), .bin .gtr (.tmp 15) (.c (.int .i64 0))⟩,
 ⟨(some 17), .build [(.str []), (.int .i64 0), (.int .i64 0), (.str []), (.sl .nil []), (.sl .nil []), (.bool false)] [(0, 1, (.c (.str [112, 101, 110, 100, 105, 110, 103]))), (1, 5, (.tmp 12)), (6, 1, (.tmp 16))]⟩,
 ⟨(some 4), .new 218 [(.str []), (.int .i64 0), (.int .i64 0), (.str []), (.sl .nil []), (.sl .nil []), (.bool false)]⟩,
 ⟨none, .store 7 (.tmp 4) (.tmp 17)⟩])
 (.seq
 (.seq
 (.reg [⟨(some 18), .fadr 0 (.tmp 1)⟩,
 ⟨(some 19), .load none (.tmp 18)⟩])
 (.cond (.tmp 19)
 (.seq
 (.regD [] [⟨(some 20), .fadr 1 (.tmp 1)⟩,
 ⟨(some 21), .load (some 5) (.tmp 20)⟩,
 ⟨(some 22), .build [(.str []), (.int .i64 0), (.int .i64 0), (.str []), (.sl .nil []), (.sl .nil []), (.bool false)] [(0, 1, (.c (.str [100, 97, 116, 97]))), (1, 5, (.tmp 21)), (6, 1, (.c (.bool true)))]⟩,
 ⟨(some 23), .fadr 6 (.tmp 1)⟩,
 ⟨(some 24), .load none (.tmp 23)⟩,
 ⟨(some 25), .call false true (.c (.fn (.func 155) [] [])) [(.tmp 24)]⟩,
 ⟨(some 26), .fadr 6 (.tmp 1)⟩,
 ⟨(some 27), .load none (.tmp 26)⟩,
 ⟨(some 28), .len 1 (.tmp 27)⟩,
 ⟨(some 29), .bin .gtr (.tmp 28) (.c (.int .i64 0))⟩,
 ⟨(some 30), .build [(.str []), (.int .i64 0), (.int .i64 0), (.str []), (.sl .nil []), (.sl .nil []), (.bool false)] [(0, 1, (.c (.str [101, 114, 114, 111, 114, 115]))), (1, 5, (.tmp 25)), (6, 1, (.tmp 29))]⟩,
 ⟨(some 31), .load (some 7) (.tmp 4)⟩,
 ⟨(some 32), .load (some 7) (.tmp 3)⟩,
 ⟨(some 33), .bsl 7 (.agg [(.str []), (.int .i64 0), (.int .i64 0), (.str []), (.sl .nil []), (.sl .nil []), (.bool false)]) 4 [(0, (.tmp 22)), (1, (.tmp 30)), (2, (.tmp 31)), (3, (.tmp 32))]⟩,
 ⟨(some 34), .call false false (.c (.fn (.func 154) [] [])) [(.tmp 33)]⟩,
 ⟨none, .store 5 (.tmp 2) (.tmp 34)⟩])
 .ret)
 .skip))
 (.seq
 (.regD [] [⟨(some 35), .fadr 9 (.tmp 1)⟩,
 ⟨(some 36), .load none (.tmp 35)⟩,
 ⟨(some 37), .call false true (.c (.fn (.func 156) [] [])) [(.tmp 36)]⟩,
 ⟨(some 38), .build [(.str []), (.int .i64 0), (.int .i64 0), (.str []), (.sl .nil []), (.sl .nil []), (.bool false)] [(0, 1, (.c (.str [105, 100]))), (1, 5, (.tmp 37)), (6, 1, (.c (.bool true)))]⟩,
 ⟨(some 39), .fadr 6 (.tmp 1)⟩,
 ⟨(some 40), .load none (.tmp 39)⟩,
 ⟨(some 41), .call false true (.c (.fn (.func 155) [] [])) [(.tmp 40)]⟩,
 ⟨(some 42), .fadr 13 (.tmp 1)⟩,
 ⟨(some 43), .load none (.tmp 42)⟩,
 ⟨(some 44), .build [(.str []), (.int .i64 0), (.int .i64 0), (.str []), (.sl .nil []), (.sl .nil []), (.bool false)] [(0, 1, (.c (.str [101, 114, 114, 111, 114, 115]))), (1, 5, (.tmp 41)), (6, 1, (.tmp 43))]⟩,
 ⟨(some 45), .bsl 7 (.agg [(.str []), (.int .i64 0), (.int .i64 0), (.str []), (.sl .nil []), (.sl .nil []), (.bool false)]) 2 [(0, (.tmp 38)), (1, (.tmp 44))]⟩,
 ⟨(some 46), .call false true (.c (.fn (.func 154) [] [])) [(.tmp 45)]⟩,
 ⟨(some 5), .new 46 [(.int .i64 0), (.int .i64 0), (.str []), (.sl .nil []), (.sl .nil [])]⟩,
 ⟨none, .store 5 (.tmp 5) (.tmp 46)⟩])
 (.seq
 (.regD [] [⟨(some 47), .load (some 7) (.tmp 4)⟩,
 ⟨(some 48), .load (some 15) (.tmp 1)⟩,
 ⟨(some 49), .call false true (.c (.fn (.func 158) [] [])) [(.tmp 48)]⟩,
 ⟨(some 50), .bsl 5 (.agg [(.int .i64 0), (.int .i64 0), (.str []), (.sl .nil []), (.sl .nil [])]) 1 [(0, (.tmp 49))]⟩,
 ⟨(some 51), .call false true (.c (.fn (.func 157) [] [])) [(.tmp 50)]⟩,
 ⟨(some 52), .fadr 8 (.tmp 1)⟩,
 ⟨(some 53), .load none (.tmp 52)⟩,
 ⟨(some 54), .build [(.str []), (.int .i64 0), (.int .i64 0), (.str []), (.sl .nil []), (.sl .nil []), (.bool false)] [(0, 1, (.c (.str [105, 110, 99, 114, 101, 109, 101, 110, 116, 97, 108]))), (1, 5, (.tmp 51)), (6, 1, (.tmp 53))]⟩,
 ⟨(some 55), .load (some 5) (.tmp 5)⟩,
 ⟨(some 56), .bsl 5 (.agg [(.int .i64 0), (.int .i64 0), (.str []), (.sl .nil []), (.sl .nil [])]) 1 [(0, (.tmp 55))]⟩,
 ⟨(some 57), .call false true (.c (.fn (.func 157) [] [])) [(.tmp 56)]⟩,
 ⟨(some 58), .fadr 12 (.tmp 1)⟩,
 ⟨(some 59), .load none (.tmp 58)⟩,
 ⟨(some 60), .build [(.str []), (.int .i64 0), (.int .i64 0), (.str []), (.sl .nil []), (.sl .nil []), (.bool false)] [(0, 1, (.c (.str [99, 111, 109, 112, 108, 101, 116, 101, 100]))), (1, 5, (.tmp 57)), (6, 1, (.tmp 59))]⟩,
 ⟨(some 61), .load (some 7) (.tmp 3)⟩,
 ⟨(some 62), .bsl 7 (.agg [(.str []), (.int .i64 0), (.int .i64 0), (.str []), (.sl .nil []), (.sl .nil []), (.bool false)]) 4 [(0, (.tmp 47)), (1, (.tmp 54)), (2, (.tmp 60)), (3, (.tmp 61))]⟩,
 ⟨(some 63), .call false false (.c (.fn (.func 154) [] [])) [(.tmp 62)]⟩,
 ⟨none, .store 5 (.tmp 2) (.tmp 63)⟩])
 .ret))))))
def af90 : AFunc := ⟨64, [.cell 2 (some 5)], af90b, false⟩

/-- cascade/chunk.number -/
def af91b : ACode :=
 (.seq
 (.reg [⟨(some 2), .mov (.c (.bool false))⟩])
 (.seq
 (.reg [⟨(some 3), .mov (.tmp 0)⟩,
 ⟨(some 4), .bin .geq (.tmp 3) (.c (.int .i64 0))⟩,
 ⟨(some 8), .sc 5 true (.tmp 4) [⟨(some 6), .mov (.tmp 0)⟩, ⟨(some 7), .bin .leq (.tmp 6) (.c (.int .i64 9007199254740991))⟩] (.tmp 7)⟩,
 ⟨(some 2), .mov (.tmp 8)⟩])
 .ret))
def af91 : AFunc := ⟨9, [.tmp 2], af91b, false⟩

/-- cascade/tree.Right -/
def af92b : ACode :=
 (.seq
 (.reg [⟨(some 1), .box 46 (.tmp 0)⟩,
 ⟨(some 2), .mov (.c (.bool false))⟩])
 (.seq
 (.reg [⟨(some 3), .new 60 [.nilF]⟩])
 (.seq
 (.reg [⟨(some 4), .mkfn (.func 159) [] [(.tmp 3)]⟩,
 ⟨none, .store 1 (.tmp 3) (.tmp 4)⟩])
 (.seq
 (.reg [⟨(some 5), .load none (.tmp 3)⟩,
 ⟨(some 6), .load (some 5) (.tmp 1)⟩,
 ⟨(some 7), .call false false (.tmp 5) [(.tmp 6), (.c (.int .i64 12))]⟩,
 ⟨(some 2), .mov (.tmp 7)⟩])
 .ret))))
def af92 : AFunc := ⟨8, [.tmp 2], af92b, false⟩

/-- cascade/chunk.parts -/
def af93b : ACode :=
 (.seq
 (.reg [⟨(some 1), .box 51 (.tmp 0)⟩,
 ⟨(some 2), .mov (.c (.bool false))⟩])
 (.seq
 (.reg [⟨(some 4), .fadr 6 (.tmp 1)⟩,
 ⟨(some 5), .load none (.tmp 4)⟩,
 ⟨(some 6), .call false false (.c (.fn (.func 166) [] [])) [(.tmp 5), (.c (.fn (.func 167) [] []))]⟩,
 ⟨(some 3), .mov (.tmp 6)⟩])
 (.seq
 (.reg [⟨(some 7), .mov (.tmp 3)⟩,
 ⟨(some 8), .un .not (.tmp 7)⟩,
 ⟨(some 14), .sc 9 true (.tmp 8) [⟨(some 10), .fadr 7 (.tmp 1)⟩, ⟨(some 11), .load none (.tmp 10)⟩, ⟨(some 12), .call false false (.c (.fn (.func 169) [] [])) [(.tmp 11), (.c (.fn (.func 170) [] []))]⟩, ⟨(some 13), .un .not (.tmp 12)⟩] (.tmp 13)⟩,
 ⟨(some 2), .mov (.tmp 14)⟩])
 .ret)))
def af93 : AFunc := ⟨15, [.tmp 2], af93b, false⟩

/-- cascade/chunk.shape -/
def af94b : ACode :=
 (.seq
 (.reg [⟨(some 1), .box 51 (.tmp 0)⟩,
 ⟨(some 2), .mov (.c (.bool false))⟩])
 (.seq
 (.reg [⟨(some 4), .fadr 1 (.tmp 1)⟩,
 ⟨(some 5), .fadr 0 (.tmp 4)⟩,
 ⟨(some 6), .load none (.tmp 5)⟩,
 ⟨(some 7), .bin .eql (.tmp 6) (.c (.int .i64 0))⟩,
 ⟨(some 12), .sc 8 true (.tmp 7) [⟨(some 9), .fadr 1 (.tmp 1)⟩, ⟨(some 10), .load (some 5) (.tmp 9)⟩, ⟨(some 11), .call false false (.c (.fn (.func 92) [] [])) [(.tmp 10)]⟩] (.tmp 11)⟩,
 ⟨(some 3), .mov (.tmp 12)⟩])
 (.seq
 (.blk 0
 (.seq
 (.reg [⟨(some 14), .fadr 0 (.tmp 1)⟩,
 ⟨(some 15), .load none (.tmp 14)⟩,
 ⟨(some 13), .mov (.tmp 15)⟩])
 (.cond (.tmp 13)
 (.seq
 (.reg [⟨(some 16), .fadr 9 (.tmp 1)⟩,
 ⟨(some 17), .load none (.tmp 16)⟩,
 ⟨(some 18), .bin .eql (.tmp 17) (.c (.int .i64 0))⟩,
 ⟨(some 23), .sc 19 true (.tmp 18) [⟨(some 20), .fadr 8 (.tmp 1)⟩, ⟨(some 21), .load none (.tmp 20)⟩, ⟨(some 22), .un .not (.tmp 21)⟩] (.tmp 22)⟩,
 ⟨(some 28), .sc 24 true (.tmp 23) [⟨(some 25), .fadr 10 (.tmp 1)⟩, ⟨(some 26), .load none (.tmp 25)⟩, ⟨(some 27), .un .not (.tmp 26)⟩] (.tmp 27)⟩,
 ⟨(some 34), .sc 29 true (.tmp 28) [⟨(some 30), .fadr 11 (.tmp 1)⟩, ⟨(some 31), .load none (.tmp 30)⟩, ⟨(some 32), .len 1 (.tmp 31)⟩, ⟨(some 33), .bin .eql (.tmp 32) (.c (.int .i64 0))⟩] (.tmp 33)⟩,
 ⟨(some 39), .sc 35 true (.tmp 34) [⟨(some 36), .fadr 12 (.tmp 1)⟩, ⟨(some 37), .load none (.tmp 36)⟩, ⟨(some 38), .un .not (.tmp 37)⟩] (.tmp 38)⟩,
 ⟨(some 44), .sc 40 true (.tmp 39) [⟨(some 41), .fadr 13 (.tmp 1)⟩, ⟨(some 42), .load none (.tmp 41)⟩, ⟨(some 43), .un .not (.tmp 42)⟩] (.tmp 43)⟩,
 ⟨(some 2), .mov (.tmp 44)⟩])
 .ret)
 (.seq
 (.reg [⟨(some 46), .fadr 8 (.tmp 1)⟩,
 ⟨(some 47), .load none (.tmp 46)⟩,
 ⟨(some 45), .mov (.tmp 47)⟩])
 (.cond (.tmp 45)
 (.seq
 (.reg [⟨(some 48), .fadr 13 (.tmp 1)⟩,
 ⟨(some 49), .load none (.tmp 48)⟩,
 ⟨(some 50), .un .not (.tmp 49)⟩,
 ⟨(some 71), .sc 51 true (.tmp 50) [⟨(some 52), .fadr 10 (.tmp 1)⟩, ⟨(some 53), .load none (.tmp 52)⟩, ⟨(some 59), .sc 54 true (.tmp 53) [⟨(some 55), .fadr 11 (.tmp 1)⟩, ⟨(some 56), .load none (.tmp 55)⟩, ⟨(some 57), .len 1 (.tmp 56)⟩, ⟨(some 58), .bin .eql (.tmp 57) (.c (.int .i64 0))⟩] (.tmp 58)⟩, ⟨(some 70), .sc 60 false (.tmp 59) [⟨(some 61), .fadr 10 (.tmp 1)⟩, ⟨(some 62), .load none (.tmp 61)⟩, ⟨(some 63), .un .not (.tmp 62)⟩, ⟨(some 69), .sc 64 true (.tmp 63) [⟨(some 65), .fadr 1 (.tmp 1)⟩, ⟨(some 66), .fadr 0 (.tmp 65)⟩, ⟨(some 67), .load none (.tmp 66)⟩, ⟨(some 68), .bin .eql (.tmp 67) (.c (.int .i64 5))⟩] (.tmp 68)⟩] (.tmp 69)⟩] (.tmp 70)⟩,
 ⟨(some 2), .mov (.tmp 71)⟩])
 .ret)
 .skip)))))
 (.seq
 (.reg [⟨(some 72), .fadr 12 (.tmp 1)⟩,
 ⟨(some 73), .load none (.tmp 72)⟩,
 ⟨(some 77), .sc 74 true (.tmp 73) [⟨(some 75), .fadr 13 (.tmp 1)⟩, ⟨(some 76), .load none (.tmp 75)⟩] (.tmp 76)⟩,
 ⟨(some 82), .sc 78 true (.tmp 77) [⟨(some 79), .fadr 10 (.tmp 1)⟩, ⟨(some 80), .load none (.tmp 79)⟩, ⟨(some 81), .un .not (.tmp 80)⟩] (.tmp 81)⟩,
 ⟨(some 88), .sc 83 true (.tmp 82) [⟨(some 84), .fadr 11 (.tmp 1)⟩, ⟨(some 85), .load none (.tmp 84)⟩, ⟨(some 86), .len 1 (.tmp 85)⟩, ⟨(some 87), .bin .eql (.tmp 86) (.c (.int .i64 0))⟩] (.tmp 87)⟩,
 ⟨(some 94), .sc 89 true (.tmp 88) [⟨(some 90), .fadr 7 (.tmp 1)⟩, ⟨(some 91), .load none (.tmp 90)⟩, ⟨(some 92), .len 1 (.tmp 91)⟩, ⟨(some 93), .bin .eql (.tmp 92) (.c (.int .i64 0))⟩] (.tmp 93)⟩,
 ⟨(some 97), .sc 95 true (.tmp 94) [⟨(some 96), .mov (.tmp 3)⟩] (.tmp 96)⟩,
 ⟨(some 2), .mov (.tmp 97)⟩])
 .ret))))
def af94 : AFunc := ⟨98, [.tmp 2], af94b, false⟩

/-- slices.ContainsFunc[[]string,string] -/
def af95b : ACode :=
 (.seq
 (.reg [⟨(some 4), .mov (.c (.bool false))⟩])
 (.seq
 (.reg [⟨(some 5), .mov (.tmp 0)⟩,
 ⟨(some 6), .mov (.tmp 1)⟩,
 ⟨(some 7), .call false false (.c (.fn (.func 171) [] [])) [(.tmp 5), (.tmp 6)]⟩,
 ⟨(some 8), .bin .geq (.tmp 7) (.c (.int .i64 0))⟩,
 ⟨(some 4), .mov (.tmp 8)⟩])
 .ret))
def af95 : AFunc := ⟨9, [.tmp 4], af95b, false⟩

/-- cascade/chunk.Right$1 -/
def af96b : ACode :=
 (.seq
 (.reg [⟨(some 2), .mov (.c (.bool false))⟩])
 (.seq
 (.reg [⟨(some 3), .mov (.tmp 0)⟩,
 ⟨(some 4), .call false false (.c (.fn (.func 97) [] [])) [(.tmp 3)]⟩,
 ⟨(some 5), .un .not (.tmp 4)⟩,
 ⟨(some 2), .mov (.tmp 5)⟩])
 .ret))
def af96 : AFunc := ⟨6, [.tmp 2], af96b, false⟩

/-- cascade/text.Right -/
def af97b : ACode :=
 (.seq
 (.reg [⟨(some 2), .mov (.c (.bool false))⟩])
 (.seq
 (.reg [⟨(some 3), .mov (.tmp 0)⟩,
 ⟨(some 4), .call false false (.c (.fn (.func 172) [] [])) [(.tmp 3)]⟩,
 ⟨(some 5), .bin .lss (.tmp 4) (.c (.int .i64 0))⟩,
 ⟨(some 2), .mov (.tmp 5)⟩])
 .ret))
def af97 : AFunc := ⟨6, [.tmp 2], af97b, false⟩

/-- cascade/chunk.read -/
def af98l0 : ACode :=
 (.seq
 (.reg [⟨(some 101), .bin .lss (.tmp 100) (.tmp 99)⟩])
 (.seq
 (.cond (.tmp 101)
 .skip
 (.exit 0))
 (.seq
 (.blk 1
 (.seq
 (.reg [⟨(some 102), .iadr 5 (.tmp 98) (.tmp 100)⟩,
 ⟨(some 103), .load (some 5) (.tmp 102)⟩,
 ⟨(some 17), .new 46 [(.int .i64 0), (.int .i64 0), (.str []), (.sl .nil []), (.sl .nil [])]⟩,
 ⟨none, .store 5 (.tmp 17) (.tmp 103)⟩])
 (.reg [⟨(some 104), .fadr 11 (.tmp 3)⟩,
 ⟨(some 105), .load none (.tmp 104)⟩,
 ⟨(some 106), .fadr 2 (.tmp 17)⟩,
 ⟨(some 107), .load none (.tmp 106)⟩,
 ⟨(some 108), .bsl 1 (.str []) 1 [(0, (.tmp 107))]⟩,
 ⟨(some 109), .app false 1 (16, 9) (.tmp 105) (.tmp 108)⟩,
 ⟨(some 110), .fadr 11 (.tmp 3)⟩,
 ⟨none, .store 1 (.tmp 110) (.tmp 109)⟩])))
 (.reg [⟨(some 111), .bin .add (.tmp 100) (.c (.int .i64 1))⟩,
 ⟨(some 100), .mov (.tmp 111)⟩]))))
def af98b : ACode :=
 (.seq
 (.reg [⟨(some 1), .box 46 (.tmp 0)⟩,
 ⟨(some 2), .new 51 [(.bool false), (.int .i64 0), (.int .i64 0), (.str []), (.sl .nil []), (.sl .nil []), (.sl .nil []), (.sl .nil []), (.bool false), (.int .i64 0), (.bool false), (.sl .nil []), (.bool false), (.bool false), (.bool false)]⟩])
 (.seq
 (.regD [] [⟨(some 18), .load (some 5) (.tmp 1)⟩,
 ⟨(some 19), .call false true (.c (.fn (.func 174) [] [])) [(.tmp 18), (.c (.str [112, 101, 110, 100, 105, 110, 103]))]⟩,
 ⟨(some 20), .call false true (.c (.fn (.func 173) [] [])) [(.tmp 19)]⟩,
 ⟨(some 21), .load (some 5) (.tmp 1)⟩,
 ⟨(some 22), .call false true (.c (.fn (.func 174) [] [])) [(.tmp 21), (.c (.str [104, 97, 115, 78, 101, 120, 116]))]⟩,
 ⟨(some 23), .fld 1 none (.tmp 22)⟩,
 ⟨(some 24), .bin .eql (.tmp 23) (.c (.int .i64 1))⟩,
 ⟨(some 25), .build [(.bool false), (.int .i64 0), (.int .i64 0), (.str []), (.sl .nil []), (.sl .nil []), (.sl .nil []), (.sl .nil []), (.bool false), (.int .i64 0), (.bool false), (.sl .nil []), (.bool false), (.bool false), (.bool false)] [(7, 1, (.tmp 20)), (14, 1, (.tmp 24))]⟩,
 ⟨(some 3), .new 51 [(.bool false), (.int .i64 0), (.int .i64 0), (.str []), (.sl .nil []), (.sl .nil []), (.sl .nil []), (.sl .nil []), (.bool false), (.int .i64 0), (.bool false), (.sl .nil []), (.bool false), (.bool false), (.bool false)]⟩,
 ⟨none, .store 15 (.tmp 3) (.tmp 25)⟩])
 (.seq
 (.reg [⟨(some 27), .load (some 5) (.tmp 1)⟩,
 ⟨(some 28), .call false false (.c (.fn (.func 175) [] [])) [(.tmp 27), (.c (.str [100, 97, 116, 97]))]⟩,
 ⟨(some 26), .mov (.tmp 28)⟩,
 ⟨(some 29), .ext (.tmp 26) 0⟩,
 ⟨(some 30), .ext (.tmp 26) 1⟩,
 ⟨(some 4), .new 46 [(.int .i64 0), (.int .i64 0), (.str []), (.sl .nil []), (.sl .nil [])]⟩,
 ⟨none, .store 5 (.tmp 4) (.tmp 29)⟩,
 ⟨(some 5), .mov (.tmp 30)⟩])
 (.seq
 (.seq
 (.reg [⟨(some 31), .mov (.tmp 5)⟩])
 (.cond (.tmp 31)
 (.seq
 (.regD [(4, 36)] [⟨(some 32), .load (some 5) (.tmp 4)⟩,
 ⟨(some 33), .load (some 5) (.tmp 1)⟩,
 ⟨(some 34), .call false true (.c (.fn (.func 174) [] [])) [(.tmp 33), (.c (.str [101, 114, 114, 111, 114, 115]))]⟩,
 ⟨(some 35), .call false true (.c (.fn (.func 176) [] [])) [(.tmp 34)]⟩,
 ⟨(some 36), .fadr 0 (.tmp 3)⟩,
 ⟨none, .store 1 (.tmp 36) (.c (.bool true))⟩,
 ⟨(some 37), .fadr 1 (.tmp 3)⟩,
 ⟨none, .store 5 (.tmp 37) (.tmp 32)⟩,
 ⟨(some 38), .fadr 6 (.tmp 3)⟩,
 ⟨none, .store 1 (.tmp 38) (.tmp 35)⟩])
 (.seq
 (.reg [⟨(some 39), .load (some 15) (.tmp 3)⟩,
 ⟨none, .store 15 (.tmp 2) (.tmp 39)⟩])
 .ret))
 .skip))
 (.seq
 (.reg [⟨(some 41), .load (some 5) (.tmp 1)⟩,
 ⟨(some 42), .call false false (.c (.fn (.func 175) [] [])) [(.tmp 41), (.c (.str [105, 110, 99, 114, 101, 109, 101, 110, 116, 97, 108]))]⟩,
 ⟨(some 40), .mov (.tmp 42)⟩,
 ⟨(some 43), .ext (.tmp 40) 0⟩,
 ⟨(some 44), .ext (.tmp 40) 1⟩,
 ⟨(some 6), .new 46 [(.int .i64 0), (.int .i64 0), (.str []), (.sl .nil []), (.sl .nil [])]⟩,
 ⟨none, .store 5 (.tmp 6) (.tmp 43)⟩,
 ⟨(some 7), .mov (.tmp 44)⟩])
 (.seq
 (.reg [⟨(some 46), .load (some 5) (.tmp 1)⟩,
 ⟨(some 47), .call false false (.c (.fn (.func 175) [] [])) [(.tmp 46), (.c (.str [99, 111, 109, 112, 108, 101, 116, 101, 100]))]⟩,
 ⟨(some 45), .mov (.tmp 47)⟩,
 ⟨(some 48), .ext (.tmp 45) 0⟩,
 ⟨(some 49), .ext (.tmp 45) 1⟩,
 ⟨(some 8), .new 46 [(.int .i64 0), (.int .i64 0), (.str []), (.sl .nil []), (.sl .nil [])]⟩,
 ⟨none, .store 5 (.tmp 8) (.tmp 48)⟩,
 ⟨(some 9), .mov (.tmp 49)⟩])
 (.seq
 (.reg [⟨(some 50), .mov (.tmp 7)⟩,
 ⟨(some 51), .mov (.tmp 9)⟩,
 ⟨(some 52), .fadr 8 (.tmp 3)⟩,
 ⟨none, .store 1 (.tmp 52) (.tmp 50)⟩,
 ⟨(some 53), .fadr 12 (.tmp 3)⟩,
 ⟨none, .store 1 (.tmp 53) (.tmp 51)⟩])
 (.seq
 (.seq
 (.reg [⟨(some 54), .mov (.tmp 9)⟩])
 (.cond (.tmp 54)
 (.seq
 (.reg [⟨(some 55), .load (some 5) (.tmp 8)⟩,
 ⟨(some 56), .call false false (.c (.fn (.func 177) [] [])) [(.tmp 55)]⟩,
 ⟨(some 10), .new 46 [(.int .i64 0), (.int .i64 0), (.str []), (.sl .nil []), (.sl .nil [])]⟩,
 ⟨none, .store 5 (.tmp 10) (.tmp 56)⟩])
 (.seq
 (.reg [⟨(some 58), .load (some 5) (.tmp 10)⟩,
 ⟨(some 59), .call false false (.c (.fn (.func 175) [] [])) [(.tmp 58), (.c (.str [101, 114, 114, 111, 114, 115]))]⟩,
 ⟨(some 57), .mov (.tmp 59)⟩,
 ⟨(some 60), .ext (.tmp 57) 0⟩,
 ⟨(some 61), .ext (.tmp 57) 1⟩,
 ⟨(some 11), .new 46 [(.int .i64 0), (.int .i64 0), (.str []), (.sl .nil []), (.sl .nil [])]⟩,
 ⟨none, .store 5 (.tmp 11) (.tmp 60)⟩,
 ⟨(some 12), .mov (.tmp 61)⟩])
 (.regD [] [⟨(some 62), .load (some 5) (.tmp 10)⟩,
 ⟨(some 63), .call false true (.c (.fn (.func 174) [] [])) [(.tmp 62), (.c (.str [105, 100]))]⟩,
 ⟨(some 64), .call false true (.c (.fn (.func 178) [] [])) [(.tmp 63)]⟩,
 ⟨(some 65), .mov (.tmp 12)⟩,
 ⟨(some 66), .load (some 5) (.tmp 11)⟩,
 ⟨(some 67), .call false false (.c (.fn (.func 176) [] [])) [(.tmp 66)]⟩,
 ⟨(some 68), .fadr 9 (.tmp 3)⟩,
 ⟨none, .store 1 (.tmp 68) (.tmp 64)⟩,
 ⟨(some 69), .fadr 13 (.tmp 3)⟩,
 ⟨none, .store 1 (.tmp 69) (.tmp 65)⟩,
 ⟨(some 70), .fadr 6 (.tmp 3)⟩,
 ⟨none, .store 1 (.tmp 70) (.tmp 67)⟩])))
 .skip))
 (.seq
 (.seq
 (.reg [⟨(some 71), .mov (.tmp 7)⟩])
 (.cond (.tmp 71)
 (.seq
 (.reg [⟨(some 72), .load (some 5) (.tmp 6)⟩,
 ⟨(some 73), .call false false (.c (.fn (.func 177) [] [])) [(.tmp 72)]⟩,
 ⟨(some 13), .new 46 [(.int .i64 0), (.int .i64 0), (.str []), (.sl .nil []), (.sl .nil [])]⟩,
 ⟨none, .store 5 (.tmp 13) (.tmp 73)⟩])
 (.seq
 (.reg [⟨(some 75), .load (some 5) (.tmp 13)⟩,
 ⟨(some 76), .call false false (.c (.fn (.func 175) [] [])) [(.tmp 75), (.c (.str [105, 116, 101, 109, 115]))]⟩,
 ⟨(some 74), .mov (.tmp 76)⟩,
 ⟨(some 77), .ext (.tmp 74) 0⟩,
 ⟨(some 78), .ext (.tmp 74) 1⟩,
 ⟨(some 14), .new 46 [(.int .i64 0), (.int .i64 0), (.str []), (.sl .nil []), (.sl .nil [])]⟩,
 ⟨none, .store 5 (.tmp 14) (.tmp 77)⟩,
 ⟨(some 15), .mov (.tmp 78)⟩])
 (.seq
 (.regD [] [⟨(some 79), .load (some 5) (.tmp 13)⟩,
 ⟨(some 80), .call false true (.c (.fn (.func 174) [] [])) [(.tmp 79), (.c (.str [105, 100]))]⟩,
 ⟨(some 81), .call false true (.c (.fn (.func 178) [] [])) [(.tmp 80)]⟩,
 ⟨(some 82), .mov (.tmp 15)⟩,
 ⟨(some 83), .load (some 5) (.tmp 13)⟩,
 ⟨(some 84), .call false true (.c (.fn (.func 174) [] [])) [(.tmp 83), (.c (.str [100, 97, 116, 97]))]⟩,
 ⟨(some 85), .load (some 5) (.tmp 13)⟩,
 ⟨(some 86), .call false false (.c (.fn (.func 174) [] [])) [(.tmp 85), (.c (.str [101, 114, 114, 111, 114, 115]))]⟩,
 ⟨(some 87), .call false false (.c (.fn (.func 176) [] [])) [(.tmp 86)]⟩,
 ⟨(some 88), .fadr 9 (.tmp 3)⟩,
 ⟨none, .store 1 (.tmp 88) (.tmp 81)⟩,
 ⟨(some 89), .fadr 10 (.tmp 3)⟩,
 ⟨none, .store 1 (.tmp 89) (.tmp 82)⟩,
 ⟨(some 90), .fadr 1 (.tmp 3)⟩,
 ⟨none, .store 5 (.tmp 90) (.tmp 84)⟩,
 ⟨(some 91), .fadr 6 (.tmp 3)⟩,
 ⟨none, .store 1 (.tmp 91) (.tmp 87)⟩])
 (.seq
 (.seq
 (.reg [⟨(some 92), .mov (.tmp 15)⟩])
 (.cond (.tmp 92)
 (.reg [⟨(some 93), .load (some 5) (.tmp 14)⟩,
 ⟨(some 94), .call false false (.c (.fn (.func 177) [] [])) [(.tmp 93)]⟩,
 ⟨(some 95), .fadr 1 (.tmp 3)⟩,
 ⟨none, .store 5 (.tmp 95) (.tmp 94)⟩])
 .skip))
 (.seq
 (.reg [⟨(some 96), .load (some 5) (.tmp 13)⟩,
 ⟨(some 97), .call false false (.c (.fn (.func 174) [] [])) [(.tmp 96), (.c (.str [111, 114, 100, 101, 114]))]⟩,
 ⟨(some 98), .fld 3 none (.tmp 97)⟩,
 ⟨(some 99), .len 1 (.tmp 98)⟩,
 ⟨(some 100), .mov (.c (.int .i64 0))⟩])
 (.blk 0
 (.loop false af98l0)))))))
 .skip))
 (.seq
 (.reg [⟨(some 112), .load (some 15) (.tmp 3)⟩,
 ⟨none, .store 15 (.tmp 2) (.tmp 112)⟩])
 .ret))))))))))
def af98 : AFunc := ⟨113, [.cell 2 (some 15)], af98b, false⟩

/-- cascade/tree.Same -/
def af99b : ACode :=
 (.seq
 (.reg [⟨(some 2), .box 46 (.tmp 0)⟩,
 ⟨(some 3), .box 46 (.tmp 1)⟩,
 ⟨(some 4), .mov (.c (.bool false))⟩])
 (.seq
 (.reg [⟨(some 5), .load (some 5) (.tmp 2)⟩,
 ⟨(some 6), .call false false (.c (.fn (.func 92) [] [])) [(.tmp 5)]⟩,
 ⟨(some 10), .sc 7 true (.tmp 6) [⟨(some 8), .load (some 5) (.tmp 3)⟩, ⟨(some 9), .call false false (.c (.fn (.func 92) [] [])) [(.tmp 8)]⟩] (.tmp 9)⟩,
 ⟨(some 15), .sc 11 true (.tmp 10) [⟨(some 12), .load (some 5) (.tmp 2)⟩, ⟨(some 13), .load (some 5) (.tmp 3)⟩, ⟨(some 14), .call false false (.c (.fn (.func 179) [] [])) [(.tmp 12), (.tmp 13)]⟩] (.tmp 14)⟩,
 ⟨(some 4), .mov (.tmp 15)⟩])
 .ret))
def af99 : AFunc := ⟨16, [.tmp 4], af99b, false⟩

/-- cascade/cascaderef27.add -/
def af100b : ACode :=
 (.seq
 (.reg [⟨(some 3), .box 46 (.tmp 0)⟩,
 ⟨(some 5), .box 46 (.tmp 2)⟩,
 ⟨(some 6), .new 46 [(.int .i64 0), (.int .i64 0), (.str []), (.sl .nil []), (.sl .nil [])]⟩])
 (.seq
 (.regD [] [⟨(some 7), .bsl 6 (.agg [(.str []), (.int .i64 0), (.int .i64 0), (.str []), (.sl .nil []), (.sl .nil [])]) 0 []⟩,
 ⟨(some 8), .fadr 4 (.tmp 3)⟩,
 ⟨(some 9), .load none (.tmp 8)⟩,
 ⟨(some 10), .app false 6 (96, 63) (.tmp 7) (.tmp 9)⟩,
 ⟨(some 11), .mov (.tmp 1)⟩,
 ⟨(some 12), .load (some 5) (.tmp 5)⟩,
 ⟨(some 13), .build [(.str []), (.int .i64 0), (.int .i64 0), (.str []), (.sl .nil []), (.sl .nil [])] [(0, 1, (.tmp 11)), (1, 5, (.tmp 12))]⟩,
 ⟨(some 14), .bsl 6 (.agg [(.str []), (.int .i64 0), (.int .i64 0), (.str []), (.sl .nil []), (.sl .nil [])]) 1 [(0, (.tmp 13))]⟩,
 ⟨(some 15), .app false 6 (96, 63) (.tmp 10) (.tmp 14)⟩,
 ⟨(some 16), .build [(.int .i64 0), (.int .i64 0), (.str []), (.sl .nil []), (.sl .nil [])] [(0, 1, (.c (.int .i64 5))), (4, 1, (.tmp 15))]⟩,
 ⟨none, .store 5 (.tmp 6) (.tmp 16)⟩])
 .ret))
def af100 : AFunc := ⟨17, [.cell 6 (some 5)], af100b, false⟩

/-- cascade/cascaderef27.errs -/
def af101l0 : ACode :=
 (.seq
 (.seq
 (.reg [⟨(some 7), .mov (.tmp 4)⟩,
 ⟨(some 8), .mov (.tmp 0)⟩,
 ⟨(some 9), .len 1 (.tmp 8)⟩,
 ⟨(some 10), .bin .lss (.tmp 7) (.tmp 9)⟩])
 (.cond (.tmp 10)
 .skip
 (.exit 0)))
 (.seq
 (.blk 1
 (.seq
 (.reg [⟨(some 13), .build [(.int .i64 0), (.int .i64 0), (.str []), (.sl .nil []), (.sl .nil [])] []⟩,
 ⟨(some 14), .mov (.tmp 0)⟩,
 ⟨(some 15), .mov (.tmp 4)⟩,
 ⟨(some 16), .iadr 2 (.tmp 14) (.tmp 15)⟩,
 ⟨(some 17), .fadr 1 (.tmp 16)⟩,
 ⟨(some 18), .load none (.tmp 17)⟩,
 ⟨(some 19), .build [(.int .i64 0), (.int .i64 0), (.str []), (.sl .nil []), (.sl .nil [])] [(0, 1, (.c (.int .i64 2))), (1, 1, (.tmp 18))]⟩,
 ⟨(some 20), .call false false (.c (.fn (.func 100) [] [])) [(.tmp 13), (.c (.str [99, 111, 100, 101])), (.tmp 19)]⟩,
 ⟨(some 5), .new 46 [(.int .i64 0), (.int .i64 0), (.str []), (.sl .nil []), (.sl .nil [])]⟩,
 ⟨none, .store 5 (.tmp 5) (.tmp 20)⟩])
 (.regD [] [⟨(some 21), .fadr 3 (.tmp 3)⟩,
 ⟨(some 22), .load none (.tmp 21)⟩,
 ⟨(some 23), .load (some 5) (.tmp 5)⟩,
 ⟨(some 24), .mov (.tmp 0)⟩,
 ⟨(some 25), .mov (.tmp 4)⟩,
 ⟨(some 26), .iadr 2 (.tmp 24) (.tmp 25)⟩,
 ⟨(some 27), .fadr 0 (.tmp 26)⟩,
 ⟨(some 28), .load none (.tmp 27)⟩,
 ⟨(some 29), .call false true (.c (.fn (.func 103) [] [])) [(.tmp 28)]⟩,
 ⟨(some 30), .call false true (.c (.fn (.func 100) [] [])) [(.tmp 23), (.c (.str [112, 97, 116, 104])), (.tmp 29)]⟩,
 ⟨(some 31), .bsl 5 (.agg [(.int .i64 0), (.int .i64 0), (.str []), (.sl .nil []), (.sl .nil [])]) 1 [(0, (.tmp 30))]⟩,
 ⟨(some 32), .app false 5 (80, 46) (.tmp 22) (.tmp 31)⟩,
 ⟨(some 33), .fadr 3 (.tmp 3)⟩,
 ⟨none, .store 1 (.tmp 33) (.tmp 32)⟩])))
 (.reg [⟨(some 11), .mov (.tmp 4)⟩,
 ⟨(some 12), .bin .add (.tmp 11) (.c (.int .i64 1))⟩,
 ⟨(some 4), .mov (.tmp 12)⟩])))
def af101b : ACode :=
 (.seq
 (.reg [⟨(some 2), .new 46 [(.int .i64 0), (.int .i64 0), (.str []), (.sl .nil []), (.sl .nil [])]⟩])
 (.seq
 (.reg [⟨(some 6), .build [(.int .i64 0), (.int .i64 0), (.str []), (.sl .nil []), (.sl .nil [])] [(0, 1, (.c (.int .i64 4)))]⟩,
 ⟨(some 3), .new 46 [(.int .i64 0), (.int .i64 0), (.str []), (.sl .nil []), (.sl .nil [])]⟩,
 ⟨none, .store 5 (.tmp 3) (.tmp 6)⟩])
 (.seq
 (.seq
 (.reg [⟨(some 4), .mov (.c (.int .i64 0))⟩])
 (.blk 0
 (.loop false af101l0)))
 (.seq
 (.reg [⟨(some 34), .load (some 5) (.tmp 3)⟩,
 ⟨none, .store 5 (.tmp 2) (.tmp 34)⟩])
 .ret))))
def af101 : AFunc := ⟨35, [.cell 2 (some 5)], af101b, false⟩

/-- cascade/cascaderef27.Id -/
def af102b : ACode :=
 (.seq
 (.reg [⟨(some 2), .new 46 [(.int .i64 0), (.int .i64 0), (.str []), (.sl .nil []), (.sl .nil [])]⟩])
 (.seq
 (.reg [⟨(some 3), .mov (.tmp 0)⟩,
 ⟨(some 4), .call false false (.c (.fn (.func 109) [] [])) [(.tmp 3)]⟩,
 ⟨(some 5), .build [(.int .i64 0), (.int .i64 0), (.str []), (.sl .nil []), (.sl .nil [])] [(0, 1, (.c (.int .i64 3))), (2, 1, (.tmp 4))]⟩,
 ⟨none, .store 5 (.tmp 2) (.tmp 5)⟩])
 .ret))
def af102 : AFunc := ⟨6, [.cell 2 (some 5)], af102b, false⟩

/-- cascade/cascaderef06.Value -/
def af103l0 : ACode :=
 (.seq
 (.seq
 (.reg [⟨(some 7), .mov (.tmp 4)⟩,
 ⟨(some 8), .mov (.tmp 0)⟩,
 ⟨(some 9), .len 1 (.tmp 8)⟩,
 ⟨(some 10), .bin .lss (.tmp 7) (.tmp 9)⟩])
 (.cond (.tmp 10)
 .skip
 (.exit 0)))
 (.seq
 (.blk 1
 (.seq
 (.reg [⟨(some 13), .mov (.tmp 0)⟩,
 ⟨(some 14), .mov (.tmp 4)⟩,
 ⟨(some 15), .iadr 3 (.tmp 13) (.tmp 14)⟩,
 ⟨(some 16), .fadr 0 (.tmp 15)⟩,
 ⟨(some 17), .load none (.tmp 16)⟩,
 ⟨(some 18), .build [(.int .i64 0), (.int .i64 0), (.str []), (.sl .nil []), (.sl .nil [])] [(0, 1, (.c (.int .i64 3))), (2, 1, (.tmp 17))]⟩,
 ⟨(some 5), .new 46 [(.int .i64 0), (.int .i64 0), (.str []), (.sl .nil []), (.sl .nil [])]⟩,
 ⟨none, .store 5 (.tmp 5) (.tmp 18)⟩])
 (.seq
 (.seq
 (.reg [⟨(some 19), .mov (.tmp 0)⟩,
 ⟨(some 20), .mov (.tmp 4)⟩,
 ⟨(some 21), .iadr 3 (.tmp 19) (.tmp 20)⟩,
 ⟨(some 22), .fadr 2 (.tmp 21)⟩,
 ⟨(some 23), .load none (.tmp 22)⟩])
 (.cond (.tmp 23)
 (.reg [⟨(some 24), .mov (.tmp 0)⟩,
 ⟨(some 25), .mov (.tmp 4)⟩,
 ⟨(some 26), .iadr 3 (.tmp 24) (.tmp 25)⟩,
 ⟨(some 27), .fadr 1 (.tmp 26)⟩,
 ⟨(some 28), .load none (.tmp 27)⟩,
 ⟨(some 29), .build [(.int .i64 0), (.int .i64 0), (.str []), (.sl .nil []), (.sl .nil [])] [(0, 1, (.c (.int .i64 2))), (1, 1, (.tmp 28))]⟩,
 ⟨none, .store 5 (.tmp 5) (.tmp 29)⟩])
 .skip))
 (.reg [⟨(some 30), .fadr 3 (.tmp 3)⟩,
 ⟨(some 31), .load none (.tmp 30)⟩,
 ⟨(some 32), .load (some 5) (.tmp 5)⟩,
 ⟨(some 33), .bsl 5 (.agg [(.int .i64 0), (.int .i64 0), (.str []), (.sl .nil []), (.sl .nil [])]) 1 [(0, (.tmp 32))]⟩,
 ⟨(some 34), .app false 5 (80, 46) (.tmp 31) (.tmp 33)⟩,
 ⟨(some 35), .fadr 3 (.tmp 3)⟩,
 ⟨none, .store 1 (.tmp 35) (.tmp 34)⟩]))))
 (.reg [⟨(some 11), .mov (.tmp 4)⟩,
 ⟨(some 12), .bin .add (.tmp 11) (.c (.int .i64 1))⟩,
 ⟨(some 4), .mov (.tmp 12)⟩])))
def af103b : ACode :=
 (.seq
 (.reg [⟨(some 2), .new 46 [(.int .i64 0), (.int .i64 0), (.str []), (.sl .nil []), (.sl .nil [])]⟩])
 (.seq
 (.reg [⟨(some 6), .build [(.int .i64 0), (.int .i64 0), (.str []), (.sl .nil []), (.sl .nil [])] [(0, 1, (.c (.int .i64 4)))]⟩,
 ⟨(some 3), .new 46 [(.int .i64 0), (.int .i64 0), (.str []), (.sl .nil []), (.sl .nil [])]⟩,
 ⟨none, .store 5 (.tmp 3) (.tmp 6)⟩])
 (.seq
 (.seq
 (.reg [⟨(some 4), .mov (.c (.int .i64 0))⟩])
 (.blk 0
 (.loop false af103l0)))
 (.seq
 (.reg [⟨(some 36), .load (some 5) (.tmp 3)⟩,
 ⟨none, .store 5 (.tmp 2) (.tmp 36)⟩])
 .ret))))
def af103 : AFunc := ⟨37, [.cell 2 (some 5)], af103b, false⟩

/-- cascade/cascaderef23.SameErrs -/
def af104l0 : ACode :=
 (.seq
 (.seq
 (.reg [⟨(some 11), .mov (.tmp 5)⟩,
 ⟨(some 12), .mov (.tmp 0)⟩,
 ⟨(some 13), .len 1 (.tmp 12)⟩,
 ⟨(some 14), .bin .lss (.tmp 11) (.tmp 13)⟩])
 (.cond (.tmp 14)
 .skip
 (.exit 0)))
 (.seq
 (.blk 1
 (.seq
 (.regD [] [⟨(some 17), .mov (.tmp 0)⟩,
 ⟨(some 18), .mov (.tmp 5)⟩,
 ⟨(some 19), .iadr 2 (.tmp 17) (.tmp 18)⟩,
 ⟨(some 20), .fadr 1 (.tmp 19)⟩,
 ⟨(some 21), .load none (.tmp 20)⟩,
 ⟨(some 22), .mov (.tmp 1)⟩,
 ⟨(some 23), .mov (.tmp 5)⟩,
 ⟨(some 24), .iadr 2 (.tmp 22) (.tmp 23)⟩,
 ⟨(some 25), .fadr 1 (.tmp 24)⟩,
 ⟨(some 26), .load none (.tmp 25)⟩,
 ⟨(some 27), .bin .neq (.tmp 21) (.tmp 26)⟩,
 ⟨(some 41), .sc 28 false (.tmp 27) [⟨(some 29), .mov (.tmp 0)⟩, ⟨(some 30), .mov (.tmp 5)⟩, ⟨(some 31), .iadr 2 (.tmp 29) (.tmp 30)⟩, ⟨(some 32), .fadr 0 (.tmp 31)⟩, ⟨(some 33), .load none (.tmp 32)⟩, ⟨(some 34), .mov (.tmp 1)⟩, ⟨(some 35), .mov (.tmp 5)⟩, ⟨(some 36), .iadr 2 (.tmp 34) (.tmp 35)⟩, ⟨(some 37), .fadr 0 (.tmp 36)⟩, ⟨(some 38), .load none (.tmp 37)⟩, ⟨(some 39), .call false false (.c (.fn (.func 106) [] [])) [(.tmp 33), (.tmp 38)]⟩, ⟨(some 40), .un .not (.tmp 39)⟩] (.tmp 40)⟩])
 (.cond (.tmp 41)
 (.seq
 (.reg [⟨(some 4), .mov (.c (.bool false))⟩])
 .ret)
 .skip)))
 (.reg [⟨(some 15), .mov (.tmp 5)⟩,
 ⟨(some 16), .bin .add (.tmp 15) (.c (.int .i64 1))⟩,
 ⟨(some 5), .mov (.tmp 16)⟩])))
def af104b : ACode :=
 (.seq
 (.reg [⟨(some 4), .mov (.c (.bool false))⟩])
 (.seq
 (.seq
 (.reg [⟨(some 6), .mov (.tmp 0)⟩,
 ⟨(some 7), .len 1 (.tmp 6)⟩,
 ⟨(some 8), .mov (.tmp 1)⟩,
 ⟨(some 9), .len 1 (.tmp 8)⟩,
 ⟨(some 10), .bin .neq (.tmp 7) (.tmp 9)⟩])
 (.cond (.tmp 10)
 (.seq
 (.reg [⟨(some 4), .mov (.c (.bool false))⟩])
 .ret)
 .skip))
 (.seq
 (.seq
 (.reg [⟨(some 5), .mov (.c (.int .i64 0))⟩])
 (.blk 0
 (.loop false af104l0)))
 (.seq
 (.reg [⟨(some 4), .mov (.c (.bool true))⟩])
 .ret))))
def af104 : AFunc := ⟨42, [.tmp 4], af104b, false⟩

/-- cascade/cascaderef12.SameNames -/
def af105l0 : ACode :=
 (.seq
 (.seq
 (.reg [⟨(some 11), .mov (.tmp 5)⟩,
 ⟨(some 12), .mov (.tmp 0)⟩,
 ⟨(some 13), .len 1 (.tmp 12)⟩,
 ⟨(some 14), .bin .lss (.tmp 11) (.tmp 13)⟩])
 (.cond (.tmp 14)
 .skip
 (.exit 0)))
 (.seq
 (.blk 1
 (.seq
 (.regD [] [⟨(some 17), .mov (.tmp 0)⟩,
 ⟨(some 18), .mov (.tmp 5)⟩,
 ⟨(some 19), .iadr 1 (.tmp 17) (.tmp 18)⟩,
 ⟨(some 20), .load none (.tmp 19)⟩,
 ⟨(some 21), .mov (.tmp 1)⟩,
 ⟨(some 22), .mov (.tmp 5)⟩,
 ⟨(some 23), .iadr 1 (.tmp 21) (.tmp 22)⟩,
 ⟨(some 24), .load none (.tmp 23)⟩,
 ⟨(some 25), .bin .neq (.tmp 20) (.tmp 24)⟩])
 (.cond (.tmp 25)
 (.seq
 (.reg [⟨(some 4), .mov (.c (.bool false))⟩])
 .ret)
 .skip)))
 (.reg [⟨(some 15), .mov (.tmp 5)⟩,
 ⟨(some 16), .bin .add (.tmp 15) (.c (.int .i64 1))⟩,
 ⟨(some 5), .mov (.tmp 16)⟩])))
def af105b : ACode :=
 (.seq
 (.reg [⟨(some 4), .mov (.c (.bool false))⟩])
 (.seq
 (.seq
 (.reg [⟨(some 6), .mov (.tmp 0)⟩,
 ⟨(some 7), .len 1 (.tmp 6)⟩,
 ⟨(some 8), .mov (.tmp 1)⟩,
 ⟨(some 9), .len 1 (.tmp 8)⟩,
 ⟨(some 10), .bin .neq (.tmp 7) (.tmp 9)⟩])
 (.cond (.tmp 10)
 (.seq
 (.reg [⟨(some 4), .mov (.c (.bool false))⟩])
 .ret)
 .skip))
 (.seq
 (.seq
 (.reg [⟨(some 5), .mov (.c (.int .i64 0))⟩])
 (.blk 0
 (.loop false af105l0)))
 (.seq
 (.reg [⟨(some 4), .mov (.c (.bool true))⟩])
 .ret))))
def af105 : AFunc := ⟨26, [.tmp 4], af105b, false⟩

/-- cascade/cascaderef23.SamePath -/
def af106l0 : ACode :=
 (.seq
 (.seq
 (.reg [⟨(some 11), .mov (.tmp 5)⟩,
 ⟨(some 12), .mov (.tmp 0)⟩,
 ⟨(some 13), .len 1 (.tmp 12)⟩,
 ⟨(some 14), .bin .lss (.tmp 11) (.tmp 13)⟩])
 (.cond (.tmp 14)
 .skip
 (.exit 0)))
 (.seq
 (.blk 1
 (.seq
 (.regD [] [⟨(some 17), .mov (.tmp 0)⟩,
 ⟨(some 18), .mov (.tmp 5)⟩,
 ⟨(some 19), .iadr 3 (.tmp 17) (.tmp 18)⟩,
 ⟨(some 20), .load (some 3) (.tmp 19)⟩,
 ⟨(some 21), .mov (.tmp 1)⟩,
 ⟨(some 22), .mov (.tmp 5)⟩,
 ⟨(some 23), .iadr 3 (.tmp 21) (.tmp 22)⟩,
 ⟨(some 24), .load (some 3) (.tmp 23)⟩,
 ⟨(some 25), .eqs true [2, 0, 1] (.tmp 20) (.tmp 24)⟩])
 (.cond (.tmp 25)
 (.seq
 (.reg [⟨(some 4), .mov (.c (.bool false))⟩])
 .ret)
 .skip)))
 (.reg [⟨(some 15), .mov (.tmp 5)⟩,
 ⟨(some 16), .bin .add (.tmp 15) (.c (.int .i64 1))⟩,
 ⟨(some 5), .mov (.tmp 16)⟩])))
def af106b : ACode :=
 (.seq
 (.reg [⟨(some 4), .mov (.c (.bool false))⟩])
 (.seq
 (.seq
 (.reg [⟨(some 6), .mov (.tmp 0)⟩,
 ⟨(some 7), .len 1 (.tmp 6)⟩,
 ⟨(some 8), .mov (.tmp 1)⟩,
 ⟨(some 9), .len 1 (.tmp 8)⟩,
 ⟨(some 10), .bin .neq (.tmp 7) (.tmp 9)⟩])
 (.cond (.tmp 10)
 (.seq
 (.reg [⟨(some 4), .mov (.c (.bool false))⟩])
 .ret)
 .skip))
 (.seq
 (.seq
 (.reg [⟨(some 5), .mov (.c (.int .i64 0))⟩])
 (.blk 0
 (.loop false af106l0)))
 (.seq
 (.reg [⟨(some 4), .mov (.c (.bool true))⟩])
 .ret))))
def af106 : AFunc := ⟨26, [.tmp 4], af106b, false⟩

/-- cascade/cascaderef03.few -/
def af107l0 : ACode :=
 (.seq
 (.seq
 (.reg [⟨(some 17), .mov (.tmp 5)⟩,
 ⟨(some 18), .fadr 3 (.tmp 2)⟩,
 ⟨(some 19), .load none (.tmp 18)⟩,
 ⟨(some 20), .len 1 (.tmp 19)⟩,
 ⟨(some 21), .bin .lss (.tmp 17) (.tmp 20)⟩,
 ⟨(some 25), .sc 22 true (.tmp 21) [⟨(some 23), .mov (.tmp 1)⟩, ⟨(some 24), .bin .geq (.tmp 23) (.c (.int .i64 0))⟩] (.tmp 24)⟩])
 (.cond (.tmp 25)
 .skip
 (.exit 0)))
 (.seq
 (.blk 1
 (.reg [⟨(some 28), .fadr 3 (.tmp 2)⟩,
 ⟨(some 29), .load none (.tmp 28)⟩,
 ⟨(some 30), .mov (.tmp 5)⟩,
 ⟨(some 31), .iadr 5 (.tmp 29) (.tmp 30)⟩,
 ⟨(some 32), .load (some 5) (.tmp 31)⟩,
 ⟨(some 33), .mov (.tmp 1)⟩,
 ⟨(some 34), .call false false (.c (.fn (.func 107) [] [])) [(.tmp 32), (.tmp 33)]⟩,
 ⟨(some 1), .mov (.tmp 34)⟩]))
 (.reg [⟨(some 26), .mov (.tmp 5)⟩,
 ⟨(some 27), .bin .add (.tmp 26) (.c (.int .i64 1))⟩,
 ⟨(some 5), .mov (.tmp 27)⟩])))
def af107l1 : ACode :=
 (.seq
 (.seq
 (.reg [⟨(some 35), .mov (.tmp 6)⟩,
 ⟨(some 36), .fadr 4 (.tmp 2)⟩,
 ⟨(some 37), .load none (.tmp 36)⟩,
 ⟨(some 38), .len 1 (.tmp 37)⟩,
 ⟨(some 39), .bin .lss (.tmp 35) (.tmp 38)⟩,
 ⟨(some 43), .sc 40 true (.tmp 39) [⟨(some 41), .mov (.tmp 1)⟩, ⟨(some 42), .bin .geq (.tmp 41) (.c (.int .i64 0))⟩] (.tmp 42)⟩])
 (.cond (.tmp 43)
 .skip
 (.exit 2)))
 (.seq
 (.blk 3
 (.seq
 (.seq
 (.reg [⟨(some 46), .fadr 4 (.tmp 2)⟩,
 ⟨(some 47), .load none (.tmp 46)⟩,
 ⟨(some 48), .mov (.tmp 6)⟩,
 ⟨(some 49), .iadr 6 (.tmp 47) (.tmp 48)⟩,
 ⟨(some 50), .fadr 0 (.tmp 49)⟩,
 ⟨(some 51), .load none (.tmp 50)⟩,
 ⟨(some 52), .len 0 (.tmp 51)⟩,
 ⟨(some 53), .bin .gtr (.tmp 52) (.c (.int .i64 500))⟩])
 (.cond (.tmp 53)
 (.seq
 (.reg [⟨(some 4), .mov (.c (.int .i64 (-1)))⟩])
 .ret)
 .skip))
 (.reg [⟨(some 54), .fadr 4 (.tmp 2)⟩,
 ⟨(some 55), .load none (.tmp 54)⟩,
 ⟨(some 56), .mov (.tmp 6)⟩,
 ⟨(some 57), .iadr 6 (.tmp 55) (.tmp 56)⟩,
 ⟨(some 58), .fadr 1 (.tmp 57)⟩,
 ⟨(some 59), .load (some 5) (.tmp 58)⟩,
 ⟨(some 60), .mov (.tmp 1)⟩,
 ⟨(some 61), .call false false (.c (.fn (.func 107) [] [])) [(.tmp 59), (.tmp 60)]⟩,
 ⟨(some 1), .mov (.tmp 61)⟩])))
 (.reg [⟨(some 44), .mov (.tmp 6)⟩,
 ⟨(some 45), .bin .add (.tmp 44) (.c (.int .i64 1))⟩,
 ⟨(some 6), .mov (.tmp 45)⟩])))
def af107b : ACode :=
 (.seq
 (.reg [⟨(some 2), .box 46 (.tmp 0)⟩,
 ⟨(some 4), .mov (.c (.int .i64 0))⟩])
 (.seq
 (.seq
 (.reg [⟨(some 7), .mov (.tmp 1)⟩,
 ⟨(some 8), .bin .lss (.tmp 7) (.c (.int .i64 1))⟩,
 ⟨(some 14), .sc 9 false (.tmp 8) [⟨(some 10), .fadr 2 (.tmp 2)⟩, ⟨(some 11), .load none (.tmp 10)⟩, ⟨(some 12), .len 0 (.tmp 11)⟩, ⟨(some 13), .bin .gtr (.tmp 12) (.c (.int .i64 500))⟩] (.tmp 13)⟩])
 (.cond (.tmp 14)
 (.seq
 (.reg [⟨(some 4), .mov (.c (.int .i64 (-1)))⟩])
 .ret)
 .skip))
 (.seq
 (.reg [⟨(some 15), .mov (.tmp 1)⟩,
 ⟨(some 16), .bin .sub (.tmp 15) (.c (.int .i64 1))⟩,
 ⟨(some 1), .mov (.tmp 16)⟩])
 (.seq
 (.seq
 (.reg [⟨(some 5), .mov (.c (.int .i64 0))⟩])
 (.blk 0
 (.loop false af107l0)))
 (.seq
 (.seq
 (.reg [⟨(some 6), .mov (.c (.int .i64 0))⟩])
 (.blk 2
 (.loop false af107l1)))
 (.seq
 (.reg [⟨(some 62), .mov (.tmp 1)⟩,
 ⟨(some 4), .mov (.tmp 62)⟩])
 .ret))))))
def af107 : AFunc := ⟨63, [.tmp 4], af107b, false⟩

/-- cascade/cascaderef03.right -/
def af108l0 : ACode :=
 (.seq
 (.seq
 (.reg [⟨(some 94), .mov (.tmp 5)⟩,
 ⟨(some 95), .fadr 3 (.tmp 2)⟩,
 ⟨(some 96), .load none (.tmp 95)⟩,
 ⟨(some 97), .len 1 (.tmp 96)⟩,
 ⟨(some 98), .bin .lss (.tmp 94) (.tmp 97)⟩])
 (.cond (.tmp 98)
 .skip
 (.exit 0)))
 (.seq
 (.blk 1
 (.seq
 (.reg [⟨(some 101), .fadr 3 (.tmp 2)⟩,
 ⟨(some 102), .load none (.tmp 101)⟩,
 ⟨(some 103), .mov (.tmp 5)⟩,
 ⟨(some 104), .iadr 5 (.tmp 102) (.tmp 103)⟩,
 ⟨(some 105), .load (some 5) (.tmp 104)⟩,
 ⟨(some 106), .mov (.tmp 1)⟩,
 ⟨(some 107), .bin .sub (.tmp 106) (.c (.int .i64 1))⟩,
 ⟨(some 108), .call false false (.c (.fn (.func 108) [] [])) [(.tmp 105), (.tmp 107)]⟩,
 ⟨(some 109), .un .not (.tmp 108)⟩])
 (.cond (.tmp 109)
 (.seq
 (.reg [⟨(some 4), .mov (.c (.bool false))⟩])
 .ret)
 .skip)))
 (.reg [⟨(some 99), .mov (.tmp 5)⟩,
 ⟨(some 100), .bin .add (.tmp 99) (.c (.int .i64 1))⟩,
 ⟨(some 5), .mov (.tmp 100)⟩])))
def af108l1 : ACode :=
 (.seq
 (.seq
 (.reg [⟨(some 137), .mov (.tmp 7)⟩,
 ⟨(some 138), .mov (.tmp 6)⟩,
 ⟨(some 139), .bin .lss (.tmp 137) (.tmp 138)⟩])
 (.cond (.tmp 139)
 .skip
 (.exit 4)))
 (.seq
 (.blk 5
 (.seq
 (.regD [] [⟨(some 142), .fadr 4 (.tmp 2)⟩,
 ⟨(some 143), .load none (.tmp 142)⟩,
 ⟨(some 144), .mov (.tmp 7)⟩,
 ⟨(some 145), .iadr 6 (.tmp 143) (.tmp 144)⟩,
 ⟨(some 146), .fadr 0 (.tmp 145)⟩,
 ⟨(some 147), .load none (.tmp 146)⟩,
 ⟨(some 148), .fadr 4 (.tmp 2)⟩,
 ⟨(some 149), .load none (.tmp 148)⟩,
 ⟨(some 150), .mov (.tmp 6)⟩,
 ⟨(some 151), .iadr 6 (.tmp 149) (.tmp 150)⟩,
 ⟨(some 152), .fadr 0 (.tmp 151)⟩,
 ⟨(some 153), .load none (.tmp 152)⟩,
 ⟨(some 154), .bin .eql (.tmp 147) (.tmp 153)⟩])
 (.cond (.tmp 154)
 (.seq
 (.reg [⟨(some 4), .mov (.c (.bool false))⟩])
 .ret)
 .skip)))
 (.reg [⟨(some 140), .mov (.tmp 7)⟩,
 ⟨(some 141), .bin .add (.tmp 140) (.c (.int .i64 1))⟩,
 ⟨(some 7), .mov (.tmp 141)⟩])))
def af108l2 : ACode :=
 (.seq
 (.seq
 (.reg [⟨(some 110), .mov (.tmp 6)⟩,
 ⟨(some 111), .fadr 4 (.tmp 2)⟩,
 ⟨(some 112), .load none (.tmp 111)⟩,
 ⟨(some 113), .len 1 (.tmp 112)⟩,
 ⟨(some 114), .bin .lss (.tmp 110) (.tmp 113)⟩])
 (.cond (.tmp 114)
 .skip
 (.exit 2)))
 (.seq
 (.blk 3
 (.seq
 (.seq
 (.reg [⟨(some 117), .fadr 4 (.tmp 2)⟩,
 ⟨(some 118), .load none (.tmp 117)⟩,
 ⟨(some 119), .mov (.tmp 6)⟩,
 ⟨(some 120), .iadr 6 (.tmp 118) (.tmp 119)⟩,
 ⟨(some 121), .fadr 0 (.tmp 120)⟩,
 ⟨(some 122), .load none (.tmp 121)⟩,
 ⟨(some 123), .call false false (.c (.fn (.func 87) [] [])) [(.tmp 122)]⟩,
 ⟨(some 124), .un .not (.tmp 123)⟩,
 ⟨(some 136), .sc 125 false (.tmp 124) [⟨(some 126), .fadr 4 (.tmp 2)⟩, ⟨(some 127), .load none (.tmp 126)⟩, ⟨(some 128), .mov (.tmp 6)⟩, ⟨(some 129), .iadr 6 (.tmp 127) (.tmp 128)⟩, ⟨(some 130), .fadr 1 (.tmp 129)⟩, ⟨(some 131), .load (some 5) (.tmp 130)⟩, ⟨(some 132), .mov (.tmp 1)⟩, ⟨(some 133), .bin .sub (.tmp 132) (.c (.int .i64 1))⟩, ⟨(some 134), .call false false (.c (.fn (.func 108) [] [])) [(.tmp 131), (.tmp 133)]⟩, ⟨(some 135), .un .not (.tmp 134)⟩] (.tmp 135)⟩])
 (.cond (.tmp 136)
 (.seq
 (.reg [⟨(some 4), .mov (.c (.bool false))⟩])
 .ret)
 .skip))
 (.seq
 (.reg [⟨(some 7), .mov (.c (.int .i64 0))⟩])
 (.blk 4
 (.loop false af108l1)))))
 (.reg [⟨(some 115), .mov (.tmp 6)⟩,
 ⟨(some 116), .bin .add (.tmp 115) (.c (.int .i64 1))⟩,
 ⟨(some 6), .mov (.tmp 116)⟩])))
def af108b : ACode :=
 (.seq
 (.reg [⟨(some 2), .box 46 (.tmp 0)⟩,
 ⟨(some 4), .mov (.c (.bool false))⟩])
 (.seq
 (.seq
 (.reg [⟨(some 8), .mov (.tmp 1)⟩,
 ⟨(some 9), .bin .lss (.tmp 8) (.c (.int .i64 1))⟩,
 ⟨(some 14), .sc 10 false (.tmp 9) [⟨(some 11), .fadr 0 (.tmp 2)⟩, ⟨(some 12), .load none (.tmp 11)⟩, ⟨(some 13), .bin .lss (.tmp 12) (.c (.int .i64 0))⟩] (.tmp 13)⟩,
 ⟨(some 19), .sc 15 false (.tmp 14) [⟨(some 16), .fadr 0 (.tmp 2)⟩, ⟨(some 17), .load none (.tmp 16)⟩, ⟨(some 18), .bin .gtr (.tmp 17) (.c (.int .i64 5))⟩] (.tmp 18)⟩])
 (.cond (.tmp 19)
 (.seq
 (.reg [⟨(some 4), .mov (.c (.bool false))⟩])
 .ret)
 .skip))
 (.seq
 (.seq
 (.reg [⟨(some 20), .fadr 0 (.tmp 2)⟩,
 ⟨(some 21), .load none (.tmp 20)⟩,
 ⟨(some 22), .bin .neq (.tmp 21) (.c (.int .i64 1))⟩,
 ⟨(some 27), .sc 23 true (.tmp 22) [⟨(some 24), .fadr 0 (.tmp 2)⟩, ⟨(some 25), .load none (.tmp 24)⟩, ⟨(some 26), .bin .neq (.tmp 25) (.c (.int .i64 2))⟩] (.tmp 26)⟩,
 ⟨(some 32), .sc 28 true (.tmp 27) [⟨(some 29), .fadr 1 (.tmp 2)⟩, ⟨(some 30), .load none (.tmp 29)⟩, ⟨(some 31), .bin .neq (.tmp 30) (.c (.int .i64 0))⟩] (.tmp 31)⟩,
 ⟨(some 42), .sc 33 false (.tmp 32) [⟨(some 34), .fadr 0 (.tmp 2)⟩, ⟨(some 35), .load none (.tmp 34)⟩, ⟨(some 36), .bin .neq (.tmp 35) (.c (.int .i64 3))⟩, ⟨(some 41), .sc 37 true (.tmp 36) [⟨(some 38), .fadr 2 (.tmp 2)⟩, ⟨(some 39), .load none (.tmp 38)⟩, ⟨(some 40), .bin .neq (.tmp 39) (.c (.str []))⟩] (.tmp 40)⟩] (.tmp 41)⟩,
 ⟨(some 53), .sc 43 false (.tmp 42) [⟨(some 44), .fadr 0 (.tmp 2)⟩, ⟨(some 45), .load none (.tmp 44)⟩, ⟨(some 46), .bin .neq (.tmp 45) (.c (.int .i64 4))⟩, ⟨(some 52), .sc 47 true (.tmp 46) [⟨(some 48), .fadr 3 (.tmp 2)⟩, ⟨(some 49), .load none (.tmp 48)⟩, ⟨(some 50), .len 1 (.tmp 49)⟩, ⟨(some 51), .bin .gtr (.tmp 50) (.c (.int .i64 0))⟩] (.tmp 51)⟩] (.tmp 52)⟩,
 ⟨(some 64), .sc 54 false (.tmp 53) [⟨(some 55), .fadr 0 (.tmp 2)⟩, ⟨(some 56), .load none (.tmp 55)⟩, ⟨(some 57), .bin .neq (.tmp 56) (.c (.int .i64 5))⟩, ⟨(some 63), .sc 58 true (.tmp 57) [⟨(some 59), .fadr 4 (.tmp 2)⟩, ⟨(some 60), .load none (.tmp 59)⟩, ⟨(some 61), .len 1 (.tmp 60)⟩, ⟨(some 62), .bin .gtr (.tmp 61) (.c (.int .i64 0))⟩] (.tmp 62)⟩] (.tmp 63)⟩])
 (.cond (.tmp 64)
 (.seq
 (.reg [⟨(some 4), .mov (.c (.bool false))⟩])
 .ret)
 .skip))
 (.seq
 (.seq
 (.reg [⟨(some 65), .fadr 0 (.tmp 2)⟩,
 ⟨(some 66), .load none (.tmp 65)⟩,
 ⟨(some 67), .bin .eql (.tmp 66) (.c (.int .i64 1))⟩,
 ⟨(some 72), .sc 68 true (.tmp 67) [⟨(some 69), .fadr 1 (.tmp 2)⟩, ⟨(some 70), .load none (.tmp 69)⟩, ⟨(some 71), .bin .neq (.tmp 70) (.c (.int .i64 0))⟩] (.tmp 71)⟩,
 ⟨(some 77), .sc 73 true (.tmp 72) [⟨(some 74), .fadr 1 (.tmp 2)⟩, ⟨(some 75), .load none (.tmp 74)⟩, ⟨(some 76), .bin .neq (.tmp 75) (.c (.int .i64 1))⟩] (.tmp 76)⟩,
 ⟨(some 82), .sc 78 false (.tmp 77) [⟨(some 79), .fadr 1 (.tmp 2)⟩, ⟨(some 80), .load none (.tmp 79)⟩, ⟨(some 81), .bin .gtr (.tmp 80) (.c (.int .i64 9007199254740991))⟩] (.tmp 81)⟩,
 ⟨(some 87), .sc 83 false (.tmp 82) [⟨(some 84), .fadr 1 (.tmp 2)⟩, ⟨(some 85), .load none (.tmp 84)⟩, ⟨(some 86), .bin .lss (.tmp 85) (.c (.int .i64 (-9007199254740991)))⟩] (.tmp 86)⟩,
 ⟨(some 93), .sc 88 false (.tmp 87) [⟨(some 89), .fadr 2 (.tmp 2)⟩, ⟨(some 90), .load none (.tmp 89)⟩, ⟨(some 91), .call false false (.c (.fn (.func 87) [] [])) [(.tmp 90)]⟩, ⟨(some 92), .un .not (.tmp 91)⟩] (.tmp 92)⟩])
 (.cond (.tmp 93)
 (.seq
 (.reg [⟨(some 4), .mov (.c (.bool false))⟩])
 .ret)
 .skip))
 (.seq
 (.seq
 (.reg [⟨(some 5), .mov (.c (.int .i64 0))⟩])
 (.blk 0
 (.loop false af108l0)))
 (.seq
 (.seq
 (.reg [⟨(some 6), .mov (.c (.int .i64 0))⟩])
 (.blk 2
 (.loop false af108l2)))
 (.seq
 (.reg [⟨(some 4), .mov (.c (.bool true))⟩])
 .ret)))))))
def af108 : AFunc := ⟨155, [.tmp 4], af108b, false⟩

/-- cascade/cascaderef05.Number -/
def af109l0 : ACode :=
 (.seq
 (.seq
 (.reg [⟨(some 11), .mov (.tmp 5)⟩,
 ⟨(some 12), .bin .lss (.tmp 11) (.c (.int .i64 20))⟩,
 ⟨(some 16), .sc 13 true (.tmp 12) [⟨(some 14), .mov (.tmp 0)⟩, ⟨(some 15), .bin .neq (.tmp 14) (.c (.int .i64 0))⟩] (.tmp 15)⟩])
 (.cond (.tmp 16)
 .skip
 (.exit 0)))
 (.seq
 (.blk 1
 (.seq
 (.reg [⟨(some 19), .mov (.tmp 0)⟩,
 ⟨(some 20), .bin .rem (.tmp 19) (.c (.int .i64 10))⟩,
 ⟨(some 6), .mov (.tmp 20)⟩])
 (.seq
 (.seq
 (.reg [⟨(some 21), .mov (.tmp 6)⟩,
 ⟨(some 22), .bin .lss (.tmp 21) (.c (.int .i64 0))⟩])
 (.cond (.tmp 22)
 (.reg [⟨(some 23), .mov (.tmp 6)⟩,
 ⟨(some 24), .un .neg (.tmp 23)⟩,
 ⟨(some 6), .mov (.tmp 24)⟩])
 .skip))
 (.seq
 (.reg [⟨(some 25), .mov (.tmp 6)⟩,
 ⟨(some 26), .bin .add (.c (.int .i64 48)) (.tmp 25)⟩,
 ⟨(some 27), .cvI .u8 (.tmp 26)⟩,
 ⟨(some 28), .bsl 1 (.int .u8 0) 1 [(0, (.tmp 27))]⟩,
 ⟨(some 29), .b2s (.tmp 28)⟩,
 ⟨(some 30), .mov (.tmp 3)⟩,
 ⟨(some 31), .bin .add (.tmp 29) (.tmp 30)⟩,
 ⟨(some 3), .mov (.tmp 31)⟩])
 (.reg [⟨(some 32), .mov (.tmp 0)⟩,
 ⟨(some 33), .bin .quo (.tmp 32) (.c (.int .i64 10))⟩,
 ⟨(some 0), .mov (.tmp 33)⟩])))))
 (.reg [⟨(some 17), .mov (.tmp 5)⟩,
 ⟨(some 18), .bin .add (.tmp 17) (.c (.int .i64 1))⟩,
 ⟨(some 5), .mov (.tmp 18)⟩])))
def af109b : ACode :=
 (.seq
 (.reg [⟨(some 2), .mov (.c (.str []))⟩])
 (.seq
 (.seq
 (.reg [⟨(some 7), .mov (.tmp 0)⟩,
 ⟨(some 8), .bin .eql (.tmp 7) (.c (.int .i64 0))⟩])
 (.cond (.tmp 8)
 (.seq
 (.reg [⟨(some 2), .mov (.c (.str [48]))⟩])
 .ret)
 .skip))
 (.seq
 (.reg [⟨(some 3), .mov (.c (.str []))⟩,
 ⟨(some 4), .mov (.c (.str []))⟩])
 (.seq
 (.seq
 (.reg [⟨(some 9), .mov (.tmp 0)⟩,
 ⟨(some 10), .bin .lss (.tmp 9) (.c (.int .i64 0))⟩])
 (.cond (.tmp 10)
 (.reg [⟨(some 4), .mov (.c (.str [45]))⟩])
 .skip))
 (.seq
 (.seq
 (.reg [⟨(some 5), .mov (.c (.int .i64 0))⟩])
 (.blk 0
 (.loop false af109l0)))
 (.seq
 (.reg [⟨(some 34), .mov (.tmp 4)⟩,
 ⟨(some 35), .mov (.tmp 3)⟩,
 ⟨(some 36), .bin .add (.tmp 34) (.tmp 35)⟩,
 ⟨(some 2), .mov (.tmp 36)⟩])
 .ret))))))
def af109 : AFunc := ⟨37, [.tmp 2], af109b, false⟩

/-- cascade/cascaderef01.Bad -/
def af150l0 : ACode :=
 (.seq
 (.seq
 (.reg [⟨(some 6), .mov (.tmp 3)⟩,
 ⟨(some 7), .mov (.tmp 0)⟩,
 ⟨(some 8), .len 0 (.tmp 7)⟩,
 ⟨(some 9), .bin .lss (.tmp 6) (.tmp 8)⟩])
 (.cond (.tmp 9)
 .skip
 (.exit 0)))
 (.blk 1
 (.seq
 (.reg [⟨(some 11), .mov (.tmp 0)⟩,
 ⟨(some 12), .mov (.tmp 3)⟩,
 ⟨(some 13), .call false false (.c (.fn (.func 229) [] [])) [(.tmp 11), (.tmp 12)]⟩,
 ⟨(some 10), .mov (.tmp 13)⟩,
 ⟨(some 14), .ext (.tmp 10) 0⟩,
 ⟨(some 15), .ext (.tmp 10) 1⟩,
 ⟨(some 4), .mov (.tmp 14)⟩,
 ⟨(some 5), .mov (.tmp 15)⟩])
 (.seq
 (.seq
 (.reg [⟨(some 16), .mov (.tmp 4)⟩,
 ⟨(some 17), .bin .eql (.tmp 16) (.c (.int .i64 0))⟩])
 (.cond (.tmp 17)
 (.seq
 (.reg [⟨(some 18), .mov (.tmp 3)⟩,
 ⟨(some 2), .mov (.tmp 18)⟩])
 .ret)
 .skip))
 (.reg [⟨(some 19), .mov (.tmp 3)⟩,
 ⟨(some 20), .mov (.tmp 4)⟩,
 ⟨(some 21), .bin .add (.tmp 19) (.tmp 20)⟩,
 ⟨(some 3), .mov (.tmp 21)⟩])))))
def af150b : ACode :=
 (.seq
 (.reg [⟨(some 2), .mov (.c (.int .i64 0))⟩])
 (.seq
 (.seq
 (.reg [⟨(some 3), .mov (.c (.int .i64 0))⟩])
 (.blk 0
 (.loop false af150l0)))
 (.seq
 (.reg [⟨(some 2), .mov (.c (.int .i64 (-1)))⟩])
 .ret)))
def af150 : AFunc := ⟨22, [.tmp 2], af150b, false⟩

/-- cascade/tree.clone -/
def af151l0 : ACode :=
 (.seq
 (.reg [⟨(some 19), .bin .lss (.tmp 18) (.tmp 17)⟩])
 (.seq
 (.cond (.tmp 19)
 .skip
 (.exit 0))
 (.seq
 (.blk 1
 (.seq
 (.reg [⟨(some 20), .iadr 5 (.tmp 16) (.tmp 18)⟩,
 ⟨(some 21), .load (some 5) (.tmp 20)⟩,
 ⟨(some 5), .new 46 [(.int .i64 0), (.int .i64 0), (.str []), (.sl .nil []), (.sl .nil [])]⟩,
 ⟨none, .store 5 (.tmp 5) (.tmp 21)⟩])
 (.regD [] [⟨(some 22), .fadr 3 (.tmp 3)⟩,
 ⟨(some 23), .load none (.tmp 22)⟩,
 ⟨(some 24), .load (some 5) (.tmp 5)⟩,
 ⟨(some 25), .call false true (.c (.fn (.func 151) [] [])) [(.tmp 24)]⟩,
 ⟨(some 26), .bsl 5 (.agg [(.int .i64 0), (.int .i64 0), (.str []), (.sl .nil []), (.sl .nil [])]) 1 [(0, (.tmp 25))]⟩,
 ⟨(some 27), .app false 5 (80, 46) (.tmp 23) (.tmp 26)⟩,
 ⟨(some 28), .fadr 3 (.tmp 3)⟩,
 ⟨none, .store 1 (.tmp 28) (.tmp 27)⟩])))
 (.reg [⟨(some 29), .bin .add (.tmp 18) (.c (.int .i64 1))⟩,
 ⟨(some 18), .mov (.tmp 29)⟩]))))
def af151l1 : ACode :=
 (.seq
 (.reg [⟨(some 34), .bin .lss (.tmp 33) (.tmp 32)⟩])
 (.seq
 (.cond (.tmp 34)
 .skip
 (.exit 2))
 (.seq
 (.blk 3
 (.seq
 (.reg [⟨(some 35), .iadr 6 (.tmp 31) (.tmp 33)⟩,
 ⟨(some 36), .load (some 6) (.tmp 35)⟩,
 ⟨(some 7), .new 63 [(.str []), (.int .i64 0), (.int .i64 0), (.str []), (.sl .nil []), (.sl .nil [])]⟩,
 ⟨none, .store 6 (.tmp 7) (.tmp 36)⟩])
 (.regD [] [⟨(some 37), .fadr 4 (.tmp 3)⟩,
 ⟨(some 38), .load none (.tmp 37)⟩,
 ⟨(some 39), .fadr 0 (.tmp 7)⟩,
 ⟨(some 40), .load none (.tmp 39)⟩,
 ⟨(some 41), .fadr 1 (.tmp 7)⟩,
 ⟨(some 42), .load (some 5) (.tmp 41)⟩,
 ⟨(some 43), .call false true (.c (.fn (.func 151) [] [])) [(.tmp 42)]⟩,
 ⟨(some 44), .build [(.str []), (.int .i64 0), (.int .i64 0), (.str []), (.sl .nil []), (.sl .nil [])] [(0, 1, (.tmp 40)), (1, 5, (.tmp 43))]⟩,
 ⟨(some 45), .bsl 6 (.agg [(.str []), (.int .i64 0), (.int .i64 0), (.str []), (.sl .nil []), (.sl .nil [])]) 1 [(0, (.tmp 44))]⟩,
 ⟨(some 46), .app false 6 (96, 63) (.tmp 38) (.tmp 45)⟩,
 ⟨(some 47), .fadr 4 (.tmp 3)⟩,
 ⟨none, .store 1 (.tmp 47) (.tmp 46)⟩])))
 (.reg [⟨(some 48), .bin .add (.tmp 33) (.c (.int .i64 1))⟩,
 ⟨(some 33), .mov (.tmp 48)⟩]))))
def af151b : ACode :=
 (.seq
 (.reg [⟨(some 1), .box 46 (.tmp 0)⟩,
 ⟨(some 2), .new 46 [(.int .i64 0), (.int .i64 0), (.str []), (.sl .nil []), (.sl .nil [])]⟩])
 (.seq
 (.reg [⟨(some 8), .fadr 0 (.tmp 1)⟩,
 ⟨(some 9), .load none (.tmp 8)⟩,
 ⟨(some 10), .fadr 1 (.tmp 1)⟩,
 ⟨(some 11), .load none (.tmp 10)⟩,
 ⟨(some 12), .fadr 2 (.tmp 1)⟩,
 ⟨(some 13), .load none (.tmp 12)⟩,
 ⟨(some 14), .build [(.int .i64 0), (.int .i64 0), (.str []), (.sl .nil []), (.sl .nil [])] [(0, 1, (.tmp 9)), (1, 1, (.tmp 11)), (2, 1, (.tmp 13))]⟩,
 ⟨(some 3), .new 46 [(.int .i64 0), (.int .i64 0), (.str []), (.sl .nil []), (.sl .nil [])]⟩,
 ⟨none, .store 5 (.tmp 3) (.tmp 14)⟩])
 (.seq
 (.seq
 (.reg [⟨(some 15), .fadr 3 (.tmp 1)⟩,
 ⟨(some 16), .load none (.tmp 15)⟩,
 ⟨(some 17), .len 1 (.tmp 16)⟩,
 ⟨(some 18), .mov (.c (.int .i64 0))⟩])
 (.blk 0
 (.loop false af151l0)))
 (.seq
 (.seq
 (.reg [⟨(some 30), .fadr 4 (.tmp 1)⟩,
 ⟨(some 31), .load none (.tmp 30)⟩,
 ⟨(some 32), .len 1 (.tmp 31)⟩,
 ⟨(some 33), .mov (.c (.int .i64 0))⟩])
 (.blk 2
 (.loop false af151l1)))
 (.seq
 (.reg [⟨(some 49), .load (some 5) (.tmp 3)⟩,
 ⟨none, .store 5 (.tmp 2) (.tmp 49)⟩])
 .ret)))))
def af151 : AFunc := ⟨50, [.cell 2 (some 5)], af151b, false⟩

/-- cascade/chunk.flag -/
def af152b : ACode :=
 (.seq
 (.reg [⟨(some 2), .new 46 [(.int .i64 0), (.int .i64 0), (.str []), (.sl .nil []), (.sl .nil [])]⟩])
 (.seq
 (.reg [⟨(some 4), .build [(.int .i64 0), (.int .i64 0), (.str []), (.sl .nil []), (.sl .nil [])] [(0, 1, (.c (.int .i64 1)))]⟩,
 ⟨(some 3), .new 46 [(.int .i64 0), (.int .i64 0), (.str []), (.sl .nil []), (.sl .nil [])]⟩,
 ⟨none, .store 5 (.tmp 3) (.tmp 4)⟩])
 (.seq
 (.seq
 (.reg [⟨(some 5), .mov (.tmp 0)⟩])
 (.cond (.tmp 5)
 (.reg [⟨(some 6), .fadr 1 (.tmp 3)⟩,
 ⟨none, .store 1 (.tmp 6) (.c (.int .i64 1))⟩])
 .skip))
 (.seq
 (.reg [⟨(some 7), .load (some 5) (.tmp 3)⟩,
 ⟨none, .store 5 (.tmp 2) (.tmp 7)⟩])
 .ret))))
def af152 : AFunc := ⟨8, [.cell 2 (some 5)], af152b, false⟩

/-- cascade/chunk.pending -/
def af153l0 : ACode :=
 (.seq
 (.reg [⟨(some 12), .bin .lss (.tmp 11) (.tmp 10)⟩])
 (.seq
 (.cond (.tmp 12)
 .skip
 (.exit 0))
 (.seq
 (.blk 1
 (.seq
 (.reg [⟨(some 13), .iadr 4 (.tmp 9) (.tmp 11)⟩,
 ⟨(some 14), .load (some 4) (.tmp 13)⟩,
 ⟨(some 5), .new 148 [(.int .i64 0), (.sl .nil []), (.str []), (.bool false)]⟩,
 ⟨none, .store 4 (.tmp 5) (.tmp 14)⟩])
 (.seq
 (.reg [⟨(some 16), .fadr 1 (.tmp 5)⟩,
 ⟨(some 17), .load none (.tmp 16)⟩,
 ⟨(some 18), .call false false (.c (.fn (.func 230) [] [])) [(.tmp 17)]⟩,
 ⟨(some 15), .mov (.tmp 18)⟩,
 ⟨(some 19), .ext (.tmp 15) 0⟩,
 ⟨(some 20), .ext (.tmp 15) 1⟩,
 ⟨(some 6), .new 46 [(.int .i64 0), (.int .i64 0), (.str []), (.sl .nil []), (.sl .nil [])]⟩,
 ⟨none, .store 5 (.tmp 6) (.tmp 19)⟩,
 ⟨(some 7), .mov (.tmp 20)⟩])
 (.regD [] [⟨(some 21), .fadr 3 (.tmp 3)⟩,
 ⟨(some 22), .load none (.tmp 21)⟩,
 ⟨(some 23), .fadr 0 (.tmp 5)⟩,
 ⟨(some 24), .load none (.tmp 23)⟩,
 ⟨(some 25), .call false true (.c (.fn (.func 156) [] [])) [(.tmp 24)]⟩,
 ⟨(some 26), .build [(.str []), (.int .i64 0), (.int .i64 0), (.str []), (.sl .nil []), (.sl .nil []), (.bool false)] [(0, 1, (.c (.str [105, 100]))), (1, 5, (.tmp 25)), (6, 1, (.c (.bool true)))]⟩,
 ⟨(some 27), .load (some 5) (.tmp 6)⟩,
 ⟨(some 28), .build [(.str []), (.int .i64 0), (.int .i64 0), (.str []), (.sl .nil []), (.sl .nil []), (.bool false)] [(0, 1, (.c (.str [112, 97, 116, 104]))), (1, 5, (.tmp 27)), (6, 1, (.c (.bool true)))]⟩,
 ⟨(some 29), .fadr 2 (.tmp 5)⟩,
 ⟨(some 30), .load none (.tmp 29)⟩,
 ⟨(some 31), .call false true (.c (.fn (.func 231) [] [])) [(.tmp 30)]⟩,
 ⟨(some 32), .fadr 3 (.tmp 5)⟩,
 ⟨(some 33), .load none (.tmp 32)⟩,
 ⟨(some 34), .build [(.str []), (.int .i64 0), (.int .i64 0), (.str []), (.sl .nil []), (.sl .nil []), (.bool false)] [(0, 1, (.c (.str [108, 97, 98, 101, 108]))), (1, 5, (.tmp 31)), (6, 1, (.tmp 33))]⟩,
 ⟨(some 35), .bsl 7 (.agg [(.str []), (.int .i64 0), (.int .i64 0), (.str []), (.sl .nil []), (.sl .nil []), (.bool false)]) 3 [(0, (.tmp 26)), (1, (.tmp 28)), (2, (.tmp 34))]⟩,
 ⟨(some 36), .call false true (.c (.fn (.func 154) [] [])) [(.tmp 35)]⟩,
 ⟨(some 37), .bsl 5 (.agg [(.int .i64 0), (.int .i64 0), (.str []), (.sl .nil []), (.sl .nil [])]) 1 [(0, (.tmp 36))]⟩,
 ⟨(some 38), .app false 5 (80, 46) (.tmp 22) (.tmp 37)⟩,
 ⟨(some 39), .fadr 3 (.tmp 3)⟩,
 ⟨none, .store 1 (.tmp 39) (.tmp 38)⟩]))))
 (.reg [⟨(some 40), .bin .add (.tmp 11) (.c (.int .i64 1))⟩,
 ⟨(some 11), .mov (.tmp 40)⟩]))))
def af153b : ACode :=
 (.seq
 (.reg [⟨(some 2), .new 46 [(.int .i64 0), (.int .i64 0), (.str []), (.sl .nil []), (.sl .nil [])]⟩])
 (.seq
 (.reg [⟨(some 8), .call true false (.c (.fn (.func 157) [] [])) [(.c (.sl .nil []))]⟩,
 ⟨(some 3), .new 46 [(.int .i64 0), (.int .i64 0), (.str []), (.sl .nil []), (.sl .nil [])]⟩,
 ⟨none, .store 5 (.tmp 3) (.tmp 8)⟩])
 (.seq
 (.seq
 (.reg [⟨(some 9), .mov (.tmp 0)⟩,
 ⟨(some 10), .len 1 (.tmp 9)⟩,
 ⟨(some 11), .mov (.c (.int .i64 0))⟩])
 (.blk 0
 (.loop false af153l0)))
 (.seq
 (.reg [⟨(some 41), .load (some 5) (.tmp 3)⟩,
 ⟨none, .store 5 (.tmp 2) (.tmp 41)⟩])
 .ret))))
def af153 : AFunc := ⟨42, [.cell 2 (some 5)], af153b, false⟩

/-- cascade/chunk.object -/
def af154l0 : ACode :=
 (.seq
 (.reg [⟨(some 10), .bin .lss (.tmp 9) (.tmp 8)⟩])
 (.seq
 (.cond (.tmp 10)
 .skip
 (.exit 0))
 (.seq
 (.blk 1
 (.seq
 (.reg [⟨(some 11), .iadr 7 (.tmp 7) (.tmp 9)⟩,
 ⟨(some 12), .load (some 7) (.tmp 11)⟩,
 ⟨(some 5), .new 218 [(.str []), (.int .i64 0), (.int .i64 0), (.str []), (.sl .nil []), (.sl .nil []), (.bool false)]⟩,
 ⟨none, .store 7 (.tmp 5) (.tmp 12)⟩])
 (.seq
 (.reg [⟨(some 13), .fadr 6 (.tmp 5)⟩,
 ⟨(some 14), .load none (.tmp 13)⟩])
 (.cond (.tmp 14)
 (.reg [⟨(some 15), .fadr 4 (.tmp 3)⟩,
 ⟨(some 16), .load none (.tmp 15)⟩,
 ⟨(some 17), .fadr 0 (.tmp 5)⟩,
 ⟨(some 18), .load none (.tmp 17)⟩,
 ⟨(some 19), .fadr 1 (.tmp 5)⟩,
 ⟨(some 20), .load (some 5) (.tmp 19)⟩,
 ⟨(some 21), .build [(.str []), (.int .i64 0), (.int .i64 0), (.str []), (.sl .nil []), (.sl .nil [])] [(0, 1, (.tmp 18)), (1, 5, (.tmp 20))]⟩,
 ⟨(some 22), .bsl 6 (.agg [(.str []), (.int .i64 0), (.int .i64 0), (.str []), (.sl .nil []), (.sl .nil [])]) 1 [(0, (.tmp 21))]⟩,
 ⟨(some 23), .app false 6 (96, 63) (.tmp 16) (.tmp 22)⟩,
 ⟨(some 24), .fadr 4 (.tmp 3)⟩,
 ⟨none, .store 1 (.tmp 24) (.tmp 23)⟩])
 .skip))))
 (.reg [⟨(some 25), .bin .add (.tmp 9) (.c (.int .i64 1))⟩,
 ⟨(some 9), .mov (.tmp 25)⟩]))))
def af154b : ACode :=
 (.seq
 (.reg [⟨(some 2), .new 46 [(.int .i64 0), (.int .i64 0), (.str []), (.sl .nil []), (.sl .nil [])]⟩])
 (.seq
 (.reg [⟨(some 6), .build [(.int .i64 0), (.int .i64 0), (.str []), (.sl .nil []), (.sl .nil [])] [(0, 1, (.c (.int .i64 5)))]⟩,
 ⟨(some 3), .new 46 [(.int .i64 0), (.int .i64 0), (.str []), (.sl .nil []), (.sl .nil [])]⟩,
 ⟨none, .store 5 (.tmp 3) (.tmp 6)⟩])
 (.seq
 (.seq
 (.reg [⟨(some 7), .mov (.tmp 0)⟩,
 ⟨(some 8), .len 1 (.tmp 7)⟩,
 ⟨(some 9), .mov (.c (.int .i64 0))⟩])
 (.blk 0
 (.loop false af154l0)))
 (.seq
 (.reg [⟨(some 26), .load (some 5) (.tmp 3)⟩,
 ⟨none, .store 5 (.tmp 2) (.tmp 26)⟩])
 .ret))))
def af154 : AFunc := ⟨27, [.cell 2 (some 5)], af154b, false⟩

/-- cascade/chunk.errs -/
def af155l0 : ACode :=
 (.seq
 (.reg [⟨(some 12), .bin .lss (.tmp 11) (.tmp 10)⟩])
 (.seq
 (.cond (.tmp 12)
 .skip
 (.exit 0))
 (.seq
 (.blk 1
 (.seq
 (.reg [⟨(some 13), .iadr 2 (.tmp 9) (.tmp 11)⟩,
 ⟨(some 14), .load (some 2) (.tmp 13)⟩,
 ⟨(some 5), .new 146 [(.sl .nil []), (.int .i64 0)]⟩,
 ⟨none, .store 2 (.tmp 5) (.tmp 14)⟩])
 (.seq
 (.reg [⟨(some 16), .fadr 0 (.tmp 5)⟩,
 ⟨(some 17), .load none (.tmp 16)⟩,
 ⟨(some 18), .call false false (.c (.fn (.func 230) [] [])) [(.tmp 17)]⟩,
 ⟨(some 15), .mov (.tmp 18)⟩,
 ⟨(some 19), .ext (.tmp 15) 0⟩,
 ⟨(some 20), .ext (.tmp 15) 1⟩,
 ⟨(some 6), .new 46 [(.int .i64 0), (.int .i64 0), (.str []), (.sl .nil []), (.sl .nil [])]⟩,
 ⟨none, .store 5 (.tmp 6) (.tmp 19)⟩,
 ⟨(some 7), .mov (.tmp 20)⟩])
 (.regD [] [⟨(some 21), .fadr 3 (.tmp 3)⟩,
 ⟨(some 22), .load none (.tmp 21)⟩,
 ⟨(some 23), .fadr 1 (.tmp 5)⟩,
 ⟨(some 24), .load none (.tmp 23)⟩,
 ⟨(some 25), .build [(.int .i64 0), (.int .i64 0), (.str []), (.sl .nil []), (.sl .nil [])] [(0, 1, (.c (.int .i64 2))), (1, 1, (.tmp 24))]⟩,
 ⟨(some 26), .build [(.str []), (.int .i64 0), (.int .i64 0), (.str []), (.sl .nil []), (.sl .nil []), (.bool false)] [(0, 1, (.c (.str [99, 111, 100, 101]))), (1, 5, (.tmp 25)), (6, 1, (.c (.bool true)))]⟩,
 ⟨(some 27), .load (some 5) (.tmp 6)⟩,
 ⟨(some 28), .build [(.str []), (.int .i64 0), (.int .i64 0), (.str []), (.sl .nil []), (.sl .nil []), (.bool false)] [(0, 1, (.c (.str [112, 97, 116, 104]))), (1, 5, (.tmp 27)), (6, 1, (.c (.bool true)))]⟩,
 ⟨(some 29), .bsl 7 (.agg [(.str []), (.int .i64 0), (.int .i64 0), (.str []), (.sl .nil []), (.sl .nil []), (.bool false)]) 2 [(0, (.tmp 26)), (1, (.tmp 28))]⟩,
 ⟨(some 30), .call false true (.c (.fn (.func 154) [] [])) [(.tmp 29)]⟩,
 ⟨(some 31), .bsl 5 (.agg [(.int .i64 0), (.int .i64 0), (.str []), (.sl .nil []), (.sl .nil [])]) 1 [(0, (.tmp 30))]⟩,
 ⟨(some 32), .app false 5 (80, 46) (.tmp 22) (.tmp 31)⟩,
 ⟨(some 33), .fadr 3 (.tmp 3)⟩,
 ⟨none, .store 1 (.tmp 33) (.tmp 32)⟩]))))
 (.reg [⟨(some 34), .bin .add (.tmp 11) (.c (.int .i64 1))⟩,
 ⟨(some 11), .mov (.tmp 34)⟩]))))
def af155b : ACode :=
 (.seq
 (.reg [⟨(some 2), .new 46 [(.int .i64 0), (.int .i64 0), (.str []), (.sl .nil []), (.sl .nil [])]⟩])
 (.seq
 (.reg [⟨(some 8), .call true false (.c (.fn (.func 157) [] [])) [(.c (.sl .nil []))]⟩,
 ⟨(some 3), .new 46 [(.int .i64 0), (.int .i64 0), (.str []), (.sl .nil []), (.sl .nil [])]⟩,
 ⟨none, .store 5 (.tmp 3) (.tmp 8)⟩])
 (.seq
 (.seq
 (.reg [⟨(some 9), .mov (.tmp 0)⟩,
 ⟨(some 10), .len 1 (.tmp 9)⟩,
 ⟨(some 11), .mov (.c (.int .i64 0))⟩])
 (.blk 0
 (.loop false af155l0)))
 (.seq
 (.reg [⟨(some 35), .load (some 5) (.tmp 3)⟩,
 ⟨none, .store 5 (.tmp 2) (.tmp 35)⟩])
 .ret))))
def af155 : AFunc := ⟨36, [.cell 2 (some 5)], af155b, false⟩

/-- cascade/chunk.id -/
def af156b : ACode :=
 (.seq
 (.reg [⟨(some 2), .new 46 [(.int .i64 0), (.int .i64 0), (.str []), (.sl .nil []), (.sl .nil [])]⟩])
 (.seq
 (.reg [⟨(some 3), .mov (.tmp 0)⟩,
 ⟨(some 4), .call false false (.c (.fn (.func 232) [] [])) [(.tmp 3)]⟩,
 ⟨(some 5), .call false false (.c (.fn (.func 231) [] [])) [(.tmp 4)]⟩,
 ⟨none, .store 5 (.tmp 2) (.tmp 5)⟩])
 .ret))
def af156 : AFunc := ⟨6, [.cell 2 (some 5)], af156b, false⟩

/-- cascade/chunk.list -/
def af157b : ACode :=
 (.seq
 (.reg [⟨(some 2), .new 46 [(.int .i64 0), (.int .i64 0), (.str []), (.sl .nil []), (.sl .nil [])]⟩])
 (.seq
 (.reg [⟨(some 3), .mov (.tmp 0)⟩,
 ⟨(some 4), .build [(.int .i64 0), (.int .i64 0), (.str []), (.sl .nil []), (.sl .nil [])] [(0, 1, (.c (.int .i64 4))), (3, 1, (.tmp 3))]⟩,
 ⟨none, .store 5 (.tmp 2) (.tmp 4)⟩])
 .ret))
def af157 : AFunc := ⟨5, [.cell 2 (some 5)], af157b, true⟩

/-- cascade/chunk.record -/
def af158l0 : ACode :=
 (.seq
 (.reg [⟨(some 11), .bin .lss (.tmp 10) (.tmp 9)⟩])
 (.seq
 (.cond (.tmp 11)
 .skip
 (.exit 0))
 (.seq
 (.blk 1
 (.seq
 (.reg [⟨(some 12), .iadr 1 (.tmp 8) (.tmp 10)⟩,
 ⟨(some 13), .load none (.tmp 12)⟩,
 ⟨(some 5), .mov (.tmp 13)⟩])
 (.regD [] [⟨(some 14), .fadr 3 (.tmp 3)⟩,
 ⟨(some 15), .load none (.tmp 14)⟩,
 ⟨(some 16), .mov (.tmp 5)⟩,
 ⟨(some 17), .call false true (.c (.fn (.func 231) [] [])) [(.tmp 16)]⟩,
 ⟨(some 18), .bsl 5 (.agg [(.int .i64 0), (.int .i64 0), (.str []), (.sl .nil []), (.sl .nil [])]) 1 [(0, (.tmp 17))]⟩,
 ⟨(some 19), .app false 5 (80, 46) (.tmp 15) (.tmp 18)⟩,
 ⟨(some 20), .fadr 3 (.tmp 3)⟩,
 ⟨none, .store 1 (.tmp 20) (.tmp 19)⟩])))
 (.reg [⟨(some 21), .bin .add (.tmp 10) (.c (.int .i64 1))⟩,
 ⟨(some 10), .mov (.tmp 21)⟩]))))
def af158b : ACode :=
 (.seq
 (.reg [⟨(some 1), .box 51 (.tmp 0)⟩,
 ⟨(some 2), .new 46 [(.int .i64 0), (.int .i64 0), (.str []), (.sl .nil []), (.sl .nil [])]⟩])
 (.seq
 (.reg [⟨(some 6), .call true false (.c (.fn (.func 157) [] [])) [(.c (.sl .nil []))]⟩,
 ⟨(some 3), .new 46 [(.int .i64 0), (.int .i64 0), (.str []), (.sl .nil []), (.sl .nil [])]⟩,
 ⟨none, .store 5 (.tmp 3) (.tmp 6)⟩])
 (.seq
 (.seq
 (.reg [⟨(some 7), .fadr 11 (.tmp 1)⟩,
 ⟨(some 8), .load none (.tmp 7)⟩,
 ⟨(some 9), .len 1 (.tmp 8)⟩,
 ⟨(some 10), .mov (.c (.int .i64 0))⟩])
 (.blk 0
 (.loop false af158l0)))
 (.seq
 (.regD [] [⟨(some 22), .fadr 9 (.tmp 1)⟩,
 ⟨(some 23), .load none (.tmp 22)⟩,
 ⟨(some 24), .call false true (.c (.fn (.func 156) [] [])) [(.tmp 23)]⟩,
 ⟨(some 25), .build [(.str []), (.int .i64 0), (.int .i64 0), (.str []), (.sl .nil []), (.sl .nil []), (.bool false)] [(0, 1, (.c (.str [105, 100]))), (1, 5, (.tmp 24)), (6, 1, (.c (.bool true)))]⟩,
 ⟨(some 26), .fadr 1 (.tmp 1)⟩,
 ⟨(some 27), .load (some 5) (.tmp 26)⟩,
 ⟨(some 28), .bsl 5 (.agg [(.int .i64 0), (.int .i64 0), (.str []), (.sl .nil []), (.sl .nil [])]) 1 [(0, (.tmp 27))]⟩,
 ⟨(some 29), .call false true (.c (.fn (.func 157) [] [])) [(.tmp 28)]⟩,
 ⟨(some 30), .fadr 10 (.tmp 1)⟩,
 ⟨(some 31), .load none (.tmp 30)⟩,
 ⟨(some 32), .build [(.str []), (.int .i64 0), (.int .i64 0), (.str []), (.sl .nil []), (.sl .nil []), (.bool false)] [(0, 1, (.c (.str [105, 116, 101, 109, 115]))), (1, 5, (.tmp 29)), (6, 1, (.tmp 31))]⟩,
 ⟨(some 33), .fadr 1 (.tmp 1)⟩,
 ⟨(some 34), .load (some 5) (.tmp 33)⟩,
 ⟨(some 35), .fadr 10 (.tmp 1)⟩,
 ⟨(some 36), .load none (.tmp 35)⟩,
 ⟨(some 37), .un .not (.tmp 36)⟩,
 ⟨(some 38), .build [(.str []), (.int .i64 0), (.int .i64 0), (.str []), (.sl .nil []), (.sl .nil []), (.bool false)] [(0, 1, (.c (.str [100, 97, 116, 97]))), (1, 5, (.tmp 34)), (6, 1, (.tmp 37))]⟩,
 ⟨(some 39), .load (some 5) (.tmp 3)⟩,
 ⟨(some 40), .fadr 10 (.tmp 1)⟩,
 ⟨(some 41), .load none (.tmp 40)⟩,
 ⟨(some 42), .un .not (.tmp 41)⟩,
 ⟨(some 43), .build [(.str []), (.int .i64 0), (.int .i64 0), (.str []), (.sl .nil []), (.sl .nil []), (.bool false)] [(0, 1, (.c (.str [111, 114, 100, 101, 114]))), (1, 5, (.tmp 39)), (6, 1, (.tmp 42))]⟩,
 ⟨(some 44), .fadr 6 (.tmp 1)⟩,
 ⟨(some 45), .load none (.tmp 44)⟩,
 ⟨(some 46), .call false true (.c (.fn (.func 155) [] [])) [(.tmp 45)]⟩,
 ⟨(some 47), .fadr 6 (.tmp 1)⟩,
 ⟨(some 48), .load none (.tmp 47)⟩,
 ⟨(some 49), .len 1 (.tmp 48)⟩,
 ⟨(some 50), .bin .gtr (.tmp 49) (.c (.int .i64 0))⟩,
 ⟨(some 51), .build [(.str []), (.int .i64 0), (.int .i64 0), (.str []), (.sl .nil []), (.sl .nil []), (.bool false)] [(0, 1, (.c (.str [101, 114, 114, 111, 114, 115]))), (1, 5, (.tmp 46)), (6, 1, (.tmp 50))]⟩,
 ⟨(some 52), .bsl 7 (.agg [(.str []), (.int .i64 0), (.int .i64 0), (.str []), (.sl .nil []), (.sl .nil []), (.bool false)]) 5 [(0, (.tmp 25)), (1, (.tmp 32)), (2, (.tmp 38)), (3, (.tmp 43)), (4, (.tmp 51))]⟩,
 ⟨(some 53), .call false false (.c (.fn (.func 154) [] [])) [(.tmp 52)]⟩,
 ⟨none, .store 5 (.tmp 2) (.tmp 53)⟩])
 .ret))))
def af158 : AFunc := ⟨54, [.cell 2 (some 5)], af158b, false⟩

/-- cascade/tree.Right$1 -/
def af159b : ACode :=
 (.seq
 (.reg [⟨(some 3), .box 46 (.tmp 0)⟩,
 ⟨(some 4), .box 3 (.tmp 1)⟩,
 ⟨(some 5), .mov (.c (.bool false))⟩])
 (.seq
 (.seq
 (.reg [⟨(some 6), .load none (.tmp 4)⟩,
 ⟨(some 7), .bin .lss (.tmp 6) (.c (.int .i64 1))⟩,
 ⟨(some 12), .sc 8 false (.tmp 7) [⟨(some 9), .load (some 5) (.tmp 3)⟩, ⟨(some 10), .call false false (.c (.fn (.func 160) [] [])) [(.tmp 9)]⟩, ⟨(some 11), .un .not (.tmp 10)⟩] (.tmp 11)⟩])
 (.cond (.tmp 12)
 (.seq
 (.reg [⟨(some 5), .mov (.c (.bool false))⟩])
 .ret)
 .skip))
 (.seq
 (.seq
 (.reg [⟨(some 13), .fadr 0 (.tmp 3)⟩,
 ⟨(some 14), .load none (.tmp 13)⟩])
 (.blk 0
 (.seq
 (.reg [⟨(some 16), .bin .eql (.tmp 14) (.c (.int .i64 0))⟩,
 ⟨(some 15), .mov (.tmp 16)⟩])
 (.cond (.tmp 15)
 (.seq
 (.reg [⟨(some 5), .mov (.c (.bool true))⟩])
 .ret)
 (.seq
 (.reg [⟨(some 18), .bin .eql (.tmp 14) (.c (.int .i64 1))⟩,
 ⟨(some 17), .mov (.tmp 18)⟩])
 (.cond (.tmp 17)
 (.seq
 (.reg [⟨(some 19), .fadr 1 (.tmp 3)⟩,
 ⟨(some 20), .load none (.tmp 19)⟩,
 ⟨(some 21), .bin .eql (.tmp 20) (.c (.int .i64 0))⟩,
 ⟨(some 26), .sc 22 false (.tmp 21) [⟨(some 23), .fadr 1 (.tmp 3)⟩, ⟨(some 24), .load none (.tmp 23)⟩, ⟨(some 25), .bin .eql (.tmp 24) (.c (.int .i64 1))⟩] (.tmp 25)⟩,
 ⟨(some 5), .mov (.tmp 26)⟩])
 .ret)
 (.seq
 (.reg [⟨(some 28), .bin .eql (.tmp 14) (.c (.int .i64 2))⟩,
 ⟨(some 27), .mov (.tmp 28)⟩])
 (.cond (.tmp 27)
 (.seq
 (.reg [⟨(some 29), .fadr 1 (.tmp 3)⟩,
 ⟨(some 30), .load none (.tmp 29)⟩,
 ⟨(some 31), .bin .geq (.tmp 30) (.c (.int .i64 (-9007199254740991)))⟩,
 ⟨(some 36), .sc 32 true (.tmp 31) [⟨(some 33), .fadr 1 (.tmp 3)⟩, ⟨(some 34), .load none (.tmp 33)⟩, ⟨(some 35), .bin .leq (.tmp 34) (.c (.int .i64 9007199254740991))⟩] (.tmp 35)⟩,
 ⟨(some 5), .mov (.tmp 36)⟩])
 .ret)
 (.seq
 (.reg [⟨(some 38), .bin .eql (.tmp 14) (.c (.int .i64 3))⟩,
 ⟨(some 37), .mov (.tmp 38)⟩])
 (.cond (.tmp 37)
 (.seq
 (.reg [⟨(some 39), .fadr 2 (.tmp 3)⟩,
 ⟨(some 40), .load none (.tmp 39)⟩,
 ⟨(some 41), .call false false (.c (.fn (.func 97) [] [])) [(.tmp 40)]⟩,
 ⟨(some 5), .mov (.tmp 41)⟩])
 .ret)
 (.seq
 (.reg [⟨(some 43), .bin .eql (.tmp 14) (.c (.int .i64 4))⟩,
 ⟨(some 42), .mov (.tmp 43)⟩])
 (.cond (.tmp 42)
 (.seq
 (.reg [⟨(some 44), .fadr 3 (.tmp 3)⟩,
 ⟨(some 45), .load none (.tmp 44)⟩,
 ⟨(some 46), .mkfn (.func 162) [] [(.tmp 2), (.tmp 4)]⟩,
 ⟨(some 47), .call false false (.c (.fn (.func 161) [] [])) [(.tmp 45), (.tmp 46)]⟩,
 ⟨(some 48), .un .not (.tmp 47)⟩,
 ⟨(some 5), .mov (.tmp 48)⟩])
 .ret)
 (.seq
 (.reg [⟨(some 50), .bin .eql (.tmp 14) (.c (.int .i64 5))⟩,
 ⟨(some 49), .mov (.tmp 50)⟩])
 (.cond (.tmp 49)
 (.seq
 (.reg [⟨(some 51), .fadr 4 (.tmp 3)⟩,
 ⟨(some 52), .load none (.tmp 51)⟩,
 ⟨(some 53), .call false false (.c (.fn (.func 163) [] [])) [(.tmp 52)]⟩,
 ⟨(some 60), .sc 54 true (.tmp 53) [⟨(some 55), .fadr 4 (.tmp 3)⟩, ⟨(some 56), .load none (.tmp 55)⟩, ⟨(some 57), .mkfn (.func 165) [] [(.tmp 2), (.tmp 4)]⟩, ⟨(some 58), .call false false (.c (.fn (.func 164) [] [])) [(.tmp 56), (.tmp 57)]⟩, ⟨(some 59), .un .not (.tmp 58)⟩] (.tmp 59)⟩,
 ⟨(some 5), .mov (.tmp 60)⟩])
 .ret)
 .skip))))))))))))))
 (.seq
 (.reg [⟨(some 5), .mov (.c (.bool false))⟩])
 .ret))))
def af159 : AFunc := ⟨61, [.tmp 5], af159b, false⟩

/-- cascade/tree.unused -/
def af160b : ACode :=
 (.seq
 (.reg [⟨(some 1), .box 46 (.tmp 0)⟩,
 ⟨(some 2), .mov (.c (.bool false))⟩])
 (.seq
 (.reg [⟨(some 4), .fadr 0 (.tmp 1)⟩,
 ⟨(some 5), .load none (.tmp 4)⟩,
 ⟨(some 6), .bin .eql (.tmp 5) (.c (.int .i64 1))⟩,
 ⟨(some 11), .sc 7 false (.tmp 6) [⟨(some 8), .fadr 0 (.tmp 1)⟩, ⟨(some 9), .load none (.tmp 8)⟩, ⟨(some 10), .bin .eql (.tmp 9) (.c (.int .i64 2))⟩] (.tmp 10)⟩,
 ⟨(some 3), .mov (.tmp 11)⟩])
 (.seq
 (.reg [⟨(some 12), .mov (.tmp 3)⟩,
 ⟨(some 17), .sc 13 false (.tmp 12) [⟨(some 14), .fadr 1 (.tmp 1)⟩, ⟨(some 15), .load none (.tmp 14)⟩, ⟨(some 16), .bin .eql (.tmp 15) (.c (.int .i64 0))⟩] (.tmp 16)⟩,
 ⟨(some 27), .sc 18 true (.tmp 17) [⟨(some 19), .fadr 0 (.tmp 1)⟩, ⟨(some 20), .load none (.tmp 19)⟩, ⟨(some 21), .bin .eql (.tmp 20) (.c (.int .i64 3))⟩, ⟨(some 26), .sc 22 false (.tmp 21) [⟨(some 23), .fadr 2 (.tmp 1)⟩, ⟨(some 24), .load none (.tmp 23)⟩, ⟨(some 25), .bin .eql (.tmp 24) (.c (.str []))⟩] (.tmp 25)⟩] (.tmp 26)⟩,
 ⟨(some 38), .sc 28 true (.tmp 27) [⟨(some 29), .fadr 0 (.tmp 1)⟩, ⟨(some 30), .load none (.tmp 29)⟩, ⟨(some 31), .bin .eql (.tmp 30) (.c (.int .i64 4))⟩, ⟨(some 37), .sc 32 false (.tmp 31) [⟨(some 33), .fadr 3 (.tmp 1)⟩, ⟨(some 34), .load none (.tmp 33)⟩, ⟨(some 35), .len 1 (.tmp 34)⟩, ⟨(some 36), .bin .eql (.tmp 35) (.c (.int .i64 0))⟩] (.tmp 36)⟩] (.tmp 37)⟩,
 ⟨(some 49), .sc 39 true (.tmp 38) [⟨(some 40), .fadr 0 (.tmp 1)⟩, ⟨(some 41), .load none (.tmp 40)⟩, ⟨(some 42), .bin .eql (.tmp 41) (.c (.int .i64 5))⟩, ⟨(some 48), .sc 43 false (.tmp 42) [⟨(some 44), .fadr 4 (.tmp 1)⟩, ⟨(some 45), .load none (.tmp 44)⟩, ⟨(some 46), .len 1 (.tmp 45)⟩, ⟨(some 47), .bin .eql (.tmp 46) (.c (.int .i64 0))⟩] (.tmp 47)⟩] (.tmp 48)⟩,
 ⟨(some 2), .mov (.tmp 49)⟩])
 .ret)))
def af160 : AFunc := ⟨50, [.tmp 2], af160b, false⟩

/-- slices.ContainsFunc[[]cascade/api.Value,cascade/api.Value] -/
def af161b : ACode :=
 (.seq
 (.reg [⟨(some 4), .mov (.c (.bool false))⟩])
 (.seq
 (.reg [⟨(some 5), .mov (.tmp 0)⟩,
 ⟨(some 6), .mov (.tmp 1)⟩,
 ⟨(some 7), .call false false (.c (.fn (.func 233) [] [])) [(.tmp 5), (.tmp 6)]⟩,
 ⟨(some 8), .bin .geq (.tmp 7) (.c (.int .i64 0))⟩,
 ⟨(some 4), .mov (.tmp 8)⟩])
 .ret))
def af161 : AFunc := ⟨9, [.tmp 4], af161b, false⟩

/-- cascade/tree.Right$1$1 -/
def af162b : ACode :=
 (.seq
 (.reg [⟨(some 3), .box 46 (.tmp 0)⟩,
 ⟨(some 4), .mov (.c (.bool false))⟩])
 (.seq
 (.reg [⟨(some 5), .load none (.tmp 1)⟩,
 ⟨(some 6), .load (some 5) (.tmp 3)⟩,
 ⟨(some 7), .load none (.tmp 2)⟩,
 ⟨(some 8), .bin .sub (.tmp 7) (.c (.int .i64 1))⟩,
 ⟨(some 9), .call false false (.tmp 5) [(.tmp 6), (.tmp 8)]⟩,
 ⟨(some 10), .un .not (.tmp 9)⟩,
 ⟨(some 4), .mov (.tmp 10)⟩])
 .ret))
def af162 : AFunc := ⟨11, [.tmp 4], af162b, false⟩

/-- cascade/tree.keys -/
def af163l0 : ACode :=
 (.seq
 (.reg [⟨(some 10), .bin .lss (.tmp 9) (.tmp 8)⟩])
 (.seq
 (.cond (.tmp 10)
 .skip
 (.exit 0))
 (.seq
 (.blk 1
 (.seq
 (.reg [⟨(some 11), .iadr 6 (.tmp 7) (.tmp 9)⟩,
 ⟨(some 12), .load (some 6) (.tmp 11)⟩,
 ⟨(some 5), .new 63 [(.str []), (.int .i64 0), (.int .i64 0), (.str []), (.sl .nil []), (.sl .nil [])]⟩,
 ⟨none, .store 6 (.tmp 5) (.tmp 12)⟩])
 (.seq
 (.reg [⟨(some 13), .mov (.tmp 3)⟩,
 ⟨(some 14), .fadr 0 (.tmp 5)⟩,
 ⟨(some 15), .load none (.tmp 14)⟩,
 ⟨(some 16), .look 0 (.int .i64 0) false (.tmp 13) (.tmp 15)⟩,
 ⟨(some 17), .bin .add (.tmp 16) (.c (.int .i64 1))⟩,
 ⟨none, .mupd 0 (.tmp 13) (.tmp 15) (.tmp 17)⟩])
 (.seq
 (.reg [⟨(some 18), .mov (.tmp 3)⟩,
 ⟨(some 19), .fadr 0 (.tmp 5)⟩,
 ⟨(some 20), .load none (.tmp 19)⟩,
 ⟨(some 21), .look 0 (.int .i64 0) false (.tmp 18) (.tmp 20)⟩,
 ⟨(some 22), .bin .gtr (.tmp 21) (.c (.int .i64 1))⟩,
 ⟨(some 28), .sc 23 false (.tmp 22) [⟨(some 24), .fadr 0 (.tmp 5)⟩, ⟨(some 25), .load none (.tmp 24)⟩, ⟨(some 26), .call false false (.c (.fn (.func 97) [] [])) [(.tmp 25)]⟩, ⟨(some 27), .un .not (.tmp 26)⟩] (.tmp 27)⟩])
 (.cond (.tmp 28)
 (.seq
 (.reg [⟨(some 2), .mov (.c (.bool false))⟩])
 .ret)
 .skip)))))
 (.reg [⟨(some 29), .bin .add (.tmp 9) (.c (.int .i64 1))⟩,
 ⟨(some 9), .mov (.tmp 29)⟩]))))
def af163b : ACode :=
 (.seq
 (.reg [⟨(some 2), .mov (.c (.bool false))⟩])
 (.seq
 (.reg [⟨(some 6), .mkmap⟩,
 ⟨(some 3), .mov (.tmp 6)⟩])
 (.seq
 (.seq
 (.reg [⟨(some 7), .mov (.tmp 0)⟩,
 ⟨(some 8), .len 1 (.tmp 7)⟩,
 ⟨(some 9), .mov (.c (.int .i64 0))⟩])
 (.blk 0
 (.loop false af163l0)))
 (.seq
 (.reg [⟨(some 2), .mov (.c (.bool true))⟩])
 .ret))))
def af163 : AFunc := ⟨30, [.tmp 2], af163b, false⟩

/-- slices.ContainsFunc[[]cascade/api.Pair,cascade/api.Pair] -/
def af164b : ACode :=
 (.seq
 (.reg [⟨(some 4), .mov (.c (.bool false))⟩])
 (.seq
 (.reg [⟨(some 5), .mov (.tmp 0)⟩,
 ⟨(some 6), .mov (.tmp 1)⟩,
 ⟨(some 7), .call false false (.c (.fn (.func 234) [] [])) [(.tmp 5), (.tmp 6)]⟩,
 ⟨(some 8), .bin .geq (.tmp 7) (.c (.int .i64 0))⟩,
 ⟨(some 4), .mov (.tmp 8)⟩])
 .ret))
def af164 : AFunc := ⟨9, [.tmp 4], af164b, false⟩

/-- cascade/tree.Right$1$2 -/
def af165b : ACode :=
 (.seq
 (.reg [⟨(some 3), .box 63 (.tmp 0)⟩,
 ⟨(some 4), .mov (.c (.bool false))⟩])
 (.seq
 (.reg [⟨(some 5), .load none (.tmp 1)⟩,
 ⟨(some 6), .fadr 1 (.tmp 3)⟩,
 ⟨(some 7), .load (some 5) (.tmp 6)⟩,
 ⟨(some 8), .load none (.tmp 2)⟩,
 ⟨(some 9), .bin .sub (.tmp 8) (.c (.int .i64 1))⟩,
 ⟨(some 10), .call false false (.tmp 5) [(.tmp 7), (.tmp 9)]⟩,
 ⟨(some 11), .un .not (.tmp 10)⟩,
 ⟨(some 4), .mov (.tmp 11)⟩])
 .ret))
def af165 : AFunc := ⟨12, [.tmp 4], af165b, false⟩

/-- slices.ContainsFunc[[]cascade/api.Err,cascade/api.Err] -/
def af166b : ACode :=
 (.seq
 (.reg [⟨(some 4), .mov (.c (.bool false))⟩])
 (.seq
 (.reg [⟨(some 5), .mov (.tmp 0)⟩,
 ⟨(some 6), .mov (.tmp 1)⟩,
 ⟨(some 7), .call false false (.c (.fn (.func 235) [] [])) [(.tmp 5), (.tmp 6)]⟩,
 ⟨(some 8), .bin .geq (.tmp 7) (.c (.int .i64 0))⟩,
 ⟨(some 4), .mov (.tmp 8)⟩])
 .ret))
def af166 : AFunc := ⟨9, [.tmp 4], af166b, false⟩

/-- cascade/chunk.parts$1 -/
def af167b : ACode :=
 (.seq
 (.reg [⟨(some 1), .box 146 (.tmp 0)⟩,
 ⟨(some 2), .mov (.c (.bool false))⟩])
 (.seq
 (.reg [⟨(some 3), .fadr 1 (.tmp 1)⟩,
 ⟨(some 4), .load none (.tmp 3)⟩,
 ⟨(some 5), .bin .lss (.tmp 4) (.c (.int .i64 1))⟩,
 ⟨(some 10), .sc 6 false (.tmp 5) [⟨(some 7), .fadr 1 (.tmp 1)⟩, ⟨(some 8), .load none (.tmp 7)⟩, ⟨(some 9), .bin .gtr (.tmp 8) (.c (.int .i64 65535))⟩] (.tmp 9)⟩,
 ⟨(some 16), .sc 11 false (.tmp 10) [⟨(some 12), .fadr 0 (.tmp 1)⟩, ⟨(some 13), .load none (.tmp 12)⟩, ⟨(some 14), .call false false (.c (.fn (.func 168) [] [])) [(.tmp 13)]⟩, ⟨(some 15), .un .not (.tmp 14)⟩] (.tmp 15)⟩,
 ⟨(some 2), .mov (.tmp 16)⟩])
 .ret))
def af167 : AFunc := ⟨17, [.tmp 2], af167b, false⟩

/-- cascade/path.Right -/
def af168b : ACode :=
 (.seq
 (.reg [⟨(some 2), .mov (.c (.bool false))⟩])
 (.seq
 (.reg [⟨(some 3), .mov (.tmp 0)⟩,
 ⟨(some 4), .len 1 (.tmp 3)⟩,
 ⟨(some 5), .bin .leq (.tmp 4) (.c (.int .i64 30))⟩,
 ⟨(some 10), .sc 6 true (.tmp 5) [⟨(some 7), .mov (.tmp 0)⟩, ⟨(some 8), .call false false (.c (.fn (.func 236) [] [])) [(.tmp 7), (.c (.fn (.func 237) [] []))]⟩, ⟨(some 9), .un .not (.tmp 8)⟩] (.tmp 9)⟩,
 ⟨(some 2), .mov (.tmp 10)⟩])
 .ret))
def af168 : AFunc := ⟨11, [.tmp 2], af168b, false⟩

/-- slices.ContainsFunc[[]cascade/exec.Pending,cascade/exec.Pending] -/
def af169b : ACode :=
 (.seq
 (.reg [⟨(some 4), .mov (.c (.bool false))⟩])
 (.seq
 (.reg [⟨(some 5), .mov (.tmp 0)⟩,
 ⟨(some 6), .mov (.tmp 1)⟩,
 ⟨(some 7), .call false false (.c (.fn (.func 239) [] [])) [(.tmp 5), (.tmp 6)]⟩,
 ⟨(some 8), .bin .geq (.tmp 7) (.c (.int .i64 0))⟩,
 ⟨(some 4), .mov (.tmp 8)⟩])
 .ret))
def af169 : AFunc := ⟨9, [.tmp 4], af169b, false⟩

/-- cascade/chunk.parts$2 -/
def af170b : ACode :=
 (.seq
 (.reg [⟨(some 1), .box 148 (.tmp 0)⟩,
 ⟨(some 2), .mov (.c (.bool false))⟩])
 (.seq
 (.reg [⟨(some 3), .fadr 0 (.tmp 1)⟩,
 ⟨(some 4), .load none (.tmp 3)⟩,
 ⟨(some 5), .call false false (.c (.fn (.func 91) [] [])) [(.tmp 4)]⟩,
 ⟨(some 6), .un .not (.tmp 5)⟩,
 ⟨(some 12), .sc 7 false (.tmp 6) [⟨(some 8), .fadr 1 (.tmp 1)⟩, ⟨(some 9), .load none (.tmp 8)⟩, ⟨(some 10), .call false false (.c (.fn (.func 168) [] [])) [(.tmp 9)]⟩, ⟨(some 11), .un .not (.tmp 10)⟩] (.tmp 11)⟩,
 ⟨(some 18), .sc 13 false (.tmp 12) [⟨(some 14), .fadr 2 (.tmp 1)⟩, ⟨(some 15), .load none (.tmp 14)⟩, ⟨(some 16), .call false false (.c (.fn (.func 97) [] [])) [(.tmp 15)]⟩, ⟨(some 17), .un .not (.tmp 16)⟩] (.tmp 17)⟩,
 ⟨(some 28), .sc 19 false (.tmp 18) [⟨(some 20), .fadr 2 (.tmp 1)⟩, ⟨(some 21), .load none (.tmp 20)⟩, ⟨(some 22), .bin .neq (.tmp 21) (.c (.str []))⟩, ⟨(some 27), .sc 23 true (.tmp 22) [⟨(some 24), .fadr 3 (.tmp 1)⟩, ⟨(some 25), .load none (.tmp 24)⟩, ⟨(some 26), .un .not (.tmp 25)⟩] (.tmp 26)⟩] (.tmp 27)⟩,
 ⟨(some 2), .mov (.tmp 28)⟩])
 .ret))
def af170 : AFunc := ⟨29, [.tmp 2], af170b, false⟩

/-- slices.IndexFunc[[]string,string] -/
def af171l0 : ACode :=
 (.seq
 (.reg [⟨(some 9), .bin .lss (.tmp 8) (.tmp 7)⟩])
 (.seq
 (.cond (.tmp 9)
 .skip
 (.exit 0))
 (.seq
 (.blk 1
 (.seq
 (.reg [⟨(some 10), .mov (.tmp 8)⟩,
 ⟨(some 5), .mov (.tmp 10)⟩])
 (.seq
 (.reg [⟨(some 11), .mov (.tmp 1)⟩,
 ⟨(some 12), .mov (.tmp 0)⟩,
 ⟨(some 13), .mov (.tmp 5)⟩,
 ⟨(some 14), .iadr 1 (.tmp 12) (.tmp 13)⟩,
 ⟨(some 15), .load none (.tmp 14)⟩,
 ⟨(some 16), .call false false (.tmp 11) [(.tmp 15)]⟩])
 (.cond (.tmp 16)
 (.seq
 (.reg [⟨(some 17), .mov (.tmp 5)⟩,
 ⟨(some 4), .mov (.tmp 17)⟩])
 .ret)
 .skip))))
 (.reg [⟨(some 18), .bin .add (.tmp 8) (.c (.int .i64 1))⟩,
 ⟨(some 8), .mov (.tmp 18)⟩]))))
def af171b : ACode :=
 (.seq
 (.reg [⟨(some 4), .mov (.c (.int .i64 0))⟩])
 (.seq
 (.seq
 (.reg [⟨(some 6), .mov (.tmp 0)⟩,
 ⟨(some 7), .len 1 (.tmp 6)⟩,
 ⟨(some 8), .mov (.c (.int .i64 0))⟩])
 (.blk 0
 (.loop false af171l0)))
 (.seq
 (.reg [⟨(some 4), .mov (.c (.int .i64 (-1)))⟩])
 .ret)))
def af171 : AFunc := ⟨19, [.tmp 4], af171b, false⟩

/-- cascade/text.Bad -/
def af172l0 : ACode :=
 (.seq
 (.reg [⟨(some 9), .nxt (.tmp 8)⟩,
 ⟨(some 10), .ext (.tmp 9) 0⟩])
 (.seq
 (.cond (.tmp 10)
 .skip
 (.exit 0))
 (.blk 1
 (.seq
 (.reg [⟨(some 11), .ext (.tmp 9) 1⟩,
 ⟨(some 12), .ext (.tmp 9) 2⟩,
 ⟨(some 3), .mov (.tmp 11)⟩,
 ⟨(some 4), .mov (.tmp 12)⟩])
 (.seq
 (.seq
 (.reg [⟨(some 13), .mov (.tmp 4)⟩,
 ⟨(some 14), .bin .neq (.tmp 13) (.c (.int .i32 65533))⟩])
 (.cond (.tmp 14)
 (.exit 1)
 .skip))
 (.seq
 (.reg [⟨(some 16), .mov (.tmp 0)⟩,
 ⟨(some 17), .mov (.tmp 3)⟩,
 ⟨(some 18), .slcS (.tmp 16) (some (.tmp 17)) none⟩,
 ⟨(some 19), .call false false (.c (.fn (.func 240) [] [])) [(.tmp 18)]⟩,
 ⟨(some 15), .mov (.tmp 19)⟩,
 ⟨(some 20), .ext (.tmp 15) 0⟩,
 ⟨(some 21), .ext (.tmp 15) 1⟩,
 ⟨(some 5), .mov (.tmp 20)⟩,
 ⟨(some 6), .mov (.tmp 21)⟩])
 (.seq
 (.reg [⟨(some 22), .mov (.tmp 6)⟩,
 ⟨(some 23), .bin .eql (.tmp 22) (.c (.int .i64 1))⟩])
 (.cond (.tmp 23)
 (.seq
 (.reg [⟨(some 24), .mov (.tmp 3)⟩,
 ⟨(some 2), .mov (.tmp 24)⟩])
 .ret)
 .skip))))))))
def af172b : ACode :=
 (.seq
 (.reg [⟨(some 2), .mov (.c (.int .i64 0))⟩])
 (.seq
 (.seq
 (.reg [⟨(some 7), .mov (.tmp 0)⟩,
 ⟨(some 8), .rng (.tmp 7)⟩])
 (.blk 0
 (.loop false af172l0)))
 (.seq
 (.reg [⟨(some 2), .mov (.c (.int .i64 (-1)))⟩])
 .ret)))
def af172 : AFunc := ⟨25, [.tmp 2], af172b, false⟩

/-- cascade/chunk.readPending -/
def af173l0 : ACode :=
 (.seq
 (.reg [⟨(some 14), .bin .lss (.tmp 13) (.tmp 12)⟩])
 (.seq
 (.cond (.tmp 14)
 .skip
 (.exit 0))
 (.seq
 (.blk 1
 (.seq
 (.reg [⟨(some 15), .iadr 5 (.tmp 11) (.tmp 13)⟩,
 ⟨(some 16), .load (some 5) (.tmp 15)⟩,
 ⟨(some 5), .new 46 [(.int .i64 0), (.int .i64 0), (.str []), (.sl .nil []), (.sl .nil [])]⟩,
 ⟨none, .store 5 (.tmp 5) (.tmp 16)⟩])
 (.seq
 (.reg [⟨(some 18), .load (some 5) (.tmp 5)⟩,
 ⟨(some 19), .call false false (.c (.fn (.func 174) [] [])) [(.tmp 18), (.c (.str [112, 97, 116, 104]))]⟩,
 ⟨(some 20), .call false false (.c (.fn (.func 241) [] [])) [(.tmp 19)]⟩,
 ⟨(some 17), .mov (.tmp 20)⟩,
 ⟨(some 21), .ext (.tmp 17) 0⟩,
 ⟨(some 22), .ext (.tmp 17) 1⟩,
 ⟨(some 6), .mov (.tmp 21)⟩,
 ⟨(some 7), .mov (.tmp 22)⟩])
 (.seq
 (.reg [⟨(some 24), .load (some 5) (.tmp 5)⟩,
 ⟨(some 25), .call false false (.c (.fn (.func 175) [] [])) [(.tmp 24), (.c (.str [108, 97, 98, 101, 108]))]⟩,
 ⟨(some 23), .mov (.tmp 25)⟩,
 ⟨(some 26), .ext (.tmp 23) 0⟩,
 ⟨(some 27), .ext (.tmp 23) 1⟩,
 ⟨(some 8), .new 46 [(.int .i64 0), (.int .i64 0), (.str []), (.sl .nil []), (.sl .nil [])]⟩,
 ⟨none, .store 5 (.tmp 8) (.tmp 26)⟩,
 ⟨(some 9), .mov (.tmp 27)⟩])
 (.regD [] [⟨(some 28), .mov (.tmp 3)⟩,
 ⟨(some 29), .load (some 5) (.tmp 5)⟩,
 ⟨(some 30), .call false true (.c (.fn (.func 174) [] [])) [(.tmp 29), (.c (.str [105, 100]))]⟩,
 ⟨(some 31), .call false true (.c (.fn (.func 178) [] [])) [(.tmp 30)]⟩,
 ⟨(some 32), .mov (.tmp 6)⟩,
 ⟨(some 33), .fadr 2 (.tmp 8)⟩,
 ⟨(some 34), .load none (.tmp 33)⟩,
 ⟨(some 35), .mov (.tmp 9)⟩,
 ⟨(some 36), .build [(.int .i64 0), (.sl .nil []), (.str []), (.bool false)] [(0, 1, (.tmp 31)), (1, 1, (.tmp 32)), (2, 1, (.tmp 34)), (3, 1, (.tmp 35))]⟩,
 ⟨(some 37), .bsl 4 (.agg [(.int .i64 0), (.sl .nil []), (.str []), (.bool false)]) 1 [(0, (.tmp 36))]⟩,
 ⟨(some 38), .app false 4 (56, 148) (.tmp 28) (.tmp 37)⟩,
 ⟨(some 3), .mov (.tmp 38)⟩])))))
 (.reg [⟨(some 39), .bin .add (.tmp 13) (.c (.int .i64 1))⟩,
 ⟨(some 13), .mov (.tmp 39)⟩]))))
def af173b : ACode :=
 (.seq
 (.reg [⟨(some 1), .box 46 (.tmp 0)⟩,
 ⟨(some 2), .mov (.c (.sl .nil []))⟩])
 (.seq
 (.reg [⟨(some 3), .mov (.c (.sl .nil []))⟩])
 (.seq
 (.seq
 (.reg [⟨(some 10), .fadr 3 (.tmp 1)⟩,
 ⟨(some 11), .load none (.tmp 10)⟩,
 ⟨(some 12), .len 1 (.tmp 11)⟩,
 ⟨(some 13), .mov (.c (.int .i64 0))⟩])
 (.blk 0
 (.loop false af173l0)))
 (.seq
 (.reg [⟨(some 40), .mov (.tmp 3)⟩,
 ⟨(some 2), .mov (.tmp 40)⟩])
 .ret))))
def af173 : AFunc := ⟨41, [.tmp 2], af173b, false⟩

/-- cascade/chunk.at -/
def af174b : ACode :=
 (.seq
 (.reg [⟨(some 2), .box 46 (.tmp 0)⟩,
 ⟨(some 4), .new 46 [(.int .i64 0), (.int .i64 0), (.str []), (.sl .nil []), (.sl .nil [])]⟩])
 (.seq
 (.reg [⟨(some 8), .load (some 5) (.tmp 2)⟩,
 ⟨(some 9), .mov (.tmp 1)⟩,
 ⟨(some 10), .call false false (.c (.fn (.func 175) [] [])) [(.tmp 8), (.tmp 9)]⟩,
 ⟨(some 7), .mov (.tmp 10)⟩,
 ⟨(some 11), .ext (.tmp 7) 0⟩,
 ⟨(some 12), .ext (.tmp 7) 1⟩,
 ⟨(some 5), .new 46 [(.int .i64 0), (.int .i64 0), (.str []), (.sl .nil []), (.sl .nil [])]⟩,
 ⟨none, .store 5 (.tmp 5) (.tmp 11)⟩,
 ⟨(some 6), .mov (.tmp 12)⟩])
 (.seq
 (.reg [⟨(some 13), .load (some 5) (.tmp 5)⟩,
 ⟨none, .store 5 (.tmp 4) (.tmp 13)⟩])
 .ret)))
def af174 : AFunc := ⟨14, [.cell 4 (some 5)], af174b, false⟩

/-- cascade/chunk.get -/
def af175l0 : ACode :=
 (.seq
 (.reg [⟨(some 12), .bin .lss (.tmp 11) (.tmp 10)⟩])
 (.seq
 (.cond (.tmp 12)
 .skip
 (.exit 0))
 (.seq
 (.blk 1
 (.seq
 (.reg [⟨(some 13), .iadr 6 (.tmp 9) (.tmp 11)⟩,
 ⟨(some 14), .load (some 6) (.tmp 13)⟩,
 ⟨(some 7), .new 63 [(.str []), (.int .i64 0), (.int .i64 0), (.str []), (.sl .nil []), (.sl .nil [])]⟩,
 ⟨none, .store 6 (.tmp 7) (.tmp 14)⟩])
 (.seq
 (.reg [⟨(some 15), .fadr 0 (.tmp 7)⟩,
 ⟨(some 16), .load none (.tmp 15)⟩,
 ⟨(some 17), .mov (.tmp 1)⟩,
 ⟨(some 18), .bin .eql (.tmp 16) (.tmp 17)⟩])
 (.cond (.tmp 18)
 (.seq
 (.reg [⟨(some 19), .fadr 1 (.tmp 7)⟩,
 ⟨(some 20), .load (some 5) (.tmp 19)⟩,
 ⟨none, .store 5 (.tmp 4) (.tmp 20)⟩,
 ⟨(some 5), .mov (.c (.bool true))⟩])
 .ret)
 .skip))))
 (.reg [⟨(some 21), .bin .add (.tmp 11) (.c (.int .i64 1))⟩,
 ⟨(some 11), .mov (.tmp 21)⟩]))))
def af175b : ACode :=
 (.seq
 (.reg [⟨(some 2), .box 46 (.tmp 0)⟩,
 ⟨(some 4), .new 46 [(.int .i64 0), (.int .i64 0), (.str []), (.sl .nil []), (.sl .nil [])]⟩,
 ⟨(some 5), .mov (.c (.bool false))⟩])
 (.seq
 (.seq
 (.reg [⟨(some 8), .fadr 4 (.tmp 2)⟩,
 ⟨(some 9), .load none (.tmp 8)⟩,
 ⟨(some 10), .len 1 (.tmp 9)⟩,
 ⟨(some 11), .mov (.c (.int .i64 0))⟩])
 (.blk 0
 (.loop false af175l0)))
 (.seq
 (.reg [⟨(some 22), .build [(.int .i64 0), (.int .i64 0), (.str []), (.sl .nil []), (.sl .nil [])] []⟩,
 ⟨none, .store 5 (.tmp 4) (.tmp 22)⟩,
 ⟨(some 5), .mov (.c (.bool false))⟩])
 .ret)))
def af175 : AFunc := ⟨23, [.cell 4 (some 5), .tmp 5], af175b, false⟩

/-- cascade/chunk.readErrs -/
def af176l0 : ACode :=
 (.seq
 (.reg [⟨(some 12), .bin .lss (.tmp 11) (.tmp 10)⟩])
 (.seq
 (.cond (.tmp 12)
 .skip
 (.exit 0))
 (.seq
 (.blk 1
 (.seq
 (.reg [⟨(some 13), .iadr 5 (.tmp 9) (.tmp 11)⟩,
 ⟨(some 14), .load (some 5) (.tmp 13)⟩,
 ⟨(some 5), .new 46 [(.int .i64 0), (.int .i64 0), (.str []), (.sl .nil []), (.sl .nil [])]⟩,
 ⟨none, .store 5 (.tmp 5) (.tmp 14)⟩])
 (.seq
 (.reg [⟨(some 16), .load (some 5) (.tmp 5)⟩,
 ⟨(some 17), .call false false (.c (.fn (.func 174) [] [])) [(.tmp 16), (.c (.str [112, 97, 116, 104]))]⟩,
 ⟨(some 18), .call false false (.c (.fn (.func 241) [] [])) [(.tmp 17)]⟩,
 ⟨(some 15), .mov (.tmp 18)⟩,
 ⟨(some 19), .ext (.tmp 15) 0⟩,
 ⟨(some 20), .ext (.tmp 15) 1⟩,
 ⟨(some 6), .mov (.tmp 19)⟩,
 ⟨(some 7), .mov (.tmp 20)⟩])
 (.reg [⟨(some 21), .mov (.tmp 3)⟩,
 ⟨(some 22), .mov (.tmp 6)⟩,
 ⟨(some 23), .load (some 5) (.tmp 5)⟩,
 ⟨(some 24), .call false false (.c (.fn (.func 174) [] [])) [(.tmp 23), (.c (.str [99, 111, 100, 101]))]⟩,
 ⟨(some 25), .fld 1 none (.tmp 24)⟩,
 ⟨(some 26), .build [(.sl .nil []), (.int .i64 0)] [(0, 1, (.tmp 22)), (1, 1, (.tmp 25))]⟩,
 ⟨(some 27), .bsl 2 (.agg [(.sl .nil []), (.int .i64 0)]) 1 [(0, (.tmp 26))]⟩,
 ⟨(some 28), .app false 2 (32, 146) (.tmp 21) (.tmp 27)⟩,
 ⟨(some 3), .mov (.tmp 28)⟩]))))
 (.reg [⟨(some 29), .bin .add (.tmp 11) (.c (.int .i64 1))⟩,
 ⟨(some 11), .mov (.tmp 29)⟩]))))
def af176b : ACode :=
 (.seq
 (.reg [⟨(some 1), .box 46 (.tmp 0)⟩,
 ⟨(some 2), .mov (.c (.sl .nil []))⟩])
 (.seq
 (.reg [⟨(some 3), .mov (.c (.sl .nil []))⟩])
 (.seq
 (.seq
 (.reg [⟨(some 8), .fadr 3 (.tmp 1)⟩,
 ⟨(some 9), .load none (.tmp 8)⟩,
 ⟨(some 10), .len 1 (.tmp 9)⟩,
 ⟨(some 11), .mov (.c (.int .i64 0))⟩])
 (.blk 0
 (.loop false af176l0)))
 (.seq
 (.reg [⟨(some 30), .mov (.tmp 3)⟩,
 ⟨(some 2), .mov (.tmp 30)⟩])
 .ret))))
def af176 : AFunc := ⟨31, [.tmp 2], af176b, false⟩

/-- cascade/chunk.one -/
def af177b : ACode :=
 (.seq
 (.reg [⟨(some 1), .box 46 (.tmp 0)⟩,
 ⟨(some 2), .new 46 [(.int .i64 0), (.int .i64 0), (.str []), (.sl .nil []), (.sl .nil [])]⟩])
 (.seq
 (.seq
 (.reg [⟨(some 3), .fadr 3 (.tmp 1)⟩,
 ⟨(some 4), .load none (.tmp 3)⟩,
 ⟨(some 5), .len 1 (.tmp 4)⟩,
 ⟨(some 6), .bin .eql (.tmp 5) (.c (.int .i64 0))⟩])
 (.cond (.tmp 6)
 (.seq
 (.reg [⟨(some 7), .build [(.int .i64 0), (.int .i64 0), (.str []), (.sl .nil []), (.sl .nil [])] []⟩,
 ⟨none, .store 5 (.tmp 2) (.tmp 7)⟩])
 .ret)
 .skip))
 (.seq
 (.reg [⟨(some 8), .fadr 3 (.tmp 1)⟩,
 ⟨(some 9), .load none (.tmp 8)⟩,
 ⟨(some 10), .iadr 5 (.tmp 9) (.c (.int .i64 0))⟩,
 ⟨(some 11), .load (some 5) (.tmp 10)⟩,
 ⟨none, .store 5 (.tmp 2) (.tmp 11)⟩])
 .ret)))
def af177 : AFunc := ⟨12, [.cell 2 (some 5)], af177b, false⟩

/-- cascade/chunk.readId -/
def af178b : ACode :=
 (.seq
 (.reg [⟨(some 1), .box 46 (.tmp 0)⟩,
 ⟨(some 2), .mov (.c (.int .i64 0))⟩])
 (.seq
 (.reg [⟨(some 6), .fadr 2 (.tmp 1)⟩,
 ⟨(some 7), .load none (.tmp 6)⟩,
 ⟨(some 8), .call false false (.c (.fn (.func 242) [] [])) [(.tmp 7)]⟩,
 ⟨(some 5), .mov (.tmp 8)⟩,
 ⟨(some 9), .ext (.tmp 5) 0⟩,
 ⟨(some 10), .ext (.tmp 5) 1⟩,
 ⟨(some 3), .mov (.tmp 9)⟩,
 ⟨(some 4), .mov (.tmp 10)⟩])
 (.seq
 (.seq
 (.reg [⟨(some 11), .mov (.tmp 4)⟩,
 ⟨(some 12), .eqn false true (.tmp 11)⟩])
 (.cond (.tmp 12)
 (.seq
 (.reg [⟨(some 2), .mov (.c (.int .i64 (-1)))⟩])
 .ret)
 .skip))
 (.seq
 (.reg [⟨(some 13), .mov (.tmp 3)⟩,
 ⟨(some 2), .mov (.tmp 13)⟩])
 .ret))))
def af178 : AFunc := ⟨14, [.tmp 2], af178b, false⟩

/-- cascade/tree.same -/
def af179b : ACode :=
 (.seq
 (.reg [⟨(some 2), .box 46 (.tmp 0)⟩,
 ⟨(some 3), .box 46 (.tmp 1)⟩,
 ⟨(some 4), .mov (.c (.bool false))⟩])
 (.seq
 (.reg [⟨(some 5), .mov (.c (.fn (.func 243) [] []))⟩])
 (.seq
 (.reg [⟨(some 6), .fadr 0 (.tmp 2)⟩,
 ⟨(some 7), .load none (.tmp 6)⟩,
 ⟨(some 8), .fadr 0 (.tmp 3)⟩,
 ⟨(some 9), .load none (.tmp 8)⟩,
 ⟨(some 10), .bin .eql (.tmp 7) (.tmp 9)⟩,
 ⟨(some 17), .sc 11 true (.tmp 10) [⟨(some 12), .fadr 1 (.tmp 2)⟩, ⟨(some 13), .load none (.tmp 12)⟩, ⟨(some 14), .fadr 1 (.tmp 3)⟩, ⟨(some 15), .load none (.tmp 14)⟩, ⟨(some 16), .bin .eql (.tmp 13) (.tmp 15)⟩] (.tmp 16)⟩,
 ⟨(some 24), .sc 18 true (.tmp 17) [⟨(some 19), .fadr 2 (.tmp 2)⟩, ⟨(some 20), .load none (.tmp 19)⟩, ⟨(some 21), .fadr 2 (.tmp 3)⟩, ⟨(some 22), .load none (.tmp 21)⟩, ⟨(some 23), .bin .eql (.tmp 20) (.tmp 22)⟩] (.tmp 23)⟩,
 ⟨(some 31), .sc 25 true (.tmp 24) [⟨(some 26), .fadr 3 (.tmp 2)⟩, ⟨(some 27), .load none (.tmp 26)⟩, ⟨(some 28), .fadr 3 (.tmp 3)⟩, ⟨(some 29), .load none (.tmp 28)⟩, ⟨(some 30), .call false false (.c (.fn (.func 244) [] [])) [(.tmp 27), (.tmp 29), (.c (.fn (.func 179) [] []))]⟩] (.tmp 30)⟩,
 ⟨(some 39), .sc 32 true (.tmp 31) [⟨(some 33), .fadr 4 (.tmp 2)⟩, ⟨(some 34), .load none (.tmp 33)⟩, ⟨(some 35), .fadr 4 (.tmp 3)⟩, ⟨(some 36), .load none (.tmp 35)⟩, ⟨(some 37), .mov (.tmp 5)⟩, ⟨(some 38), .call false false (.c (.fn (.func 245) [] [])) [(.tmp 34), (.tmp 36), (.tmp 37)]⟩] (.tmp 38)⟩,
 ⟨(some 4), .mov (.tmp 39)⟩])
 .ret)))
def af179 : AFunc := ⟨40, [.tmp 4], af179b, false⟩

/-- cascade/cascaderef01.Size -/
def af229l0 : ACode :=
 (.seq
 (.seq
 (.reg [⟨(some 55), .mov (.tmp 10)⟩,
 ⟨(some 56), .mov (.tmp 7)⟩,
 ⟨(some 57), .bin .lss (.tmp 55) (.tmp 56)⟩])
 (.cond (.tmp 57)
 .skip
 (.exit 0)))
 (.seq
 (.blk 1
 (.seq
 (.reg [⟨(some 60), .mov (.tmp 0)⟩,
 ⟨(some 61), .mov (.tmp 1)⟩,
 ⟨(some 62), .mov (.tmp 10)⟩,
 ⟨(some 63), .bin .add (.tmp 61) (.tmp 62)⟩,
 ⟨(some 64), .idx (.tmp 60) (.tmp 63)⟩,
 ⟨(some 65), .cvI .i64 (.tmp 64)⟩,
 ⟨(some 11), .mov (.tmp 65)⟩])
 (.seq
 (.seq
 (.reg [⟨(some 66), .mov (.tmp 11)⟩,
 ⟨(some 67), .bin .lss (.tmp 66) (.c (.int .i64 128))⟩,
 ⟨(some 71), .sc 68 false (.tmp 67) [⟨(some 69), .mov (.tmp 11)⟩, ⟨(some 70), .bin .geq (.tmp 69) (.c (.int .i64 192))⟩] (.tmp 70)⟩])
 (.cond (.tmp 71)
 (.seq
 (.reg [⟨(some 4), .mov (.c (.int .i64 0))⟩,
 ⟨(some 5), .mov (.c (.int .i32 0))⟩])
 .ret)
 .skip))
 (.reg [⟨(some 72), .mov (.tmp 8)⟩,
 ⟨(some 73), .bin .mul (.tmp 72) (.c (.int .i64 64))⟩,
 ⟨(some 74), .mov (.tmp 11)⟩,
 ⟨(some 75), .bin .add (.tmp 73) (.tmp 74)⟩,
 ⟨(some 76), .bin .sub (.tmp 75) (.c (.int .i64 128))⟩,
 ⟨(some 8), .mov (.tmp 76)⟩]))))
 (.reg [⟨(some 58), .mov (.tmp 10)⟩,
 ⟨(some 59), .bin .add (.tmp 58) (.c (.int .i64 1))⟩,
 ⟨(some 10), .mov (.tmp 59)⟩])))
def af229b : ACode :=
 (.seq
 (.reg [⟨(some 4), .mov (.c (.int .i64 0))⟩,
 ⟨(some 5), .mov (.c (.int .i32 0))⟩])
 (.seq
 (.reg [⟨(some 12), .mov (.tmp 0)⟩,
 ⟨(some 13), .mov (.tmp 1)⟩,
 ⟨(some 14), .idx (.tmp 12) (.tmp 13)⟩,
 ⟨(some 15), .cvI .i64 (.tmp 14)⟩,
 ⟨(some 6), .mov (.tmp 15)⟩])
 (.seq
 (.reg [⟨(some 7), .mov (.c (.int .i64 0))⟩,
 ⟨(some 8), .mov (.c (.int .i64 0))⟩,
 ⟨(some 9), .mov (.c (.int .i64 0))⟩])
 (.seq
 (.seq
 (.reg [⟨(some 16), .mov (.tmp 6)⟩,
 ⟨(some 17), .bin .lss (.tmp 16) (.c (.int .i64 128))⟩])
 (.cond (.tmp 17)
 (.seq
 (.reg [⟨(some 18), .mov (.tmp 6)⟩,
 ⟨(some 19), .cvI .i32 (.tmp 18)⟩,
 ⟨(some 4), .mov (.c (.int .i64 1))⟩,
 ⟨(some 5), .mov (.tmp 19)⟩])
 .ret)
 .skip))
 (.seq
 (.seq
 (.reg [⟨(some 20), .mov (.tmp 6)⟩,
 ⟨(some 21), .bin .geq (.tmp 20) (.c (.int .i64 194))⟩,
 ⟨(some 25), .sc 22 true (.tmp 21) [⟨(some 23), .mov (.tmp 6)⟩, ⟨(some 24), .bin .lss (.tmp 23) (.c (.int .i64 224))⟩] (.tmp 24)⟩])
 (.cond (.tmp 25)
 (.seq
 (.reg [⟨(some 7), .mov (.c (.int .i64 2))⟩])
 (.seq
 (.reg [⟨(some 26), .mov (.tmp 6)⟩,
 ⟨(some 27), .bin .sub (.tmp 26) (.c (.int .i64 192))⟩,
 ⟨(some 8), .mov (.tmp 27)⟩])
 (.reg [⟨(some 9), .mov (.c (.int .i64 128))⟩])))
 .skip))
 (.seq
 (.seq
 (.reg [⟨(some 28), .mov (.tmp 6)⟩,
 ⟨(some 29), .bin .geq (.tmp 28) (.c (.int .i64 224))⟩,
 ⟨(some 33), .sc 30 true (.tmp 29) [⟨(some 31), .mov (.tmp 6)⟩, ⟨(some 32), .bin .lss (.tmp 31) (.c (.int .i64 240))⟩] (.tmp 32)⟩])
 (.cond (.tmp 33)
 (.seq
 (.reg [⟨(some 7), .mov (.c (.int .i64 3))⟩])
 (.seq
 (.reg [⟨(some 34), .mov (.tmp 6)⟩,
 ⟨(some 35), .bin .sub (.tmp 34) (.c (.int .i64 224))⟩,
 ⟨(some 8), .mov (.tmp 35)⟩])
 (.reg [⟨(some 9), .mov (.c (.int .i64 2048))⟩])))
 .skip))
 (.seq
 (.seq
 (.reg [⟨(some 36), .mov (.tmp 6)⟩,
 ⟨(some 37), .bin .geq (.tmp 36) (.c (.int .i64 240))⟩,
 ⟨(some 41), .sc 38 true (.tmp 37) [⟨(some 39), .mov (.tmp 6)⟩, ⟨(some 40), .bin .lss (.tmp 39) (.c (.int .i64 245))⟩] (.tmp 40)⟩])
 (.cond (.tmp 41)
 (.seq
 (.reg [⟨(some 7), .mov (.c (.int .i64 4))⟩])
 (.seq
 (.reg [⟨(some 42), .mov (.tmp 6)⟩,
 ⟨(some 43), .bin .sub (.tmp 42) (.c (.int .i64 240))⟩,
 ⟨(some 8), .mov (.tmp 43)⟩])
 (.reg [⟨(some 9), .mov (.c (.int .i64 65536))⟩])))
 .skip))
 (.seq
 (.seq
 (.reg [⟨(some 44), .mov (.tmp 7)⟩,
 ⟨(some 45), .bin .eql (.tmp 44) (.c (.int .i64 0))⟩,
 ⟨(some 54), .sc 46 false (.tmp 45) [⟨(some 47), .mov (.tmp 1)⟩, ⟨(some 48), .mov (.tmp 0)⟩, ⟨(some 49), .len 0 (.tmp 48)⟩, ⟨(some 50), .mov (.tmp 7)⟩, ⟨(some 51), .bin .sub (.tmp 49) (.tmp 50)⟩, ⟨(some 52), .bin .add (.tmp 51) (.c (.int .i64 1))⟩, ⟨(some 53), .bin .geq (.tmp 47) (.tmp 52)⟩] (.tmp 53)⟩])
 (.cond (.tmp 54)
 (.seq
 (.reg [⟨(some 4), .mov (.c (.int .i64 0))⟩,
 ⟨(some 5), .mov (.c (.int .i32 0))⟩])
 .ret)
 .skip))
 (.seq
 (.seq
 (.reg [⟨(some 10), .mov (.c (.int .i64 1))⟩])
 (.blk 0
 (.loop false af229l0)))
 (.seq
 (.seq
 (.reg [⟨(some 77), .mov (.tmp 8)⟩,
 ⟨(some 78), .mov (.tmp 9)⟩,
 ⟨(some 79), .bin .lss (.tmp 77) (.tmp 78)⟩,
 ⟨(some 83), .sc 80 false (.tmp 79) [⟨(some 81), .mov (.tmp 8)⟩, ⟨(some 82), .bin .gtr (.tmp 81) (.c (.int .i64 1114111))⟩] (.tmp 82)⟩,
 ⟨(some 91), .sc 84 false (.tmp 83) [⟨(some 85), .mov (.tmp 8)⟩, ⟨(some 86), .bin .geq (.tmp 85) (.c (.int .i64 55296))⟩, ⟨(some 90), .sc 87 true (.tmp 86) [⟨(some 88), .mov (.tmp 8)⟩, ⟨(some 89), .bin .lss (.tmp 88) (.c (.int .i64 57344))⟩] (.tmp 89)⟩] (.tmp 90)⟩])
 (.cond (.tmp 91)
 (.seq
 (.reg [⟨(some 4), .mov (.c (.int .i64 0))⟩,
 ⟨(some 5), .mov (.c (.int .i32 0))⟩])
 .ret)
 .skip))
 (.seq
 (.reg [⟨(some 92), .mov (.tmp 7)⟩,
 ⟨(some 93), .mov (.tmp 8)⟩,
 ⟨(some 94), .cvI .i32 (.tmp 93)⟩,
 ⟨(some 4), .mov (.tmp 92)⟩,
 ⟨(some 5), .mov (.tmp 94)⟩])
 .ret)))))))))))
def af229 : AFunc := ⟨95, [.tmp 4, .tmp 5], af229b, false⟩

/-- cascade/path.Value -/
def af230l0 : ACode :=
 (.seq
 (.reg [⟨(some 15), .bin .lss (.tmp 14) (.tmp 13)⟩])
 (.seq
 (.cond (.tmp 15)
 .skip
 (.exit 0))
 (.seq
 (.blk 1
 (.seq
 (.reg [⟨(some 16), .iadr 3 (.tmp 12) (.tmp 14)⟩,
 ⟨(some 17), .load (some 3) (.tmp 16)⟩,
 ⟨(some 6), .new 214 [(.str []), (.int .i64 0), (.bool false)]⟩,
 ⟨none, .store 3 (.tmp 6) (.tmp 17)⟩])
 (.seq
 (.reg [⟨(some 18), .fadr 2 (.tmp 6)⟩,
 ⟨(some 19), .load none (.tmp 18)⟩])
 (.cond (.tmp 19)
 (.reg [⟨(some 20), .fadr 3 (.tmp 4)⟩,
 ⟨(some 21), .load none (.tmp 20)⟩,
 ⟨(some 22), .fadr 1 (.tmp 6)⟩,
 ⟨(some 23), .load none (.tmp 22)⟩,
 ⟨(some 24), .build [(.int .i64 0), (.int .i64 0), (.str []), (.sl .nil []), (.sl .nil [])] [(0, 1, (.c (.int .i64 2))), (1, 1, (.tmp 23))]⟩,
 ⟨(some 25), .bsl 5 (.agg [(.int .i64 0), (.int .i64 0), (.str []), (.sl .nil []), (.sl .nil [])]) 1 [(0, (.tmp 24))]⟩,
 ⟨(some 26), .app false 5 (80, 46) (.tmp 21) (.tmp 25)⟩,
 ⟨(some 27), .fadr 3 (.tmp 4)⟩,
 ⟨none, .store 1 (.tmp 27) (.tmp 26)⟩])
 (.reg [⟨(some 28), .fadr 3 (.tmp 4)⟩,
 ⟨(some 29), .load none (.tmp 28)⟩,
 ⟨(some 30), .fadr 0 (.tmp 6)⟩,
 ⟨(some 31), .load none (.tmp 30)⟩,
 ⟨(some 32), .build [(.int .i64 0), (.int .i64 0), (.str []), (.sl .nil []), (.sl .nil [])] [(0, 1, (.c (.int .i64 3))), (2, 1, (.tmp 31))]⟩,
 ⟨(some 33), .bsl 5 (.agg [(.int .i64 0), (.int .i64 0), (.str []), (.sl .nil []), (.sl .nil [])]) 1 [(0, (.tmp 32))]⟩,
 ⟨(some 34), .app false 5 (80, 46) (.tmp 29) (.tmp 33)⟩,
 ⟨(some 35), .fadr 3 (.tmp 4)⟩,
 ⟨none, .store 1 (.tmp 35) (.tmp 34)⟩])))))
 (.reg [⟨(some 36), .bin .add (.tmp 14) (.c (.int .i64 1))⟩,
 ⟨(some 14), .mov (.tmp 36)⟩]))))
def af230b : ACode :=
 (.seq
 (.reg [⟨(some 2), .new 46 [(.int .i64 0), (.int .i64 0), (.str []), (.sl .nil []), (.sl .nil [])]⟩,
 ⟨(some 3), .mov (.c (.int .i64 0))⟩])
 (.seq
 (.seq
 (.reg [⟨(some 7), .mov (.tmp 0)⟩,
 ⟨(some 8), .call false false (.c (.fn (.func 168) [] [])) [(.tmp 7)]⟩,
 ⟨(some 9), .un .not (.tmp 8)⟩])
 (.cond (.tmp 9)
 (.seq
 (.reg [⟨(some 10), .build [(.int .i64 0), (.int .i64 0), (.str []), (.sl .nil []), (.sl .nil [])] []⟩,
 ⟨none, .store 5 (.tmp 2) (.tmp 10)⟩,
 ⟨(some 3), .mov (.c (.int .i64 1))⟩])
 .ret)
 .skip))
 (.seq
 (.reg [⟨(some 11), .build [(.int .i64 0), (.int .i64 0), (.str []), (.sl .nil []), (.sl .nil [])] [(0, 1, (.c (.int .i64 4)))]⟩,
 ⟨(some 4), .new 46 [(.int .i64 0), (.int .i64 0), (.str []), (.sl .nil []), (.sl .nil [])]⟩,
 ⟨none, .store 5 (.tmp 4) (.tmp 11)⟩])
 (.seq
 (.seq
 (.reg [⟨(some 12), .mov (.tmp 0)⟩,
 ⟨(some 13), .len 1 (.tmp 12)⟩,
 ⟨(some 14), .mov (.c (.int .i64 0))⟩])
 (.blk 0
 (.loop false af230l0)))
 (.seq
 (.reg [⟨(some 37), .load (some 5) (.tmp 4)⟩,
 ⟨none, .store 5 (.tmp 2) (.tmp 37)⟩,
 ⟨(some 3), .mov (.c (.int .i64 0))⟩])
 .ret)))))
def af230 : AFunc := ⟨38, [.cell 2 (some 5), .tmp 3], af230b, false⟩

/-- cascade/chunk.str -/
def af231b : ACode :=
 (.seq
 (.reg [⟨(some 2), .new 46 [(.int .i64 0), (.int .i64 0), (.str []), (.sl .nil []), (.sl .nil [])]⟩])
 (.seq
 (.reg [⟨(some 3), .mov (.tmp 0)⟩,
 ⟨(some 4), .build [(.int .i64 0), (.int .i64 0), (.str []), (.sl .nil []), (.sl .nil [])] [(0, 1, (.c (.int .i64 3))), (2, 1, (.tmp 3))]⟩,
 ⟨none, .store 5 (.tmp 2) (.tmp 4)⟩])
 .ret))
def af231 : AFunc := ⟨5, [.cell 2 (some 5)], af231b, false⟩

/-- strconv.Itoa -/
def af232b : ACode :=
 (.seq
 (.reg [⟨(some 2), .mov (.c (.str []))⟩])
 (.seq
 (.reg [⟨(some 3), .mov (.tmp 0)⟩,
 ⟨(some 4), .call false false (.c (.fn (.func 281) [] [])) [(.tmp 3)]⟩,
 ⟨(some 2), .mov (.tmp 4)⟩])
 .ret))
def af232 : AFunc := ⟨5, [.tmp 2], af232b, false⟩

/-- slices.IndexFunc[[]cascade/api.Value,cascade/api.Value] -/
def af233l0 : ACode :=
 (.seq
 (.reg [⟨(some 9), .bin .lss (.tmp 8) (.tmp 7)⟩])
 (.seq
 (.cond (.tmp 9)
 .skip
 (.exit 0))
 (.seq
 (.blk 1
 (.seq
 (.reg [⟨(some 10), .mov (.tmp 8)⟩,
 ⟨(some 5), .mov (.tmp 10)⟩])
 (.seq
 (.reg [⟨(some 11), .mov (.tmp 1)⟩,
 ⟨(some 12), .mov (.tmp 0)⟩,
 ⟨(some 13), .mov (.tmp 5)⟩,
 ⟨(some 14), .iadr 5 (.tmp 12) (.tmp 13)⟩,
 ⟨(some 15), .load (some 5) (.tmp 14)⟩,
 ⟨(some 16), .call false false (.tmp 11) [(.tmp 15)]⟩])
 (.cond (.tmp 16)
 (.seq
 (.reg [⟨(some 17), .mov (.tmp 5)⟩,
 ⟨(some 4), .mov (.tmp 17)⟩])
 .ret)
 .skip))))
 (.reg [⟨(some 18), .bin .add (.tmp 8) (.c (.int .i64 1))⟩,
 ⟨(some 8), .mov (.tmp 18)⟩]))))
def af233b : ACode :=
 (.seq
 (.reg [⟨(some 4), .mov (.c (.int .i64 0))⟩])
 (.seq
 (.seq
 (.reg [⟨(some 6), .mov (.tmp 0)⟩,
 ⟨(some 7), .len 1 (.tmp 6)⟩,
 ⟨(some 8), .mov (.c (.int .i64 0))⟩])
 (.blk 0
 (.loop false af233l0)))
 (.seq
 (.reg [⟨(some 4), .mov (.c (.int .i64 (-1)))⟩])
 .ret)))
def af233 : AFunc := ⟨19, [.tmp 4], af233b, false⟩

/-- slices.IndexFunc[[]cascade/api.Pair,cascade/api.Pair] -/
def af234l0 : ACode :=
 (.seq
 (.reg [⟨(some 9), .bin .lss (.tmp 8) (.tmp 7)⟩])
 (.seq
 (.cond (.tmp 9)
 .skip
 (.exit 0))
 (.seq
 (.blk 1
 (.seq
 (.reg [⟨(some 10), .mov (.tmp 8)⟩,
 ⟨(some 5), .mov (.tmp 10)⟩])
 (.seq
 (.reg [⟨(some 11), .mov (.tmp 1)⟩,
 ⟨(some 12), .mov (.tmp 0)⟩,
 ⟨(some 13), .mov (.tmp 5)⟩,
 ⟨(some 14), .iadr 6 (.tmp 12) (.tmp 13)⟩,
 ⟨(some 15), .load (some 6) (.tmp 14)⟩,
 ⟨(some 16), .call false false (.tmp 11) [(.tmp 15)]⟩])
 (.cond (.tmp 16)
 (.seq
 (.reg [⟨(some 17), .mov (.tmp 5)⟩,
 ⟨(some 4), .mov (.tmp 17)⟩])
 .ret)
 .skip))))
 (.reg [⟨(some 18), .bin .add (.tmp 8) (.c (.int .i64 1))⟩,
 ⟨(some 8), .mov (.tmp 18)⟩]))))
def af234b : ACode :=
 (.seq
 (.reg [⟨(some 4), .mov (.c (.int .i64 0))⟩])
 (.seq
 (.seq
 (.reg [⟨(some 6), .mov (.tmp 0)⟩,
 ⟨(some 7), .len 1 (.tmp 6)⟩,
 ⟨(some 8), .mov (.c (.int .i64 0))⟩])
 (.blk 0
 (.loop false af234l0)))
 (.seq
 (.reg [⟨(some 4), .mov (.c (.int .i64 (-1)))⟩])
 .ret)))
def af234 : AFunc := ⟨19, [.tmp 4], af234b, false⟩

/-- slices.IndexFunc[[]cascade/api.Err,cascade/api.Err] -/
def af235l0 : ACode :=
 (.seq
 (.reg [⟨(some 9), .bin .lss (.tmp 8) (.tmp 7)⟩])
 (.seq
 (.cond (.tmp 9)
 .skip
 (.exit 0))
 (.seq
 (.blk 1
 (.seq
 (.reg [⟨(some 10), .mov (.tmp 8)⟩,
 ⟨(some 5), .mov (.tmp 10)⟩])
 (.seq
 (.reg [⟨(some 11), .mov (.tmp 1)⟩,
 ⟨(some 12), .mov (.tmp 0)⟩,
 ⟨(some 13), .mov (.tmp 5)⟩,
 ⟨(some 14), .iadr 2 (.tmp 12) (.tmp 13)⟩,
 ⟨(some 15), .load (some 2) (.tmp 14)⟩,
 ⟨(some 16), .call false false (.tmp 11) [(.tmp 15)]⟩])
 (.cond (.tmp 16)
 (.seq
 (.reg [⟨(some 17), .mov (.tmp 5)⟩,
 ⟨(some 4), .mov (.tmp 17)⟩])
 .ret)
 .skip))))
 (.reg [⟨(some 18), .bin .add (.tmp 8) (.c (.int .i64 1))⟩,
 ⟨(some 8), .mov (.tmp 18)⟩]))))
def af235b : ACode :=
 (.seq
 (.reg [⟨(some 4), .mov (.c (.int .i64 0))⟩])
 (.seq
 (.seq
 (.reg [⟨(some 6), .mov (.tmp 0)⟩,
 ⟨(some 7), .len 1 (.tmp 6)⟩,
 ⟨(some 8), .mov (.c (.int .i64 0))⟩])
 (.blk 0
 (.loop false af235l0)))
 (.seq
 (.reg [⟨(some 4), .mov (.c (.int .i64 (-1)))⟩])
 .ret)))
def af235 : AFunc := ⟨19, [.tmp 4], af235b, false⟩

/-- slices.ContainsFunc[[]cascade/api.Step,cascade/api.Step] -/
def af236b : ACode :=
 (.seq
 (.reg [⟨(some 4), .mov (.c (.bool false))⟩])
 (.seq
 (.reg [⟨(some 5), .mov (.tmp 0)⟩,
 ⟨(some 6), .mov (.tmp 1)⟩,
 ⟨(some 7), .call false false (.c (.fn (.func 282) [] [])) [(.tmp 5), (.tmp 6)]⟩,
 ⟨(some 8), .bin .geq (.tmp 7) (.c (.int .i64 0))⟩,
 ⟨(some 4), .mov (.tmp 8)⟩])
 .ret))
def af236 : AFunc := ⟨9, [.tmp 4], af236b, false⟩

/-- cascade/path.Right$1 -/
def af237b : ACode :=
 (.seq
 (.reg [⟨(some 1), .box 214 (.tmp 0)⟩,
 ⟨(some 2), .mov (.c (.bool false))⟩])
 (.seq
 (.reg [⟨(some 3), .load (some 3) (.tmp 1)⟩,
 ⟨(some 4), .call false false (.c (.fn (.func 238) [] [])) [(.tmp 3)]⟩,
 ⟨(some 5), .un .not (.tmp 4)⟩,
 ⟨(some 2), .mov (.tmp 5)⟩])
 .ret))
def af237 : AFunc := ⟨6, [.tmp 2], af237b, false⟩

/-- cascade/path.right -/
def af238b : ACode :=
 (.seq
 (.reg [⟨(some 1), .box 214 (.tmp 0)⟩,
 ⟨(some 2), .mov (.c (.bool false))⟩])
 (.seq
 (.seq
 (.reg [⟨(some 3), .fadr 2 (.tmp 1)⟩,
 ⟨(some 4), .load none (.tmp 3)⟩])
 (.cond (.tmp 4)
 (.seq
 (.reg [⟨(some 5), .fadr 0 (.tmp 1)⟩,
 ⟨(some 6), .load none (.tmp 5)⟩,
 ⟨(some 7), .bin .eql (.tmp 6) (.c (.str []))⟩,
 ⟨(some 12), .sc 8 true (.tmp 7) [⟨(some 9), .fadr 1 (.tmp 1)⟩, ⟨(some 10), .load none (.tmp 9)⟩, ⟨(some 11), .bin .geq (.tmp 10) (.c (.int .i64 0))⟩] (.tmp 11)⟩,
 ⟨(some 17), .sc 13 true (.tmp 12) [⟨(some 14), .fadr 1 (.tmp 1)⟩, ⟨(some 15), .load none (.tmp 14)⟩, ⟨(some 16), .bin .leq (.tmp 15) (.c (.int .i64 9007199254740991))⟩] (.tmp 16)⟩,
 ⟨(some 2), .mov (.tmp 17)⟩])
 .ret)
 .skip))
 (.seq
 (.reg [⟨(some 18), .fadr 1 (.tmp 1)⟩,
 ⟨(some 19), .load none (.tmp 18)⟩,
 ⟨(some 20), .bin .eql (.tmp 19) (.c (.int .i64 0))⟩,
 ⟨(some 25), .sc 21 true (.tmp 20) [⟨(some 22), .fadr 0 (.tmp 1)⟩, ⟨(some 23), .load none (.tmp 22)⟩, ⟨(some 24), .call false false (.c (.fn (.func 97) [] [])) [(.tmp 23)]⟩] (.tmp 24)⟩,
 ⟨(some 2), .mov (.tmp 25)⟩])
 .ret)))
def af238 : AFunc := ⟨26, [.tmp 2], af238b, false⟩

/-- slices.IndexFunc[[]cascade/exec.Pending,cascade/exec.Pending] -/
def af239l0 : ACode :=
 (.seq
 (.reg [⟨(some 9), .bin .lss (.tmp 8) (.tmp 7)⟩])
 (.seq
 (.cond (.tmp 9)
 .skip
 (.exit 0))
 (.seq
 (.blk 1
 (.seq
 (.reg [⟨(some 10), .mov (.tmp 8)⟩,
 ⟨(some 5), .mov (.tmp 10)⟩])
 (.seq
 (.reg [⟨(some 11), .mov (.tmp 1)⟩,
 ⟨(some 12), .mov (.tmp 0)⟩,
 ⟨(some 13), .mov (.tmp 5)⟩,
 ⟨(some 14), .iadr 4 (.tmp 12) (.tmp 13)⟩,
 ⟨(some 15), .load (some 4) (.tmp 14)⟩,
 ⟨(some 16), .call false false (.tmp 11) [(.tmp 15)]⟩])
 (.cond (.tmp 16)
 (.seq
 (.reg [⟨(some 17), .mov (.tmp 5)⟩,
 ⟨(some 4), .mov (.tmp 17)⟩])
 .ret)
 .skip))))
 (.reg [⟨(some 18), .bin .add (.tmp 8) (.c (.int .i64 1))⟩,
 ⟨(some 8), .mov (.tmp 18)⟩]))))
def af239b : ACode :=
 (.seq
 (.reg [⟨(some 4), .mov (.c (.int .i64 0))⟩])
 (.seq
 (.seq
 (.reg [⟨(some 6), .mov (.tmp 0)⟩,
 ⟨(some 7), .len 1 (.tmp 6)⟩,
 ⟨(some 8), .mov (.c (.int .i64 0))⟩])
 (.blk 0
 (.loop false af239l0)))
 (.seq
 (.reg [⟨(some 4), .mov (.c (.int .i64 (-1)))⟩])
 .ret)))
def af239 : AFunc := ⟨19, [.tmp 4], af239b, false⟩

/-- cascade/path.Of -/
def af241l0 : ACode :=
 (.seq
 (.reg [⟨(some 19), .bin .lss (.tmp 18) (.tmp 17)⟩])
 (.seq
 (.cond (.tmp 19)
 .skip
 (.exit 0))
 (.seq
 (.blk 1
 (.seq
 (.reg [⟨(some 20), .iadr 5 (.tmp 16) (.tmp 18)⟩,
 ⟨(some 21), .load (some 5) (.tmp 20)⟩,
 ⟨(some 6), .new 46 [(.int .i64 0), (.int .i64 0), (.str []), (.sl .nil []), (.sl .nil [])]⟩,
 ⟨none, .store 5 (.tmp 6) (.tmp 21)⟩])
 (.blk 2
 (.seq
 (.reg [⟨(some 23), .fadr 0 (.tmp 6)⟩,
 ⟨(some 24), .load none (.tmp 23)⟩,
 ⟨(some 25), .bin .eql (.tmp 24) (.c (.int .i64 3))⟩,
 ⟨(some 22), .mov (.tmp 25)⟩])
 (.cond (.tmp 22)
 (.reg [⟨(some 26), .mov (.tmp 4)⟩,
 ⟨(some 27), .fadr 2 (.tmp 6)⟩,
 ⟨(some 28), .load none (.tmp 27)⟩,
 ⟨(some 29), .call false false (.c (.fn (.func 284) [] [])) [(.tmp 28)]⟩,
 ⟨(some 30), .bsl 3 (.agg [(.str []), (.int .i64 0), (.bool false)]) 1 [(0, (.tmp 29))]⟩,
 ⟨(some 31), .app false 3 (32, 214) (.tmp 26) (.tmp 30)⟩,
 ⟨(some 4), .mov (.tmp 31)⟩])
 (.seq
 (.reg [⟨(some 33), .fadr 0 (.tmp 6)⟩,
 ⟨(some 34), .load none (.tmp 33)⟩,
 ⟨(some 35), .bin .eql (.tmp 34) (.c (.int .i64 2))⟩,
 ⟨(some 40), .sc 36 true (.tmp 35) [⟨(some 37), .fadr 1 (.tmp 6)⟩, ⟨(some 38), .load none (.tmp 37)⟩, ⟨(some 39), .bin .geq (.tmp 38) (.c (.int .i64 0))⟩] (.tmp 39)⟩,
 ⟨(some 32), .mov (.tmp 40)⟩])
 (.cond (.tmp 32)
 (.reg [⟨(some 41), .mov (.tmp 4)⟩,
 ⟨(some 42), .fadr 1 (.tmp 6)⟩,
 ⟨(some 43), .load none (.tmp 42)⟩,
 ⟨(some 44), .call false false (.c (.fn (.func 285) [] [])) [(.tmp 43)]⟩,
 ⟨(some 45), .bsl 3 (.agg [(.str []), (.int .i64 0), (.bool false)]) 1 [(0, (.tmp 44))]⟩,
 ⟨(some 46), .app false 3 (32, 214) (.tmp 41) (.tmp 45)⟩,
 ⟨(some 4), .mov (.tmp 46)⟩])
 (.seq
 (.reg [⟨(some 2), .mov (.c (.sl .nil []))⟩,
 ⟨(some 3), .mov (.c (.int .i64 1))⟩])
 .ret))))))))
 (.reg [⟨(some 47), .bin .add (.tmp 18) (.c (.int .i64 1))⟩,
 ⟨(some 18), .mov (.tmp 47)⟩]))))
def af241b : ACode :=
 (.seq
 (.reg [⟨(some 1), .box 46 (.tmp 0)⟩,
 ⟨(some 2), .mov (.c (.sl .nil []))⟩,
 ⟨(some 3), .mov (.c (.int .i64 0))⟩])
 (.seq
 (.seq
 (.reg [⟨(some 7), .load (some 5) (.tmp 1)⟩,
 ⟨(some 8), .call false false (.c (.fn (.func 92) [] [])) [(.tmp 7)]⟩,
 ⟨(some 9), .un .not (.tmp 8)⟩,
 ⟨(some 14), .sc 10 false (.tmp 9) [⟨(some 11), .fadr 0 (.tmp 1)⟩, ⟨(some 12), .load none (.tmp 11)⟩, ⟨(some 13), .bin .neq (.tmp 12) (.c (.int .i64 4))⟩] (.tmp 13)⟩])
 (.cond (.tmp 14)
 (.seq
 (.reg [⟨(some 2), .mov (.c (.sl .nil []))⟩,
 ⟨(some 3), .mov (.c (.int .i64 1))⟩])
 .ret)
 .skip))
 (.seq
 (.reg [⟨(some 4), .mov (.c (.sl .nil []))⟩])
 (.seq
 (.seq
 (.reg [⟨(some 15), .fadr 3 (.tmp 1)⟩,
 ⟨(some 16), .load none (.tmp 15)⟩,
 ⟨(some 17), .len 1 (.tmp 16)⟩,
 ⟨(some 18), .mov (.c (.int .i64 0))⟩])
 (.blk 0
 (.loop false af241l0)))
 (.seq
 (.seq
 (.reg [⟨(some 48), .mov (.tmp 4)⟩,
 ⟨(some 49), .call false false (.c (.fn (.func 168) [] [])) [(.tmp 48)]⟩,
 ⟨(some 50), .un .not (.tmp 49)⟩])
 (.cond (.tmp 50)
 (.seq
 (.reg [⟨(some 2), .mov (.c (.sl .nil []))⟩,
 ⟨(some 3), .mov (.c (.int .i64 1))⟩])
 .ret)
 .skip))
 (.seq
 (.reg [⟨(some 51), .mov (.tmp 4)⟩,
 ⟨(some 2), .mov (.tmp 51)⟩,
 ⟨(some 3), .mov (.c (.int .i64 0))⟩])
 .ret))))))
def af241 : AFunc := ⟨52, [.tmp 2, .tmp 3], af241b, false⟩

/-- cascade/tree.same$1 -/
def af243b : ACode :=
 (.seq
 (.reg [⟨(some 2), .box 63 (.tmp 0)⟩,
 ⟨(some 3), .box 63 (.tmp 1)⟩,
 ⟨(some 4), .mov (.c (.bool false))⟩])
 (.seq
 (.reg [⟨(some 5), .fadr 0 (.tmp 2)⟩,
 ⟨(some 6), .load none (.tmp 5)⟩,
 ⟨(some 7), .fadr 0 (.tmp 3)⟩,
 ⟨(some 8), .load none (.tmp 7)⟩,
 ⟨(some 9), .bin .eql (.tmp 6) (.tmp 8)⟩,
 ⟨(some 16), .sc 10 true (.tmp 9) [⟨(some 11), .fadr 1 (.tmp 2)⟩, ⟨(some 12), .load (some 5) (.tmp 11)⟩, ⟨(some 13), .fadr 1 (.tmp 3)⟩, ⟨(some 14), .load (some 5) (.tmp 13)⟩, ⟨(some 15), .call false false (.c (.fn (.func 179) [] [])) [(.tmp 12), (.tmp 14)]⟩] (.tmp 15)⟩,
 ⟨(some 4), .mov (.tmp 16)⟩])
 .ret))
def af243 : AFunc := ⟨17, [.tmp 4], af243b, false⟩

/-- slices.EqualFunc[[]cascade/api.Value,[]cascade/api.Value,cascade/api.Value,cascade/api.Value] -/
def af244l0 : ACode :=
 (.seq
 (.reg [⟨(some 18), .bin .lss (.tmp 17) (.tmp 16)⟩])
 (.seq
 (.cond (.tmp 18)
 .skip
 (.exit 0))
 (.seq
 (.blk 1
 (.seq
 (.reg [⟨(some 19), .mov (.tmp 17)⟩,
 ⟨(some 20), .iadr 5 (.tmp 15) (.tmp 17)⟩,
 ⟨(some 21), .load (some 5) (.tmp 20)⟩,
 ⟨(some 8), .new 46 [(.int .i64 0), (.int .i64 0), (.str []), (.sl .nil []), (.sl .nil [])]⟩,
 ⟨(some 7), .mov (.tmp 19)⟩,
 ⟨none, .store 5 (.tmp 8) (.tmp 21)⟩])
 (.seq
 (.reg [⟨(some 22), .mov (.tmp 1)⟩,
 ⟨(some 23), .mov (.tmp 7)⟩,
 ⟨(some 24), .iadr 5 (.tmp 22) (.tmp 23)⟩,
 ⟨(some 25), .load (some 5) (.tmp 24)⟩,
 ⟨(some 9), .new 46 [(.int .i64 0), (.int .i64 0), (.str []), (.sl .nil []), (.sl .nil [])]⟩,
 ⟨none, .store 5 (.tmp 9) (.tmp 25)⟩])
 (.seq
 (.reg [⟨(some 26), .mov (.tmp 2)⟩,
 ⟨(some 27), .load (some 5) (.tmp 8)⟩,
 ⟨(some 28), .load (some 5) (.tmp 9)⟩,
 ⟨(some 29), .call false false (.tmp 26) [(.tmp 27), (.tmp 28)]⟩,
 ⟨(some 30), .un .not (.tmp 29)⟩])
 (.cond (.tmp 30)
 (.seq
 (.reg [⟨(some 6), .mov (.c (.bool false))⟩])
 .ret)
 .skip)))))
 (.reg [⟨(some 31), .bin .add (.tmp 17) (.c (.int .i64 1))⟩,
 ⟨(some 17), .mov (.tmp 31)⟩]))))
def af244b : ACode :=
 (.seq
 (.reg [⟨(some 6), .mov (.c (.bool false))⟩])
 (.seq
 (.seq
 (.reg [⟨(some 10), .mov (.tmp 0)⟩,
 ⟨(some 11), .len 1 (.tmp 10)⟩,
 ⟨(some 12), .mov (.tmp 1)⟩,
 ⟨(some 13), .len 1 (.tmp 12)⟩,
 ⟨(some 14), .bin .neq (.tmp 11) (.tmp 13)⟩])
 (.cond (.tmp 14)
 (.seq
 (.reg [⟨(some 6), .mov (.c (.bool false))⟩])
 .ret)
 .skip))
 (.seq
 (.seq
 (.reg [⟨(some 15), .mov (.tmp 0)⟩,
 ⟨(some 16), .len 1 (.tmp 15)⟩,
 ⟨(some 17), .mov (.c (.int .i64 0))⟩])
 (.blk 0
 (.loop false af244l0)))
 (.seq
 (.reg [⟨(some 6), .mov (.c (.bool true))⟩])
 .ret))))
def af244 : AFunc := ⟨32, [.tmp 6], af244b, false⟩

/-- slices.EqualFunc[[]cascade/api.Pair,[]cascade/api.Pair,cascade/api.Pair,cascade/api.Pair] -/
def af245l0 : ACode :=
 (.seq
 (.reg [⟨(some 18), .bin .lss (.tmp 17) (.tmp 16)⟩])
 (.seq
 (.cond (.tmp 18)
 .skip
 (.exit 0))
 (.seq
 (.blk 1
 (.seq
 (.reg [⟨(some 19), .mov (.tmp 17)⟩,
 ⟨(some 20), .iadr 6 (.tmp 15) (.tmp 17)⟩,
 ⟨(some 21), .load (some 6) (.tmp 20)⟩,
 ⟨(some 8), .new 63 [(.str []), (.int .i64 0), (.int .i64 0), (.str []), (.sl .nil []), (.sl .nil [])]⟩,
 ⟨(some 7), .mov (.tmp 19)⟩,
 ⟨none, .store 6 (.tmp 8) (.tmp 21)⟩])
 (.seq
 (.reg [⟨(some 22), .mov (.tmp 1)⟩,
 ⟨(some 23), .mov (.tmp 7)⟩,
 ⟨(some 24), .iadr 6 (.tmp 22) (.tmp 23)⟩,
 ⟨(some 25), .load (some 6) (.tmp 24)⟩,
 ⟨(some 9), .new 63 [(.str []), (.int .i64 0), (.int .i64 0), (.str []), (.sl .nil []), (.sl .nil [])]⟩,
 ⟨none, .store 6 (.tmp 9) (.tmp 25)⟩])
 (.seq
 (.reg [⟨(some 26), .mov (.tmp 2)⟩,
 ⟨(some 27), .load (some 6) (.tmp 8)⟩,
 ⟨(some 28), .load (some 6) (.tmp 9)⟩,
 ⟨(some 29), .call false false (.tmp 26) [(.tmp 27), (.tmp 28)]⟩,
 ⟨(some 30), .un .not (.tmp 29)⟩])
 (.cond (.tmp 30)
 (.seq
 (.reg [⟨(some 6), .mov (.c (.bool false))⟩])
 .ret)
 .skip)))))
 (.reg [⟨(some 31), .bin .add (.tmp 17) (.c (.int .i64 1))⟩,
 ⟨(some 17), .mov (.tmp 31)⟩]))))
def af245b : ACode :=
 (.seq
 (.reg [⟨(some 6), .mov (.c (.bool false))⟩])
 (.seq
 (.seq
 (.reg [⟨(some 10), .mov (.tmp 0)⟩,
 ⟨(some 11), .len 1 (.tmp 10)⟩,
 ⟨(some 12), .mov (.tmp 1)⟩,
 ⟨(some 13), .len 1 (.tmp 12)⟩,
 ⟨(some 14), .bin .neq (.tmp 11) (.tmp 13)⟩])
 (.cond (.tmp 14)
 (.seq
 (.reg [⟨(some 6), .mov (.c (.bool false))⟩])
 .ret)
 .skip))
 (.seq
 (.seq
 (.reg [⟨(some 15), .mov (.tmp 0)⟩,
 ⟨(some 16), .len 1 (.tmp 15)⟩,
 ⟨(some 17), .mov (.c (.int .i64 0))⟩])
 (.blk 0
 (.loop false af245l0)))
 (.seq
 (.reg [⟨(some 6), .mov (.c (.bool true))⟩])
 .ret))))
def af245 : AFunc := ⟨32, [.tmp 6], af245b, false⟩

/-- internal/strconv.Itoa -/
def af281b : ACode :=
 (.seq
 (.reg [⟨(some 2), .mov (.c (.str []))⟩])
 (.seq
 (.reg [⟨(some 3), .mov (.tmp 0)⟩,
 ⟨(some 4), .call false false (.c (.fn (.func 276) [] [])) [(.tmp 3), (.c (.int .i64 10))]⟩,
 ⟨(some 2), .mov (.tmp 4)⟩])
 .ret))
def af281 : AFunc := ⟨5, [.tmp 2], af281b, false⟩

/-- slices.IndexFunc[[]cascade/api.Step,cascade/api.Step] -/
def af282l0 : ACode :=
 (.seq
 (.reg [⟨(some 9), .bin .lss (.tmp 8) (.tmp 7)⟩])
 (.seq
 (.cond (.tmp 9)
 .skip
 (.exit 0))
 (.seq
 (.blk 1
 (.seq
 (.reg [⟨(some 10), .mov (.tmp 8)⟩,
 ⟨(some 5), .mov (.tmp 10)⟩])
 (.seq
 (.reg [⟨(some 11), .mov (.tmp 1)⟩,
 ⟨(some 12), .mov (.tmp 0)⟩,
 ⟨(some 13), .mov (.tmp 5)⟩,
 ⟨(some 14), .iadr 3 (.tmp 12) (.tmp 13)⟩,
 ⟨(some 15), .load (some 3) (.tmp 14)⟩,
 ⟨(some 16), .call false false (.tmp 11) [(.tmp 15)]⟩])
 (.cond (.tmp 16)
 (.seq
 (.reg [⟨(some 17), .mov (.tmp 5)⟩,
 ⟨(some 4), .mov (.tmp 17)⟩])
 .ret)
 .skip))))
 (.reg [⟨(some 18), .bin .add (.tmp 8) (.c (.int .i64 1))⟩,
 ⟨(some 8), .mov (.tmp 18)⟩]))))
def af282b : ACode :=
 (.seq
 (.reg [⟨(some 4), .mov (.c (.int .i64 0))⟩])
 (.seq
 (.seq
 (.reg [⟨(some 6), .mov (.tmp 0)⟩,
 ⟨(some 7), .len 1 (.tmp 6)⟩,
 ⟨(some 8), .mov (.c (.int .i64 0))⟩])
 (.blk 0
 (.loop false af282l0)))
 (.seq
 (.reg [⟨(some 4), .mov (.c (.int .i64 (-1)))⟩])
 .ret)))
def af282 : AFunc := ⟨19, [.tmp 4], af282b, false⟩

/-- cascade/path.Key -/
def af284b : ACode :=
 (.seq
 (.reg [⟨(some 2), .new 214 [(.str []), (.int .i64 0), (.bool false)]⟩])
 (.seq
 (.reg [⟨(some 3), .mov (.tmp 0)⟩,
 ⟨(some 4), .build [(.str []), (.int .i64 0), (.bool false)] [(0, 1, (.tmp 3))]⟩,
 ⟨none, .store 3 (.tmp 2) (.tmp 4)⟩])
 .ret))
def af284 : AFunc := ⟨5, [.cell 2 (some 3)], af284b, false⟩

/-- cascade/path.Place -/
def af285b : ACode :=
 (.seq
 (.reg [⟨(some 2), .new 214 [(.str []), (.int .i64 0), (.bool false)]⟩])
 (.seq
 (.reg [⟨(some 3), .mov (.tmp 0)⟩,
 ⟨(some 4), .build [(.str []), (.int .i64 0), (.bool false)] [(1, 1, (.tmp 3)), (2, 1, (.c (.bool true)))]⟩,
 ⟨none, .store 3 (.tmp 2) (.tmp 4)⟩])
 .ret))
def af285 : AFunc := ⟨5, [.cell 2 (some 3)], af285b, false⟩

def tabL : List (FuncId × AFunc) := [(4, af4), (5, af5), (6, af6), (21, af21), (22, af22), (23, af23), (24, af24), (25, af25), (26, af26), (27, af27), (28, af28), (29, af29), (30, af30), (32, af32), (85, af85), (86, af86), (87, af87), (88, af88), (89, af89), (90, af90), (91, af91), (92, af92), (93, af93), (94, af94), (95, af95), (96, af96), (97, af97), (98, af98), (99, af99), (100, af100), (101, af101), (102, af102), (103, af103), (104, af104), (105, af105), (106, af106), (107, af107), (108, af108), (109, af109), (150, af150), (151, af151), (152, af152), (153, af153), (154, af154), (155, af155), (156, af156), (157, af157), (158, af158), (159, af159), (160, af160), (161, af161), (162, af162), (163, af163), (164, af164), (165, af165), (166, af166), (167, af167), (168, af168), (169, af169), (170, af170), (171, af171), (172, af172), (173, af173), (174, af174), (175, af175), (176, af176), (177, af177), (178, af178), (179, af179), (229, af229), (230, af230), (231, af231), (232, af232), (233, af233), (234, af234), (235, af235), (236, af236), (237, af237), (238, af238), (239, af239), (241, af241), (243, af243), (244, af244), (245, af245), (281, af281), (282, af282), (284, af284), (285, af285)]
set_option maxRecDepth 100000
theorem of4 : Of Tryz.prog 4 af4 := ⟨{quiet := [46]}, by kernel_rfl⟩
theorem of5 : Of Tryz.prog 5 af5 := ⟨{quiet := [31]}, by kernel_rfl⟩
theorem of6 : Of Tryz.prog 6 af6 := ⟨{quiet := [73], grow := [49], frz := [(62, 10, 4)]}, by kernel_rfl⟩
theorem of21 : Of Tryz.prog 21 af21 := ⟨{}, by kernel_rfl⟩
theorem of22 : Of Tryz.prog 22 af22 := ⟨{}, by kernel_rfl⟩
theorem of23 : Of Tryz.prog 23 af23 := ⟨{}, by kernel_rfl⟩
theorem of24 : Of Tryz.prog 24 af24 := ⟨{}, by kernel_rfl⟩
theorem of25 : Of Tryz.prog 25 af25 := ⟨{}, by kernel_rfl⟩
theorem of26 : Of Tryz.prog 26 af26 := ⟨{}, by kernel_rfl⟩
theorem of27 : Of Tryz.prog 27 af27 := ⟨{}, by kernel_rfl⟩
theorem of28 : Of Tryz.prog 28 af28 := ⟨{quiet := [27, 49, 50, 53, 54, 108, 118, 137]}, by kernel_rfl⟩
theorem of29 : Of Tryz.prog 29 af29 := ⟨{}, by kernel_rfl⟩
theorem of30 : Of Tryz.prog 30 af30 := ⟨{}, by kernel_rfl⟩
theorem of32 : Of Tryz.prog 32 af32 := ⟨{}, by kernel_rfl⟩
theorem of85 : Of Tryz.prog 85 af85 := ⟨{}, by kernel_rfl⟩
theorem of86 : Of Tryz.prog 86 af86 := ⟨{}, by kernel_rfl⟩
theorem of87 : Of Tryz.prog 87 af87 := ⟨{}, by kernel_rfl⟩
theorem of88 : Of Tryz.prog 88 af88 := ⟨{}, by kernel_rfl⟩
theorem of89 : Of Tryz.prog 89 af89 := ⟨{}, by kernel_rfl⟩
theorem of90 : Of Tryz.prog 90 af90 := ⟨{quiet := [12, 25, 37, 41, 46, 49, 51, 57]}, by kernel_rfl⟩
theorem of91 : Of Tryz.prog 91 af91 := ⟨{}, by kernel_rfl⟩
theorem of92 : Of Tryz.prog 92 af92 := ⟨{}, by kernel_rfl⟩
theorem of93 : Of Tryz.prog 93 af93 := ⟨{}, by kernel_rfl⟩
theorem of94 : Of Tryz.prog 94 af94 := ⟨{}, by kernel_rfl⟩
theorem of95 : Of Tryz.prog 95 af95 := ⟨{}, by kernel_rfl⟩
theorem of96 : Of Tryz.prog 96 af96 := ⟨{}, by kernel_rfl⟩
theorem of97 : Of Tryz.prog 97 af97 := ⟨{}, by kernel_rfl⟩
theorem of98 : Of Tryz.prog 98 af98 := ⟨{quiet := [19, 20, 22, 34, 35, 63, 64, 80, 81, 84]}, by kernel_rfl⟩
theorem of99 : Of Tryz.prog 99 af99 := ⟨{}, by kernel_rfl⟩
theorem of100 : Of Tryz.prog 100 af100 := ⟨{}, by kernel_rfl⟩
theorem of101 : Of Tryz.prog 101 af101 := ⟨{quiet := [29, 30]}, by kernel_rfl⟩
theorem of102 : Of Tryz.prog 102 af102 := ⟨{}, by kernel_rfl⟩
theorem of103 : Of Tryz.prog 103 af103 := ⟨{}, by kernel_rfl⟩
theorem of104 : Of Tryz.prog 104 af104 := ⟨{}, by kernel_rfl⟩
theorem of105 : Of Tryz.prog 105 af105 := ⟨{}, by kernel_rfl⟩
theorem of106 : Of Tryz.prog 106 af106 := ⟨{}, by kernel_rfl⟩
theorem of107 : Of Tryz.prog 107 af107 := ⟨{}, by kernel_rfl⟩
theorem of108 : Of Tryz.prog 108 af108 := ⟨{}, by kernel_rfl⟩
theorem of109 : Of Tryz.prog 109 af109 := ⟨{}, by kernel_rfl⟩
theorem of150 : Of Tryz.prog 150 af150 := ⟨{}, by kernel_rfl⟩
theorem of151 : Of Tryz.prog 151 af151 := ⟨{quiet := [25, 43]}, by kernel_rfl⟩
theorem of152 : Of Tryz.prog 152 af152 := ⟨{}, by kernel_rfl⟩
theorem of153 : Of Tryz.prog 153 af153 := ⟨{quiet := [25, 31, 36], own := [8]}, by kernel_rfl⟩
theorem of154 : Of Tryz.prog 154 af154 := ⟨{}, by kernel_rfl⟩
theorem of155 : Of Tryz.prog 155 af155 := ⟨{quiet := [30], own := [8]}, by kernel_rfl⟩
theorem of156 : Of Tryz.prog 156 af156 := ⟨{}, by kernel_rfl⟩
theorem of157 : Of Tryz.prog 157 af157 := ⟨{}, by kernel_rfl⟩
theorem of158 : Of Tryz.prog 158 af158 := ⟨{quiet := [17, 24, 29, 46], own := [6]}, by kernel_rfl⟩
theorem of159 : Of Tryz.prog 159 af159 := ⟨{}, by kernel_rfl⟩
theorem of160 : Of Tryz.prog 160 af160 := ⟨{}, by kernel_rfl⟩
theorem of161 : Of Tryz.prog 161 af161 := ⟨{}, by kernel_rfl⟩
theorem of162 : Of Tryz.prog 162 af162 := ⟨{}, by kernel_rfl⟩
theorem of163 : Of Tryz.prog 163 af163 := ⟨{}, by kernel_rfl⟩
theorem of164 : Of Tryz.prog 164 af164 := ⟨{}, by kernel_rfl⟩
theorem of165 : Of Tryz.prog 165 af165 := ⟨{}, by kernel_rfl⟩
theorem of166 : Of Tryz.prog 166 af166 := ⟨{}, by kernel_rfl⟩
theorem of167 : Of Tryz.prog 167 af167 := ⟨{}, by kernel_rfl⟩
theorem of168 : Of Tryz.prog 168 af168 := ⟨{}, by kernel_rfl⟩
theorem of169 : Of Tryz.prog 169 af169 := ⟨{}, by kernel_rfl⟩
theorem of170 : Of Tryz.prog 170 af170 := ⟨{}, by kernel_rfl⟩
theorem of171 : Of Tryz.prog 171 af171 := ⟨{}, by kernel_rfl⟩
theorem of172 : Of Tryz.prog 172 af172 := ⟨{}, by kernel_rfl⟩
theorem of173 : Of Tryz.prog 173 af173 := ⟨{quiet := [30, 31]}, by kernel_rfl⟩
theorem of174 : Of Tryz.prog 174 af174 := ⟨{}, by kernel_rfl⟩
theorem of175 : Of Tryz.prog 175 af175 := ⟨{}, by kernel_rfl⟩
theorem of176 : Of Tryz.prog 176 af176 := ⟨{}, by kernel_rfl⟩
theorem of177 : Of Tryz.prog 177 af177 := ⟨{}, by kernel_rfl⟩
theorem of178 : Of Tryz.prog 178 af178 := ⟨{}, by kernel_rfl⟩
theorem of179 : Of Tryz.prog 179 af179 := ⟨{}, by kernel_rfl⟩
theorem of229 : Of Tryz.prog 229 af229 := ⟨{}, by kernel_rfl⟩
theorem of230 : Of Tryz.prog 230 af230 := ⟨{}, by kernel_rfl⟩
theorem of231 : Of Tryz.prog 231 af231 := ⟨{}, by kernel_rfl⟩
theorem of232 : Of Tryz.prog 232 af232 := ⟨{}, by kernel_rfl⟩
theorem of233 : Of Tryz.prog 233 af233 := ⟨{}, by kernel_rfl⟩
theorem of234 : Of Tryz.prog 234 af234 := ⟨{}, by kernel_rfl⟩
theorem of235 : Of Tryz.prog 235 af235 := ⟨{}, by kernel_rfl⟩
theorem of236 : Of Tryz.prog 236 af236 := ⟨{}, by kernel_rfl⟩
theorem of237 : Of Tryz.prog 237 af237 := ⟨{}, by kernel_rfl⟩
theorem of238 : Of Tryz.prog 238 af238 := ⟨{}, by kernel_rfl⟩
theorem of239 : Of Tryz.prog 239 af239 := ⟨{}, by kernel_rfl⟩
theorem of241 : Of Tryz.prog 241 af241 := ⟨{}, by kernel_rfl⟩
theorem of243 : Of Tryz.prog 243 af243 := ⟨{}, by kernel_rfl⟩
theorem of244 : Of Tryz.prog 244 af244 := ⟨{}, by kernel_rfl⟩
theorem of245 : Of Tryz.prog 245 af245 := ⟨{}, by kernel_rfl⟩
theorem of281 : Of Tryz.prog 281 af281 := ⟨{}, by kernel_rfl⟩
theorem of282 : Of Tryz.prog 282 af282 := ⟨{}, by kernel_rfl⟩
theorem of284 : Of Tryz.prog 284 af284 := ⟨{}, by kernel_rfl⟩
theorem of285 : Of Tryz.prog 285 af285 := ⟨{}, by kernel_rfl⟩
theorem tabL_ok : ∀ p ∈ tabL, Of Tryz.prog p.1 p.2 ∧ okC p.2.body = true := by
  intro p hp
  simp only [tabL, List.mem_cons, List.not_mem_nil, or_false] at hp
  rcases hp with rfl | rfl | rfl | rfl | rfl | rfl | rfl | rfl | rfl | rfl | rfl | rfl | rfl | rfl | rfl | rfl | rfl | rfl | rfl | rfl | rfl | rfl | rfl | rfl | rfl | rfl | rfl | rfl | rfl | rfl | rfl | rfl | rfl | rfl | rfl | rfl | rfl | rfl | rfl | rfl | rfl | rfl | rfl | rfl | rfl | rfl | rfl | rfl | rfl | rfl | rfl | rfl | rfl | rfl | rfl | rfl | rfl | rfl | rfl | rfl | rfl | rfl | rfl | rfl | rfl | rfl | rfl | rfl | rfl | rfl | rfl | rfl | rfl | rfl | rfl | rfl | rfl | rfl | rfl | rfl | rfl | rfl | rfl | rfl | rfl | rfl | rfl | rfl
  · exact ⟨of4, by kernel_rfl⟩
  · exact ⟨of5, by kernel_rfl⟩
  · exact ⟨of6, by kernel_rfl⟩
  · exact ⟨of21, by kernel_rfl⟩
  · exact ⟨of22, by kernel_rfl⟩
  · exact ⟨of23, by kernel_rfl⟩
  · exact ⟨of24, by kernel_rfl⟩
  · exact ⟨of25, by kernel_rfl⟩
  · exact ⟨of26, by kernel_rfl⟩
  · exact ⟨of27, by kernel_rfl⟩
  · exact ⟨of28, by kernel_rfl⟩
  · exact ⟨of29, by kernel_rfl⟩
  · exact ⟨of30, by kernel_rfl⟩
  · exact ⟨of32, by kernel_rfl⟩
  · exact ⟨of85, by kernel_rfl⟩
  · exact ⟨of86, by kernel_rfl⟩
  · exact ⟨of87, by kernel_rfl⟩
  · exact ⟨of88, by kernel_rfl⟩
  · exact ⟨of89, by kernel_rfl⟩
  · exact ⟨of90, by kernel_rfl⟩
  · exact ⟨of91, by kernel_rfl⟩
  · exact ⟨of92, by kernel_rfl⟩
  · exact ⟨of93, by kernel_rfl⟩
  · exact ⟨of94, by kernel_rfl⟩
  · exact ⟨of95, by kernel_rfl⟩
  · exact ⟨of96, by kernel_rfl⟩
  · exact ⟨of97, by kernel_rfl⟩
  · exact ⟨of98, by kernel_rfl⟩
  · exact ⟨of99, by kernel_rfl⟩
  · exact ⟨of100, by kernel_rfl⟩
  · exact ⟨of101, by kernel_rfl⟩
  · exact ⟨of102, by kernel_rfl⟩
  · exact ⟨of103, by kernel_rfl⟩
  · exact ⟨of104, by kernel_rfl⟩
  · exact ⟨of105, by kernel_rfl⟩
  · exact ⟨of106, by kernel_rfl⟩
  · exact ⟨of107, by kernel_rfl⟩
  · exact ⟨of108, by kernel_rfl⟩
  · exact ⟨of109, by kernel_rfl⟩
  · exact ⟨of150, by kernel_rfl⟩
  · exact ⟨of151, by kernel_rfl⟩
  · exact ⟨of152, by kernel_rfl⟩
  · exact ⟨of153, by kernel_rfl⟩
  · exact ⟨of154, by kernel_rfl⟩
  · exact ⟨of155, by kernel_rfl⟩
  · exact ⟨of156, by kernel_rfl⟩
  · exact ⟨of157, by kernel_rfl⟩
  · exact ⟨of158, by kernel_rfl⟩
  · exact ⟨of159, by kernel_rfl⟩
  · exact ⟨of160, by kernel_rfl⟩
  · exact ⟨of161, by kernel_rfl⟩
  · exact ⟨of162, by kernel_rfl⟩
  · exact ⟨of163, by kernel_rfl⟩
  · exact ⟨of164, by kernel_rfl⟩
  · exact ⟨of165, by kernel_rfl⟩
  · exact ⟨of166, by kernel_rfl⟩
  · exact ⟨of167, by kernel_rfl⟩
  · exact ⟨of168, by kernel_rfl⟩
  · exact ⟨of169, by kernel_rfl⟩
  · exact ⟨of170, by kernel_rfl⟩
  · exact ⟨of171, by kernel_rfl⟩
  · exact ⟨of172, by kernel_rfl⟩
  · exact ⟨of173, by kernel_rfl⟩
  · exact ⟨of174, by kernel_rfl⟩
  · exact ⟨of175, by kernel_rfl⟩
  · exact ⟨of176, by kernel_rfl⟩
  · exact ⟨of177, by kernel_rfl⟩
  · exact ⟨of178, by kernel_rfl⟩
  · exact ⟨of179, by kernel_rfl⟩
  · exact ⟨of229, by kernel_rfl⟩
  · exact ⟨of230, by kernel_rfl⟩
  · exact ⟨of231, by kernel_rfl⟩
  · exact ⟨of232, by kernel_rfl⟩
  · exact ⟨of233, by kernel_rfl⟩
  · exact ⟨of234, by kernel_rfl⟩
  · exact ⟨of235, by kernel_rfl⟩
  · exact ⟨of236, by kernel_rfl⟩
  · exact ⟨of237, by kernel_rfl⟩
  · exact ⟨of238, by kernel_rfl⟩
  · exact ⟨of239, by kernel_rfl⟩
  · exact ⟨of241, by kernel_rfl⟩
  · exact ⟨of243, by kernel_rfl⟩
  · exact ⟨of244, by kernel_rfl⟩
  · exact ⟨of245, by kernel_rfl⟩
  · exact ⟨of281, by kernel_rfl⟩
  · exact ⟨of282, by kernel_rfl⟩
  · exact ⟨of284, by kernel_rfl⟩
  · exact ⟨of285, by kernel_rfl⟩
def tab (f : FuncId) : Option AFunc := (tabL.find? (fun p => p.1 == f)).map (·.2)
theorem tab_4 : tab 4 = some af4 := rfl
theorem tab_5 : tab 5 = some af5 := rfl
theorem tab_6 : tab 6 = some af6 := rfl
theorem tab_21 : tab 21 = some af21 := rfl
theorem tab_22 : tab 22 = some af22 := rfl
theorem tab_23 : tab 23 = some af23 := rfl
theorem tab_24 : tab 24 = some af24 := rfl
theorem tab_25 : tab 25 = some af25 := rfl
theorem tab_26 : tab 26 = some af26 := rfl
theorem tab_27 : tab 27 = some af27 := rfl
theorem tab_28 : tab 28 = some af28 := rfl
theorem tab_29 : tab 29 = some af29 := rfl
theorem tab_30 : tab 30 = some af30 := rfl
theorem tab_32 : tab 32 = some af32 := rfl
theorem tab_85 : tab 85 = some af85 := rfl
theorem tab_86 : tab 86 = some af86 := rfl
theorem tab_87 : tab 87 = some af87 := rfl
theorem tab_88 : tab 88 = some af88 := rfl
theorem tab_89 : tab 89 = some af89 := rfl
theorem tab_90 : tab 90 = some af90 := rfl
theorem tab_91 : tab 91 = some af91 := rfl
theorem tab_92 : tab 92 = some af92 := rfl
theorem tab_93 : tab 93 = some af93 := rfl
theorem tab_94 : tab 94 = some af94 := rfl
theorem tab_95 : tab 95 = some af95 := rfl
theorem tab_96 : tab 96 = some af96 := rfl
theorem tab_97 : tab 97 = some af97 := rfl
theorem tab_98 : tab 98 = some af98 := rfl
theorem tab_99 : tab 99 = some af99 := rfl
theorem tab_100 : tab 100 = some af100 := rfl
theorem tab_101 : tab 101 = some af101 := rfl
theorem tab_102 : tab 102 = some af102 := rfl
theorem tab_103 : tab 103 = some af103 := rfl
theorem tab_104 : tab 104 = some af104 := rfl
theorem tab_105 : tab 105 = some af105 := rfl
theorem tab_106 : tab 106 = some af106 := rfl
theorem tab_107 : tab 107 = some af107 := rfl
theorem tab_108 : tab 108 = some af108 := rfl
theorem tab_109 : tab 109 = some af109 := rfl
theorem tab_150 : tab 150 = some af150 := rfl
theorem tab_151 : tab 151 = some af151 := rfl
theorem tab_152 : tab 152 = some af152 := rfl
theorem tab_153 : tab 153 = some af153 := rfl
theorem tab_154 : tab 154 = some af154 := rfl
theorem tab_155 : tab 155 = some af155 := rfl
theorem tab_156 : tab 156 = some af156 := rfl
theorem tab_157 : tab 157 = some af157 := rfl
theorem tab_158 : tab 158 = some af158 := rfl
theorem tab_159 : tab 159 = some af159 := rfl
theorem tab_160 : tab 160 = some af160 := rfl
theorem tab_161 : tab 161 = some af161 := rfl
theorem tab_162 : tab 162 = some af162 := rfl
theorem tab_163 : tab 163 = some af163 := rfl
theorem tab_164 : tab 164 = some af164 := rfl
theorem tab_165 : tab 165 = some af165 := rfl
theorem tab_166 : tab 166 = some af166 := rfl
theorem tab_167 : tab 167 = some af167 := rfl
theorem tab_168 : tab 168 = some af168 := rfl
theorem tab_169 : tab 169 = some af169 := rfl
theorem tab_170 : tab 170 = some af170 := rfl
theorem tab_171 : tab 171 = some af171 := rfl
theorem tab_172 : tab 172 = some af172 := rfl
theorem tab_173 : tab 173 = some af173 := rfl
theorem tab_174 : tab 174 = some af174 := rfl
theorem tab_175 : tab 175 = some af175 := rfl
theorem tab_176 : tab 176 = some af176 := rfl
theorem tab_177 : tab 177 = some af177 := rfl
theorem tab_178 : tab 178 = some af178 := rfl
theorem tab_179 : tab 179 = some af179 := rfl
theorem tab_229 : tab 229 = some af229 := rfl
theorem tab_230 : tab 230 = some af230 := rfl
theorem tab_231 : tab 231 = some af231 := rfl
theorem tab_232 : tab 232 = some af232 := rfl
theorem tab_233 : tab 233 = some af233 := rfl
theorem tab_234 : tab 234 = some af234 := rfl
theorem tab_235 : tab 235 = some af235 := rfl
theorem tab_236 : tab 236 = some af236 := rfl
theorem tab_237 : tab 237 = some af237 := rfl
theorem tab_238 : tab 238 = some af238 := rfl
theorem tab_239 : tab 239 = some af239 := rfl
theorem tab_241 : tab 241 = some af241 := rfl
theorem tab_243 : tab 243 = some af243 := rfl
theorem tab_244 : tab 244 = some af244 := rfl
theorem tab_245 : tab 245 = some af245 := rfl
theorem tab_281 : tab 281 = some af281 := rfl
theorem tab_282 : tab 282 = some af282 := rfl
theorem tab_284 : tab 284 = some af284 := rfl
theorem tab_285 : tab 285 = some af285 := rfl
theorem tab_ok {f : FuncId} {F : AFunc} (h : tab f = some F) : Of Tryz.prog f F ∧ okC F.body = true := by
  simp only [tab, Option.map_eq_some_iff] at h
  obtain ⟨p, hp, rfl⟩ := h
  have hm := List.mem_of_find?_eq_some hp
  have he := List.find?_some hp
  have : p.1 = f := by simpa using he
  subst this
  exact tabL_ok p hm

end Go.Proofs.YtboejpobmpfifaaGreatDoor.Eng
