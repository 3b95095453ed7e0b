/-
  The functions of the seat in the small language, and that they are their translation.
-/
import Derived.Test.YtfbelnjchpffeaaProg
import Derived.Test.YtfbelnjchpffeaaEvV
import Derived.KernelRfl
namespace Go.Proofs.Ytfbelnjchpffeaa
namespace Ev
set_option maxRecDepth 4000
def alT : FuncId → Bool := fun k => [].contains k
-- 7 hatchway/hatchwaylaw15.PlainPuts
def ir7 : AFn := ⟨86, [.t 6],
 (.seq (.reg [⟨(some 6), (.mv (.c (.bool false))), none⟩])
 (.seq (.seq (.reg [⟨(some 14), (.call (.c (.func (.func 38) #[] #[])) []), none⟩, ⟨(some 15), (.un .not (.t 14)), none⟩])
 (.cond (.t 15) (.seq (.reg [⟨(some 6), (.mv (.c (.bool false))), none⟩])
 .ret)
 .skip))
 (.seq (.seq (.reg [⟨(some 16), (.mv (.t 1)), none⟩, ⟨(some 17), (.len 0 (.t 16)), none⟩, ⟨(some 18), (.bin .gtr (.t 17) (.c (.int .i64 500))), none⟩, ⟨(some 19), (.mv (.t 18)), none⟩, ⟨(some 20), (.mv (.t 1)), (some (19, true))⟩, ⟨(some 21), (.len 0 (.t 20)), (some (19, true))⟩, ⟨(some 22), (.bin .lss (.t 21) (.c (.int .i64 65500))), (some (19, true))⟩, ⟨(some 23), (.pick (.t 19) (.t 22) (.c (.bool false))), none⟩, ⟨(some 24), (.mv (.t 23)), none⟩, ⟨(some 25), (.mv (.t 1)), (some (24, false))⟩, ⟨(some 26), (.len 0 (.t 25)), (some (24, false))⟩, ⟨(some 27), (.bin .gtr (.t 26) (.c (.int .i64 70000))), (some (24, false))⟩, ⟨(some 28), (.pick (.t 24) (.c (.bool true)) (.t 27)), none⟩, ⟨(some 29), (.mv (.t 28)), none⟩, ⟨(some 30), (.mv (.t 2)), (some (29, false))⟩, ⟨(some 31), (.len 0 (.t 30)), (some (29, false))⟩, ⟨(some 32), (.bin .gtr (.t 31) (.c (.int .i64 100))), (some (29, false))⟩, ⟨(some 33), (.pick (.t 29) (.c (.bool true)) (.t 32)), none⟩])
 (.cond (.t 33) (.seq (.reg [⟨(some 6), (.mv (.c (.bool true))), none⟩])
 .ret)
 .skip))
 (.seq (.reg [⟨(some 35), (.mv (.t 0)), none⟩, ⟨(some 36), (.mv (.t 1)), none⟩, ⟨(some 37), (.call (.c (.func (.func 39) #[] #[])) [(.t 35), (.t 36)]), none⟩, ⟨(some 34), (.mv (.t 37)), none⟩, ⟨(some 38), (.ext 0 (.t 34)), none⟩, ⟨(some 39), (.ext 1 (.t 34)), none⟩, ⟨(some 7), (.mv (.t 38)), none⟩, ⟨(some 8), (.mv (.t 39)), none⟩])
 (.seq (.reg [⟨(some 41), (.mv (.t 0)), none⟩, ⟨(some 42), (.mv (.t 1)), none⟩, ⟨(some 43), (.call (.c (.func (.func 40) #[] #[])) [(.t 41), (.t 42)]), none⟩, ⟨(some 40), (.mv (.t 43)), none⟩, ⟨(some 44), (.ext 0 (.t 40)), none⟩, ⟨(some 45), (.ext 1 (.t 40)), none⟩, ⟨(some 9), (.mv (.t 44)), none⟩, ⟨(some 10), (.mv (.t 45)), none⟩])
 (.seq (.seq (.reg [⟨(some 46), (.mv (.t 10)), none⟩, ⟨(some 47), (.un .not (.t 46)), none⟩])
 (.cond (.t 47) (.seq (.reg [⟨(some 48), (.mv (.t 8)), none⟩, ⟨(some 49), (.bin .eql (.t 48) (.c (.int .i64 5))), none⟩, ⟨(some 50), (.mv (.t 49)), none⟩, ⟨(some 51), (.mv (.t 7)), (some (50, true))⟩, ⟨(some 52), (.bin .eql (.t 51) (.c (.string ⟨#[]⟩))), (some (50, true))⟩, ⟨(some 53), (.pick (.t 50) (.t 52) (.c (.bool false))), none⟩, ⟨(some 6), (.mv (.t 53)), none⟩])
 .ret)
 .skip))
 (.seq (.reg [⟨(some 55), (.mv (.t 7)), none⟩, ⟨(some 56), (.mv (.t 2)), none⟩, ⟨(some 57), (.bin .add (.t 55) (.t 56)), none⟩, ⟨(some 58), (.call (.c (.func (.func 41) #[] #[])) [(.c (.int .i64 65536)), (.t 57)]), none⟩, ⟨(some 54), (.mv (.t 58)), none⟩, ⟨(some 59), (.ext 0 (.t 54)), none⟩, ⟨(some 60), (.ext 1 (.t 54)), none⟩, ⟨(some 61), (.ext 2 (.t 54)), none⟩, ⟨(some 11), (.new 74 [(.int .u64 0), (.string ⟨#[]⟩), (.string ⟨#[]⟩)]), none⟩, ⟨none, (.st 3 (.t 11) (.t 59)), none⟩, ⟨(some 12), (.mv (.t 60)), none⟩, ⟨(some 13), (.mv (.t 61)), none⟩])
 (.seq (.reg [⟨(some 62), (.mv (.t 8)), none⟩, ⟨(some 63), (.bin .eql (.t 62) (.c (.int .i64 0))), none⟩, ⟨(some 64), (.mv (.t 63)), none⟩, ⟨(some 65), (.mv (.t 7)), (some (64, true))⟩, ⟨(some 66), (.mv (.t 9)), (some (64, true))⟩, ⟨(some 67), (.bin .eql (.t 65) (.t 66)), (some (64, true))⟩, ⟨(some 68), (.pick (.t 64) (.t 67) (.c (.bool false))), none⟩, ⟨(some 69), (.mv (.t 68)), none⟩, ⟨(some 70), (.mv (.t 13)), (some (69, true))⟩, ⟨(some 71), (.bin .eql (.t 70) (.c (.int .i64 0))), (some (69, true))⟩, ⟨(some 72), (.pick (.t 69) (.t 71) (.c (.bool false))), none⟩, ⟨(some 73), (.mv (.t 72)), none⟩, ⟨(some 74), (.ldn 3 (.t 11)), (some (73, true))⟩, ⟨(some 75), (.mv (.t 0)), (some (73, true))⟩, ⟨(some 76), (.mv (.t 1)), (some (73, true))⟩, ⟨(some 77), (.build [(.int .u64 0), (.string ⟨#[]⟩), (.string ⟨#[]⟩)] [(0, 1, (.t 75)), (2, 1, (.t 76))]), (some (73, true))⟩, ⟨(some 78), (.x (.eqs false [1, 2, 2]) [(.t 74), (.t 77)]), (some (73, true))⟩, ⟨(some 79), (.pick (.t 73) (.t 78) (.c (.bool false))), none⟩, ⟨(some 80), (.mv (.t 79)), none⟩, ⟨(some 81), (.mv (.t 12)), (some (80, true))⟩, ⟨(some 82), (.mv (.t 7)), (some (80, true))⟩, ⟨(some 83), (.len 0 (.t 82)), (some (80, true))⟩, ⟨(some 84), (.bin .eql (.t 81) (.t 83)), (some (80, true))⟩, ⟨(some 85), (.pick (.t 80) (.t 84) (.c (.bool false))), none⟩, ⟨(some 6), (.mv (.t 85)), none⟩])
 .ret))))))))⟩
theorem ok7 : FOk alT Try.prog 0 7 ir7 := ⟨_, Try.func7, by kernel_rfl, by kernel_rfl⟩
-- 8 hatchway/hatchwaylaw15.PlainRow
def lp8_0 : ACode := (.seq (.seq (.reg [⟨(some 25), (.mv (.t 6)), none⟩, ⟨(some 26), (.mv (.t 0)), none⟩, ⟨(some 27), (.len 1 (.t 26)), none⟩, ⟨(some 28), (.bin .lss (.t 25) (.t 27)), none⟩])
 (.cond (.t 28) .skip
 (.exit 0)))
 (.seq (.block 1 (.seq (.seq (.reg [⟨(some 31), (.mv (.t 1)), none⟩, ⟨(some 32), (.mv (.t 6)), none⟩, ⟨(some 33), (.ia 1 (.t 31) (.t 32)), none⟩, ⟨(some 34), (.ld (.t 33)), none⟩, ⟨(some 35), (.len 0 (.t 34)), none⟩, ⟨(some 36), (.bin .gtr (.t 35) (.c (.int .i64 200))), none⟩])
 (.cond (.t 36) (.seq (.reg [⟨(some 4), (.mv (.c (.bool true))), none⟩])
 .ret)
 .skip))
 (.seq (.draw [⟨(some 38), (.mv (.t 0)), none⟩, ⟨(some 39), (.mv (.t 6)), none⟩, ⟨(some 40), (.ia 1 (.t 38) (.t 39)), none⟩, ⟨(some 41), (.ld (.t 40)), none⟩, ⟨(some 42), (.mv (.t 1)), none⟩, ⟨(some 43), (.mv (.t 6)), none⟩, ⟨(some 44), (.ia 1 (.t 42) (.t 43)), none⟩, ⟨(some 45), (.ld (.t 44)), none⟩, ⟨(some 46), (.call (.c (.func (.func 40) #[] #[])) [(.t 41), (.t 45)]), none⟩, ⟨(some 37), (.mv (.t 46)), none⟩, ⟨(some 47), (.ext 0 (.t 37)), none⟩, ⟨(some 48), (.ext 1 (.t 37)), none⟩, ⟨(some 7), (.mv (.t 47)), none⟩, ⟨(some 8), (.mv (.t 48)), none⟩] [])
 (.reg [⟨(some 49), (.mv (.t 5)), none⟩, ⟨(some 50), (.mv (.t 7)), none⟩, ⟨(some 51), (.bin .add (.t 49) (.t 50)), none⟩, ⟨(some 5), (.mv (.t 51)), none⟩]))))
 (.reg [⟨(some 29), (.mv (.t 6)), none⟩, ⟨(some 30), (.bin .add (.t 29) (.c (.int .i64 1))), none⟩, ⟨(some 6), (.mv (.t 30)), none⟩])))
def lp8_1 : ACode := (.seq (.seq (.reg [⟨(some 52), (.mv (.t 9)), none⟩, ⟨(some 53), (.mv (.t 0)), none⟩, ⟨(some 54), (.len 1 (.t 53)), none⟩, ⟨(some 55), (.bin .lss (.t 52) (.t 54)), none⟩])
 (.cond (.t 55) .skip
 (.exit 2)))
 (.seq (.block 3 (.seq (.reg [⟨(some 59), (.mv (.t 5)), none⟩, ⟨(some 60), (.call (.c (.func (.func 41) #[] #[])) [(.c (.int .i64 300)), (.t 59)]), none⟩, ⟨(some 58), (.mv (.t 60)), none⟩, ⟨(some 61), (.ext 0 (.t 58)), none⟩, ⟨(some 62), (.ext 1 (.t 58)), none⟩, ⟨(some 63), (.ext 2 (.t 58)), none⟩, ⟨(some 10), (.new 74 [(.int .u64 0), (.string ⟨#[]⟩), (.string ⟨#[]⟩)]), none⟩, ⟨none, (.st 3 (.t 10) (.t 61)), none⟩, ⟨(some 11), (.mv (.t 62)), none⟩, ⟨(some 12), (.mv (.t 63)), none⟩])
 (.seq (.seq (.draw [⟨(some 64), (.mv (.t 12)), none⟩, ⟨(some 65), (.bin .neq (.t 64) (.c (.int .i64 0))), none⟩, ⟨(some 66), (.mv (.t 65)), none⟩, ⟨(some 67), (.fa 0 (.t 10)), (some (66, false))⟩, ⟨(some 68), (.ld (.t 67)), (some (66, false))⟩, ⟨(some 69), (.mv (.t 0)), (some (66, false))⟩, ⟨(some 70), (.mv (.t 9)), (some (66, false))⟩, ⟨(some 71), (.ia 1 (.t 69) (.t 70)), (some (66, false))⟩, ⟨(some 72), (.ld (.t 71)), (some (66, false))⟩, ⟨(some 73), (.bin .neq (.t 68) (.t 72)), (some (66, false))⟩, ⟨(some 74), (.pick (.t 66) (.c (.bool true)) (.t 73)), none⟩, ⟨(some 75), (.mv (.t 74)), none⟩, ⟨(some 76), (.fa 2 (.t 10)), (some (75, false))⟩, ⟨(some 77), (.ld (.t 76)), (some (75, false))⟩, ⟨(some 78), (.mv (.t 1)), (some (75, false))⟩, ⟨(some 79), (.mv (.t 9)), (some (75, false))⟩, ⟨(some 80), (.ia 1 (.t 78) (.t 79)), (some (75, false))⟩, ⟨(some 81), (.ld (.t 80)), (some (75, false))⟩, ⟨(some 82), (.bin .neq (.t 77) (.t 81)), (some (75, false))⟩, ⟨(some 83), (.pick (.t 75) (.c (.bool true)) (.t 82)), none⟩, ⟨(some 84), (.mv (.t 83)), none⟩, ⟨(some 85), (.fa 1 (.t 10)), (some (84, false))⟩, ⟨(some 86), (.ld (.t 85)), (some (84, false))⟩, ⟨(some 87), (.bin .neq (.t 86) (.c (.string ⟨#[]⟩))), (some (84, false))⟩, ⟨(some 88), (.pick (.t 84) (.c (.bool true)) (.t 87)), none⟩] [])
 (.cond (.t 88) (.seq (.reg [⟨(some 4), (.mv (.c (.bool false))), none⟩])
 .ret)
 .skip))
 (.reg [⟨(some 89), (.mv (.t 5)), none⟩, ⟨(some 90), (.mv (.t 11)), none⟩, ⟨(some 91), (.cut (.t 89) (some (.t 90)) none), none⟩, ⟨(some 5), (.mv (.t 91)), none⟩]))))
 (.reg [⟨(some 56), (.mv (.t 9)), none⟩, ⟨(some 57), (.bin .add (.t 56) (.c (.int .i64 1))), none⟩, ⟨(some 9), (.mv (.t 57)), none⟩])))
def ir8 : AFn := ⟨94, [.t 4],
 (.seq (.reg [⟨(some 4), (.mv (.c (.bool false))), none⟩])
 (.seq (.seq (.reg [⟨(some 13), (.call (.c (.func (.func 38) #[] #[])) []), none⟩, ⟨(some 14), (.un .not (.t 13)), none⟩])
 (.cond (.t 14) (.seq (.reg [⟨(some 4), (.mv (.c (.bool false))), none⟩])
 .ret)
 .skip))
 (.seq (.seq (.reg [⟨(some 15), (.mv (.t 0)), none⟩, ⟨(some 16), (.len 1 (.t 15)), none⟩, ⟨(some 17), (.bin .gtr (.t 16) (.c (.int .i64 30))), none⟩, ⟨(some 18), (.mv (.t 17)), none⟩, ⟨(some 19), (.mv (.t 1)), (some (18, false))⟩, ⟨(some 20), (.len 1 (.t 19)), (some (18, false))⟩, ⟨(some 21), (.mv (.t 0)), (some (18, false))⟩, ⟨(some 22), (.len 1 (.t 21)), (some (18, false))⟩, ⟨(some 23), (.bin .lss (.t 20) (.t 22)), (some (18, false))⟩, ⟨(some 24), (.pick (.t 18) (.c (.bool true)) (.t 23)), none⟩])
 (.cond (.t 24) (.seq (.reg [⟨(some 4), (.mv (.c (.bool true))), none⟩])
 .ret)
 .skip))
 (.seq (.reg [⟨(some 5), (.mv (.c (.string ⟨#[]⟩))), none⟩])
 (.seq (.seq (.reg [⟨(some 6), (.mv (.c (.int .i64 0))), none⟩])
 (.block 0 (.loop lp8_0)))
 (.seq (.seq (.reg [⟨(some 9), (.mv (.c (.int .i64 0))), none⟩])
 (.block 2 (.loop lp8_1)))
 (.seq (.reg [⟨(some 92), (.mv (.t 5)), none⟩, ⟨(some 93), (.bin .eql (.t 92) (.c (.string ⟨#[]⟩))), none⟩, ⟨(some 4), (.mv (.t 93)), none⟩])
 .ret)))))))⟩
theorem ok8 : FOk alT Try.prog 0 8 ir8 := ⟨_, Try.func8, by kernel_rfl, by kernel_rfl⟩
-- 11 hatchway/hatchwaylaw11.SnapUnpacks
def ir11 : AFn := ⟨86, [.t 4],
 (.seq (.reg [⟨(some 4), (.mv (.c (.bool false))), none⟩])
 (.seq (.seq (.reg [⟨(some 15), (.call (.c (.func (.func 46) #[] #[])) []), none⟩, ⟨(some 16), (.un .not (.t 15)), none⟩])
 (.cond (.t 16) (.seq (.reg [⟨(some 4), (.mv (.c (.bool false))), none⟩])
 .ret)
 .skip))
 (.seq (.seq (.reg [⟨(some 17), (.mv (.t 0)), none⟩, ⟨(some 18), (.len 0 (.t 17)), none⟩, ⟨(some 19), (.bin .gtr (.t 18) (.c (.int .i64 1500))), none⟩])
 (.cond (.t 19) (.seq (.reg [⟨(some 4), (.mv (.c (.bool true))), none⟩])
 .ret)
 .skip))
 (.seq (.reg [⟨(some 21), (.mv (.t 0)), none⟩, ⟨(some 22), (.call (.c (.func (.func 47) #[] #[])) [(.t 21)]), none⟩, ⟨(some 20), (.mv (.t 22)), none⟩, ⟨(some 23), (.ext 0 (.t 20)), none⟩, ⟨(some 24), (.ext 1 (.t 20)), none⟩, ⟨(some 25), (.ext 2 (.t 20)), none⟩, ⟨(some 5), (.mv (.t 23)), none⟩, ⟨(some 6), (.mv (.t 24)), none⟩, ⟨(some 7), (.mv (.t 25)), none⟩])
 (.seq (.reg [⟨(some 27), (.mv (.t 0)), none⟩, ⟨(some 28), (.call (.c (.func (.func 48) #[] #[])) [(.t 27)]), none⟩, ⟨(some 26), (.mv (.t 28)), none⟩, ⟨(some 29), (.ext 0 (.t 26)), none⟩, ⟨(some 30), (.ext 1 (.t 26)), none⟩, ⟨(some 31), (.ext 2 (.t 26)), none⟩, ⟨(some 8), (.mv (.t 29)), none⟩, ⟨(some 9), (.mv (.t 30)), none⟩, ⟨(some 10), (.mv (.t 31)), none⟩])
 (.seq (.seq (.reg [⟨(some 32), (.mv (.t 5)), none⟩, ⟨(some 33), (.mv (.t 8)), none⟩, ⟨(some 34), (.bin .neq (.t 32) (.t 33)), none⟩, ⟨(some 35), (.mv (.t 34)), none⟩, ⟨(some 36), (.mv (.t 6)), (some (35, false))⟩, ⟨(some 37), (.mv (.t 9)), (some (35, false))⟩, ⟨(some 38), (.bin .neq (.t 36) (.t 37)), (some (35, false))⟩, ⟨(some 39), (.pick (.t 35) (.c (.bool true)) (.t 38)), none⟩, ⟨(some 40), (.mv (.t 39)), none⟩, ⟨(some 41), (.mv (.t 7)), (some (40, false))⟩, ⟨(some 42), (.mv (.t 10)), (some (40, false))⟩, ⟨(some 43), (.bin .neq (.t 41) (.t 42)), (some (40, false))⟩, ⟨(some 44), (.pick (.t 40) (.c (.bool true)) (.t 43)), none⟩])
 (.cond (.t 44) (.seq (.reg [⟨(some 4), (.mv (.c (.bool false))), none⟩])
 .ret)
 .skip))
 (.seq (.seq (.reg [⟨(some 45), (.mv (.t 1)), none⟩, ⟨(some 46), (.bin .gtr (.t 45) (.c (.int .i64 20000))), none⟩, ⟨(some 47), (.mv (.t 46)), none⟩, ⟨(some 48), (.mv (.t 5)), (some (47, true))⟩, ⟨(some 49), (.bin .gtr (.t 48) (.c (.int .i64 20000))), (some (47, true))⟩, ⟨(some 50), (.pick (.t 47) (.t 49) (.c (.bool false))), none⟩])
 (.cond (.t 50) (.seq (.reg [⟨(some 4), (.mv (.c (.bool true))), none⟩])
 .ret)
 .skip))
 (.seq (.reg [⟨(some 52), (.mv (.t 0)), none⟩, ⟨(some 53), (.mv (.t 1)), none⟩, ⟨(some 54), (.call (.c (.func (.func 49) #[] #[])) [(.t 52), (.t 53), (.c (.pointer none))]), none⟩, ⟨(some 51), (.mv (.t 54)), none⟩, ⟨(some 55), (.ext 0 (.t 51)), none⟩, ⟨(some 56), (.ext 1 (.t 51)), none⟩, ⟨(some 11), (.mv (.t 55)), none⟩, ⟨(some 12), (.mv (.t 56)), none⟩])
 (.seq (.reg [⟨(some 58), (.mv (.t 0)), none⟩, ⟨(some 59), (.mv (.t 1)), none⟩, ⟨(some 60), (.call (.c (.func (.func 50) #[] #[])) [(.t 58), (.t 59)]), none⟩, ⟨(some 57), (.mv (.t 60)), none⟩, ⟨(some 61), (.ext 0 (.t 57)), none⟩, ⟨(some 62), (.ext 1 (.t 57)), none⟩, ⟨(some 13), (.mv (.t 61)), none⟩, ⟨(some 14), (.mv (.t 62)), none⟩])
 (.seq (.reg [⟨(some 63), (.mv (.t 11)), none⟩, ⟨(some 64), (.mv (.t 13)), none⟩, ⟨(some 65), (.bin .eql (.t 63) (.t 64)), none⟩, ⟨(some 66), (.mv (.t 65)), none⟩, ⟨(some 67), (.mv (.t 12)), (some (66, true))⟩, ⟨(some 68), (.mv (.t 14)), (some (66, true))⟩, ⟨(some 69), (.bin .eql (.t 67) (.t 68)), (some (66, true))⟩, ⟨(some 70), (.pick (.t 66) (.t 69) (.c (.bool false))), none⟩, ⟨(some 71), (.mv (.t 70)), none⟩, ⟨(some 72), (.mv (.t 12)), (some (71, true))⟩, ⟨(some 73), (.bin .neq (.t 72) (.c (.int .i64 0))), (some (71, true))⟩, ⟨(some 74), (.mv (.t 73)), (some (71, true))⟩, ⟨(some 75), (.mv (.t 11)), (some (74, false))⟩, ⟨(some 76), (.len 0 (.t 75)), (some (74, false))⟩, ⟨(some 77), (.mv (.t 5)), (some (74, false))⟩, ⟨(some 78), (.bin .eql (.t 76) (.t 77)), (some (74, false))⟩, ⟨(some 79), (.mv (.t 78)), (some (74, false))⟩, ⟨(some 80), (.mv (.t 5)), (some (79, true))⟩, ⟨(some 81), (.mv (.t 1)), (some (79, true))⟩, ⟨(some 82), (.bin .leq (.t 80) (.t 81)), (some (79, true))⟩, ⟨(some 83), (.pick (.t 79) (.t 82) (.c (.bool false))), (some (74, false))⟩, ⟨(some 84), (.pick (.t 74) (.c (.bool true)) (.t 83)), (some (71, true))⟩, ⟨(some 85), (.pick (.t 71) (.t 84) (.c (.bool false))), none⟩, ⟨(some 4), (.mv (.t 85)), none⟩])
 .ret))))))))))⟩
theorem ok11 : FOk alT Try.prog 0 11 ir11 := ⟨_, Try.func11, by kernel_rfl, by kernel_rfl⟩
-- 12 hatchway/hatchwaylaw11.SnapPlain
def lp12_0 : ACode := (.seq (.seq (.reg [⟨(some 49), (.mv (.t 8)), none⟩, ⟨(some 50), (.mv (.t 7)), none⟩, ⟨(some 51), (.bin .lss (.t 49) (.t 50)), none⟩])
 (.cond (.t 51) .skip
 (.exit 0)))
 (.seq (.block 1 (.reg [⟨(some 54), (.mv (.t 6)), none⟩, ⟨(some 55), (.bin .add (.t 54) (.c (.string ⟨#[0]⟩))), none⟩, ⟨(some 6), (.mv (.t 55)), none⟩]))
 (.reg [⟨(some 52), (.mv (.t 8)), none⟩, ⟨(some 53), (.bin .add (.t 52) (.c (.int .i64 1))), none⟩, ⟨(some 8), (.mv (.t 53)), none⟩])))
def ir12 : AFn := ⟨87, [.t 4],
 (.seq (.reg [⟨(some 4), (.mv (.c (.bool false))), none⟩])
 (.seq (.seq (.reg [⟨(some 12), (.call (.c (.func (.func 46) #[] #[])) []), none⟩, ⟨(some 13), (.un .not (.t 12)), none⟩])
 (.cond (.t 13) (.seq (.reg [⟨(some 4), (.mv (.c (.bool false))), none⟩])
 .ret)
 .skip))
 (.seq (.seq (.reg [⟨(some 14), (.mv (.t 0)), none⟩, ⟨(some 15), (.len 0 (.t 14)), none⟩, ⟨(some 16), (.bin .eql (.t 15) (.c (.int .i64 0))), none⟩, ⟨(some 17), (.mv (.t 16)), none⟩, ⟨(some 18), (.mv (.t 0)), (some (17, false))⟩, ⟨(some 19), (.len 0 (.t 18)), (some (17, false))⟩, ⟨(some 20), (.bin .gtr (.t 19) (.c (.int .i64 250))), (some (17, false))⟩, ⟨(some 21), (.pick (.t 17) (.c (.bool true)) (.t 20)), none⟩])
 (.cond (.t 21) (.seq (.reg [⟨(some 4), (.mv (.c (.bool true))), none⟩])
 .ret)
 .skip))
 (.seq (.reg [⟨(some 22), (.mv (.t 0)), none⟩, ⟨(some 23), (.len 0 (.t 22)), none⟩, ⟨(some 24), (.bin .sub (.t 23) (.c (.int .i64 1))), none⟩, ⟨(some 5), (.mv (.t 24)), none⟩])
 (.seq (.reg [⟨(some 25), (.mv (.t 5)), none⟩, ⟨(some 26), (.bin .mul (.c (.int .i64 4)) (.t 25)), none⟩, ⟨(some 27), (.conv .u8 (.t 26)), none⟩, ⟨(some 28), (.lit 5 [(.int .u8 0)] 1 1 [(0, 1, (.t 27))]), none⟩, ⟨(some 29), (.b2s (.t 28)), none⟩, ⟨(some 6), (.mv (.t 29)), none⟩])
 (.seq (.reg [⟨(some 30), (.mv (.t 1)), none⟩, ⟨(some 31), (.conv .i64 (.t 30)), none⟩, ⟨(some 32), (.bin .rem (.t 31) (.c (.int .i64 5))), none⟩, ⟨(some 7), (.mv (.t 32)), none⟩])
 (.seq (.seq (.reg [⟨(some 33), (.mv (.t 7)), none⟩, ⟨(some 34), (.bin .gtr (.t 33) (.c (.int .i64 0))), none⟩, ⟨(some 35), (.mv (.t 34)), none⟩, ⟨(some 36), (.mv (.t 5)), (some (35, false))⟩, ⟨(some 37), (.bin .geq (.t 36) (.c (.int .i64 60))), (some (35, false))⟩, ⟨(some 38), (.pick (.t 35) (.c (.bool true)) (.t 37)), none⟩])
 (.cond (.t 38) (.seq (.reg [⟨(some 39), (.mv (.t 7)), none⟩, ⟨(some 40), (.mm true (.t 39) [(.c (.int .i64 1))]), none⟩, ⟨(some 7), (.mv (.t 40)), none⟩])
 (.seq (.reg [⟨(some 41), (.mv (.t 7)), none⟩, ⟨(some 42), (.bin .add (.c (.int .i64 59)) (.t 41)), none⟩, ⟨(some 43), (.bin .mul (.c (.int .i64 4)) (.t 42)), none⟩, ⟨(some 44), (.conv .u8 (.t 43)), none⟩, ⟨(some 45), (.mv (.t 5)), none⟩, ⟨(some 46), (.conv .u8 (.t 45)), none⟩, ⟨(some 47), (.lit 5 [(.int .u8 0), (.int .u8 0)] 2 1 [(0, 1, (.t 44)), (1, 1, (.t 46))]), none⟩, ⟨(some 48), (.b2s (.t 47)), none⟩, ⟨(some 6), (.mv (.t 48)), none⟩])
 (.seq (.reg [⟨(some 8), (.mv (.c (.int .i64 1))), none⟩])
 (.block 0 (.loop lp12_0)))))
 .skip))
 (.seq (.reg [⟨(some 56), (.mv (.t 0)), none⟩, ⟨(some 57), (.len 0 (.t 56)), none⟩, ⟨(some 58), (.conv .u8 (.t 57)), none⟩, ⟨(some 59), (.lit 5 [(.int .u8 0)] 1 1 [(0, 1, (.t 58))]), none⟩, ⟨(some 60), (.b2s (.t 59)), none⟩, ⟨(some 9), (.mv (.t 60)), none⟩])
 (.seq (.seq (.reg [⟨(some 61), (.mv (.t 0)), none⟩, ⟨(some 62), (.len 0 (.t 61)), none⟩, ⟨(some 63), (.bin .geq (.t 62) (.c (.int .i64 128))), none⟩])
 (.cond (.t 63) (.reg [⟨(some 64), (.mv (.t 0)), none⟩, ⟨(some 65), (.len 0 (.t 64)), none⟩, ⟨(some 66), (.bin .rem (.t 65) (.c (.int .i64 128))), none⟩, ⟨(some 67), (.bin .add (.t 66) (.c (.int .i64 128))), none⟩, ⟨(some 68), (.conv .u8 (.t 67)), none⟩, ⟨(some 69), (.lit 5 [(.int .u8 0), (.int .u8 0)] 2 1 [(0, 1, (.t 68)), (1, 1, (.c (.int .u8 1)))]), none⟩, ⟨(some 70), (.b2s (.t 69)), none⟩, ⟨(some 9), (.mv (.t 70)), none⟩])
 .skip))
 (.seq (.reg [⟨(some 72), (.mv (.t 9)), none⟩, ⟨(some 73), (.mv (.t 6)), none⟩, ⟨(some 74), (.bin .add (.t 72) (.t 73)), none⟩, ⟨(some 75), (.mv (.t 0)), none⟩, ⟨(some 76), (.bin .add (.t 74) (.t 75)), none⟩, ⟨(some 77), (.call (.c (.func (.func 49) #[] #[])) [(.t 76), (.c (.int .i64 250)), (.c (.pointer none))]), none⟩, ⟨(some 71), (.mv (.t 77)), none⟩, ⟨(some 78), (.ext 0 (.t 71)), none⟩, ⟨(some 79), (.ext 1 (.t 71)), none⟩, ⟨(some 10), (.mv (.t 78)), none⟩, ⟨(some 11), (.mv (.t 79)), none⟩])
 (.seq (.reg [⟨(some 80), (.mv (.t 11)), none⟩, ⟨(some 81), (.bin .eql (.t 80) (.c (.int .i64 0))), none⟩, ⟨(some 82), (.mv (.t 81)), none⟩, ⟨(some 83), (.mv (.t 10)), (some (82, true))⟩, ⟨(some 84), (.mv (.t 0)), (some (82, true))⟩, ⟨(some 85), (.bin .eql (.t 83) (.t 84)), (some (82, true))⟩, ⟨(some 86), (.pick (.t 82) (.t 85) (.c (.bool false))), none⟩, ⟨(some 4), (.mv (.t 86)), none⟩])
 .ret)))))))))))⟩
theorem ok12 : FOk alT Try.prog 0 12 ir12 := ⟨_, Try.func12, by kernel_rfl, by kernel_rfl⟩
-- 13 hatchway/hatchwaylaw11.SnapRuns
def lp13_0 : ACode := (.seq (.seq (.reg [⟨(some 70), (.mv (.t 9)), none⟩, ⟨(some 71), (.mv (.t 7)), none⟩, ⟨(some 72), (.len 0 (.t 71)), none⟩, ⟨(some 73), (.bin .lss (.t 70) (.t 72)), none⟩])
 (.cond (.t 73) .skip
 (.exit 0)))
 (.seq (.block 1 (.seq (.draw [⟨(some 76), (.mv (.t 7)), none⟩, ⟨(some 77), (.mv (.t 9)), none⟩, ⟨(some 78), (.ixs (.t 76) (.t 77)), none⟩, ⟨(some 79), (.mv (.t 0)), none⟩, ⟨(some 80), (.mv (.t 9)), none⟩, ⟨(some 81), (.mv (.t 0)), none⟩, ⟨(some 82), (.len 0 (.t 81)), none⟩, ⟨(some 83), (.bin .rem (.t 80) (.t 82)), none⟩, ⟨(some 84), (.ixs (.t 79) (.t 83)), none⟩, ⟨(some 85), (.bin .neq (.t 78) (.t 84)), none⟩] [])
 (.cond (.t 85) (.seq (.reg [⟨(some 4), (.mv (.c (.bool false))), none⟩])
 .ret)
 .skip)))
 (.reg [⟨(some 74), (.mv (.t 9)), none⟩, ⟨(some 75), (.bin .add (.t 74) (.c (.int .i64 1))), none⟩, ⟨(some 9), (.mv (.t 75)), none⟩])))
def ir13 : AFn := ⟨86, [.t 4],
 (.seq (.reg [⟨(some 4), (.mv (.c (.bool false))), none⟩])
 (.seq (.seq (.reg [⟨(some 10), (.call (.c (.func (.func 46) #[] #[])) []), none⟩, ⟨(some 11), (.un .not (.t 10)), none⟩])
 (.cond (.t 11) (.seq (.reg [⟨(some 4), (.mv (.c (.bool false))), none⟩])
 .ret)
 .skip))
 (.seq (.seq (.reg [⟨(some 12), (.mv (.t 0)), none⟩, ⟨(some 13), (.len 0 (.t 12)), none⟩, ⟨(some 14), (.bin .eql (.t 13) (.c (.int .i64 0))), none⟩, ⟨(some 15), (.mv (.t 14)), none⟩, ⟨(some 16), (.mv (.t 0)), (some (15, false))⟩, ⟨(some 17), (.len 0 (.t 16)), (some (15, false))⟩, ⟨(some 18), (.bin .gtr (.t 17) (.c (.int .i64 60))), (some (15, false))⟩, ⟨(some 19), (.pick (.t 15) (.c (.bool true)) (.t 18)), none⟩])
 (.cond (.t 19) (.seq (.reg [⟨(some 4), (.mv (.c (.bool true))), none⟩])
 .ret)
 .skip))
 (.seq (.reg [⟨(some 20), (.mv (.t 1)), none⟩, ⟨(some 21), (.conv .i64 (.t 20)), none⟩, ⟨(some 22), (.bin .rem (.t 21) (.c (.int .i64 64))), none⟩, ⟨(some 23), (.bin .add (.c (.int .i64 1)) (.t 22)), none⟩, ⟨(some 5), (.mv (.t 23)), none⟩])
 (.seq (.reg [⟨(some 24), (.mv (.t 0)), none⟩, ⟨(some 25), (.len 0 (.t 24)), none⟩, ⟨(some 26), (.mv (.t 5)), none⟩, ⟨(some 27), (.bin .add (.t 25) (.t 26)), none⟩, ⟨(some 28), (.conv .u8 (.t 27)), none⟩, ⟨(some 29), (.mv (.t 0)), none⟩, ⟨(some 30), (.len 0 (.t 29)), none⟩, ⟨(some 31), (.bin .sub (.t 30) (.c (.int .i64 1))), none⟩, ⟨(some 32), (.bin .mul (.c (.int .i64 4)) (.t 31)), none⟩, ⟨(some 33), (.conv .u8 (.t 32)), none⟩, ⟨(some 34), (.lit 5 [(.int .u8 0), (.int .u8 0)] 2 1 [(0, 1, (.t 28)), (1, 1, (.t 33))]), none⟩, ⟨(some 35), (.b2s (.t 34)), none⟩, ⟨(some 36), (.mv (.t 0)), none⟩, ⟨(some 37), (.bin .add (.t 35) (.t 36)), none⟩, ⟨(some 38), (.mv (.t 5)), none⟩, ⟨(some 39), (.bin .sub (.t 38) (.c (.int .i64 1))), none⟩, ⟨(some 40), (.bin .mul (.c (.int .i64 4)) (.t 39)), none⟩, ⟨(some 41), (.bin .add (.t 40) (.c (.int .i64 2))), none⟩, ⟨(some 42), (.conv .u8 (.t 41)), none⟩, ⟨(some 43), (.mv (.t 0)), none⟩, ⟨(some 44), (.len 0 (.t 43)), none⟩, ⟨(some 45), (.conv .u8 (.t 44)), none⟩, ⟨(some 46), (.lit 5 [(.int .u8 0), (.int .u8 0), (.int .u8 0)] 3 1 [(0, 1, (.t 42)), (1, 1, (.t 45)), (2, 1, (.c (.int .u8 0)))]), none⟩, ⟨(some 47), (.b2s (.t 46)), none⟩, ⟨(some 48), (.bin .add (.t 37) (.t 47)), none⟩, ⟨(some 6), (.mv (.t 48)), none⟩])
 (.seq (.seq (.reg [⟨(some 49), (.mv (.t 0)), none⟩, ⟨(some 50), (.len 0 (.t 49)), none⟩, ⟨(some 51), (.mv (.t 5)), none⟩, ⟨(some 52), (.bin .add (.t 50) (.t 51)), none⟩, ⟨(some 53), (.bin .geq (.t 52) (.c (.int .i64 128))), none⟩])
 (.cond (.t 53) (.seq (.reg [⟨(some 4), (.mv (.c (.bool true))), none⟩])
 .ret)
 .skip))
 (.seq (.reg [⟨(some 55), (.mv (.t 6)), none⟩, ⟨(some 56), (.call (.c (.func (.func 49) #[] #[])) [(.t 55), (.c (.int .i64 200)), (.c (.pointer none))]), none⟩, ⟨(some 54), (.mv (.t 56)), none⟩, ⟨(some 57), (.ext 0 (.t 54)), none⟩, ⟨(some 58), (.ext 1 (.t 54)), none⟩, ⟨(some 7), (.mv (.t 57)), none⟩, ⟨(some 8), (.mv (.t 58)), none⟩])
 (.seq (.seq (.reg [⟨(some 59), (.mv (.t 8)), none⟩, ⟨(some 60), (.bin .neq (.t 59) (.c (.int .i64 0))), none⟩, ⟨(some 61), (.mv (.t 60)), none⟩, ⟨(some 62), (.mv (.t 7)), (some (61, false))⟩, ⟨(some 63), (.len 0 (.t 62)), (some (61, false))⟩, ⟨(some 64), (.mv (.t 0)), (some (61, false))⟩, ⟨(some 65), (.len 0 (.t 64)), (some (61, false))⟩, ⟨(some 66), (.mv (.t 5)), (some (61, false))⟩, ⟨(some 67), (.bin .add (.t 65) (.t 66)), (some (61, false))⟩, ⟨(some 68), (.bin .neq (.t 63) (.t 67)), (some (61, false))⟩, ⟨(some 69), (.pick (.t 61) (.c (.bool true)) (.t 68)), none⟩])
 (.cond (.t 69) (.seq (.reg [⟨(some 4), (.mv (.c (.bool false))), none⟩])
 .ret)
 .skip))
 (.seq (.seq (.reg [⟨(some 9), (.mv (.c (.int .i64 0))), none⟩])
 (.block 0 (.loop lp13_0)))
 (.seq (.reg [⟨(some 4), (.mv (.c (.bool true))), none⟩])
 .ret))))))))))⟩
theorem ok13 : FOk alT Try.prog 0 13 ir13 := ⟨_, Try.func13, by kernel_rfl, by kernel_rfl⟩
-- 38 hatchway/hatchwaylaw15.alive
def ir38 : AFn := ⟨25, [.t 0],
 (.seq (.reg [⟨(some 0), (.mv (.c (.bool false))), none⟩])
 (.seq (.reg [⟨(some 7), (.call (.c (.func (.func 39) #[] #[])) [(.c (.int .u64 5)), (.c (.string ⟨#[97, 98]⟩))]), none⟩, ⟨(some 6), (.mv (.t 7)), none⟩, ⟨(some 8), (.ext 0 (.t 6)), none⟩, ⟨(some 9), (.ext 1 (.t 6)), none⟩, ⟨(some 1), (.mv (.t 8)), none⟩, ⟨(some 2), (.mv (.t 9)), none⟩])
 (.seq (.reg [⟨(some 11), (.call (.c (.func (.func 41) #[] #[])) [(.c (.int .i64 9)), (.c (.string ⟨#[0]⟩))]), none⟩, ⟨(some 10), (.mv (.t 11)), none⟩, ⟨(some 12), (.ext 0 (.t 10)), none⟩, ⟨(some 13), (.ext 1 (.t 10)), none⟩, ⟨(some 14), (.ext 2 (.t 10)), none⟩, ⟨(some 3), (.new 74 [(.int .u64 0), (.string ⟨#[]⟩), (.string ⟨#[]⟩)]), none⟩, ⟨none, (.st 3 (.t 3) (.t 12)), none⟩, ⟨(some 4), (.mv (.t 13)), none⟩, ⟨(some 5), (.mv (.t 14)), none⟩])
 (.seq (.reg [⟨(some 15), (.mv (.t 2)), none⟩, ⟨(some 16), (.bin .eql (.t 15) (.c (.int .i64 0))), none⟩, ⟨(some 17), (.mv (.t 16)), none⟩, ⟨(some 18), (.mv (.t 1)), (some (17, true))⟩, ⟨(some 19), (.bin .eql (.t 18) (.c (.string ⟨#[3, 5, 97, 98]⟩))), (some (17, true))⟩, ⟨(some 20), (.pick (.t 17) (.t 19) (.c (.bool false))), none⟩, ⟨(some 21), (.mv (.t 20)), none⟩, ⟨(some 22), (.mv (.t 5)), (some (21, true))⟩, ⟨(some 23), (.bin .eql (.t 22) (.c (.int .i64 3))), (some (21, true))⟩, ⟨(some 24), (.pick (.t 21) (.t 23) (.c (.bool false))), none⟩, ⟨(some 0), (.mv (.t 24)), none⟩])
 .ret))))⟩
theorem ok38 : FOk alT Try.prog 0 38 ir38 := ⟨_, Try.func38, by kernel_rfl, by kernel_rfl⟩
-- 39 hatchway/plain.Put
def ir39 : AFn := ⟨22, [.t 4, .t 5],
 (.seq (.reg [⟨(some 4), (.mv (.c (.string ⟨#[]⟩))), none⟩, ⟨(some 5), (.mv (.c (.int .i64 0))), none⟩])
 (.seq (.reg [⟨(some 7), (.mv (.t 0)), none⟩, ⟨(some 8), (.call (.c (.func (.func 73) #[] #[])) [(.t 7)]), none⟩, ⟨(some 9), (.mv (.t 1)), none⟩, ⟨(some 10), (.len 0 (.t 9)), none⟩, ⟨(some 11), (.bin .add (.t 8) (.t 10)), none⟩, ⟨(some 6), (.mv (.t 11)), none⟩])
 (.seq (.seq (.reg [⟨(some 12), (.mv (.t 6)), none⟩, ⟨(some 13), (.bin .gtr (.t 12) (.c (.int .i64 65536))), none⟩])
 (.cond (.t 13) (.seq (.reg [⟨(some 4), (.mv (.c (.string ⟨#[]⟩))), none⟩, ⟨(some 5), (.mv (.c (.int .i64 5))), none⟩])
 .ret)
 .skip))
 (.seq (.reg [⟨(some 14), (.mv (.t 6)), none⟩, ⟨(some 15), (.conv .u64 (.t 14)), none⟩, ⟨(some 16), (.call (.c (.func (.func 74) #[] #[])) [(.t 15)]), none⟩, ⟨(some 17), (.mv (.t 0)), none⟩, ⟨(some 18), (.call (.c (.func (.func 74) #[] #[])) [(.t 17)]), none⟩, ⟨(some 19), (.bin .add (.t 16) (.t 18)), none⟩, ⟨(some 20), (.mv (.t 1)), none⟩, ⟨(some 21), (.bin .add (.t 19) (.t 20)), none⟩, ⟨(some 4), (.mv (.t 21)), none⟩, ⟨(some 5), (.mv (.c (.int .i64 0))), none⟩])
 .ret))))⟩
theorem ok39 : FOk alT Try.prog 0 39 ir39 := ⟨_, Try.func39, by kernel_rfl, by kernel_rfl⟩
-- 40 hatchway/hatchwayref15.Put
def ir40 : AFn := ⟨20, [.t 4, .t 5],
 (.seq (.reg [⟨(some 4), (.mv (.c (.string ⟨#[]⟩))), none⟩, ⟨(some 5), (.mv (.c (.bool false))), none⟩])
 (.seq (.reg [⟨(some 7), (.mv (.t 0)), none⟩, ⟨(some 8), (.call (.c (.func (.func 75) #[] #[])) [(.t 7)]), none⟩, ⟨(some 9), (.mv (.t 1)), none⟩, ⟨(some 10), (.bin .add (.t 8) (.t 9)), none⟩, ⟨(some 6), (.mv (.t 10)), none⟩])
 (.seq (.reg [⟨(some 11), (.mv (.t 6)), none⟩, ⟨(some 12), (.len 0 (.t 11)), none⟩, ⟨(some 13), (.conv .u64 (.t 12)), none⟩, ⟨(some 14), (.call (.c (.func (.func 75) #[] #[])) [(.t 13)]), none⟩, ⟨(some 15), (.mv (.t 6)), none⟩, ⟨(some 16), (.bin .add (.t 14) (.t 15)), none⟩, ⟨(some 17), (.mv (.t 6)), none⟩, ⟨(some 18), (.len 0 (.t 17)), none⟩, ⟨(some 19), (.bin .leq (.t 18) (.c (.int .i64 65536))), none⟩, ⟨(some 4), (.mv (.t 16)), none⟩, ⟨(some 5), (.mv (.t 19)), none⟩])
 .ret)))⟩
theorem ok40 : FOk alT Try.prog 0 40 ir40 := ⟨_, Try.func40, by kernel_rfl, by kernel_rfl⟩
-- 41 hatchway/plain.Next
def ir41 : AFn := ⟨59, [.cell 4 (some 3), .t 5, .t 6],
 (.seq (.reg [⟨(some 4), (.new 74 [(.int .u64 0), (.string ⟨#[]⟩), (.string ⟨#[]⟩)]), none⟩, ⟨(some 5), (.mv (.c (.int .i64 0))), none⟩, ⟨(some 6), (.mv (.c (.int .i64 0))), none⟩])
 (.seq (.reg [⟨(some 15), (.mv (.t 0)), none⟩, ⟨(some 16), (.mv (.t 1)), none⟩, ⟨(some 17), (.call (.c (.func (.func 76) #[] #[])) [(.t 15), (.t 16)]), none⟩, ⟨(some 14), (.mv (.t 17)), none⟩, ⟨(some 18), (.ext 0 (.t 14)), none⟩, ⟨(some 19), (.ext 1 (.t 14)), none⟩, ⟨(some 20), (.ext 2 (.t 14)), none⟩, ⟨(some 7), (.mv (.t 18)), none⟩, ⟨(some 8), (.mv (.t 19)), none⟩, ⟨(some 9), (.mv (.t 20)), none⟩])
 (.seq (.block 0 (.seq (.reg [⟨(some 22), (.mv (.t 9)), none⟩, ⟨(some 23), (.bin .neq (.t 22) (.c (.int .i64 0))), none⟩, ⟨(some 21), (.mv (.t 23)), none⟩])
 (.cond (.t 21) (.seq (.reg [⟨(some 24), (.build [(.int .u64 0), (.string ⟨#[]⟩), (.string ⟨#[]⟩)] []), none⟩, ⟨(some 25), (.mv (.t 9)), none⟩, ⟨none, (.st 3 (.t 4) (.t 24)), none⟩, ⟨(some 5), (.mv (.c (.int .i64 0))), none⟩, ⟨(some 6), (.mv (.t 25)), none⟩])
 .ret)
 (.seq (.reg [⟨(some 27), (.mv (.t 1)), none⟩, ⟨(some 28), (.len 0 (.t 27)), none⟩, ⟨(some 29), (.mv (.t 8)), none⟩, ⟨(some 30), (.bin .sub (.t 28) (.t 29)), none⟩, ⟨(some 31), (.mv (.t 7)), none⟩, ⟨(some 32), (.bin .lss (.t 30) (.t 31)), none⟩, ⟨(some 26), (.mv (.t 32)), none⟩])
 (.cond (.t 26) (.seq (.reg [⟨(some 33), (.build [(.int .u64 0), (.string ⟨#[]⟩), (.string ⟨#[]⟩)] []), none⟩, ⟨none, (.st 3 (.t 4) (.t 33)), none⟩, ⟨(some 5), (.mv (.c (.int .i64 0))), none⟩, ⟨(some 6), (.mv (.c (.int .i64 2))), none⟩])
 .ret)
 .skip)))))
 (.seq (.reg [⟨(some 34), (.mv (.t 1)), none⟩, ⟨(some 35), (.mv (.t 8)), none⟩, ⟨(some 36), (.mv (.t 8)), none⟩, ⟨(some 37), (.mv (.t 7)), none⟩, ⟨(some 38), (.bin .add (.t 36) (.t 37)), none⟩, ⟨(some 39), (.cut (.t 34) (some (.t 35)) (some (.t 38))), none⟩, ⟨(some 40), (.call (.c (.func (.func 77) #[] #[])) [(.t 39)]), none⟩, ⟨(some 10), (.mv (.t 40)), none⟩])
 (.seq (.reg [⟨(some 41), (.mv (.t 10)), none⟩, ⟨(some 42), (.mkf (.func 78) [(.t 41)] []), none⟩, ⟨(some 43), (.mv (.t 10)), none⟩, ⟨(some 44), (.mkf (.func 79) [(.t 43)] []), none⟩, ⟨(some 11), (.mv (.t 42)), none⟩, ⟨(some 12), (.mv (.t 44)), none⟩])
 (.seq (.reg [⟨(some 45), (.mv (.t 10)), none⟩, ⟨(some 46), (.call (.c (.func (.func 80) #[] #[])) [(.t 45), (.c (.int .u64 18446744073709551615))]), none⟩, ⟨(some 47), (.build [(.int .u64 0), (.string ⟨#[]⟩), (.string ⟨#[]⟩)] [(0, 1, (.t 46))]), none⟩, ⟨(some 13), (.new 74 [(.int .u64 0), (.string ⟨#[]⟩), (.string ⟨#[]⟩)]), none⟩, ⟨none, (.st 3 (.t 13) (.t 47)), none⟩])
 (.seq (.reg [⟨(some 48), (.mv (.t 11)), none⟩, ⟨(some 49), (.call (.t 48) []), none⟩, ⟨(some 50), (.fa 2 (.t 13)), none⟩, ⟨none, (.st 1 (.t 50) (.t 49)), none⟩])
 (.seq (.seq (.reg [⟨(some 51), (.mv (.t 12)), none⟩, ⟨(some 52), (.call (.t 51) []), none⟩, ⟨(some 53), (.bin .neq (.t 52) (.c (.int .i64 0))), none⟩])
 (.cond (.t 53) (.seq (.reg [⟨(some 54), (.build [(.int .u64 0), (.string ⟨#[]⟩), (.string ⟨#[]⟩)] []), none⟩, ⟨none, (.st 3 (.t 4) (.t 54)), none⟩, ⟨(some 5), (.mv (.c (.int .i64 0))), none⟩, ⟨(some 6), (.mv (.c (.int .i64 3))), none⟩])
 .ret)
 .skip))
 (.seq (.reg [⟨(some 55), (.ldn 3 (.t 13)), none⟩, ⟨(some 56), (.mv (.t 8)), none⟩, ⟨(some 57), (.mv (.t 7)), none⟩, ⟨(some 58), (.bin .add (.t 56) (.t 57)), none⟩, ⟨none, (.st 3 (.t 4) (.t 55)), none⟩, ⟨(some 5), (.mv (.t 58)), none⟩, ⟨(some 6), (.mv (.c (.int .i64 0))), none⟩])
 .ret)))))))))⟩
theorem ok41 : FOk alT Try.prog 0 41 ir41 := ⟨_, Try.func41, by kernel_rfl, by kernel_rfl⟩
-- 46 hatchway/hatchwaylaw11.alive
def ir46 : AFn := ⟨13, [.t 0],
 (.seq (.reg [⟨(some 0), (.mv (.c (.bool false))), none⟩])
 (.seq (.reg [⟨(some 4), (.call (.c (.func (.func 49) #[] #[])) [(.c (.string ⟨#[5, 16, 97, 98, 99, 100, 101]⟩)), (.c (.int .i64 9)), (.c (.pointer none))]), none⟩, ⟨(some 3), (.mv (.t 4)), none⟩, ⟨(some 5), (.ext 0 (.t 3)), none⟩, ⟨(some 6), (.ext 1 (.t 3)), none⟩, ⟨(some 1), (.mv (.t 5)), none⟩, ⟨(some 2), (.mv (.t 6)), none⟩])
 (.seq (.reg [⟨(some 7), (.mv (.t 2)), none⟩, ⟨(some 8), (.bin .eql (.t 7) (.c (.int .i64 0))), none⟩, ⟨(some 9), (.mv (.t 8)), none⟩, ⟨(some 10), (.mv (.t 1)), (some (9, true))⟩, ⟨(some 11), (.bin .eql (.t 10) (.c (.string ⟨#[97, 98, 99, 100, 101]⟩))), (some (9, true))⟩, ⟨(some 12), (.pick (.t 9) (.t 11) (.c (.bool false))), none⟩, ⟨(some 0), (.mv (.t 12)), none⟩])
 .ret)))⟩
theorem ok46 : FOk alT Try.prog 0 46 ir46 := ⟨_, Try.func46, by kernel_rfl, by kernel_rfl⟩
-- 47 hatchway/snap.Size
def ir47 : AFn := ⟨26, [.t 2, .t 3, .t 4],
 (.seq (.reg [⟨(some 2), (.mv (.c (.int .i64 0))), none⟩, ⟨(some 3), (.mv (.c (.int .i64 0))), none⟩, ⟨(some 4), (.mv (.c (.int .i64 0))), none⟩])
 (.seq (.reg [⟨(some 9), (.mv (.t 0)), none⟩, ⟨(some 10), (.call (.c (.func (.func 84) #[] #[])) [(.t 9)]), none⟩, ⟨(some 8), (.mv (.t 10)), none⟩, ⟨(some 11), (.ext 0 (.t 8)), none⟩, ⟨(some 12), (.ext 1 (.t 8)), none⟩, ⟨(some 13), (.ext 2 (.t 8)), none⟩, ⟨(some 5), (.mv (.t 11)), none⟩, ⟨(some 6), (.mv (.t 12)), none⟩, ⟨(some 7), (.mv (.t 13)), none⟩])
 (.seq (.seq (.reg [⟨(some 14), (.mv (.t 7)), none⟩, ⟨(some 15), (.bin .eql (.t 14) (.c (.int .i64 0))), none⟩, ⟨(some 16), (.mv (.t 15)), none⟩, ⟨(some 17), (.mv (.t 5)), (some (16, true))⟩, ⟨(some 18), (.bin .gtr (.t 17) (.c (.int .u64 4294967295))), (some (16, true))⟩, ⟨(some 19), (.pick (.t 16) (.t 18) (.c (.bool false))), none⟩])
 (.cond (.t 19) (.reg [⟨(some 7), (.mv (.c (.int .i64 5))), none⟩])
 .skip))
 (.seq (.seq (.reg [⟨(some 20), (.mv (.t 7)), none⟩, ⟨(some 21), (.bin .neq (.t 20) (.c (.int .i64 0))), none⟩])
 (.cond (.t 21) (.seq (.reg [⟨(some 22), (.mv (.t 7)), none⟩, ⟨(some 2), (.mv (.c (.int .i64 0))), none⟩, ⟨(some 3), (.mv (.c (.int .i64 0))), none⟩, ⟨(some 4), (.mv (.t 22)), none⟩])
 .ret)
 .skip))
 (.seq (.reg [⟨(some 23), (.mv (.t 5)), none⟩, ⟨(some 24), (.conv .i64 (.t 23)), none⟩, ⟨(some 25), (.mv (.t 6)), none⟩, ⟨(some 2), (.mv (.t 24)), none⟩, ⟨(some 3), (.mv (.t 25)), none⟩, ⟨(some 4), (.mv (.c (.int .i64 0))), none⟩])
 .ret)))))⟩
theorem ok47 : FOk alT Try.prog 0 47 ir47 := ⟨_, Try.func47, by kernel_rfl, by kernel_rfl⟩
-- 48 hatchway/hatchwayref11.Size
def ir48 : AFn := ⟨22, [.t 2, .t 3, .t 4],
 (.seq (.reg [⟨(some 2), (.mv (.c (.int .i64 0))), none⟩, ⟨(some 3), (.mv (.c (.int .i64 0))), none⟩, ⟨(some 4), (.mv (.c (.int .i64 0))), none⟩])
 (.seq (.reg [⟨(some 9), (.mv (.t 0)), none⟩, ⟨(some 10), (.call (.c (.func (.func 85) #[] #[])) [(.t 9)]), none⟩, ⟨(some 8), (.mv (.t 10)), none⟩, ⟨(some 11), (.ext 0 (.t 8)), none⟩, ⟨(some 12), (.ext 1 (.t 8)), none⟩, ⟨(some 13), (.ext 2 (.t 8)), none⟩, ⟨(some 5), (.mv (.t 11)), none⟩, ⟨(some 6), (.mv (.t 12)), none⟩, ⟨(some 7), (.mv (.t 13)), none⟩])
 (.seq (.seq (.reg [⟨(some 14), (.mv (.t 7)), none⟩, ⟨(some 15), (.bin .neq (.t 14) (.c (.int .i64 0))), none⟩])
 (.cond (.t 15) (.seq (.reg [⟨(some 16), (.mv (.t 7)), none⟩, ⟨(some 2), (.mv (.c (.int .i64 0))), none⟩, ⟨(some 3), (.mv (.c (.int .i64 0))), none⟩, ⟨(some 4), (.mv (.t 16)), none⟩])
 .ret)
 .skip))
 (.seq (.seq (.reg [⟨(some 17), (.mv (.t 5)), none⟩, ⟨(some 18), (.bin .gtr (.t 17) (.c (.int .u64 4294967295))), none⟩])
 (.cond (.t 18) (.seq (.reg [⟨(some 2), (.mv (.c (.int .i64 0))), none⟩, ⟨(some 3), (.mv (.c (.int .i64 0))), none⟩, ⟨(some 4), (.mv (.c (.int .i64 5))), none⟩])
 .ret)
 .skip))
 (.seq (.reg [⟨(some 19), (.mv (.t 5)), none⟩, ⟨(some 20), (.conv .i64 (.t 19)), none⟩, ⟨(some 21), (.mv (.t 6)), none⟩, ⟨(some 2), (.mv (.t 20)), none⟩, ⟨(some 3), (.mv (.t 21)), none⟩, ⟨(some 4), (.mv (.c (.int .i64 0))), none⟩])
 .ret)))))⟩
theorem ok48 : FOk alT Try.prog 0 48 ir48 := ⟨_, Try.func48, by kernel_rfl, by kernel_rfl⟩
-- 49 hatchway/snap.Unpack
def lp49_0 : ACode := (.seq (.seq (.reg [⟨(some 43), (.mv (.t 12)), none⟩, ⟨(some 44), (.nilchk (.t 43)), none⟩, ⟨(some 45), (.fa 0 (.t 44)), none⟩, ⟨(some 46), (.ld (.t 45)), none⟩, ⟨(some 47), (.call (.c (.func (.func 87) #[] #[])) [(.t 46)]), none⟩, ⟨(some 48), (.bin .gtr (.t 47) (.c (.int .i64 0))), none⟩, ⟨(some 49), (.mv (.t 48)), none⟩, ⟨(some 50), (.mv (.t 12)), (some (49, true))⟩, ⟨(some 51), (.nilchk (.t 50)), (some (49, true))⟩, ⟨(some 52), (.fa 0 (.t 51)), (some (49, true))⟩, ⟨(some 53), (.ld (.t 52)), (some (49, true))⟩, ⟨(some 54), (.call (.c (.func (.func 79) #[] #[])) [(.t 53)]), (some (49, true))⟩, ⟨(some 55), (.bin .eql (.t 54) (.c (.int .i64 0))), (some (49, true))⟩, ⟨(some 56), (.pick (.t 49) (.t 55) (.c (.bool false))), none⟩])
 (.cond (.t 56) .skip
 (.exit 1)))
 (.block 2 (.reg [⟨(some 57), (.mv (.t 12)), none⟩, ⟨(some 58), (.call (.c (.func (.func 88) #[] #[])) [(.t 57)]), none⟩])))
def ir49 : AFn := ⟨84, [.t 6, .t 7],
 (.seq (.reg [⟨(some 6), (.mv (.c (.string ⟨#[]⟩))), none⟩, ⟨(some 7), (.mv (.c (.int .i64 0))), none⟩])
 (.seq (.reg [⟨(some 15), (.mv (.t 0)), none⟩, ⟨(some 16), (.call (.c (.func (.func 47) #[] #[])) [(.t 15)]), none⟩, ⟨(some 14), (.mv (.t 16)), none⟩, ⟨(some 17), (.ext 0 (.t 14)), none⟩, ⟨(some 18), (.ext 1 (.t 14)), none⟩, ⟨(some 19), (.ext 2 (.t 14)), none⟩, ⟨(some 8), (.mv (.t 17)), none⟩, ⟨(some 9), (.mv (.t 18)), none⟩, ⟨(some 10), (.mv (.t 19)), none⟩])
 (.seq (.block 0 (.seq (.reg [⟨(some 21), (.mv (.t 10)), none⟩, ⟨(some 22), (.bin .neq (.t 21) (.c (.int .i64 0))), none⟩, ⟨(some 20), (.mv (.t 22)), none⟩])
 (.cond (.t 20) (.seq (.reg [⟨(some 23), (.mv (.t 10)), none⟩, ⟨(some 6), (.mv (.c (.string ⟨#[]⟩))), none⟩, ⟨(some 7), (.mv (.t 23)), none⟩])
 .ret)
 (.seq (.reg [⟨(some 25), (.mv (.t 8)), none⟩, ⟨(some 26), (.mv (.t 1)), none⟩, ⟨(some 27), (.bin .gtr (.t 25) (.t 26)), none⟩, ⟨(some 24), (.mv (.t 27)), none⟩])
 (.cond (.t 24) (.seq (.reg [⟨(some 6), (.mv (.c (.string ⟨#[]⟩))), none⟩, ⟨(some 7), (.mv (.c (.int .i64 5))), none⟩])
 .ret)
 .skip)))))
 (.seq (.seq (.reg [⟨(some 28), (.mv (.t 2)), none⟩, ⟨(some 29), (.nileq 0 true (.t 28) (.c (.pointer none))), none⟩])
 (.cond (.t 29) (.seq (.reg [⟨(some 30), (.mv (.t 2)), none⟩, ⟨(some 31), (.mv (.t 8)), none⟩, ⟨(some 32), (.call (.c (.func (.func 86) #[] #[])) [(.t 30), (.t 31)]), none⟩, ⟨(some 11), (.mv (.t 32)), none⟩])
 (.seq (.reg [⟨(some 33), (.mv (.t 11)), none⟩, ⟨(some 34), (.bin .neq (.t 33) (.c (.int .i64 0))), none⟩])
 (.cond (.t 34) (.seq (.reg [⟨(some 35), (.mv (.t 11)), none⟩, ⟨(some 6), (.mv (.c (.string ⟨#[]⟩))), none⟩, ⟨(some 7), (.mv (.t 35)), none⟩])
 .ret)
 .skip)))
 .skip))
 (.seq (.reg [⟨(some 36), (.mv (.t 0)), none⟩, ⟨(some 37), (.mv (.t 9)), none⟩, ⟨(some 38), (.cut (.t 36) (some (.t 37)) none), none⟩, ⟨(some 39), (.call (.c (.func (.func 77) #[] #[])) [(.t 38)]), none⟩, ⟨(some 40), (.mv (.t 8)), none⟩, ⟨(some 41), (.build [(.pointer none), (.slice none 0 0), (.int .i64 0)] [(0, 1, (.t 39)), (2, 1, (.t 40))]), none⟩, ⟨(some 42), (.box 141 (.t 41)), none⟩, ⟨(some 12), (.mv (.t 42)), none⟩])
 (.seq (.block 1 (.loop lp49_0))
 (.seq (.seq (.reg [⟨(some 59), (.mv (.t 12)), none⟩, ⟨(some 60), (.nilchk (.t 59)), none⟩, ⟨(some 61), (.fa 1 (.t 60)), none⟩, ⟨(some 62), (.ld (.t 61)), none⟩, ⟨(some 63), (.len 1 (.t 62)), none⟩, ⟨(some 64), (.mv (.t 8)), none⟩, ⟨(some 65), (.bin .lss (.t 63) (.t 64)), none⟩])
 (.cond (.t 65) (.reg [⟨(some 66), (.mv (.t 12)), none⟩, ⟨(some 67), (.nilchk (.t 66)), none⟩, ⟨(some 68), (.fa 0 (.t 67)), none⟩, ⟨(some 69), (.ld (.t 68)), none⟩, ⟨(some 70), (.call (.c (.func (.func 89) #[] #[])) [(.t 69), (.c (.int .i64 2))]), none⟩])
 .skip))
 (.seq (.seq (.reg [⟨(some 71), (.mv (.t 12)), none⟩, ⟨(some 72), (.nilchk (.t 71)), none⟩, ⟨(some 73), (.fa 0 (.t 72)), none⟩, ⟨(some 74), (.ld (.t 73)), none⟩, ⟨(some 75), (.call (.c (.func (.func 79) #[] #[])) [(.t 74)]), none⟩, ⟨(some 13), (.mv (.t 75)), none⟩])
 (.seq (.reg [⟨(some 76), (.mv (.t 13)), none⟩, ⟨(some 77), (.bin .neq (.t 76) (.c (.int .i64 0))), none⟩])
 (.cond (.t 77) (.seq (.reg [⟨(some 78), (.mv (.t 13)), none⟩, ⟨(some 6), (.mv (.c (.string ⟨#[]⟩))), none⟩, ⟨(some 7), (.mv (.t 78)), none⟩])
 .ret)
 .skip)))
 (.seq (.reg [⟨(some 79), (.mv (.t 12)), none⟩, ⟨(some 80), (.nilchk (.t 79)), none⟩, ⟨(some 81), (.fa 1 (.t 80)), none⟩, ⟨(some 82), (.ld (.t 81)), none⟩, ⟨(some 83), (.b2s (.t 82)), none⟩, ⟨(some 6), (.mv (.t 83)), none⟩, ⟨(some 7), (.mv (.c (.int .i64 0))), none⟩])
 .ret)))))))))⟩
theorem ok49 : FOk alT Try.prog 0 49 ir49 := ⟨_, Try.func49, by kernel_rfl, by kernel_rfl⟩
-- 50 hatchway/hatchwayref11.Unpack
def ir50 : AFn := ⟨28, [.t 4, .t 5],
 (.seq (.reg [⟨(some 4), (.mv (.c (.string ⟨#[]⟩))), none⟩, ⟨(some 5), (.mv (.c (.int .i64 0))), none⟩])
 (.seq (.reg [⟨(some 10), (.mv (.t 0)), none⟩, ⟨(some 11), (.call (.c (.func (.func 48) #[] #[])) [(.t 10)]), none⟩, ⟨(some 9), (.mv (.t 11)), none⟩, ⟨(some 12), (.ext 0 (.t 9)), none⟩, ⟨(some 13), (.ext 1 (.t 9)), none⟩, ⟨(some 14), (.ext 2 (.t 9)), none⟩, ⟨(some 6), (.mv (.t 12)), none⟩, ⟨(some 7), (.mv (.t 13)), none⟩, ⟨(some 8), (.mv (.t 14)), none⟩])
 (.seq (.seq (.reg [⟨(some 15), (.mv (.t 8)), none⟩, ⟨(some 16), (.bin .neq (.t 15) (.c (.int .i64 0))), none⟩])
 (.cond (.t 16) (.seq (.reg [⟨(some 17), (.mv (.t 8)), none⟩, ⟨(some 4), (.mv (.c (.string ⟨#[]⟩))), none⟩, ⟨(some 5), (.mv (.t 17)), none⟩])
 .ret)
 .skip))
 (.seq (.seq (.reg [⟨(some 18), (.mv (.t 6)), none⟩, ⟨(some 19), (.mv (.t 1)), none⟩, ⟨(some 20), (.bin .gtr (.t 18) (.t 19)), none⟩])
 (.cond (.t 20) (.seq (.reg [⟨(some 4), (.mv (.c (.string ⟨#[]⟩))), none⟩, ⟨(some 5), (.mv (.c (.int .i64 5))), none⟩])
 .ret)
 .skip))
 (.seq (.reg [⟨(some 21), (.mv (.t 0)), none⟩, ⟨(some 22), (.mv (.t 7)), none⟩, ⟨(some 23), (.cut (.t 21) (some (.t 22)) none), none⟩, ⟨(some 24), (.mv (.t 6)), none⟩, ⟨(some 25), (.call (.c (.func (.func 90) #[] #[])) [(.t 23), (.t 24)]), none⟩, ⟨(some 26), (.ext 0 (.t 25)), none⟩, ⟨(some 27), (.ext 1 (.t 25)), none⟩, ⟨(some 4), (.mv (.t 26)), none⟩, ⟨(some 5), (.mv (.t 27)), none⟩])
 .ret)))))⟩
theorem ok50 : FOk alT Try.prog 0 50 ir50 := ⟨_, Try.func50, by kernel_rfl, by kernel_rfl⟩
-- 73 hatchway/leb.Size
def lp73_0 : ACode := (.seq (.seq (.reg [⟨(some 4), (.mv (.t 0)), none⟩, ⟨(some 5), (.bin .geq (.t 4) (.c (.int .u64 128))), none⟩])
 (.cond (.t 5) .skip
 (.exit 0)))
 (.block 1 (.seq (.reg [⟨(some 6), (.mv (.t 3)), none⟩, ⟨(some 7), (.bin .add (.t 6) (.c (.int .i64 1))), none⟩, ⟨(some 3), (.mv (.t 7)), none⟩])
 (.reg [⟨(some 8), (.mv (.t 0)), none⟩, ⟨(some 9), (.bin .quo (.t 8) (.c (.int .u64 128))), none⟩, ⟨(some 0), (.mv (.t 9)), none⟩]))))
def ir73 : AFn := ⟨11, [.t 2],
 (.seq (.reg [⟨(some 2), (.mv (.c (.int .i64 0))), none⟩])
 (.seq (.reg [⟨(some 3), (.mv (.c (.int .i64 1))), none⟩])
 (.seq (.block 0 (.loop lp73_0))
 (.seq (.reg [⟨(some 10), (.mv (.t 3)), none⟩, ⟨(some 2), (.mv (.t 10)), none⟩])
 .ret))))⟩
theorem ok73 : FOk alT Try.prog 0 73 ir73 := ⟨_, Try.func73, by kernel_rfl, by kernel_rfl⟩
-- 74 hatchway/leb.Put
def lp74_0 : ACode := (.seq (.seq (.reg [⟨(some 4), (.mv (.t 0)), none⟩, ⟨(some 5), (.bin .geq (.t 4) (.c (.int .u64 128))), none⟩])
 (.cond (.t 5) .skip
 (.exit 0)))
 (.block 1 (.seq (.reg [⟨(some 6), (.mv (.t 3)), none⟩, ⟨(some 7), (.mv (.t 0)), none⟩, ⟨(some 8), (.bin .rem (.t 7) (.c (.int .u64 128))), none⟩, ⟨(some 9), (.bin .add (.t 8) (.c (.int .u64 128))), none⟩, ⟨(some 10), (.conv .u8 (.t 9)), none⟩, ⟨(some 11), (.lit 5 [(.int .u8 0)] 1 1 [(0, 1, (.t 10))]), none⟩, ⟨(some 12), (.app 5 1 1 (.t 6) (.t 11)), none⟩, ⟨(some 3), (.mv (.t 12)), none⟩])
 (.reg [⟨(some 13), (.mv (.t 0)), none⟩, ⟨(some 14), (.bin .quo (.t 13) (.c (.int .u64 128))), none⟩, ⟨(some 0), (.mv (.t 14)), none⟩]))))
def ir74 : AFn := ⟨21, [.t 2],
 (.seq (.reg [⟨(some 2), (.mv (.c (.string ⟨#[]⟩))), none⟩])
 (.seq (.reg [⟨(some 3), (.mv (.c (.slice none 0 0))), none⟩])
 (.seq (.block 0 (.loop lp74_0))
 (.seq (.reg [⟨(some 15), (.mv (.t 3)), none⟩, ⟨(some 16), (.mv (.t 0)), none⟩, ⟨(some 17), (.conv .u8 (.t 16)), none⟩, ⟨(some 18), (.lit 5 [(.int .u8 0)] 1 1 [(0, 1, (.t 17))]), none⟩, ⟨(some 19), (.app 5 1 1 (.t 15) (.t 18)), none⟩, ⟨(some 20), (.b2s (.t 19)), none⟩, ⟨(some 2), (.mv (.t 20)), none⟩])
 .ret))))⟩
theorem ok74 : FOk alT Try.prog 0 74 ir74 := ⟨_, Try.func74, by kernel_rfl, by kernel_rfl⟩
-- 75 hatchway/hatchwayref03.Put
def ir75 : AFn := ⟨19, [.t 2],
 (.seq (.reg [⟨(some 2), (.mv (.c (.string ⟨#[]⟩))), none⟩])
 (.seq (.seq (.reg [⟨(some 3), (.mv (.t 0)), none⟩, ⟨(some 4), (.bin .lss (.t 3) (.c (.int .u64 128))), none⟩])
 (.cond (.t 4) (.seq (.reg [⟨(some 5), (.mv (.t 0)), none⟩, ⟨(some 6), (.conv .u8 (.t 5)), none⟩, ⟨(some 7), (.lit 5 [(.int .u8 0)] 1 1 [(0, 1, (.t 6))]), none⟩, ⟨(some 8), (.b2s (.t 7)), none⟩, ⟨(some 2), (.mv (.t 8)), none⟩])
 .ret)
 .skip))
 (.seq (.draw [⟨(some 9), (.mv (.t 0)), none⟩, ⟨(some 10), (.bin .rem (.t 9) (.c (.int .u64 128))), none⟩, ⟨(some 11), (.conv .u8 (.t 10)), none⟩, ⟨(some 12), (.bin .add (.t 11) (.c (.int .u8 128))), none⟩, ⟨(some 15), (.mv (.t 0)), none⟩, ⟨(some 16), (.bin .quo (.t 15) (.c (.int .u64 128))), none⟩, ⟨(some 17), (.call (.c (.func (.func 75) #[] #[])) [(.t 16)]), none⟩] [⟨(some 13), (.lit 5 [(.int .u8 0)] 1 1 [(0, 1, (.t 12))]), none⟩, ⟨(some 14), (.b2s (.t 13)), none⟩, ⟨(some 18), (.bin .add (.t 14) (.t 17)), none⟩, ⟨(some 2), (.mv (.t 18)), none⟩])
 .ret)))⟩
theorem ok75 : FOk alT Try.prog 0 75 ir75 := ⟨_, Try.func75, by kernel_rfl, by kernel_rfl⟩
-- 76 hatchway/plain.Size
def ir76 : AFn := ⟨34, [.t 4, .t 5, .t 6],
 (.seq (.reg [⟨(some 4), (.mv (.c (.int .i64 0))), none⟩, ⟨(some 5), (.mv (.c (.int .i64 0))), none⟩, ⟨(some 6), (.mv (.c (.int .i64 0))), none⟩])
 (.seq (.reg [⟨(some 11), (.mv (.t 1)), none⟩, ⟨(some 12), (.call (.c (.func (.func 84) #[] #[])) [(.t 11)]), none⟩, ⟨(some 10), (.mv (.t 12)), none⟩, ⟨(some 13), (.ext 0 (.t 10)), none⟩, ⟨(some 14), (.ext 1 (.t 10)), none⟩, ⟨(some 15), (.ext 2 (.t 10)), none⟩, ⟨(some 7), (.mv (.t 13)), none⟩, ⟨(some 8), (.mv (.t 14)), none⟩, ⟨(some 9), (.mv (.t 15)), none⟩])
 (.seq (.seq (.reg [⟨(some 16), (.mv (.t 9)), none⟩, ⟨(some 17), (.bin .eql (.t 16) (.c (.int .i64 0))), none⟩, ⟨(some 18), (.mv (.t 17)), none⟩, ⟨(some 19), (.mv (.t 0)), (some (18, true))⟩, ⟨(some 20), (.bin .lss (.t 19) (.c (.int .i64 0))), (some (18, true))⟩, ⟨(some 21), (.mv (.t 20)), (some (18, true))⟩, ⟨(some 22), (.mv (.t 7)), (some (21, false))⟩, ⟨(some 23), (.mv (.t 0)), (some (21, false))⟩, ⟨(some 24), (.conv .u64 (.t 23)), (some (21, false))⟩, ⟨(some 25), (.bin .gtr (.t 22) (.t 24)), (some (21, false))⟩, ⟨(some 26), (.pick (.t 21) (.c (.bool true)) (.t 25)), (some (18, true))⟩, ⟨(some 27), (.pick (.t 18) (.t 26) (.c (.bool false))), none⟩])
 (.cond (.t 27) (.reg [⟨(some 9), (.mv (.c (.int .i64 5))), none⟩])
 .skip))
 (.seq (.seq (.reg [⟨(some 28), (.mv (.t 9)), none⟩, ⟨(some 29), (.bin .neq (.t 28) (.c (.int .i64 0))), none⟩])
 (.cond (.t 29) (.seq (.reg [⟨(some 30), (.mv (.t 9)), none⟩, ⟨(some 4), (.mv (.c (.int .i64 0))), none⟩, ⟨(some 5), (.mv (.c (.int .i64 0))), none⟩, ⟨(some 6), (.mv (.t 30)), none⟩])
 .ret)
 .skip))
 (.seq (.reg [⟨(some 31), (.mv (.t 7)), none⟩, ⟨(some 32), (.conv .i64 (.t 31)), none⟩, ⟨(some 33), (.mv (.t 8)), none⟩, ⟨(some 4), (.mv (.t 32)), none⟩, ⟨(some 5), (.mv (.t 33)), none⟩, ⟨(some 6), (.mv (.c (.int .i64 0))), none⟩])
 .ret)))))⟩
theorem ok76 : FOk alT Try.prog 0 76 ir76 := ⟨_, Try.func76, by kernel_rfl, by kernel_rfl⟩
-- 77 hatchway/cursor.Read
def ir77 : AFn := ⟨6, [.t 2],
 (.seq (.reg [⟨(some 2), (.mv (.c (.pointer none))), none⟩])
 (.seq (.reg [⟨(some 3), (.mv (.t 0)), none⟩, ⟨(some 4), (.build [(.string ⟨#[]⟩), (.int .i64 0), (.int .i64 0)] [(0, 1, (.t 3))]), none⟩, ⟨(some 5), (.box 165 (.t 4)), none⟩, ⟨(some 2), (.mv (.t 5)), none⟩])
 .ret))⟩
theorem ok77 : FOk alT Try.prog 0 77 ir77 := ⟨_, Try.func77, by kernel_rfl, by kernel_rfl⟩
-- 78 (*hatchway/cursor.Reader).All
def ir78 : AFn := ⟨7, [.t 2],
 (.seq (.reg [⟨(some 2), (.mv (.c (.string ⟨#[]⟩))), none⟩])
 (.seq (.reg [⟨(some 3), (.mv (.t 0)), none⟩, ⟨(some 4), (.mv (.t 0)), none⟩, ⟨(some 5), (.call (.c (.func (.func 87) #[] #[])) [(.t 4)]), none⟩, ⟨(some 6), (.call (.c (.func (.func 103) #[] #[])) [(.t 3), (.t 5)]), none⟩, ⟨(some 2), (.mv (.t 6)), none⟩])
 .ret))⟩
theorem ok78 : FOk alT Try.prog 0 78 ir78 := ⟨_, Try.func78, by kernel_rfl, by kernel_rfl⟩
-- 79 (*hatchway/cursor.Reader).Fault
def ir79 : AFn := ⟨9, [.t 2],
 (.seq (.reg [⟨(some 2), (.mv (.c (.int .i64 0))), none⟩])
 (.seq (.seq (.reg [⟨(some 3), (.mv (.t 0)), none⟩, ⟨(some 4), (.nileq 0 false (.t 3) (.c (.pointer none))), none⟩])
 (.cond (.t 4) (.seq (.reg [⟨(some 2), (.mv (.c (.int .i64 1))), none⟩])
 .ret)
 .skip))
 (.seq (.reg [⟨(some 5), (.mv (.t 0)), none⟩, ⟨(some 6), (.nilchk (.t 5)), none⟩, ⟨(some 7), (.fa 2 (.t 6)), none⟩, ⟨(some 8), (.ld (.t 7)), none⟩, ⟨(some 2), (.mv (.t 8)), none⟩])
 .ret)))⟩
theorem ok79 : FOk alT Try.prog 0 79 ir79 := ⟨_, Try.func79, by kernel_rfl, by kernel_rfl⟩
-- 80 hatchway/leb.Read
def ir80 : AFn := ⟨37, [.t 4],
 (.seq (.reg [⟨(some 4), (.mv (.c (.int .u64 0))), none⟩])
 (.seq (.seq (.reg [⟨(some 8), (.mv (.t 0)), none⟩, ⟨(some 9), (.call (.c (.func (.func 79) #[] #[])) [(.t 8)]), none⟩, ⟨(some 10), (.bin .neq (.t 9) (.c (.int .i64 0))), none⟩])
 (.cond (.t 10) (.seq (.reg [⟨(some 4), (.mv (.c (.int .u64 0))), none⟩])
 .ret)
 .skip))
 (.seq (.reg [⟨(some 12), (.mv (.t 0)), none⟩, ⟨(some 13), (.call (.c (.func (.func 104) #[] #[])) [(.t 12), (.c (.int .i64 10))]), none⟩, ⟨(some 14), (.call (.c (.func (.func 84) #[] #[])) [(.t 13)]), none⟩, ⟨(some 11), (.mv (.t 14)), none⟩, ⟨(some 15), (.ext 0 (.t 11)), none⟩, ⟨(some 16), (.ext 1 (.t 11)), none⟩, ⟨(some 17), (.ext 2 (.t 11)), none⟩, ⟨(some 5), (.mv (.t 15)), none⟩, ⟨(some 6), (.mv (.t 16)), none⟩, ⟨(some 7), (.mv (.t 17)), none⟩])
 (.seq (.reg [⟨(some 18), (.mv (.t 0)), none⟩, ⟨(some 19), (.mv (.t 7)), none⟩, ⟨(some 20), (.call (.c (.func (.func 89) #[] #[])) [(.t 18), (.t 19)]), none⟩])
 (.seq (.seq (.reg [⟨(some 21), (.mv (.t 7)), none⟩, ⟨(some 22), (.bin .eql (.t 21) (.c (.int .i64 0))), none⟩, ⟨(some 23), (.mv (.t 22)), none⟩, ⟨(some 24), (.mv (.t 5)), (some (23, true))⟩, ⟨(some 25), (.mv (.t 1)), (some (23, true))⟩, ⟨(some 26), (.bin .gtr (.t 24) (.t 25)), (some (23, true))⟩, ⟨(some 27), (.pick (.t 23) (.t 26) (.c (.bool false))), none⟩])
 (.cond (.t 27) (.reg [⟨(some 28), (.mv (.t 0)), none⟩, ⟨(some 29), (.call (.c (.func (.func 89) #[] #[])) [(.t 28), (.c (.int .i64 5))]), none⟩])
 .skip))
 (.seq (.seq (.reg [⟨(some 30), (.mv (.t 0)), none⟩, ⟨(some 31), (.call (.c (.func (.func 79) #[] #[])) [(.t 30)]), none⟩, ⟨(some 32), (.bin .neq (.t 31) (.c (.int .i64 0))), none⟩])
 (.cond (.t 32) (.seq (.reg [⟨(some 4), (.mv (.c (.int .u64 0))), none⟩])
 .ret)
 .skip))
 (.seq (.reg [⟨(some 33), (.mv (.t 0)), none⟩, ⟨(some 34), (.mv (.t 6)), none⟩, ⟨(some 35), (.call (.c (.func (.func 103) #[] #[])) [(.t 33), (.t 34)]), none⟩])
 (.seq (.reg [⟨(some 36), (.mv (.t 5)), none⟩, ⟨(some 4), (.mv (.t 36)), none⟩])
 .ret))))))))⟩
theorem ok80 : FOk alT Try.prog 0 80 ir80 := ⟨_, Try.func80, by kernel_rfl, by kernel_rfl⟩
-- 84 hatchway/leb.Next
def lp84_0 : ACode := (.seq (.reg [⟨(some 13), (.bin .lss (.t 12) (.t 11)), none⟩])
 (.seq (.cond (.t 13) .skip
 (.exit 0))
 (.seq (.block 1 (.seq (.reg [⟨(some 14), (.mv (.t 12)), none⟩, ⟨(some 15), (.ia 1 (.t 10) (.t 12)), none⟩, ⟨(some 16), (.ld (.t 15)), none⟩, ⟨(some 6), (.mv (.t 14)), none⟩, ⟨(some 7), (.mv (.t 16)), none⟩])
 (.seq (.reg [⟨(some 17), (.mv (.t 7)), none⟩, ⟨(some 18), (.bin .lss (.t 17) (.c (.int .u8 128))), none⟩, ⟨(some 8), (.mv (.t 18)), none⟩])
 (.seq (.seq (.reg [⟨(some 19), (.mv (.t 6)), none⟩, ⟨(some 20), (.bin .eql (.t 19) (.c (.int .i64 9))), none⟩, ⟨(some 21), (.mv (.t 20)), none⟩, ⟨(some 22), (.mv (.t 7)), (some (21, true))⟩, ⟨(some 23), (.bin .gtr (.t 22) (.c (.int .u8 1))), (some (21, true))⟩, ⟨(some 24), (.pick (.t 21) (.t 23) (.c (.bool false))), none⟩, ⟨(some 25), (.mv (.t 24)), none⟩, ⟨(some 26), (.mv (.t 8)), (some (25, false))⟩, ⟨(some 27), (.mv (.t 26)), (some (25, false))⟩, ⟨(some 28), (.mv (.t 7)), (some (27, true))⟩, ⟨(some 29), (.bin .eql (.t 28) (.c (.int .u8 0))), (some (27, true))⟩, ⟨(some 30), (.pick (.t 27) (.t 29) (.c (.bool false))), (some (25, false))⟩, ⟨(some 31), (.mv (.t 30)), (some (25, false))⟩, ⟨(some 32), (.mv (.t 6)), (some (31, true))⟩, ⟨(some 33), (.bin .gtr (.t 32) (.c (.int .i64 0))), (some (31, true))⟩, ⟨(some 34), (.pick (.t 31) (.t 33) (.c (.bool false))), (some (25, false))⟩, ⟨(some 35), (.pick (.t 25) (.c (.bool true)) (.t 34)), none⟩])
 (.cond (.t 35) (.seq (.reg [⟨(some 2), (.mv (.c (.int .u64 0))), none⟩, ⟨(some 3), (.mv (.c (.int .i64 0))), none⟩, ⟨(some 4), (.mv (.c (.int .i64 3))), none⟩])
 .ret)
 .skip))
 (.seq (.reg [⟨(some 36), (.mv (.t 5)), none⟩, ⟨(some 37), (.mv (.t 7)), none⟩, ⟨(some 38), (.bin .rem (.t 37) (.c (.int .u8 128))), none⟩, ⟨(some 39), (.conv .u64 (.t 38)), none⟩, ⟨(some 40), (.mv (.t 6)), none⟩, ⟨(some 41), (.bin .mul (.c (.int .i64 7)) (.t 40)), none⟩, ⟨(some 42), (.bin .shl (.t 39) (.t 41)), none⟩, ⟨(some 43), (.bin .or (.t 36) (.t 42)), none⟩, ⟨(some 5), (.mv (.t 43)), none⟩])
 (.seq (.reg [⟨(some 44), (.mv (.t 8)), none⟩])
 (.cond (.t 44) (.seq (.reg [⟨(some 45), (.mv (.t 5)), none⟩, ⟨(some 46), (.mv (.t 6)), none⟩, ⟨(some 47), (.bin .add (.t 46) (.c (.int .i64 1))), none⟩, ⟨(some 2), (.mv (.t 45)), none⟩, ⟨(some 3), (.mv (.t 47)), none⟩, ⟨(some 4), (.mv (.c (.int .i64 0))), none⟩])
 .ret)
 .skip)))))))
 (.reg [⟨(some 48), (.bin .add (.t 12) (.c (.int .i64 1))), none⟩, ⟨(some 12), (.mv (.t 48)), none⟩]))))
def ir84 : AFn := ⟨49, [.t 2, .t 3, .t 4],
 (.seq (.reg [⟨(some 2), (.mv (.c (.int .u64 0))), none⟩, ⟨(some 3), (.mv (.c (.int .i64 0))), none⟩, ⟨(some 4), (.mv (.c (.int .i64 0))), none⟩])
 (.seq (.reg [⟨(some 5), (.mv (.c (.int .u64 0))), none⟩])
 (.seq (.seq (.reg [⟨(some 9), (.mv (.t 0)), none⟩, ⟨(some 10), (.s2b 5 (.t 9)), none⟩, ⟨(some 11), (.len 1 (.t 10)), none⟩, ⟨(some 12), (.mv (.c (.int .i64 0))), none⟩])
 (.block 0 (.loop lp84_0)))
 (.seq (.reg [⟨(some 2), (.mv (.c (.int .u64 0))), none⟩, ⟨(some 3), (.mv (.c (.int .i64 0))), none⟩, ⟨(some 4), (.mv (.c (.int .i64 2))), none⟩])
 .ret))))⟩
theorem ok84 : FOk alT Try.prog 0 84 ir84 := ⟨_, Try.func84, by kernel_rfl, by kernel_rfl⟩
-- 85 hatchway/hatchwayref03.Next
def lp85_0 : ACode := (.seq (.seq (.reg [⟨(some 9), (.mv (.t 7)), none⟩, ⟨(some 10), (.mv (.t 0)), none⟩, ⟨(some 11), (.len 0 (.t 10)), none⟩, ⟨(some 12), (.bin .lss (.t 9) (.t 11)), none⟩])
 (.cond (.t 12) .skip
 (.exit 0)))
 (.seq (.block 1 (.seq (.reg [⟨(some 15), (.mv (.t 0)), none⟩, ⟨(some 16), (.mv (.t 7)), none⟩, ⟨(some 17), (.ixs (.t 15) (.t 16)), none⟩, ⟨(some 18), (.bin .rem (.t 17) (.c (.int .u8 128))), none⟩, ⟨(some 19), (.conv .u64 (.t 18)), none⟩, ⟨(some 8), (.mv (.t 19)), none⟩])
 (.seq (.seq (.reg [⟨(some 20), (.mv (.t 7)), none⟩, ⟨(some 21), (.bin .eql (.t 20) (.c (.int .i64 9))), none⟩, ⟨(some 22), (.mv (.t 21)), none⟩, ⟨(some 23), (.mv (.t 0)), (some (22, true))⟩, ⟨(some 24), (.mv (.t 7)), (some (22, true))⟩, ⟨(some 25), (.ixs (.t 23) (.t 24)), (some (22, true))⟩, ⟨(some 26), (.bin .gtr (.t 25) (.c (.int .u8 1))), (some (22, true))⟩, ⟨(some 27), (.pick (.t 22) (.t 26) (.c (.bool false))), none⟩, ⟨(some 28), (.mv (.t 27)), none⟩, ⟨(some 29), (.mv (.t 7)), (some (28, false))⟩, ⟨(some 30), (.bin .gtr (.t 29) (.c (.int .i64 0))), (some (28, false))⟩, ⟨(some 31), (.mv (.t 30)), (some (28, false))⟩, ⟨(some 32), (.mv (.t 0)), (some (31, true))⟩, ⟨(some 33), (.mv (.t 7)), (some (31, true))⟩, ⟨(some 34), (.ixs (.t 32) (.t 33)), (some (31, true))⟩, ⟨(some 35), (.bin .eql (.t 34) (.c (.int .u8 0))), (some (31, true))⟩, ⟨(some 36), (.pick (.t 31) (.t 35) (.c (.bool false))), (some (28, false))⟩, ⟨(some 37), (.pick (.t 28) (.c (.bool true)) (.t 36)), none⟩])
 (.cond (.t 37) (.seq (.reg [⟨(some 2), (.mv (.c (.int .u64 0))), none⟩, ⟨(some 3), (.mv (.c (.int .i64 0))), none⟩, ⟨(some 4), (.mv (.c (.int .i64 3))), none⟩])
 .ret)
 .skip))
 (.seq (.reg [⟨(some 38), (.mv (.t 5)), none⟩, ⟨(some 39), (.mv (.t 8)), none⟩, ⟨(some 40), (.mv (.t 6)), none⟩, ⟨(some 41), (.bin .mul (.t 39) (.t 40)), none⟩, ⟨(some 42), (.bin .add (.t 38) (.t 41)), none⟩, ⟨(some 5), (.mv (.t 42)), none⟩])
 (.seq (.seq (.reg [⟨(some 43), (.mv (.t 0)), none⟩, ⟨(some 44), (.mv (.t 7)), none⟩, ⟨(some 45), (.ixs (.t 43) (.t 44)), none⟩, ⟨(some 46), (.bin .lss (.t 45) (.c (.int .u8 128))), none⟩])
 (.cond (.t 46) (.seq (.reg [⟨(some 47), (.mv (.t 5)), none⟩, ⟨(some 48), (.mv (.t 7)), none⟩, ⟨(some 49), (.bin .add (.t 48) (.c (.int .i64 1))), none⟩, ⟨(some 2), (.mv (.t 47)), none⟩, ⟨(some 3), (.mv (.t 49)), none⟩, ⟨(some 4), (.mv (.c (.int .i64 0))), none⟩])
 .ret)
 .skip))
 (.reg [⟨(some 50), (.mv (.t 6)), none⟩, ⟨(some 51), (.bin .mul (.t 50) (.c (.int .u64 128))), none⟩, ⟨(some 6), (.mv (.t 51)), none⟩]))))))
 (.reg [⟨(some 13), (.mv (.t 7)), none⟩, ⟨(some 14), (.bin .add (.t 13) (.c (.int .i64 1))), none⟩, ⟨(some 7), (.mv (.t 14)), none⟩])))
def ir85 : AFn := ⟨52, [.t 2, .t 3, .t 4],
 (.seq (.reg [⟨(some 2), (.mv (.c (.int .u64 0))), none⟩, ⟨(some 3), (.mv (.c (.int .i64 0))), none⟩, ⟨(some 4), (.mv (.c (.int .i64 0))), none⟩])
 (.seq (.reg [⟨(some 5), (.mv (.c (.int .u64 0))), none⟩, ⟨(some 6), (.mv (.c (.int .u64 0))), none⟩])
 (.seq (.reg [⟨(some 6), (.mv (.c (.int .u64 1))), none⟩])
 (.seq (.seq (.reg [⟨(some 7), (.mv (.c (.int .i64 0))), none⟩])
 (.block 0 (.loop lp85_0)))
 (.seq (.reg [⟨(some 2), (.mv (.c (.int .u64 0))), none⟩, ⟨(some 3), (.mv (.c (.int .i64 0))), none⟩, ⟨(some 4), (.mv (.c (.int .i64 2))), none⟩])
 .ret)))))⟩
theorem ok85 : FOk alT Try.prog 0 85 ir85 := ⟨_, Try.func85, by kernel_rfl, by kernel_rfl⟩
-- 86 (*hatchway/meter.Meter).Take
def ir86 : AFn := ⟨12, [.t 4],
 (.seq (.reg [⟨(some 2), (.box 137 (.t 0)), none⟩, ⟨(some 3), (.box 3 (.t 1)), none⟩, ⟨(some 4), (.mv (.c (.int .i64 0))), none⟩])
 (.seq (.reg [⟨(some 6), (.mkf (.func 108) [] [(.t 3), (.t 2)]), none⟩, ⟨(some 5), (.mv (.t 6)), none⟩])
 (.seq (.reg [⟨(some 7), (.ld (.t 2)), none⟩, ⟨(some 8), (.ld (.t 3)), none⟩, ⟨(some 9), (.mv (.t 5)), none⟩, ⟨(some 10), (.mkf (.func 110) [] [(.t 2), (.t 3)]), none⟩, ⟨(some 11), (.call (.c (.func (.func 109) #[] #[])) [(.t 7), (.t 8), (.t 9), (.t 10)]), none⟩, ⟨(some 4), (.mv (.t 11)), none⟩])
 .ret)))⟩
theorem ok86 : FOk alT Try.prog 0 86 ir86 := ⟨_, Try.func86, by kernel_rfl, by kernel_rfl⟩
-- 87 (*hatchway/cursor.Reader).Left
def ir87 : AFn := ⟨15, [.t 2],
 (.seq (.reg [⟨(some 2), (.mv (.c (.int .i64 0))), none⟩])
 (.seq (.seq (.reg [⟨(some 3), (.mv (.t 0)), none⟩, ⟨(some 4), (.nileq 0 false (.t 3) (.c (.pointer none))), none⟩])
 (.cond (.t 4) (.seq (.reg [⟨(some 2), (.mv (.c (.int .i64 0))), none⟩])
 .ret)
 .skip))
 (.seq (.draw [⟨(some 5), (.mv (.t 0)), none⟩, ⟨(some 6), (.nilchk (.t 5)), none⟩, ⟨(some 7), (.fa 0 (.t 6)), none⟩, ⟨(some 8), (.ld (.t 7)), none⟩, ⟨(some 9), (.len 0 (.t 8)), none⟩, ⟨(some 10), (.mv (.t 0)), none⟩, ⟨(some 11), (.nilchk (.t 10)), none⟩, ⟨(some 12), (.fa 1 (.t 11)), none⟩, ⟨(some 13), (.ld (.t 12)), none⟩, ⟨(some 14), (.bin .sub (.t 9) (.t 13)), none⟩, ⟨(some 2), (.mv (.t 14)), none⟩] [])
 .ret)))⟩
theorem ok87 : FOk alT Try.prog 0 87 ir87 := ⟨_, Try.func87, by kernel_rfl, by kernel_rfl⟩
-- 88 (*hatchway/snap.unpacker).element
def ir88 : AFn := ⟨43, [],
 (.seq (.reg [⟨(some 1), (.box 139 (.t 0)), none⟩])
 (.seq (.reg [⟨(some 5), (.ld (.t 1)), none⟩, ⟨(some 6), (.nilchk (.t 5)), none⟩, ⟨(some 7), (.fa 0 (.t 6)), none⟩, ⟨(some 8), (.ld (.t 7)), none⟩, ⟨(some 9), (.call (.c (.func (.func 111) #[] #[])) [(.t 8)]), none⟩, ⟨(some 10), (.conv .i64 (.t 9)), none⟩, ⟨(some 2), (.mv (.t 10)), none⟩])
 (.seq (.reg [⟨(some 11), (.mv (.t 2)), none⟩, ⟨(some 12), (.bin .shr (.t 11) (.c (.int .u64 2))), none⟩, ⟨(some 3), (.new 3 [(.int .i64 0)]), none⟩, ⟨none, (.st 1 (.t 3) (.t 12)), none⟩])
 (.seq (.reg [⟨(some 13), (.mkf (.func 112) [] [(.t 1), (.t 3)]), none⟩, ⟨(some 4), (.mv (.t 13)), none⟩])
 (.seq (.reg [⟨(some 14), (.mv (.t 2)), none⟩, ⟨(some 15), (.bin .and (.t 14) (.c (.int .i64 3))), none⟩])
 (.block 0 (.seq (.reg [⟨(some 19), (.bin .eql (.t 15) (.c (.int .i64 0))), none⟩, ⟨(some 18), (.mv (.t 19)), none⟩])
 (.cond (.t 18) (.reg [⟨(some 20), (.ld (.t 1)), none⟩, ⟨(some 21), (.ld (.t 3)), none⟩, ⟨(some 22), (.call (.c (.func (.func 115) #[] #[])) [(.t 20), (.t 21)]), none⟩])
 (.seq (.reg [⟨(some 24), (.bin .eql (.t 15) (.c (.int .i64 1))), none⟩, ⟨(some 23), (.mv (.t 24)), none⟩])
 (.cond (.t 23) (.drawD [⟨(some 25), (.ld (.t 1)), none⟩, ⟨(some 26), (.ld (.t 3)), none⟩, ⟨(some 27), (.bin .rem (.t 26) (.c (.int .i64 8))), none⟩, ⟨(some 28), (.bin .add (.c (.int .i64 4)) (.t 27)), none⟩, ⟨(some 29), (.ld (.t 3)), none⟩, ⟨(some 30), (.bin .quo (.t 29) (.c (.int .i64 8))), none⟩, ⟨(some 31), (.bin .shl (.t 30) (.c (.int .u64 8))), none⟩, ⟨(some 32), (.ld (.t 1)), none⟩, ⟨(some 33), (.nilchk (.t 32)), none⟩, ⟨(some 34), (.fa 0 (.t 33)), none⟩, ⟨(some 35), (.ld (.t 34)), none⟩] [(⟨(some 36), (.call (.c (.func (.func 114) #[] #[])) [(.t 35), (.c (.int .i64 1))]), none⟩, [⟨(some 25), (.ld (.t 1)), none⟩, ⟨(some 26), (.ld (.t 3)), none⟩, ⟨(some 29), (.ld (.t 3)), none⟩]), (⟨(some 37), (.bin .or (.t 31) (.t 36)), none⟩, []), (⟨(some 38), (.call (.c (.func (.func 113) #[] #[])) [(.t 25), (.t 28), (.t 37)]), none⟩, [])])
 (.seq (.reg [⟨(some 40), (.bin .eql (.t 15) (.c (.int .i64 2))), none⟩, ⟨(some 39), (.mv (.t 40)), none⟩])
 (.cond (.t 39) (.reg [⟨(some 41), (.mv (.t 4)), none⟩, ⟨(some 42), (.call (.t 41) [(.c (.int .i64 2))]), none⟩])
 (.reg [⟨(some 16), (.mv (.t 4)), none⟩, ⟨(some 17), (.call (.t 16) [(.c (.int .i64 4))]), none⟩])))))))))))))⟩
theorem ok88 : FOk alT Try.prog 0 88 ir88 := ⟨_, Try.func88, by kernel_rfl, by kernel_rfl⟩
-- 89 (*hatchway/cursor.Reader).Fail
def ir89 : AFn := ⟨11, [],
 (.seq (.reg [⟨(some 4), (.mv (.t 0)), none⟩, ⟨(some 5), (.call (.c (.func (.func 79) #[] #[])) [(.t 4)]), none⟩, ⟨(some 6), (.bin .eql (.t 5) (.c (.int .i64 0))), none⟩])
 (.cond (.t 6) (.reg [⟨(some 7), (.mv (.t 0)), none⟩, ⟨(some 8), (.mv (.t 1)), none⟩, ⟨(some 9), (.nilchk (.t 7)), none⟩, ⟨(some 10), (.fa 2 (.t 9)), none⟩, ⟨none, (.st 1 (.t 10) (.t 8)), none⟩])
 .skip))⟩
theorem ok89 : FOk alT Try.prog 0 89 ir89 := ⟨_, Try.func89, by kernel_rfl, by kernel_rfl⟩
-- 90 hatchway/hatchwayref11.Elements
def lp90_0 : ACode := (.seq (.seq (.reg [⟨(some 95), (.mv (.t 14)), none⟩, ⟨(some 96), (.mv (.t 12)), none⟩, ⟨(some 97), (.bin .lss (.t 95) (.t 96)), none⟩])
 (.cond (.t 97) .skip
 (.exit 2)))
 (.seq (.block 3 (.reg [⟨(some 100), (.mv (.t 6)), none⟩, ⟨(some 101), (.mv (.t 6)), none⟩, ⟨(some 102), (.mv (.t 6)), none⟩, ⟨(some 103), (.len 1 (.t 102)), none⟩, ⟨(some 104), (.mv (.t 13)), none⟩, ⟨(some 105), (.bin .sub (.t 103) (.t 104)), none⟩, ⟨(some 106), (.ia 1 (.t 101) (.t 105)), none⟩, ⟨(some 107), (.ld (.t 106)), none⟩, ⟨(some 108), (.lit 5 [(.int .u8 0)] 1 1 [(0, 1, (.t 107))]), none⟩, ⟨(some 109), (.app 5 1 1 (.t 100) (.t 108)), none⟩, ⟨(some 6), (.mv (.t 109)), none⟩]))
 (.reg [⟨(some 98), (.mv (.t 14)), none⟩, ⟨(some 99), (.bin .add (.t 98) (.c (.int .i64 1))), none⟩, ⟨(some 14), (.mv (.t 99)), none⟩])))
def lp90_1 : ACode := (.seq (.seq (.reg [⟨(some 15), (.mv (.t 0)), none⟩, ⟨(some 16), (.len 0 (.t 15)), none⟩, ⟨(some 17), (.bin .gtr (.t 16) (.c (.int .i64 0))), none⟩])
 (.cond (.t 17) .skip
 (.exit 0)))
 (.block 1 (.seq (.reg [⟨(some 18), (.mv (.t 0)), none⟩, ⟨(some 19), (.ixs (.t 18) (.c (.int .i64 0))), none⟩, ⟨(some 20), (.conv .i64 (.t 19)), none⟩, ⟨(some 7), (.mv (.t 20)), none⟩])
 (.seq (.reg [⟨(some 21), (.mv (.t 7)), none⟩, ⟨(some 22), (.bin .quo (.t 21) (.c (.int .i64 4))), none⟩, ⟨(some 8), (.mv (.t 22)), none⟩])
 (.seq (.reg [⟨(some 23), (.mv (.t 7)), none⟩, ⟨(some 24), (.call (.c (.func (.func 116) #[] #[])) [(.t 23)]), none⟩, ⟨(some 9), (.mv (.t 24)), none⟩])
 (.seq (.seq (.reg [⟨(some 25), (.mv (.t 0)), none⟩, ⟨(some 26), (.len 0 (.t 25)), none⟩, ⟨(some 27), (.mv (.t 9)), none⟩, ⟨(some 28), (.bin .lss (.t 26) (.t 27)), none⟩])
 (.cond (.t 28) (.seq (.reg [⟨(some 4), (.mv (.c (.string ⟨#[]⟩))), none⟩, ⟨(some 5), (.mv (.c (.int .i64 2))), none⟩])
 .ret)
 .skip))
 (.seq (.reg [⟨(some 29), (.mv (.t 0)), none⟩, ⟨(some 30), (.mv (.t 9)), none⟩, ⟨(some 31), (.cut (.t 29) (some (.c (.int .i64 1))) (some (.t 30))), none⟩, ⟨(some 10), (.mv (.t 31)), none⟩])
 (.seq (.reg [⟨(some 32), (.mv (.t 0)), none⟩, ⟨(some 33), (.mv (.t 9)), none⟩, ⟨(some 34), (.cut (.t 32) (some (.t 33)) none), none⟩, ⟨(some 0), (.mv (.t 34)), none⟩])
 (.seq (.seq (.reg [⟨(some 35), (.mv (.t 7)), none⟩, ⟨(some 36), (.bin .rem (.t 35) (.c (.int .i64 4))), none⟩, ⟨(some 37), (.bin .eql (.t 36) (.c (.int .i64 0))), none⟩])
 (.cond (.t 37) (.seq (.reg [⟨(some 38), (.mv (.t 8)), none⟩, ⟨(some 39), (.bin .add (.t 38) (.c (.int .i64 1))), none⟩, ⟨(some 11), (.mv (.t 39)), none⟩])
 (.seq (.seq (.reg [⟨(some 40), (.mv (.t 8)), none⟩, ⟨(some 41), (.bin .geq (.t 40) (.c (.int .i64 60))), none⟩])
 (.cond (.t 41) (.reg [⟨(some 42), (.mv (.t 10)), none⟩, ⟨(some 43), (.call (.c (.func (.func 117) #[] #[])) [(.t 42)]), none⟩, ⟨(some 44), (.bin .add (.t 43) (.c (.int .i64 1))), none⟩, ⟨(some 11), (.mv (.t 44)), none⟩])
 .skip))
 (.seq (.seq (.reg [⟨(some 45), (.mv (.t 11)), none⟩, ⟨(some 46), (.mv (.t 1)), none⟩, ⟨(some 47), (.mv (.t 6)), none⟩, ⟨(some 48), (.len 1 (.t 47)), none⟩, ⟨(some 49), (.bin .sub (.t 46) (.t 48)), none⟩, ⟨(some 50), (.bin .gtr (.t 45) (.t 49)), none⟩])
 (.cond (.t 50) (.seq (.reg [⟨(some 4), (.mv (.c (.string ⟨#[]⟩))), none⟩, ⟨(some 5), (.mv (.c (.int .i64 3))), none⟩])
 .ret)
 .skip))
 (.seq (.seq (.reg [⟨(some 51), (.mv (.t 11)), none⟩, ⟨(some 52), (.mv (.t 0)), none⟩, ⟨(some 53), (.len 0 (.t 52)), none⟩, ⟨(some 54), (.bin .gtr (.t 51) (.t 53)), none⟩])
 (.cond (.t 54) (.seq (.reg [⟨(some 4), (.mv (.c (.string ⟨#[]⟩))), none⟩, ⟨(some 5), (.mv (.c (.int .i64 2))), none⟩])
 .ret)
 .skip))
 (.seq (.reg [⟨(some 55), (.mv (.t 6)), none⟩, ⟨(some 56), (.mv (.t 0)), none⟩, ⟨(some 57), (.mv (.t 11)), none⟩, ⟨(some 58), (.cut (.t 56) none (some (.t 57))), none⟩, ⟨(some 59), (.s2b 5 (.t 58)), none⟩, ⟨(some 60), (.app 5 1 1 (.t 55) (.t 59)), none⟩, ⟨(some 6), (.mv (.t 60)), none⟩])
 (.seq (.reg [⟨(some 61), (.mv (.t 0)), none⟩, ⟨(some 62), (.mv (.t 11)), none⟩, ⟨(some 63), (.cut (.t 61) (some (.t 62)) none), none⟩, ⟨(some 0), (.mv (.t 63)), none⟩])
 (.exit 1)))))))
 .skip))
 (.seq (.reg [⟨(some 64), (.mv (.t 8)), none⟩, ⟨(some 65), (.bin .add (.t 64) (.c (.int .i64 1))), none⟩, ⟨(some 12), (.mv (.t 65)), none⟩])
 (.seq (.reg [⟨(some 66), (.mv (.t 10)), none⟩, ⟨(some 67), (.call (.c (.func (.func 117) #[] #[])) [(.t 66)]), none⟩, ⟨(some 13), (.mv (.t 67)), none⟩])
 (.seq (.seq (.reg [⟨(some 68), (.mv (.t 7)), none⟩, ⟨(some 69), (.bin .rem (.t 68) (.c (.int .i64 4))), none⟩, ⟨(some 70), (.bin .eql (.t 69) (.c (.int .i64 1))), none⟩])
 (.cond (.t 70) (.seq (.reg [⟨(some 71), (.mv (.t 8)), none⟩, ⟨(some 72), (.bin .rem (.t 71) (.c (.int .i64 8))), none⟩, ⟨(some 73), (.bin .add (.c (.int .i64 4)) (.t 72)), none⟩, ⟨(some 12), (.mv (.t 73)), none⟩])
 (.reg [⟨(some 74), (.mv (.t 8)), none⟩, ⟨(some 75), (.bin .quo (.t 74) (.c (.int .i64 8))), none⟩, ⟨(some 76), (.bin .mul (.t 75) (.c (.int .i64 256))), none⟩, ⟨(some 77), (.mv (.t 13)), none⟩, ⟨(some 78), (.bin .add (.t 76) (.t 77)), none⟩, ⟨(some 13), (.mv (.t 78)), none⟩]))
 .skip))
 (.seq (.seq (.reg [⟨(some 79), (.mv (.t 13)), none⟩, ⟨(some 80), (.bin .eql (.t 79) (.c (.int .i64 0))), none⟩, ⟨(some 81), (.mv (.t 80)), none⟩, ⟨(some 82), (.mv (.t 13)), (some (81, false))⟩, ⟨(some 83), (.mv (.t 6)), (some (81, false))⟩, ⟨(some 84), (.len 1 (.t 83)), (some (81, false))⟩, ⟨(some 85), (.bin .gtr (.t 82) (.t 84)), (some (81, false))⟩, ⟨(some 86), (.pick (.t 81) (.c (.bool true)) (.t 85)), none⟩, ⟨(some 87), (.mv (.t 86)), none⟩, ⟨(some 88), (.mv (.t 12)), (some (87, false))⟩, ⟨(some 89), (.mv (.t 1)), (some (87, false))⟩, ⟨(some 90), (.mv (.t 6)), (some (87, false))⟩, ⟨(some 91), (.len 1 (.t 90)), (some (87, false))⟩, ⟨(some 92), (.bin .sub (.t 89) (.t 91)), (some (87, false))⟩, ⟨(some 93), (.bin .gtr (.t 88) (.t 92)), (some (87, false))⟩, ⟨(some 94), (.pick (.t 87) (.c (.bool true)) (.t 93)), none⟩])
 (.cond (.t 94) (.seq (.reg [⟨(some 4), (.mv (.c (.string ⟨#[]⟩))), none⟩, ⟨(some 5), (.mv (.c (.int .i64 3))), none⟩])
 .ret)
 .skip))
 (.seq (.reg [⟨(some 14), (.mv (.c (.int .i64 0))), none⟩])
 (.block 2 (.loop lp90_0))))))))))))))))
def ir90 : AFn := ⟨116, [.t 4, .t 5],
 (.seq (.reg [⟨(some 4), (.mv (.c (.string ⟨#[]⟩))), none⟩, ⟨(some 5), (.mv (.c (.int .i64 0))), none⟩])
 (.seq (.reg [⟨(some 6), (.mv (.c (.slice none 0 0))), none⟩])
 (.seq (.block 0 (.loop lp90_1))
 (.seq (.seq (.reg [⟨(some 110), (.mv (.t 6)), none⟩, ⟨(some 111), (.len 1 (.t 110)), none⟩, ⟨(some 112), (.mv (.t 1)), none⟩, ⟨(some 113), (.bin .lss (.t 111) (.t 112)), none⟩])
 (.cond (.t 113) (.seq (.reg [⟨(some 4), (.mv (.c (.string ⟨#[]⟩))), none⟩, ⟨(some 5), (.mv (.c (.int .i64 2))), none⟩])
 .ret)
 .skip))
 (.seq (.reg [⟨(some 114), (.mv (.t 6)), none⟩, ⟨(some 115), (.b2s (.t 114)), none⟩, ⟨(some 4), (.mv (.t 115)), none⟩, ⟨(some 5), (.mv (.c (.int .i64 0))), none⟩])
 .ret)))))⟩
theorem ok90 : FOk alT Try.prog 0 90 ir90 := ⟨_, Try.func90, by kernel_rfl, by kernel_rfl⟩
-- 103 (*hatchway/cursor.Reader).Take
def ir103 : AFn := ⟨43, [.t 4],
 (.seq (.reg [⟨(some 2), (.box 124 (.t 0)), none⟩, ⟨(some 4), (.mv (.c (.string ⟨#[]⟩))), none⟩])
 (.seq (.reg [⟨(some 6), (.mkf (.func 128) [] [(.t 2)]), none⟩, ⟨(some 5), (.mv (.t 6)), none⟩])
 (.seq (.reg [⟨(some 7), (.mv (.t 5)), none⟩, ⟨(some 8), (.mv (.t 1)), none⟩, ⟨(some 9), (.bin .lss (.t 8) (.c (.int .i64 0))), none⟩, ⟨(some 10), (.call (.t 7) [(.t 9), (.c (.int .i64 1))]), none⟩])
 (.seq (.reg [⟨(some 11), (.mv (.t 5)), none⟩, ⟨(some 12), (.mv (.t 1)), none⟩, ⟨(some 13), (.ld (.t 2)), none⟩, ⟨(some 14), (.call (.c (.func (.func 87) #[] #[])) [(.t 13)]), none⟩, ⟨(some 15), (.bin .gtr (.t 12) (.t 14)), none⟩, ⟨(some 16), (.call (.t 11) [(.t 15), (.c (.int .i64 2))]), none⟩])
 (.seq (.seq (.reg [⟨(some 17), (.ld (.t 2)), none⟩, ⟨(some 18), (.call (.c (.func (.func 79) #[] #[])) [(.t 17)]), none⟩, ⟨(some 19), (.bin .neq (.t 18) (.c (.int .i64 0))), none⟩])
 (.cond (.t 19) (.seq (.reg [⟨(some 4), (.mv (.c (.string ⟨#[]⟩))), none⟩])
 .ret)
 .skip))
 (.seq (.reg [⟨(some 20), (.ld (.t 2)), none⟩, ⟨(some 21), (.nilchk (.t 20)), none⟩, ⟨(some 22), (.fa 1 (.t 21)), none⟩, ⟨(some 23), (.ld (.t 22)), none⟩, ⟨(some 24), (.mv (.t 1)), none⟩, ⟨(some 25), (.bin .add (.t 23) (.t 24)), none⟩, ⟨(some 26), (.nilchk (.t 20)), none⟩, ⟨(some 27), (.fa 1 (.t 26)), none⟩, ⟨none, (.st 1 (.t 27) (.t 25)), none⟩])
 (.seq (.draw [⟨(some 28), (.ld (.t 2)), none⟩, ⟨(some 29), (.nilchk (.t 28)), none⟩, ⟨(some 30), (.fa 0 (.t 29)), none⟩, ⟨(some 31), (.ld (.t 30)), none⟩, ⟨(some 32), (.ld (.t 2)), none⟩, ⟨(some 33), (.nilchk (.t 32)), none⟩, ⟨(some 34), (.fa 1 (.t 33)), none⟩, ⟨(some 35), (.ld (.t 34)), none⟩, ⟨(some 36), (.mv (.t 1)), none⟩, ⟨(some 37), (.bin .sub (.t 35) (.t 36)), none⟩, ⟨(some 38), (.ld (.t 2)), none⟩, ⟨(some 39), (.nilchk (.t 38)), none⟩, ⟨(some 40), (.fa 1 (.t 39)), none⟩, ⟨(some 41), (.ld (.t 40)), none⟩, ⟨(some 42), (.cut (.t 31) (some (.t 37)) (some (.t 41))), none⟩, ⟨(some 4), (.mv (.t 42)), none⟩] [])
 .ret)))))))⟩
theorem ok103 : FOk alT Try.prog 0 103 ir103 := ⟨_, Try.func103, by kernel_rfl, by kernel_rfl⟩
-- 104 (*hatchway/cursor.Reader).Ahead
def ir104 : AFn := ⟨30, [.t 4],
 (.seq (.reg [⟨(some 4), (.mv (.c (.string ⟨#[]⟩))), none⟩])
 (.seq (.seq (.reg [⟨(some 5), (.mv (.t 0)), none⟩, ⟨(some 6), (.call (.c (.func (.func 79) #[] #[])) [(.t 5)]), none⟩, ⟨(some 7), (.bin .neq (.t 6) (.c (.int .i64 0))), none⟩, ⟨(some 8), (.mv (.t 7)), none⟩, ⟨(some 9), (.mv (.t 1)), (some (8, false))⟩, ⟨(some 10), (.bin .lss (.t 9) (.c (.int .i64 0))), (some (8, false))⟩, ⟨(some 11), (.pick (.t 8) (.c (.bool true)) (.t 10)), none⟩])
 (.cond (.t 11) (.seq (.reg [⟨(some 4), (.mv (.c (.string ⟨#[]⟩))), none⟩])
 .ret)
 .skip))
 (.seq (.drawD [⟨(some 12), (.mv (.t 0)), none⟩, ⟨(some 13), (.nilchk (.t 12)), none⟩, ⟨(some 14), (.fa 0 (.t 13)), none⟩, ⟨(some 15), (.ld (.t 14)), none⟩, ⟨(some 16), (.mv (.t 0)), none⟩, ⟨(some 17), (.nilchk (.t 16)), none⟩, ⟨(some 18), (.fa 1 (.t 17)), none⟩, ⟨(some 19), (.ld (.t 18)), none⟩, ⟨(some 20), (.mv (.t 0)), none⟩, ⟨(some 21), (.nilchk (.t 20)), none⟩, ⟨(some 22), (.fa 1 (.t 21)), none⟩, ⟨(some 23), (.ld (.t 22)), none⟩, ⟨(some 24), (.mv (.t 1)), none⟩, ⟨(some 25), (.mv (.t 0)), none⟩] [(⟨(some 26), (.call (.c (.func (.func 87) #[] #[])) [(.t 25)]), none⟩, [⟨(some 15), (.ld (.t 14)), none⟩, ⟨(some 19), (.ld (.t 18)), none⟩, ⟨(some 23), (.ld (.t 22)), none⟩]), (⟨(some 27), (.mm false (.t 24) [(.t 26)]), none⟩, []), (⟨(some 28), (.bin .add (.t 23) (.t 27)), none⟩, []), (⟨(some 29), (.cut (.t 15) (some (.t 19)) (some (.t 28))), none⟩, []), (⟨(some 4), (.mv (.t 29)), none⟩, [])])
 .ret)))⟩
theorem ok104 : FOk alT Try.prog 0 104 ir104 := ⟨_, Try.func104, by kernel_rfl, by kernel_rfl⟩
-- 108 (*hatchway/meter.Meter).Take$1
def ir108 : AFn := ⟨23, [.t 2],
 (.seq (.reg [⟨(some 2), (.mv (.c (.int .i64 0))), none⟩])
 (.seq (.seq (.draw [⟨(some 3), (.ld (.t 0)), none⟩, ⟨(some 4), (.ld (.t 1)), none⟩, ⟨(some 5), (.nilchk (.t 4)), none⟩, ⟨(some 6), (.fa 0 (.t 5)), none⟩, ⟨(some 7), (.ld (.t 6)), none⟩, ⟨(some 8), (.ld (.t 1)), none⟩, ⟨(some 9), (.nilchk (.t 8)), none⟩, ⟨(some 10), (.fa 1 (.t 9)), none⟩, ⟨(some 11), (.ld (.t 10)), none⟩, ⟨(some 12), (.bin .sub (.t 7) (.t 11)), none⟩, ⟨(some 13), (.bin .gtr (.t 3) (.t 12)), none⟩, ⟨(some 14), (.mv (.t 13)), none⟩, ⟨(some 15), (.ld (.t 0)), (some (14, false))⟩, ⟨(some 16), (.ld (.t 1)), (some (14, false))⟩, ⟨(some 17), (.nilchk (.t 16)), (some (14, false))⟩, ⟨(some 18), (.fa 2 (.t 17)), (some (14, false))⟩, ⟨(some 19), (.ld (.t 18)), (some (14, false))⟩, ⟨(some 20), (.bin .sub (.c (.int .i64 9223372036854775807)) (.t 19)), (some (14, false))⟩, ⟨(some 21), (.bin .gtr (.t 15) (.t 20)), (some (14, false))⟩, ⟨(some 22), (.pick (.t 14) (.c (.bool true)) (.t 21)), none⟩] [])
 (.cond (.t 22) (.seq (.reg [⟨(some 2), (.mv (.c (.int .i64 5))), none⟩])
 .ret)
 .skip))
 (.seq (.reg [⟨(some 2), (.mv (.c (.int .i64 0))), none⟩])
 .ret)))⟩
theorem ok108 : FOk alT Try.prog 0 108 ir108 := ⟨_, Try.func108, by kernel_rfl, by kernel_rfl⟩
-- 109 (*hatchway/meter.Meter).when
def ir109 : AFn := ⟨23, [.t 8],
 (.seq (.reg [⟨(some 8), (.mv (.c (.int .i64 0))), none⟩])
 (.seq (.seq (.reg [⟨(some 10), (.mv (.t 0)), none⟩, ⟨(some 11), (.nileq 0 false (.t 10) (.c (.pointer none))), none⟩, ⟨(some 12), (.mv (.t 11)), none⟩, ⟨(some 13), (.mv (.t 1)), (some (12, false))⟩, ⟨(some 14), (.bin .lss (.t 13) (.c (.int .i64 0))), (some (12, false))⟩, ⟨(some 15), (.pick (.t 12) (.c (.bool true)) (.t 14)), none⟩])
 (.cond (.t 15) (.seq (.reg [⟨(some 8), (.mv (.c (.int .i64 1))), none⟩])
 .ret)
 .skip))
 (.seq (.seq (.reg [⟨(some 16), (.mv (.t 2)), none⟩, ⟨(some 17), (.call (.t 16) []), none⟩, ⟨(some 9), (.mv (.t 17)), none⟩])
 (.seq (.reg [⟨(some 18), (.mv (.t 9)), none⟩, ⟨(some 19), (.bin .neq (.t 18) (.c (.int .i64 0))), none⟩])
 (.cond (.t 19) (.seq (.reg [⟨(some 20), (.mv (.t 9)), none⟩, ⟨(some 8), (.mv (.t 20)), none⟩])
 .ret)
 .skip)))
 (.seq (.reg [⟨(some 21), (.mv (.t 3)), none⟩, ⟨(some 22), (.call (.t 21) []), none⟩])
 (.seq (.reg [⟨(some 8), (.mv (.c (.int .i64 0))), none⟩])
 .ret)))))⟩
theorem ok109 : FOk alT Try.prog 0 109 ir109 := ⟨_, Try.func109, by kernel_rfl, by kernel_rfl⟩
-- 110 (*hatchway/meter.Meter).Take$2
def ir110 : AFn := ⟨30, [],
 (.seq (.draw [⟨(some 2), (.ld (.t 0)), none⟩, ⟨(some 3), (.nilchk (.t 2)), none⟩, ⟨(some 4), (.fa 1 (.t 3)), none⟩, ⟨(some 5), (.ld (.t 4)), none⟩, ⟨(some 6), (.ld (.t 1)), none⟩, ⟨(some 7), (.bin .add (.t 5) (.t 6)), none⟩, ⟨(some 8), (.nilchk (.t 2)), none⟩, ⟨(some 9), (.fa 1 (.t 8)), none⟩] [⟨none, (.st 1 (.t 9) (.t 7)), none⟩])
 (.seq (.draw [⟨(some 10), (.ld (.t 0)), none⟩, ⟨(some 11), (.nilchk (.t 10)), none⟩, ⟨(some 12), (.fa 2 (.t 11)), none⟩, ⟨(some 13), (.ld (.t 12)), none⟩, ⟨(some 14), (.ld (.t 1)), none⟩, ⟨(some 15), (.bin .add (.t 13) (.t 14)), none⟩, ⟨(some 16), (.nilchk (.t 10)), none⟩, ⟨(some 17), (.fa 2 (.t 16)), none⟩] [⟨none, (.st 1 (.t 17) (.t 15)), none⟩])
 (.draw [⟨(some 18), (.ld (.t 0)), none⟩, ⟨(some 19), (.ld (.t 0)), none⟩, ⟨(some 20), (.nilchk (.t 19)), none⟩, ⟨(some 21), (.fa 3 (.t 20)), none⟩, ⟨(some 22), (.ld (.t 21)), none⟩, ⟨(some 23), (.ld (.t 0)), none⟩, ⟨(some 24), (.nilchk (.t 23)), none⟩, ⟨(some 25), (.fa 1 (.t 24)), none⟩, ⟨(some 26), (.ld (.t 25)), none⟩, ⟨(some 27), (.mm true (.t 22) [(.t 26)]), none⟩, ⟨(some 28), (.nilchk (.t 18)), none⟩, ⟨(some 29), (.fa 3 (.t 28)), none⟩] [⟨none, (.st 1 (.t 29) (.t 27)), none⟩])))⟩
theorem ok110 : FOk alT Try.prog 0 110 ir110 := ⟨_, Try.func110, by kernel_rfl, by kernel_rfl⟩
-- 111 (*hatchway/cursor.Reader).Byte
def ir111 : AFn := ⟨10, [.t 2],
 (.seq (.reg [⟨(some 2), (.mv (.c (.int .u8 0))), none⟩])
 (.seq (.reg [⟨(some 4), (.mv (.t 0)), none⟩, ⟨(some 5), (.call (.c (.func (.func 103) #[] #[])) [(.t 4), (.c (.int .i64 1))]), none⟩, ⟨(some 3), (.mv (.t 5)), none⟩])
 (.seq (.seq (.reg [⟨(some 6), (.mv (.t 3)), none⟩, ⟨(some 7), (.bin .eql (.t 6) (.c (.string ⟨#[]⟩))), none⟩])
 (.cond (.t 7) (.seq (.reg [⟨(some 2), (.mv (.c (.int .u8 0))), none⟩])
 .ret)
 .skip))
 (.seq (.reg [⟨(some 8), (.mv (.t 3)), none⟩, ⟨(some 9), (.ixs (.t 8) (.c (.int .i64 0))), none⟩, ⟨(some 2), (.mv (.t 9)), none⟩])
 .ret))))⟩
theorem ok111 : FOk alT Try.prog 0 111 ir111 := ⟨_, Try.func111, by kernel_rfl, by kernel_rfl⟩
-- 112 (*hatchway/snap.unpacker).element$1
def ir112 : AFn := ⟨14, [],
 (.drawD [⟨(some 4), (.ld (.t 1)), none⟩, ⟨(some 5), (.ld (.t 2)), none⟩, ⟨(some 6), (.bin .add (.t 5) (.c (.int .i64 1))), none⟩, ⟨(some 7), (.ld (.t 1)), none⟩, ⟨(some 8), (.nilchk (.t 7)), none⟩, ⟨(some 9), (.fa 0 (.t 8)), none⟩, ⟨(some 10), (.ld (.t 9)), none⟩, ⟨(some 11), (.mv (.t 0)), none⟩] [(⟨(some 12), (.call (.c (.func (.func 114) #[] #[])) [(.t 10), (.t 11)]), none⟩, [⟨(some 4), (.ld (.t 1)), none⟩, ⟨(some 5), (.ld (.t 2)), none⟩]), (⟨(some 13), (.call (.c (.func (.func 113) #[] #[])) [(.t 4), (.t 6), (.t 12)]), none⟩, [])])⟩
theorem ok112 : FOk alT Try.prog 0 112 ir112 := ⟨_, Try.func112, by kernel_rfl, by kernel_rfl⟩
-- 113 (*hatchway/snap.unpacker).copied
def lp113_0 : ACode := (.seq (.reg [⟨(some 33), (.bin .lss (.t 32) (.t 31)), none⟩])
 (.seq (.cond (.t 33) .skip
 (.exit 0))
 (.seq (.block 1 (.draw [⟨(some 34), (.mv (.t 0)), none⟩, ⟨(some 35), (.mv (.t 0)), none⟩, ⟨(some 36), (.nilchk (.t 35)), none⟩, ⟨(some 37), (.fa 1 (.t 36)), none⟩, ⟨(some 38), (.ld (.t 37)), none⟩, ⟨(some 39), (.mv (.t 0)), none⟩, ⟨(some 40), (.nilchk (.t 39)), none⟩, ⟨(some 41), (.fa 1 (.t 40)), none⟩, ⟨(some 42), (.ld (.t 41)), none⟩, ⟨(some 43), (.mv (.t 0)), none⟩, ⟨(some 44), (.nilchk (.t 43)), none⟩, ⟨(some 45), (.fa 1 (.t 44)), none⟩, ⟨(some 46), (.ld (.t 45)), none⟩, ⟨(some 47), (.len 1 (.t 46)), none⟩, ⟨(some 48), (.mv (.t 2)), none⟩, ⟨(some 49), (.bin .sub (.t 47) (.t 48)), none⟩, ⟨(some 50), (.ia 1 (.t 42) (.t 49)), none⟩, ⟨(some 51), (.ld (.t 50)), none⟩, ⟨(some 54), (.nilchk (.t 34)), none⟩, ⟨(some 55), (.fa 1 (.t 54)), none⟩] [⟨(some 52), (.lit 5 [(.int .u8 0)] 1 1 [(0, 1, (.t 51))]), none⟩, ⟨(some 53), (.app 5 1 1 (.t 38) (.t 52)), none⟩, ⟨none, (.st 1 (.t 55) (.t 53)), none⟩]))
 (.reg [⟨(some 56), (.bin .add (.t 32) (.c (.int .i64 1))), none⟩, ⟨(some 32), (.mv (.t 56)), none⟩]))))
def ir113 : AFn := ⟨57, [],
 (.seq (.seq (.reg [⟨(some 6), (.mv (.t 2)), none⟩, ⟨(some 7), (.bin .eql (.t 6) (.c (.int .i64 0))), none⟩, ⟨(some 8), (.mv (.t 7)), none⟩, ⟨(some 9), (.mv (.t 2)), (some (8, false))⟩, ⟨(some 10), (.mv (.t 0)), (some (8, false))⟩, ⟨(some 11), (.nilchk (.t 10)), (some (8, false))⟩, ⟨(some 12), (.fa 1 (.t 11)), (some (8, false))⟩, ⟨(some 13), (.ld (.t 12)), (some (8, false))⟩, ⟨(some 14), (.len 1 (.t 13)), (some (8, false))⟩, ⟨(some 15), (.bin .gtr (.t 9) (.t 14)), (some (8, false))⟩, ⟨(some 16), (.pick (.t 8) (.c (.bool true)) (.t 15)), none⟩])
 (.cond (.t 16) (.reg [⟨(some 17), (.mv (.t 0)), none⟩, ⟨(some 18), (.nilchk (.t 17)), none⟩, ⟨(some 19), (.fa 0 (.t 18)), none⟩, ⟨(some 20), (.ld (.t 19)), none⟩, ⟨(some 21), (.call (.c (.func (.func 89) #[] #[])) [(.t 20), (.c (.int .i64 3))]), none⟩])
 .skip))
 (.seq (.reg [⟨(some 22), (.mv (.t 0)), none⟩, ⟨(some 23), (.mv (.t 1)), none⟩, ⟨(some 24), (.call (.c (.func (.func 130) #[] #[])) [(.t 22), (.t 23)]), none⟩])
 (.seq (.seq (.reg [⟨(some 25), (.mv (.t 0)), none⟩, ⟨(some 26), (.nilchk (.t 25)), none⟩, ⟨(some 27), (.fa 0 (.t 26)), none⟩, ⟨(some 28), (.ld (.t 27)), none⟩, ⟨(some 29), (.call (.c (.func (.func 79) #[] #[])) [(.t 28)]), none⟩, ⟨(some 30), (.bin .neq (.t 29) (.c (.int .i64 0))), none⟩])
 (.cond (.t 30) .ret
 .skip))
 (.seq (.reg [⟨(some 31), (.mv (.t 1)), none⟩, ⟨(some 32), (.mv (.c (.int .i64 0))), none⟩])
 (.block 0 (.loop lp113_0))))))⟩
theorem ok113 : FOk alT Try.prog 0 113 ir113 := ⟨_, Try.func113, by kernel_rfl, by kernel_rfl⟩
-- 114 hatchway/snap.little
def lp114_0 : ACode := (.seq (.seq (.reg [⟨(some 14), (.mv (.t 7)), none⟩, ⟨(some 15), (.bin .geq (.t 14) (.c (.int .i64 0))), none⟩])
 (.cond (.t 15) .skip
 (.exit 0)))
 (.seq (.block 1 (.reg [⟨(some 18), (.mv (.t 5)), none⟩, ⟨(some 19), (.bin .shl (.t 18) (.c (.int .u64 8))), none⟩, ⟨(some 20), (.mv (.t 6)), none⟩, ⟨(some 21), (.mv (.t 7)), none⟩, ⟨(some 22), (.ixs (.t 20) (.t 21)), none⟩, ⟨(some 23), (.conv .i64 (.t 22)), none⟩, ⟨(some 24), (.bin .or (.t 19) (.t 23)), none⟩, ⟨(some 5), (.mv (.t 24)), none⟩]))
 (.reg [⟨(some 16), (.mv (.t 7)), none⟩, ⟨(some 17), (.bin .sub (.t 16) (.c (.int .i64 1))), none⟩, ⟨(some 7), (.mv (.t 17)), none⟩])))
def ir114 : AFn := ⟨26, [.t 4],
 (.seq (.reg [⟨(some 4), (.mv (.c (.int .i64 0))), none⟩])
 (.seq (.reg [⟨(some 5), (.mv (.c (.int .i64 0))), none⟩])
 (.seq (.reg [⟨(some 8), (.mv (.t 0)), none⟩, ⟨(some 9), (.mv (.t 1)), none⟩, ⟨(some 10), (.call (.c (.func (.func 103) #[] #[])) [(.t 8), (.t 9)]), none⟩, ⟨(some 6), (.mv (.t 10)), none⟩])
 (.seq (.seq (.reg [⟨(some 11), (.mv (.t 6)), none⟩, ⟨(some 12), (.len 0 (.t 11)), none⟩, ⟨(some 13), (.bin .sub (.t 12) (.c (.int .i64 1))), none⟩, ⟨(some 7), (.mv (.t 13)), none⟩])
 (.block 0 (.loop lp114_0)))
 (.seq (.reg [⟨(some 25), (.mv (.t 5)), none⟩, ⟨(some 4), (.mv (.t 25)), none⟩])
 .ret)))))⟩
theorem ok114 : FOk alT Try.prog 0 114 ir114 := ⟨_, Try.func114, by kernel_rfl, by kernel_rfl⟩
-- 115 (*hatchway/snap.unpacker).literal
def ir115 : AFn := ⟨35, [],
 (.seq (.reg [⟨(some 5), (.mv (.t 1)), none⟩, ⟨(some 6), (.bin .add (.t 5) (.c (.int .i64 1))), none⟩, ⟨(some 4), (.mv (.t 6)), none⟩])
 (.seq (.seq (.reg [⟨(some 7), (.mv (.t 1)), none⟩, ⟨(some 8), (.bin .geq (.t 7) (.c (.int .i64 60))), none⟩])
 (.cond (.t 8) (.reg [⟨(some 9), (.mv (.t 0)), none⟩, ⟨(some 10), (.nilchk (.t 9)), none⟩, ⟨(some 11), (.fa 0 (.t 10)), none⟩, ⟨(some 12), (.ld (.t 11)), none⟩, ⟨(some 13), (.mv (.t 1)), none⟩, ⟨(some 14), (.bin .sub (.t 13) (.c (.int .i64 60))), none⟩, ⟨(some 15), (.bin .add (.t 14) (.c (.int .i64 1))), none⟩, ⟨(some 16), (.call (.c (.func (.func 114) #[] #[])) [(.t 12), (.t 15)]), none⟩, ⟨(some 17), (.bin .add (.t 16) (.c (.int .i64 1))), none⟩, ⟨(some 4), (.mv (.t 17)), none⟩])
 .skip))
 (.seq (.reg [⟨(some 18), (.mv (.t 0)), none⟩, ⟨(some 19), (.mv (.t 4)), none⟩, ⟨(some 20), (.call (.c (.func (.func 130) #[] #[])) [(.t 18), (.t 19)]), none⟩])
 (.drawD [⟨(some 21), (.mv (.t 0)), none⟩, ⟨(some 22), (.mv (.t 0)), none⟩, ⟨(some 23), (.nilchk (.t 22)), none⟩, ⟨(some 24), (.fa 1 (.t 23)), none⟩, ⟨(some 25), (.ld (.t 24)), none⟩, ⟨(some 26), (.mv (.t 0)), none⟩, ⟨(some 27), (.nilchk (.t 26)), none⟩, ⟨(some 28), (.fa 0 (.t 27)), none⟩, ⟨(some 29), (.ld (.t 28)), none⟩, ⟨(some 30), (.mv (.t 4)), none⟩, ⟨(some 33), (.nilchk (.t 21)), none⟩, ⟨(some 34), (.fa 1 (.t 33)), none⟩] [(⟨(some 31), (.call (.c (.func (.func 103) #[] #[])) [(.t 29), (.t 30)]), none⟩, [⟨(some 25), (.ld (.t 24)), none⟩]), (⟨(some 32), (.x (.apps 5 1 1) [(.t 25), (.t 31)]), none⟩, []), (⟨none, (.st 1 (.t 34) (.t 32)), none⟩, [])]))))⟩
theorem ok115 : FOk alT Try.prog 0 115 ir115 := ⟨_, Try.func115, by kernel_rfl, by kernel_rfl⟩
-- 116 hatchway/hatchwayref11.heads
def ir116 : AFn := ⟨19, [.t 2],
 (.seq (.reg [⟨(some 2), (.mv (.c (.int .i64 0))), none⟩])
 (.seq (.reg [⟨(some 4), (.mv (.t 0)), none⟩, ⟨(some 5), (.bin .quo (.t 4) (.c (.int .i64 4))), none⟩, ⟨(some 3), (.mv (.t 5)), none⟩])
 (.seq (.seq (.reg [⟨(some 6), (.mv (.t 0)), none⟩, ⟨(some 7), (.bin .rem (.t 6) (.c (.int .i64 4))), none⟩])
 (.block 0 (.seq (.reg [⟨(some 9), (.bin .eql (.t 7) (.c (.int .i64 0))), none⟩, ⟨(some 8), (.mv (.t 9)), none⟩])
 (.cond (.t 8) (.seq (.seq (.reg [⟨(some 10), (.mv (.t 3)), none⟩, ⟨(some 11), (.bin .geq (.t 10) (.c (.int .i64 60))), none⟩])
 (.cond (.t 11) (.seq (.reg [⟨(some 12), (.mv (.t 3)), none⟩, ⟨(some 13), (.bin .add (.c (.int .i64 1)) (.t 12)), none⟩, ⟨(some 14), (.bin .sub (.t 13) (.c (.int .i64 59))), none⟩, ⟨(some 2), (.mv (.t 14)), none⟩])
 .ret)
 .skip))
 (.seq (.reg [⟨(some 2), (.mv (.c (.int .i64 1))), none⟩])
 .ret))
 (.seq (.reg [⟨(some 16), (.bin .eql (.t 7) (.c (.int .i64 1))), none⟩, ⟨(some 15), (.mv (.t 16)), none⟩])
 (.cond (.t 15) (.seq (.reg [⟨(some 2), (.mv (.c (.int .i64 2))), none⟩])
 .ret)
 (.seq (.reg [⟨(some 18), (.bin .eql (.t 7) (.c (.int .i64 2))), none⟩, ⟨(some 17), (.mv (.t 18)), none⟩])
 (.cond (.t 17) (.seq (.reg [⟨(some 2), (.mv (.c (.int .i64 3))), none⟩])
 .ret)
 .skip))))))))
 (.seq (.reg [⟨(some 2), (.mv (.c (.int .i64 5))), none⟩])
 .ret))))⟩
theorem ok116 : FOk alT Try.prog 0 116 ir116 := ⟨_, Try.func116, by kernel_rfl, by kernel_rfl⟩
-- 117 hatchway/hatchwayref11.little
def ir117 : AFn := ⟨7, [.t 2],
 (.seq (.reg [⟨(some 2), (.mv (.c (.int .i64 0))), none⟩])
 (.seq (.reg [⟨(some 3), (.mv (.t 0)), none⟩, ⟨(some 4), (.call (.c (.func (.func 132) #[] #[])) [(.t 3)]), none⟩, ⟨(some 5), (.call (.c (.func (.func 131) #[] #[])) [(.t 4)]), none⟩, ⟨(some 6), (.conv .i64 (.t 5)), none⟩, ⟨(some 2), (.mv (.t 6)), none⟩])
 .ret))⟩
theorem ok117 : FOk alT Try.prog 0 117 ir117 := ⟨_, Try.func117, by kernel_rfl, by kernel_rfl⟩
-- 128 (*hatchway/cursor.Reader).Take$1
def ir128 : AFn := ⟨9, [],
 (.seq (.reg [⟨(some 5), (.mv (.t 0)), none⟩])
 (.cond (.t 5) (.reg [⟨(some 6), (.ld (.t 2)), none⟩, ⟨(some 7), (.mv (.t 1)), none⟩, ⟨(some 8), (.call (.c (.func (.func 89) #[] #[])) [(.t 6), (.t 7)]), none⟩])
 .skip))⟩
theorem ok128 : FOk alT Try.prog 0 128 ir128 := ⟨_, Try.func128, by kernel_rfl, by kernel_rfl⟩
-- 130 (*hatchway/snap.unpacker).room
def ir130 : AFn := ⟨21, [],
 (.seq (.draw [⟨(some 4), (.mv (.t 1)), none⟩, ⟨(some 5), (.mv (.t 0)), none⟩, ⟨(some 6), (.nilchk (.t 5)), none⟩, ⟨(some 7), (.fa 2 (.t 6)), none⟩, ⟨(some 8), (.ld (.t 7)), none⟩, ⟨(some 9), (.mv (.t 0)), none⟩, ⟨(some 10), (.nilchk (.t 9)), none⟩, ⟨(some 11), (.fa 1 (.t 10)), none⟩, ⟨(some 12), (.ld (.t 11)), none⟩, ⟨(some 13), (.len 1 (.t 12)), none⟩, ⟨(some 14), (.bin .sub (.t 8) (.t 13)), none⟩, ⟨(some 15), (.bin .gtr (.t 4) (.t 14)), none⟩] [])
 (.cond (.t 15) (.reg [⟨(some 16), (.mv (.t 0)), none⟩, ⟨(some 17), (.nilchk (.t 16)), none⟩, ⟨(some 18), (.fa 0 (.t 17)), none⟩, ⟨(some 19), (.ld (.t 18)), none⟩, ⟨(some 20), (.call (.c (.func (.func 89) #[] #[])) [(.t 19), (.c (.int .i64 3))]), none⟩])
 .skip))⟩
theorem ok130 : FOk alT Try.prog 0 130 ir130 := ⟨_, Try.func130, by kernel_rfl, by kernel_rfl⟩
-- 131 hatchway/hatchwayref02.Number
def lp131_0 : ACode := (.seq (.seq (.reg [⟨(some 5), (.mv (.t 4)), none⟩, ⟨(some 6), (.mv (.t 0)), none⟩, ⟨(some 7), (.len 0 (.t 6)), none⟩, ⟨(some 8), (.bin .lss (.t 5) (.t 7)), none⟩])
 (.cond (.t 8) .skip
 (.exit 0)))
 (.seq (.block 1 (.reg [⟨(some 11), (.mv (.t 3)), none⟩, ⟨(some 12), (.bin .mul (.c (.int .u64 256)) (.t 11)), none⟩, ⟨(some 13), (.mv (.t 0)), none⟩, ⟨(some 14), (.mv (.t 4)), none⟩, ⟨(some 15), (.ixs (.t 13) (.t 14)), none⟩, ⟨(some 16), (.conv .u64 (.t 15)), none⟩, ⟨(some 17), (.bin .add (.t 12) (.t 16)), none⟩, ⟨(some 3), (.mv (.t 17)), none⟩]))
 (.reg [⟨(some 9), (.mv (.t 4)), none⟩, ⟨(some 10), (.bin .add (.t 9) (.c (.int .i64 1))), none⟩, ⟨(some 4), (.mv (.t 10)), none⟩])))
def ir131 : AFn := ⟨19, [.t 2],
 (.seq (.reg [⟨(some 2), (.mv (.c (.int .u64 0))), none⟩])
 (.seq (.reg [⟨(some 3), (.mv (.c (.int .u64 0))), none⟩])
 (.seq (.seq (.reg [⟨(some 4), (.mv (.c (.int .i64 0))), none⟩])
 (.block 0 (.loop lp131_0)))
 (.seq (.reg [⟨(some 18), (.mv (.t 3)), none⟩, ⟨(some 2), (.mv (.t 18)), none⟩])
 .ret))))⟩
theorem ok131 : FOk alT Try.prog 0 131 ir131 := ⟨_, Try.func131, by kernel_rfl, by kernel_rfl⟩
-- 132 hatchway/hatchwayref02.Turned
def lp132_0 : ACode := (.seq (.seq (.reg [⟨(some 5), (.mv (.t 4)), none⟩, ⟨(some 6), (.mv (.t 0)), none⟩, ⟨(some 7), (.len 0 (.t 6)), none⟩, ⟨(some 8), (.bin .lss (.t 5) (.t 7)), none⟩])
 (.cond (.t 8) .skip
 (.exit 0)))
 (.seq (.block 1 (.reg [⟨(some 11), (.mv (.t 0)), none⟩, ⟨(some 12), (.mv (.t 4)), none⟩, ⟨(some 13), (.mv (.t 4)), none⟩, ⟨(some 14), (.bin .add (.t 13) (.c (.int .i64 1))), none⟩, ⟨(some 15), (.cut (.t 11) (some (.t 12)) (some (.t 14))), none⟩, ⟨(some 16), (.mv (.t 3)), none⟩, ⟨(some 17), (.bin .add (.t 15) (.t 16)), none⟩, ⟨(some 3), (.mv (.t 17)), none⟩]))
 (.reg [⟨(some 9), (.mv (.t 4)), none⟩, ⟨(some 10), (.bin .add (.t 9) (.c (.int .i64 1))), none⟩, ⟨(some 4), (.mv (.t 10)), none⟩])))
def ir132 : AFn := ⟨19, [.t 2],
 (.seq (.reg [⟨(some 2), (.mv (.c (.string ⟨#[]⟩))), none⟩])
 (.seq (.reg [⟨(some 3), (.mv (.c (.string ⟨#[]⟩))), none⟩])
 (.seq (.seq (.reg [⟨(some 4), (.mv (.c (.int .i64 0))), none⟩])
 (.block 0 (.loop lp132_0)))
 (.seq (.reg [⟨(some 18), (.mv (.t 3)), none⟩, ⟨(some 2), (.mv (.t 18)), none⟩])
 .ret))))⟩
theorem ok132 : FOk alT Try.prog 0 132 ir132 := ⟨_, Try.func132, by kernel_rfl, by kernel_rfl⟩
def fnL : List (Nat × AFn) := [(7, ir7), (8, ir8), (11, ir11), (12, ir12), (13, ir13), (38, ir38), (39, ir39), (40, ir40), (41, ir41), (46, ir46), (47, ir47), (48, ir48), (49, ir49), (50, ir50), (73, ir73), (74, ir74), (75, ir75), (76, ir76), (77, ir77), (78, ir78), (79, ir79), (80, ir80), (84, ir84), (85, ir85), (86, ir86), (87, ir87), (88, ir88), (89, ir89), (90, ir90), (103, ir103), (104, ir104), (108, ir108), (109, ir109), (110, ir110), (111, ir111), (112, ir112), (113, ir113), (114, ir114), (115, ir115), (116, ir116), (117, ir117), (128, ir128), (130, ir130), (131, ir131), (132, ir132)]
theorem fnL_ok : ∀ p ∈ fnL, FOk alT Try.prog 0 p.1 p.2 := (all_cons ok7 (all_cons ok8 (all_cons ok11 (all_cons ok12 (all_cons ok13 (all_cons ok38 (all_cons ok39 (all_cons ok40 (all_cons ok41 (all_cons ok46 (all_cons ok47 (all_cons ok48 (all_cons ok49 (all_cons ok50 (all_cons ok73 (all_cons ok74 (all_cons ok75 (all_cons ok76 (all_cons ok77 (all_cons ok78 (all_cons ok79 (all_cons ok80 (all_cons ok84 (all_cons ok85 (all_cons ok86 (all_cons ok87 (all_cons ok88 (all_cons ok89 (all_cons ok90 (all_cons ok103 (all_cons ok104 (all_cons ok108 (all_cons ok109 (all_cons ok110 (all_cons ok111 (all_cons ok112 (all_cons ok113 (all_cons ok114 (all_cons ok115 (all_cons ok116 (all_cons ok117 (all_cons ok128 (all_cons ok130 (all_cons ok131 (all_cons ok132 all_nil)))))))))))))))))))))))))))))))))))))))))))))
theorem fn7 : tab fnL 7 = some ir7 := rfl
theorem fn8 : tab fnL 8 = some ir8 := rfl
theorem fn11 : tab fnL 11 = some ir11 := rfl
theorem fn12 : tab fnL 12 = some ir12 := rfl
theorem fn13 : tab fnL 13 = some ir13 := rfl
theorem fn38 : tab fnL 38 = some ir38 := rfl
theorem fn39 : tab fnL 39 = some ir39 := rfl
theorem fn40 : tab fnL 40 = some ir40 := rfl
theorem fn41 : tab fnL 41 = some ir41 := rfl
theorem fn46 : tab fnL 46 = some ir46 := rfl
theorem fn47 : tab fnL 47 = some ir47 := rfl
theorem fn48 : tab fnL 48 = some ir48 := rfl
theorem fn49 : tab fnL 49 = some ir49 := rfl
theorem fn50 : tab fnL 50 = some ir50 := rfl
theorem fn73 : tab fnL 73 = some ir73 := rfl
theorem fn74 : tab fnL 74 = some ir74 := rfl
theorem fn75 : tab fnL 75 = some ir75 := rfl
theorem fn76 : tab fnL 76 = some ir76 := rfl
theorem fn77 : tab fnL 77 = some ir77 := rfl
theorem fn78 : tab fnL 78 = some ir78 := rfl
theorem fn79 : tab fnL 79 = some ir79 := rfl
theorem fn80 : tab fnL 80 = some ir80 := rfl
theorem fn84 : tab fnL 84 = some ir84 := rfl
theorem fn85 : tab fnL 85 = some ir85 := rfl
theorem fn86 : tab fnL 86 = some ir86 := rfl
theorem fn87 : tab fnL 87 = some ir87 := rfl
theorem fn88 : tab fnL 88 = some ir88 := rfl
theorem fn89 : tab fnL 89 = some ir89 := rfl
theorem fn90 : tab fnL 90 = some ir90 := rfl
theorem fn103 : tab fnL 103 = some ir103 := rfl
theorem fn104 : tab fnL 104 = some ir104 := rfl
theorem fn108 : tab fnL 108 = some ir108 := rfl
theorem fn109 : tab fnL 109 = some ir109 := rfl
theorem fn110 : tab fnL 110 = some ir110 := rfl
theorem fn111 : tab fnL 111 = some ir111 := rfl
theorem fn112 : tab fnL 112 = some ir112 := rfl
theorem fn113 : tab fnL 113 = some ir113 := rfl
theorem fn114 : tab fnL 114 = some ir114 := rfl
theorem fn115 : tab fnL 115 = some ir115 := rfl
theorem fn116 : tab fnL 116 = some ir116 := rfl
theorem fn117 : tab fnL 117 = some ir117 := rfl
theorem fn128 : tab fnL 128 = some ir128 := rfl
theorem fn130 : tab fnL 130 = some ir130 := rfl
theorem fn131 : tab fnL 131 = some ir131 := rfl
theorem fn132 : tab fnL 132 = some ir132 := rfl
noncomputable def CX (X : FuncId → Option (List Value → Option Value)) (pol : FuncId → Pol) : Cf := ⟨Try.prog, 0, tab fnL, pol, alT, X⟩
theorem CX_fn (X : FuncId → Option (List Value → Option Value)) (pol : FuncId → Pol) (f : FuncId) : (CX X pol).fn f = tab fnL f := rfl
theorem CX_X (X : FuncId → Option (List Value → Option Value)) (pol : FuncId → Pol) (f : FuncId) : (CX X pol).X f = X f := rfl
theorem CX_pol (X : FuncId → Option (List Value → Option Value)) (pol : FuncId → Pol) (f : FuncId) : (CX X pol).pol f = pol f := rfl
theorem CX_ok {x : List (Nat × (List Value → Option Value))} {pol : FuncId → Pol} (hx : ∀ p ∈ x, XOk Try.prog p.1 p.2) (hal : ∀ k, alT k = true → (∃ g, xtab x k = some g) ∨ (xtab x k = none ∧ (pol k = .al ∨ pol k = .ro))) : (CX (xtab x) pol).Ok where
  mixed := by kernel_rfl
  alok := hal
  fn := tab_ok fnL_ok
  X := xtab_ok hx
end Ev
end Go.Proofs.Ytfbelnjchpffeaa
