/-
  The functions of the seat in the small language, and that they are their translation.
-/
import Derived.Test.YthigekeonjmhdaaProg
import Derived.Test.YthigekeonjmhdaaEvV
import Derived.KernelRfl
namespace Go.Proofs.Ythigekeonjmhdaa
namespace Ev
set_option maxRecDepth 4000
def alT : FuncId → Bool := fun k => [].contains k
-- 3 hatchway/hatchwaylaw11.SnapMeters
def ir3 : AFn := ⟨110, [.t 6],
 (.seq (.reg [⟨(some 6), (.mv (.c (.bool false))), none⟩])
 (.seq (.seq (.reg [⟨(some 16), (.call (.c (.func (.func 12) #[] #[])) []), none⟩, ⟨(some 17), (.un .not (.t 16)), none⟩])
 (.cond (.t 17) (.seq (.reg [⟨(some 6), (.mv (.c (.bool false))), none⟩])
 .ret)
 .skip))
 (.seq (.seq (.reg [⟨(some 18), (.mv (.t 0)), none⟩, ⟨(some 19), (.len 0 (.t 18)), none⟩, ⟨(some 20), (.bin .gtr (.t 19) (.c (.int .i64 1500))), none⟩])
 (.cond (.t 20) (.seq (.reg [⟨(some 6), (.mv (.c (.bool true))), none⟩])
 .ret)
 .skip))
 (.seq (.reg [⟨(some 22), (.mv (.t 0)), none⟩, ⟨(some 23), (.call (.c (.func (.func 13) #[] #[])) [(.t 22)]), none⟩, ⟨(some 21), (.mv (.t 23)), none⟩, ⟨(some 24), (.ext 0 (.t 21)), none⟩, ⟨(some 25), (.ext 1 (.t 21)), none⟩, ⟨(some 26), (.ext 2 (.t 21)), none⟩, ⟨(some 7), (.mv (.t 24)), none⟩, ⟨(some 8), (.mv (.t 25)), none⟩, ⟨(some 9), (.mv (.t 26)), none⟩])
 (.seq (.seq (.reg [⟨(some 27), (.mv (.t 1)), none⟩, ⟨(some 28), (.bin .gtr (.t 27) (.c (.int .i64 20000))), none⟩, ⟨(some 29), (.mv (.t 28)), none⟩, ⟨(some 30), (.mv (.t 7)), (some (29, true))⟩, ⟨(some 31), (.bin .gtr (.t 30) (.c (.int .i64 20000))), (some (29, true))⟩, ⟨(some 32), (.pick (.t 29) (.t 31) (.c (.bool false))), none⟩])
 (.cond (.t 32) (.seq (.reg [⟨(some 6), (.mv (.c (.bool true))), none⟩])
 .ret)
 .skip))
 (.seq (.reg [⟨(some 33), (.mv (.t 2)), none⟩, ⟨(some 34), (.call (.c (.func (.func 14) #[] #[])) [(.t 33)]), none⟩, ⟨(some 10), (.mv (.t 34)), none⟩])
 (.seq (.reg [⟨(some 36), (.mv (.t 0)), none⟩, ⟨(some 37), (.mv (.t 1)), none⟩, ⟨(some 38), (.mv (.t 10)), none⟩, ⟨(some 39), (.call (.c (.func (.func 15) #[] #[])) [(.t 36), (.t 37), (.t 38)]), none⟩, ⟨(some 35), (.mv (.t 39)), none⟩, ⟨(some 40), (.ext 0 (.t 35)), none⟩, ⟨(some 41), (.ext 1 (.t 35)), none⟩, ⟨(some 11), (.mv (.t 40)), none⟩, ⟨(some 12), (.mv (.t 41)), none⟩])
 (.seq (.seq (.reg [⟨(some 42), (.mv (.t 9)), none⟩, ⟨(some 43), (.bin .neq (.t 42) (.c (.int .i64 0))), none⟩, ⟨(some 44), (.mv (.t 43)), none⟩, ⟨(some 45), (.mv (.t 7)), (some (44, false))⟩, ⟨(some 46), (.mv (.t 1)), (some (44, false))⟩, ⟨(some 47), (.bin .gtr (.t 45) (.t 46)), (some (44, false))⟩, ⟨(some 48), (.pick (.t 44) (.c (.bool true)) (.t 47)), none⟩])
 (.cond (.t 48) (.seq (.reg [⟨(some 49), (.mv (.t 9)), none⟩, ⟨(some 13), (.mv (.t 49)), none⟩])
 (.seq (.seq (.reg [⟨(some 50), (.mv (.t 9)), none⟩, ⟨(some 51), (.bin .eql (.t 50) (.c (.int .i64 0))), none⟩])
 (.cond (.t 51) (.reg [⟨(some 13), (.mv (.c (.int .i64 5))), none⟩])
 .skip))
 (.seq (.reg [⟨(some 52), (.mv (.t 11)), none⟩, ⟨(some 53), (.bin .eql (.t 52) (.c (.string ⟨#[]⟩))), none⟩, ⟨(some 54), (.mv (.t 53)), none⟩, ⟨(some 55), (.mv (.t 12)), (some (54, true))⟩, ⟨(some 56), (.mv (.t 13)), (some (54, true))⟩, ⟨(some 57), (.bin .eql (.t 55) (.t 56)), (some (54, true))⟩, ⟨(some 58), (.pick (.t 54) (.t 57) (.c (.bool false))), none⟩, ⟨(some 59), (.mv (.t 58)), none⟩, ⟨(some 60), (.mv (.t 10)), (some (59, true))⟩, ⟨(some 61), (.call (.c (.func (.func 16) #[] #[])) [(.t 60)]), (some (59, true))⟩, ⟨(some 62), (.bin .eql (.t 61) (.c (.int .i64 0))), (some (59, true))⟩, ⟨(some 63), (.pick (.t 59) (.t 62) (.c (.bool false))), none⟩, ⟨(some 64), (.mv (.t 63)), none⟩, ⟨(some 65), (.mv (.t 10)), (some (64, true))⟩, ⟨(some 66), (.call (.c (.func (.func 17) #[] #[])) [(.t 65)]), (some (64, true))⟩, ⟨(some 67), (.bin .eql (.t 66) (.c (.int .i64 0))), (some (64, true))⟩, ⟨(some 68), (.pick (.t 64) (.t 67) (.c (.bool false))), none⟩, ⟨(some 6), (.mv (.t 68)), none⟩])
 .ret)))
 .skip))
 (.seq (.seq (.reg [⟨(some 69), (.mv (.t 7)), none⟩, ⟨(some 70), (.mv (.t 2)), none⟩, ⟨(some 71), (.mm true (.t 70) [(.c (.int .i64 0))]), none⟩, ⟨(some 72), (.bin .gtr (.t 69) (.t 71)), none⟩])
 (.cond (.t 72) (.seq (.reg [⟨(some 73), (.mv (.t 11)), none⟩, ⟨(some 74), (.bin .eql (.t 73) (.c (.string ⟨#[]⟩))), none⟩, ⟨(some 75), (.mv (.t 74)), none⟩, ⟨(some 76), (.mv (.t 12)), (some (75, true))⟩, ⟨(some 77), (.bin .eql (.t 76) (.c (.int .i64 5))), (some (75, true))⟩, ⟨(some 78), (.pick (.t 75) (.t 77) (.c (.bool false))), none⟩, ⟨(some 79), (.mv (.t 78)), none⟩, ⟨(some 80), (.mv (.t 10)), (some (79, true))⟩, ⟨(some 81), (.call (.c (.func (.func 16) #[] #[])) [(.t 80)]), (some (79, true))⟩, ⟨(some 82), (.bin .eql (.t 81) (.c (.int .i64 0))), (some (79, true))⟩, ⟨(some 83), (.pick (.t 79) (.t 82) (.c (.bool false))), none⟩, ⟨(some 6), (.mv (.t 83)), none⟩])
 .ret)
 .skip))
 (.seq (.reg [⟨(some 85), (.mv (.t 0)), none⟩, ⟨(some 86), (.mv (.t 1)), none⟩, ⟨(some 87), (.call (.c (.func (.func 18) #[] #[])) [(.t 85), (.t 86)]), none⟩, ⟨(some 84), (.mv (.t 87)), none⟩, ⟨(some 88), (.ext 0 (.t 84)), none⟩, ⟨(some 89), (.ext 1 (.t 84)), none⟩, ⟨(some 14), (.mv (.t 88)), none⟩, ⟨(some 15), (.mv (.t 89)), none⟩])
 (.seq (.reg [⟨(some 90), (.mv (.t 11)), none⟩, ⟨(some 91), (.mv (.t 14)), none⟩, ⟨(some 92), (.bin .eql (.t 90) (.t 91)), none⟩, ⟨(some 93), (.mv (.t 92)), none⟩, ⟨(some 94), (.mv (.t 12)), (some (93, true))⟩, ⟨(some 95), (.mv (.t 15)), (some (93, true))⟩, ⟨(some 96), (.bin .eql (.t 94) (.t 95)), (some (93, true))⟩, ⟨(some 97), (.pick (.t 93) (.t 96) (.c (.bool false))), none⟩, ⟨(some 98), (.mv (.t 97)), none⟩, ⟨(some 99), (.mv (.t 10)), (some (98, true))⟩, ⟨(some 100), (.call (.c (.func (.func 16) #[] #[])) [(.t 99)]), (some (98, true))⟩, ⟨(some 101), (.mv (.t 7)), (some (98, true))⟩, ⟨(some 102), (.bin .eql (.t 100) (.t 101)), (some (98, true))⟩, ⟨(some 103), (.pick (.t 98) (.t 102) (.c (.bool false))), none⟩, ⟨(some 104), (.mv (.t 103)), none⟩, ⟨(some 105), (.mv (.t 10)), (some (104, true))⟩, ⟨(some 106), (.call (.c (.func (.func 17) #[] #[])) [(.t 105)]), (some (104, true))⟩, ⟨(some 107), (.mv (.t 7)), (some (104, true))⟩, ⟨(some 108), (.bin .eql (.t 106) (.t 107)), (some (104, true))⟩, ⟨(some 109), (.pick (.t 104) (.t 108) (.c (.bool false))), none⟩, ⟨(some 6), (.mv (.t 109)), none⟩])
 .ret)))))))))))⟩
theorem ok3 : FOk alT Try.prog 0 3 ir3 := ⟨_, Try.func3, by kernel_rfl, by kernel_rfl⟩
-- 12 hatchway/hatchwaylaw11.alive
def ir12 : AFn := ⟨13, [.t 0],
 (.seq (.reg [⟨(some 0), (.mv (.c (.bool false))), none⟩])
 (.seq (.reg [⟨(some 4), (.call (.c (.func (.func 15) #[] #[])) [(.c (.string ⟨#[5, 16, 97, 98, 99, 100, 101]⟩)), (.c (.int .i64 9)), (.c (.pointer none))]), none⟩, ⟨(some 3), (.mv (.t 4)), none⟩, ⟨(some 5), (.ext 0 (.t 3)), none⟩, ⟨(some 6), (.ext 1 (.t 3)), none⟩, ⟨(some 1), (.mv (.t 5)), none⟩, ⟨(some 2), (.mv (.t 6)), none⟩])
 (.seq (.reg [⟨(some 7), (.mv (.t 2)), none⟩, ⟨(some 8), (.bin .eql (.t 7) (.c (.int .i64 0))), none⟩, ⟨(some 9), (.mv (.t 8)), none⟩, ⟨(some 10), (.mv (.t 1)), (some (9, true))⟩, ⟨(some 11), (.bin .eql (.t 10) (.c (.string ⟨#[97, 98, 99, 100, 101]⟩))), (some (9, true))⟩, ⟨(some 12), (.pick (.t 9) (.t 11) (.c (.bool false))), none⟩, ⟨(some 0), (.mv (.t 12)), none⟩])
 .ret)))⟩
theorem ok12 : FOk alT Try.prog 0 12 ir12 := ⟨_, Try.func12, by kernel_rfl, by kernel_rfl⟩
-- 13 hatchway/hatchwayref11.Size
def ir13 : AFn := ⟨22, [.t 2, .t 3, .t 4],
 (.seq (.reg [⟨(some 2), (.mv (.c (.int .i64 0))), none⟩, ⟨(some 3), (.mv (.c (.int .i64 0))), none⟩, ⟨(some 4), (.mv (.c (.int .i64 0))), none⟩])
 (.seq (.reg [⟨(some 9), (.mv (.t 0)), none⟩, ⟨(some 10), (.call (.c (.func (.func 53) #[] #[])) [(.t 9)]), none⟩, ⟨(some 8), (.mv (.t 10)), none⟩, ⟨(some 11), (.ext 0 (.t 8)), none⟩, ⟨(some 12), (.ext 1 (.t 8)), none⟩, ⟨(some 13), (.ext 2 (.t 8)), none⟩, ⟨(some 5), (.mv (.t 11)), none⟩, ⟨(some 6), (.mv (.t 12)), none⟩, ⟨(some 7), (.mv (.t 13)), none⟩])
 (.seq (.seq (.reg [⟨(some 14), (.mv (.t 7)), none⟩, ⟨(some 15), (.bin .neq (.t 14) (.c (.int .i64 0))), none⟩])
 (.cond (.t 15) (.seq (.reg [⟨(some 16), (.mv (.t 7)), none⟩, ⟨(some 2), (.mv (.c (.int .i64 0))), none⟩, ⟨(some 3), (.mv (.c (.int .i64 0))), none⟩, ⟨(some 4), (.mv (.t 16)), none⟩])
 .ret)
 .skip))
 (.seq (.seq (.reg [⟨(some 17), (.mv (.t 5)), none⟩, ⟨(some 18), (.bin .gtr (.t 17) (.c (.int .u64 4294967295))), none⟩])
 (.cond (.t 18) (.seq (.reg [⟨(some 2), (.mv (.c (.int .i64 0))), none⟩, ⟨(some 3), (.mv (.c (.int .i64 0))), none⟩, ⟨(some 4), (.mv (.c (.int .i64 5))), none⟩])
 .ret)
 .skip))
 (.seq (.reg [⟨(some 19), (.mv (.t 5)), none⟩, ⟨(some 20), (.conv .i64 (.t 19)), none⟩, ⟨(some 21), (.mv (.t 6)), none⟩, ⟨(some 2), (.mv (.t 20)), none⟩, ⟨(some 3), (.mv (.t 21)), none⟩, ⟨(some 4), (.mv (.c (.int .i64 0))), none⟩])
 .ret)))))⟩
theorem ok13 : FOk alT Try.prog 0 13 ir13 := ⟨_, Try.func13, by kernel_rfl, by kernel_rfl⟩
-- 14 hatchway/meter.New
def ir14 : AFn := ⟨7, [.t 2],
 (.seq (.reg [⟨(some 2), (.mv (.c (.pointer none))), none⟩])
 (.seq (.reg [⟨(some 3), (.mv (.t 0)), none⟩, ⟨(some 4), (.mm true (.t 3) [(.c (.int .i64 0))]), none⟩, ⟨(some 5), (.build [(.int .i64 0), (.int .i64 0), (.int .i64 0), (.int .i64 0)] [(0, 1, (.t 4))]), none⟩, ⟨(some 6), (.box 86 (.t 5)), none⟩, ⟨(some 2), (.mv (.t 6)), none⟩])
 .ret))⟩
theorem ok14 : FOk alT Try.prog 0 14 ir14 := ⟨_, Try.func14, by kernel_rfl, by kernel_rfl⟩
-- 15 hatchway/snap.Unpack
def lp15_0 : ACode := (.seq (.seq (.reg [⟨(some 43), (.mv (.t 12)), none⟩, ⟨(some 44), (.nilchk (.t 43)), none⟩, ⟨(some 45), (.fa 0 (.t 44)), none⟩, ⟨(some 46), (.ld (.t 45)), none⟩, ⟨(some 47), (.call (.c (.func (.func 57) #[] #[])) [(.t 46)]), none⟩, ⟨(some 48), (.bin .gtr (.t 47) (.c (.int .i64 0))), none⟩, ⟨(some 49), (.mv (.t 48)), none⟩, ⟨(some 50), (.mv (.t 12)), (some (49, true))⟩, ⟨(some 51), (.nilchk (.t 50)), (some (49, true))⟩, ⟨(some 52), (.fa 0 (.t 51)), (some (49, true))⟩, ⟨(some 53), (.ld (.t 52)), (some (49, true))⟩, ⟨(some 54), (.call (.c (.func (.func 58) #[] #[])) [(.t 53)]), (some (49, true))⟩, ⟨(some 55), (.bin .eql (.t 54) (.c (.int .i64 0))), (some (49, true))⟩, ⟨(some 56), (.pick (.t 49) (.t 55) (.c (.bool false))), none⟩])
 (.cond (.t 56) .skip
 (.exit 1)))
 (.block 2 (.reg [⟨(some 57), (.mv (.t 12)), none⟩, ⟨(some 58), (.call (.c (.func (.func 59) #[] #[])) [(.t 57)]), none⟩])))
def ir15 : AFn := ⟨84, [.t 6, .t 7],
 (.seq (.reg [⟨(some 6), (.mv (.c (.string ⟨#[]⟩))), none⟩, ⟨(some 7), (.mv (.c (.int .i64 0))), none⟩])
 (.seq (.reg [⟨(some 15), (.mv (.t 0)), none⟩, ⟨(some 16), (.call (.c (.func (.func 54) #[] #[])) [(.t 15)]), none⟩, ⟨(some 14), (.mv (.t 16)), none⟩, ⟨(some 17), (.ext 0 (.t 14)), none⟩, ⟨(some 18), (.ext 1 (.t 14)), none⟩, ⟨(some 19), (.ext 2 (.t 14)), none⟩, ⟨(some 8), (.mv (.t 17)), none⟩, ⟨(some 9), (.mv (.t 18)), none⟩, ⟨(some 10), (.mv (.t 19)), none⟩])
 (.seq (.block 0 (.seq (.reg [⟨(some 21), (.mv (.t 10)), none⟩, ⟨(some 22), (.bin .neq (.t 21) (.c (.int .i64 0))), none⟩, ⟨(some 20), (.mv (.t 22)), none⟩])
 (.cond (.t 20) (.seq (.reg [⟨(some 23), (.mv (.t 10)), none⟩, ⟨(some 6), (.mv (.c (.string ⟨#[]⟩))), none⟩, ⟨(some 7), (.mv (.t 23)), none⟩])
 .ret)
 (.seq (.reg [⟨(some 25), (.mv (.t 8)), none⟩, ⟨(some 26), (.mv (.t 1)), none⟩, ⟨(some 27), (.bin .gtr (.t 25) (.t 26)), none⟩, ⟨(some 24), (.mv (.t 27)), none⟩])
 (.cond (.t 24) (.seq (.reg [⟨(some 6), (.mv (.c (.string ⟨#[]⟩))), none⟩, ⟨(some 7), (.mv (.c (.int .i64 5))), none⟩])
 .ret)
 .skip)))))
 (.seq (.seq (.reg [⟨(some 28), (.mv (.t 2)), none⟩, ⟨(some 29), (.nileq 0 true (.t 28) (.c (.pointer none))), none⟩])
 (.cond (.t 29) (.seq (.reg [⟨(some 30), (.mv (.t 2)), none⟩, ⟨(some 31), (.mv (.t 8)), none⟩, ⟨(some 32), (.call (.c (.func (.func 55) #[] #[])) [(.t 30), (.t 31)]), none⟩, ⟨(some 11), (.mv (.t 32)), none⟩])
 (.seq (.reg [⟨(some 33), (.mv (.t 11)), none⟩, ⟨(some 34), (.bin .neq (.t 33) (.c (.int .i64 0))), none⟩])
 (.cond (.t 34) (.seq (.reg [⟨(some 35), (.mv (.t 11)), none⟩, ⟨(some 6), (.mv (.c (.string ⟨#[]⟩))), none⟩, ⟨(some 7), (.mv (.t 35)), none⟩])
 .ret)
 .skip)))
 .skip))
 (.seq (.reg [⟨(some 36), (.mv (.t 0)), none⟩, ⟨(some 37), (.mv (.t 9)), none⟩, ⟨(some 38), (.cut (.t 36) (some (.t 37)) none), none⟩, ⟨(some 39), (.call (.c (.func (.func 56) #[] #[])) [(.t 38)]), none⟩, ⟨(some 40), (.mv (.t 8)), none⟩, ⟨(some 41), (.build [(.pointer none), (.slice none 0 0), (.int .i64 0)] [(0, 1, (.t 39)), (2, 1, (.t 40))]), none⟩, ⟨(some 42), (.box 92 (.t 41)), none⟩, ⟨(some 12), (.mv (.t 42)), none⟩])
 (.seq (.block 1 (.loop lp15_0))
 (.seq (.seq (.reg [⟨(some 59), (.mv (.t 12)), none⟩, ⟨(some 60), (.nilchk (.t 59)), none⟩, ⟨(some 61), (.fa 1 (.t 60)), none⟩, ⟨(some 62), (.ld (.t 61)), none⟩, ⟨(some 63), (.len 1 (.t 62)), none⟩, ⟨(some 64), (.mv (.t 8)), none⟩, ⟨(some 65), (.bin .lss (.t 63) (.t 64)), none⟩])
 (.cond (.t 65) (.reg [⟨(some 66), (.mv (.t 12)), none⟩, ⟨(some 67), (.nilchk (.t 66)), none⟩, ⟨(some 68), (.fa 0 (.t 67)), none⟩, ⟨(some 69), (.ld (.t 68)), none⟩, ⟨(some 70), (.call (.c (.func (.func 60) #[] #[])) [(.t 69), (.c (.int .i64 2))]), none⟩])
 .skip))
 (.seq (.seq (.reg [⟨(some 71), (.mv (.t 12)), none⟩, ⟨(some 72), (.nilchk (.t 71)), none⟩, ⟨(some 73), (.fa 0 (.t 72)), none⟩, ⟨(some 74), (.ld (.t 73)), none⟩, ⟨(some 75), (.call (.c (.func (.func 58) #[] #[])) [(.t 74)]), none⟩, ⟨(some 13), (.mv (.t 75)), none⟩])
 (.seq (.reg [⟨(some 76), (.mv (.t 13)), none⟩, ⟨(some 77), (.bin .neq (.t 76) (.c (.int .i64 0))), none⟩])
 (.cond (.t 77) (.seq (.reg [⟨(some 78), (.mv (.t 13)), none⟩, ⟨(some 6), (.mv (.c (.string ⟨#[]⟩))), none⟩, ⟨(some 7), (.mv (.t 78)), none⟩])
 .ret)
 .skip)))
 (.seq (.reg [⟨(some 79), (.mv (.t 12)), none⟩, ⟨(some 80), (.nilchk (.t 79)), none⟩, ⟨(some 81), (.fa 1 (.t 80)), none⟩, ⟨(some 82), (.ld (.t 81)), none⟩, ⟨(some 83), (.b2s (.t 82)), none⟩, ⟨(some 6), (.mv (.t 83)), none⟩, ⟨(some 7), (.mv (.c (.int .i64 0))), none⟩])
 .ret)))))))))⟩
theorem ok15 : FOk alT Try.prog 0 15 ir15 := ⟨_, Try.func15, by kernel_rfl, by kernel_rfl⟩
-- 16 (*hatchway/meter.Meter).Used
def ir16 : AFn := ⟨9, [.t 2],
 (.seq (.reg [⟨(some 2), (.mv (.c (.int .i64 0))), none⟩])
 (.seq (.seq (.reg [⟨(some 3), (.mv (.t 0)), none⟩, ⟨(some 4), (.nileq 0 false (.t 3) (.c (.pointer none))), none⟩])
 (.cond (.t 4) (.seq (.reg [⟨(some 2), (.mv (.c (.int .i64 0))), none⟩])
 .ret)
 .skip))
 (.seq (.reg [⟨(some 5), (.mv (.t 0)), none⟩, ⟨(some 6), (.nilchk (.t 5)), none⟩, ⟨(some 7), (.fa 1 (.t 6)), none⟩, ⟨(some 8), (.ld (.t 7)), none⟩, ⟨(some 2), (.mv (.t 8)), none⟩])
 .ret)))⟩
theorem ok16 : FOk alT Try.prog 0 16 ir16 := ⟨_, Try.func16, by kernel_rfl, by kernel_rfl⟩
-- 17 (*hatchway/meter.Meter).Taken
def ir17 : AFn := ⟨9, [.t 2],
 (.seq (.reg [⟨(some 2), (.mv (.c (.int .i64 0))), none⟩])
 (.seq (.seq (.reg [⟨(some 3), (.mv (.t 0)), none⟩, ⟨(some 4), (.nileq 0 false (.t 3) (.c (.pointer none))), none⟩])
 (.cond (.t 4) (.seq (.reg [⟨(some 2), (.mv (.c (.int .i64 0))), none⟩])
 .ret)
 .skip))
 (.seq (.reg [⟨(some 5), (.mv (.t 0)), none⟩, ⟨(some 6), (.nilchk (.t 5)), none⟩, ⟨(some 7), (.fa 2 (.t 6)), none⟩, ⟨(some 8), (.ld (.t 7)), none⟩, ⟨(some 2), (.mv (.t 8)), none⟩])
 .ret)))⟩
theorem ok17 : FOk alT Try.prog 0 17 ir17 := ⟨_, Try.func17, by kernel_rfl, by kernel_rfl⟩
-- 18 hatchway/hatchwayref11.Unpack
def ir18 : AFn := ⟨28, [.t 4, .t 5],
 (.seq (.reg [⟨(some 4), (.mv (.c (.string ⟨#[]⟩))), none⟩, ⟨(some 5), (.mv (.c (.int .i64 0))), none⟩])
 (.seq (.reg [⟨(some 10), (.mv (.t 0)), none⟩, ⟨(some 11), (.call (.c (.func (.func 13) #[] #[])) [(.t 10)]), none⟩, ⟨(some 9), (.mv (.t 11)), none⟩, ⟨(some 12), (.ext 0 (.t 9)), none⟩, ⟨(some 13), (.ext 1 (.t 9)), none⟩, ⟨(some 14), (.ext 2 (.t 9)), none⟩, ⟨(some 6), (.mv (.t 12)), none⟩, ⟨(some 7), (.mv (.t 13)), none⟩, ⟨(some 8), (.mv (.t 14)), none⟩])
 (.seq (.seq (.reg [⟨(some 15), (.mv (.t 8)), none⟩, ⟨(some 16), (.bin .neq (.t 15) (.c (.int .i64 0))), none⟩])
 (.cond (.t 16) (.seq (.reg [⟨(some 17), (.mv (.t 8)), none⟩, ⟨(some 4), (.mv (.c (.string ⟨#[]⟩))), none⟩, ⟨(some 5), (.mv (.t 17)), none⟩])
 .ret)
 .skip))
 (.seq (.seq (.reg [⟨(some 18), (.mv (.t 6)), none⟩, ⟨(some 19), (.mv (.t 1)), none⟩, ⟨(some 20), (.bin .gtr (.t 18) (.t 19)), none⟩])
 (.cond (.t 20) (.seq (.reg [⟨(some 4), (.mv (.c (.string ⟨#[]⟩))), none⟩, ⟨(some 5), (.mv (.c (.int .i64 5))), none⟩])
 .ret)
 .skip))
 (.seq (.reg [⟨(some 21), (.mv (.t 0)), none⟩, ⟨(some 22), (.mv (.t 7)), none⟩, ⟨(some 23), (.cut (.t 21) (some (.t 22)) none), none⟩, ⟨(some 24), (.mv (.t 6)), none⟩, ⟨(some 25), (.call (.c (.func (.func 61) #[] #[])) [(.t 23), (.t 24)]), none⟩, ⟨(some 26), (.ext 0 (.t 25)), none⟩, ⟨(some 27), (.ext 1 (.t 25)), none⟩, ⟨(some 4), (.mv (.t 26)), none⟩, ⟨(some 5), (.mv (.t 27)), none⟩])
 .ret)))))⟩
theorem ok18 : FOk alT Try.prog 0 18 ir18 := ⟨_, Try.func18, by kernel_rfl, by kernel_rfl⟩
-- 53 hatchway/hatchwayref03.Next
def lp53_0 : ACode := (.seq (.seq (.reg [⟨(some 9), (.mv (.t 7)), none⟩, ⟨(some 10), (.mv (.t 0)), none⟩, ⟨(some 11), (.len 0 (.t 10)), none⟩, ⟨(some 12), (.bin .lss (.t 9) (.t 11)), none⟩])
 (.cond (.t 12) .skip
 (.exit 0)))
 (.seq (.block 1 (.seq (.reg [⟨(some 15), (.mv (.t 0)), none⟩, ⟨(some 16), (.mv (.t 7)), none⟩, ⟨(some 17), (.ixs (.t 15) (.t 16)), none⟩, ⟨(some 18), (.bin .rem (.t 17) (.c (.int .u8 128))), none⟩, ⟨(some 19), (.conv .u64 (.t 18)), none⟩, ⟨(some 8), (.mv (.t 19)), none⟩])
 (.seq (.seq (.reg [⟨(some 20), (.mv (.t 7)), none⟩, ⟨(some 21), (.bin .eql (.t 20) (.c (.int .i64 9))), none⟩, ⟨(some 22), (.mv (.t 21)), none⟩, ⟨(some 23), (.mv (.t 0)), (some (22, true))⟩, ⟨(some 24), (.mv (.t 7)), (some (22, true))⟩, ⟨(some 25), (.ixs (.t 23) (.t 24)), (some (22, true))⟩, ⟨(some 26), (.bin .gtr (.t 25) (.c (.int .u8 1))), (some (22, true))⟩, ⟨(some 27), (.pick (.t 22) (.t 26) (.c (.bool false))), none⟩, ⟨(some 28), (.mv (.t 27)), none⟩, ⟨(some 29), (.mv (.t 7)), (some (28, false))⟩, ⟨(some 30), (.bin .gtr (.t 29) (.c (.int .i64 0))), (some (28, false))⟩, ⟨(some 31), (.mv (.t 30)), (some (28, false))⟩, ⟨(some 32), (.mv (.t 0)), (some (31, true))⟩, ⟨(some 33), (.mv (.t 7)), (some (31, true))⟩, ⟨(some 34), (.ixs (.t 32) (.t 33)), (some (31, true))⟩, ⟨(some 35), (.bin .eql (.t 34) (.c (.int .u8 0))), (some (31, true))⟩, ⟨(some 36), (.pick (.t 31) (.t 35) (.c (.bool false))), (some (28, false))⟩, ⟨(some 37), (.pick (.t 28) (.c (.bool true)) (.t 36)), none⟩])
 (.cond (.t 37) (.seq (.reg [⟨(some 2), (.mv (.c (.int .u64 0))), none⟩, ⟨(some 3), (.mv (.c (.int .i64 0))), none⟩, ⟨(some 4), (.mv (.c (.int .i64 3))), none⟩])
 .ret)
 .skip))
 (.seq (.reg [⟨(some 38), (.mv (.t 5)), none⟩, ⟨(some 39), (.mv (.t 8)), none⟩, ⟨(some 40), (.mv (.t 6)), none⟩, ⟨(some 41), (.bin .mul (.t 39) (.t 40)), none⟩, ⟨(some 42), (.bin .add (.t 38) (.t 41)), none⟩, ⟨(some 5), (.mv (.t 42)), none⟩])
 (.seq (.seq (.reg [⟨(some 43), (.mv (.t 0)), none⟩, ⟨(some 44), (.mv (.t 7)), none⟩, ⟨(some 45), (.ixs (.t 43) (.t 44)), none⟩, ⟨(some 46), (.bin .lss (.t 45) (.c (.int .u8 128))), none⟩])
 (.cond (.t 46) (.seq (.reg [⟨(some 47), (.mv (.t 5)), none⟩, ⟨(some 48), (.mv (.t 7)), none⟩, ⟨(some 49), (.bin .add (.t 48) (.c (.int .i64 1))), none⟩, ⟨(some 2), (.mv (.t 47)), none⟩, ⟨(some 3), (.mv (.t 49)), none⟩, ⟨(some 4), (.mv (.c (.int .i64 0))), none⟩])
 .ret)
 .skip))
 (.reg [⟨(some 50), (.mv (.t 6)), none⟩, ⟨(some 51), (.bin .mul (.t 50) (.c (.int .u64 128))), none⟩, ⟨(some 6), (.mv (.t 51)), none⟩]))))))
 (.reg [⟨(some 13), (.mv (.t 7)), none⟩, ⟨(some 14), (.bin .add (.t 13) (.c (.int .i64 1))), none⟩, ⟨(some 7), (.mv (.t 14)), none⟩])))
def ir53 : AFn := ⟨52, [.t 2, .t 3, .t 4],
 (.seq (.reg [⟨(some 2), (.mv (.c (.int .u64 0))), none⟩, ⟨(some 3), (.mv (.c (.int .i64 0))), none⟩, ⟨(some 4), (.mv (.c (.int .i64 0))), none⟩])
 (.seq (.reg [⟨(some 5), (.mv (.c (.int .u64 0))), none⟩, ⟨(some 6), (.mv (.c (.int .u64 0))), none⟩])
 (.seq (.reg [⟨(some 6), (.mv (.c (.int .u64 1))), none⟩])
 (.seq (.seq (.reg [⟨(some 7), (.mv (.c (.int .i64 0))), none⟩])
 (.block 0 (.loop lp53_0)))
 (.seq (.reg [⟨(some 2), (.mv (.c (.int .u64 0))), none⟩, ⟨(some 3), (.mv (.c (.int .i64 0))), none⟩, ⟨(some 4), (.mv (.c (.int .i64 2))), none⟩])
 .ret)))))⟩
theorem ok53 : FOk alT Try.prog 0 53 ir53 := ⟨_, Try.func53, by kernel_rfl, by kernel_rfl⟩
-- 54 hatchway/snap.Size
def ir54 : AFn := ⟨26, [.t 2, .t 3, .t 4],
 (.seq (.reg [⟨(some 2), (.mv (.c (.int .i64 0))), none⟩, ⟨(some 3), (.mv (.c (.int .i64 0))), none⟩, ⟨(some 4), (.mv (.c (.int .i64 0))), none⟩])
 (.seq (.reg [⟨(some 9), (.mv (.t 0)), none⟩, ⟨(some 10), (.call (.c (.func (.func 93) #[] #[])) [(.t 9)]), none⟩, ⟨(some 8), (.mv (.t 10)), none⟩, ⟨(some 11), (.ext 0 (.t 8)), none⟩, ⟨(some 12), (.ext 1 (.t 8)), none⟩, ⟨(some 13), (.ext 2 (.t 8)), none⟩, ⟨(some 5), (.mv (.t 11)), none⟩, ⟨(some 6), (.mv (.t 12)), none⟩, ⟨(some 7), (.mv (.t 13)), none⟩])
 (.seq (.seq (.reg [⟨(some 14), (.mv (.t 7)), none⟩, ⟨(some 15), (.bin .eql (.t 14) (.c (.int .i64 0))), none⟩, ⟨(some 16), (.mv (.t 15)), none⟩, ⟨(some 17), (.mv (.t 5)), (some (16, true))⟩, ⟨(some 18), (.bin .gtr (.t 17) (.c (.int .u64 4294967295))), (some (16, true))⟩, ⟨(some 19), (.pick (.t 16) (.t 18) (.c (.bool false))), none⟩])
 (.cond (.t 19) (.reg [⟨(some 7), (.mv (.c (.int .i64 5))), none⟩])
 .skip))
 (.seq (.seq (.reg [⟨(some 20), (.mv (.t 7)), none⟩, ⟨(some 21), (.bin .neq (.t 20) (.c (.int .i64 0))), none⟩])
 (.cond (.t 21) (.seq (.reg [⟨(some 22), (.mv (.t 7)), none⟩, ⟨(some 2), (.mv (.c (.int .i64 0))), none⟩, ⟨(some 3), (.mv (.c (.int .i64 0))), none⟩, ⟨(some 4), (.mv (.t 22)), none⟩])
 .ret)
 .skip))
 (.seq (.reg [⟨(some 23), (.mv (.t 5)), none⟩, ⟨(some 24), (.conv .i64 (.t 23)), none⟩, ⟨(some 25), (.mv (.t 6)), none⟩, ⟨(some 2), (.mv (.t 24)), none⟩, ⟨(some 3), (.mv (.t 25)), none⟩, ⟨(some 4), (.mv (.c (.int .i64 0))), none⟩])
 .ret)))))⟩
theorem ok54 : FOk alT Try.prog 0 54 ir54 := ⟨_, Try.func54, by kernel_rfl, by kernel_rfl⟩
-- 55 (*hatchway/meter.Meter).Take
def ir55 : AFn := ⟨12, [.t 4],
 (.seq (.reg [⟨(some 2), (.box 26 (.t 0)), none⟩, ⟨(some 3), (.box 3 (.t 1)), none⟩, ⟨(some 4), (.mv (.c (.int .i64 0))), none⟩])
 (.seq (.reg [⟨(some 6), (.mkf (.func 94) [] [(.t 3), (.t 2)]), none⟩, ⟨(some 5), (.mv (.t 6)), none⟩])
 (.seq (.reg [⟨(some 7), (.ld (.t 2)), none⟩, ⟨(some 8), (.ld (.t 3)), none⟩, ⟨(some 9), (.mv (.t 5)), none⟩, ⟨(some 10), (.mkf (.func 96) [] [(.t 2), (.t 3)]), none⟩, ⟨(some 11), (.call (.c (.func (.func 95) #[] #[])) [(.t 7), (.t 8), (.t 9), (.t 10)]), none⟩, ⟨(some 4), (.mv (.t 11)), none⟩])
 .ret)))⟩
theorem ok55 : FOk alT Try.prog 0 55 ir55 := ⟨_, Try.func55, by kernel_rfl, by kernel_rfl⟩
-- 56 hatchway/cursor.Read
def ir56 : AFn := ⟨6, [.t 2],
 (.seq (.reg [⟨(some 2), (.mv (.c (.pointer none))), none⟩])
 (.seq (.reg [⟨(some 3), (.mv (.t 0)), none⟩, ⟨(some 4), (.build [(.string ⟨#[]⟩), (.int .i64 0), (.int .i64 0)] [(0, 1, (.t 3))]), none⟩, ⟨(some 5), (.box 141 (.t 4)), none⟩, ⟨(some 2), (.mv (.t 5)), none⟩])
 .ret))⟩
theorem ok56 : FOk alT Try.prog 0 56 ir56 := ⟨_, Try.func56, by kernel_rfl, by kernel_rfl⟩
-- 57 (*hatchway/cursor.Reader).Left
def ir57 : AFn := ⟨15, [.t 2],
 (.seq (.reg [⟨(some 2), (.mv (.c (.int .i64 0))), none⟩])
 (.seq (.seq (.reg [⟨(some 3), (.mv (.t 0)), none⟩, ⟨(some 4), (.nileq 0 false (.t 3) (.c (.pointer none))), none⟩])
 (.cond (.t 4) (.seq (.reg [⟨(some 2), (.mv (.c (.int .i64 0))), none⟩])
 .ret)
 .skip))
 (.seq (.draw [⟨(some 5), (.mv (.t 0)), none⟩, ⟨(some 6), (.nilchk (.t 5)), none⟩, ⟨(some 7), (.fa 0 (.t 6)), none⟩, ⟨(some 8), (.ld (.t 7)), none⟩, ⟨(some 9), (.len 0 (.t 8)), none⟩, ⟨(some 10), (.mv (.t 0)), none⟩, ⟨(some 11), (.nilchk (.t 10)), none⟩, ⟨(some 12), (.fa 1 (.t 11)), none⟩, ⟨(some 13), (.ld (.t 12)), none⟩, ⟨(some 14), (.bin .sub (.t 9) (.t 13)), none⟩, ⟨(some 2), (.mv (.t 14)), none⟩] [])
 .ret)))⟩
theorem ok57 : FOk alT Try.prog 0 57 ir57 := ⟨_, Try.func57, by kernel_rfl, by kernel_rfl⟩
-- 58 (*hatchway/cursor.Reader).Fault
def ir58 : AFn := ⟨9, [.t 2],
 (.seq (.reg [⟨(some 2), (.mv (.c (.int .i64 0))), none⟩])
 (.seq (.seq (.reg [⟨(some 3), (.mv (.t 0)), none⟩, ⟨(some 4), (.nileq 0 false (.t 3) (.c (.pointer none))), none⟩])
 (.cond (.t 4) (.seq (.reg [⟨(some 2), (.mv (.c (.int .i64 1))), none⟩])
 .ret)
 .skip))
 (.seq (.reg [⟨(some 5), (.mv (.t 0)), none⟩, ⟨(some 6), (.nilchk (.t 5)), none⟩, ⟨(some 7), (.fa 2 (.t 6)), none⟩, ⟨(some 8), (.ld (.t 7)), none⟩, ⟨(some 2), (.mv (.t 8)), none⟩])
 .ret)))⟩
theorem ok58 : FOk alT Try.prog 0 58 ir58 := ⟨_, Try.func58, by kernel_rfl, by kernel_rfl⟩
-- 59 (*hatchway/snap.unpacker).element
def ir59 : AFn := ⟨43, [],
 (.seq (.reg [⟨(some 1), (.box 88 (.t 0)), none⟩])
 (.seq (.reg [⟨(some 5), (.ld (.t 1)), none⟩, ⟨(some 6), (.nilchk (.t 5)), none⟩, ⟨(some 7), (.fa 0 (.t 6)), none⟩, ⟨(some 8), (.ld (.t 7)), none⟩, ⟨(some 9), (.call (.c (.func (.func 97) #[] #[])) [(.t 8)]), none⟩, ⟨(some 10), (.conv .i64 (.t 9)), none⟩, ⟨(some 2), (.mv (.t 10)), none⟩])
 (.seq (.reg [⟨(some 11), (.mv (.t 2)), none⟩, ⟨(some 12), (.bin .shr (.t 11) (.c (.int .u64 2))), none⟩, ⟨(some 3), (.new 3 [(.int .i64 0)]), none⟩, ⟨none, (.st 1 (.t 3) (.t 12)), none⟩])
 (.seq (.reg [⟨(some 13), (.mkf (.func 98) [] [(.t 1), (.t 3)]), none⟩, ⟨(some 4), (.mv (.t 13)), none⟩])
 (.seq (.reg [⟨(some 14), (.mv (.t 2)), none⟩, ⟨(some 15), (.bin .and (.t 14) (.c (.int .i64 3))), none⟩])
 (.block 0 (.seq (.reg [⟨(some 19), (.bin .eql (.t 15) (.c (.int .i64 0))), none⟩, ⟨(some 18), (.mv (.t 19)), none⟩])
 (.cond (.t 18) (.reg [⟨(some 20), (.ld (.t 1)), none⟩, ⟨(some 21), (.ld (.t 3)), none⟩, ⟨(some 22), (.call (.c (.func (.func 101) #[] #[])) [(.t 20), (.t 21)]), none⟩])
 (.seq (.reg [⟨(some 24), (.bin .eql (.t 15) (.c (.int .i64 1))), none⟩, ⟨(some 23), (.mv (.t 24)), none⟩])
 (.cond (.t 23) (.drawD [⟨(some 25), (.ld (.t 1)), none⟩, ⟨(some 26), (.ld (.t 3)), none⟩, ⟨(some 27), (.bin .rem (.t 26) (.c (.int .i64 8))), none⟩, ⟨(some 28), (.bin .add (.c (.int .i64 4)) (.t 27)), none⟩, ⟨(some 29), (.ld (.t 3)), none⟩, ⟨(some 30), (.bin .quo (.t 29) (.c (.int .i64 8))), none⟩, ⟨(some 31), (.bin .shl (.t 30) (.c (.int .u64 8))), none⟩, ⟨(some 32), (.ld (.t 1)), none⟩, ⟨(some 33), (.nilchk (.t 32)), none⟩, ⟨(some 34), (.fa 0 (.t 33)), none⟩, ⟨(some 35), (.ld (.t 34)), none⟩] [(⟨(some 36), (.call (.c (.func (.func 100) #[] #[])) [(.t 35), (.c (.int .i64 1))]), none⟩, [⟨(some 25), (.ld (.t 1)), none⟩, ⟨(some 26), (.ld (.t 3)), none⟩, ⟨(some 29), (.ld (.t 3)), none⟩]), (⟨(some 37), (.bin .or (.t 31) (.t 36)), none⟩, []), (⟨(some 38), (.call (.c (.func (.func 99) #[] #[])) [(.t 25), (.t 28), (.t 37)]), none⟩, [])])
 (.seq (.reg [⟨(some 40), (.bin .eql (.t 15) (.c (.int .i64 2))), none⟩, ⟨(some 39), (.mv (.t 40)), none⟩])
 (.cond (.t 39) (.reg [⟨(some 41), (.mv (.t 4)), none⟩, ⟨(some 42), (.call (.t 41) [(.c (.int .i64 2))]), none⟩])
 (.reg [⟨(some 16), (.mv (.t 4)), none⟩, ⟨(some 17), (.call (.t 16) [(.c (.int .i64 4))]), none⟩])))))))))))))⟩
theorem ok59 : FOk alT Try.prog 0 59 ir59 := ⟨_, Try.func59, by kernel_rfl, by kernel_rfl⟩
-- 60 (*hatchway/cursor.Reader).Fail
def ir60 : AFn := ⟨11, [],
 (.seq (.reg [⟨(some 4), (.mv (.t 0)), none⟩, ⟨(some 5), (.call (.c (.func (.func 58) #[] #[])) [(.t 4)]), none⟩, ⟨(some 6), (.bin .eql (.t 5) (.c (.int .i64 0))), none⟩])
 (.cond (.t 6) (.reg [⟨(some 7), (.mv (.t 0)), none⟩, ⟨(some 8), (.mv (.t 1)), none⟩, ⟨(some 9), (.nilchk (.t 7)), none⟩, ⟨(some 10), (.fa 2 (.t 9)), none⟩, ⟨none, (.st 1 (.t 10) (.t 8)), none⟩])
 .skip))⟩
theorem ok60 : FOk alT Try.prog 0 60 ir60 := ⟨_, Try.func60, by kernel_rfl, by kernel_rfl⟩
-- 61 hatchway/hatchwayref11.Elements
def lp61_0 : ACode := (.seq (.seq (.reg [⟨(some 95), (.mv (.t 14)), none⟩, ⟨(some 96), (.mv (.t 12)), none⟩, ⟨(some 97), (.bin .lss (.t 95) (.t 96)), none⟩])
 (.cond (.t 97) .skip
 (.exit 2)))
 (.seq (.block 3 (.reg [⟨(some 100), (.mv (.t 6)), none⟩, ⟨(some 101), (.mv (.t 6)), none⟩, ⟨(some 102), (.mv (.t 6)), none⟩, ⟨(some 103), (.len 1 (.t 102)), none⟩, ⟨(some 104), (.mv (.t 13)), none⟩, ⟨(some 105), (.bin .sub (.t 103) (.t 104)), none⟩, ⟨(some 106), (.ia 1 (.t 101) (.t 105)), none⟩, ⟨(some 107), (.ld (.t 106)), none⟩, ⟨(some 108), (.lit 5 [(.int .u8 0)] 1 1 [(0, 1, (.t 107))]), none⟩, ⟨(some 109), (.app 5 1 1 (.t 100) (.t 108)), none⟩, ⟨(some 6), (.mv (.t 109)), none⟩]))
 (.reg [⟨(some 98), (.mv (.t 14)), none⟩, ⟨(some 99), (.bin .add (.t 98) (.c (.int .i64 1))), none⟩, ⟨(some 14), (.mv (.t 99)), none⟩])))
def lp61_1 : ACode := (.seq (.seq (.reg [⟨(some 15), (.mv (.t 0)), none⟩, ⟨(some 16), (.len 0 (.t 15)), none⟩, ⟨(some 17), (.bin .gtr (.t 16) (.c (.int .i64 0))), none⟩])
 (.cond (.t 17) .skip
 (.exit 0)))
 (.block 1 (.seq (.reg [⟨(some 18), (.mv (.t 0)), none⟩, ⟨(some 19), (.ixs (.t 18) (.c (.int .i64 0))), none⟩, ⟨(some 20), (.conv .i64 (.t 19)), none⟩, ⟨(some 7), (.mv (.t 20)), none⟩])
 (.seq (.reg [⟨(some 21), (.mv (.t 7)), none⟩, ⟨(some 22), (.bin .quo (.t 21) (.c (.int .i64 4))), none⟩, ⟨(some 8), (.mv (.t 22)), none⟩])
 (.seq (.reg [⟨(some 23), (.mv (.t 7)), none⟩, ⟨(some 24), (.call (.c (.func (.func 102) #[] #[])) [(.t 23)]), none⟩, ⟨(some 9), (.mv (.t 24)), none⟩])
 (.seq (.seq (.reg [⟨(some 25), (.mv (.t 0)), none⟩, ⟨(some 26), (.len 0 (.t 25)), none⟩, ⟨(some 27), (.mv (.t 9)), none⟩, ⟨(some 28), (.bin .lss (.t 26) (.t 27)), none⟩])
 (.cond (.t 28) (.seq (.reg [⟨(some 4), (.mv (.c (.string ⟨#[]⟩))), none⟩, ⟨(some 5), (.mv (.c (.int .i64 2))), none⟩])
 .ret)
 .skip))
 (.seq (.reg [⟨(some 29), (.mv (.t 0)), none⟩, ⟨(some 30), (.mv (.t 9)), none⟩, ⟨(some 31), (.cut (.t 29) (some (.c (.int .i64 1))) (some (.t 30))), none⟩, ⟨(some 10), (.mv (.t 31)), none⟩])
 (.seq (.reg [⟨(some 32), (.mv (.t 0)), none⟩, ⟨(some 33), (.mv (.t 9)), none⟩, ⟨(some 34), (.cut (.t 32) (some (.t 33)) none), none⟩, ⟨(some 0), (.mv (.t 34)), none⟩])
 (.seq (.seq (.reg [⟨(some 35), (.mv (.t 7)), none⟩, ⟨(some 36), (.bin .rem (.t 35) (.c (.int .i64 4))), none⟩, ⟨(some 37), (.bin .eql (.t 36) (.c (.int .i64 0))), none⟩])
 (.cond (.t 37) (.seq (.reg [⟨(some 38), (.mv (.t 8)), none⟩, ⟨(some 39), (.bin .add (.t 38) (.c (.int .i64 1))), none⟩, ⟨(some 11), (.mv (.t 39)), none⟩])
 (.seq (.seq (.reg [⟨(some 40), (.mv (.t 8)), none⟩, ⟨(some 41), (.bin .geq (.t 40) (.c (.int .i64 60))), none⟩])
 (.cond (.t 41) (.reg [⟨(some 42), (.mv (.t 10)), none⟩, ⟨(some 43), (.call (.c (.func (.func 103) #[] #[])) [(.t 42)]), none⟩, ⟨(some 44), (.bin .add (.t 43) (.c (.int .i64 1))), none⟩, ⟨(some 11), (.mv (.t 44)), none⟩])
 .skip))
 (.seq (.seq (.reg [⟨(some 45), (.mv (.t 11)), none⟩, ⟨(some 46), (.mv (.t 1)), none⟩, ⟨(some 47), (.mv (.t 6)), none⟩, ⟨(some 48), (.len 1 (.t 47)), none⟩, ⟨(some 49), (.bin .sub (.t 46) (.t 48)), none⟩, ⟨(some 50), (.bin .gtr (.t 45) (.t 49)), none⟩])
 (.cond (.t 50) (.seq (.reg [⟨(some 4), (.mv (.c (.string ⟨#[]⟩))), none⟩, ⟨(some 5), (.mv (.c (.int .i64 3))), none⟩])
 .ret)
 .skip))
 (.seq (.seq (.reg [⟨(some 51), (.mv (.t 11)), none⟩, ⟨(some 52), (.mv (.t 0)), none⟩, ⟨(some 53), (.len 0 (.t 52)), none⟩, ⟨(some 54), (.bin .gtr (.t 51) (.t 53)), none⟩])
 (.cond (.t 54) (.seq (.reg [⟨(some 4), (.mv (.c (.string ⟨#[]⟩))), none⟩, ⟨(some 5), (.mv (.c (.int .i64 2))), none⟩])
 .ret)
 .skip))
 (.seq (.reg [⟨(some 55), (.mv (.t 6)), none⟩, ⟨(some 56), (.mv (.t 0)), none⟩, ⟨(some 57), (.mv (.t 11)), none⟩, ⟨(some 58), (.cut (.t 56) none (some (.t 57))), none⟩, ⟨(some 59), (.s2b 5 (.t 58)), none⟩, ⟨(some 60), (.app 5 1 1 (.t 55) (.t 59)), none⟩, ⟨(some 6), (.mv (.t 60)), none⟩])
 (.seq (.reg [⟨(some 61), (.mv (.t 0)), none⟩, ⟨(some 62), (.mv (.t 11)), none⟩, ⟨(some 63), (.cut (.t 61) (some (.t 62)) none), none⟩, ⟨(some 0), (.mv (.t 63)), none⟩])
 (.exit 1)))))))
 .skip))
 (.seq (.reg [⟨(some 64), (.mv (.t 8)), none⟩, ⟨(some 65), (.bin .add (.t 64) (.c (.int .i64 1))), none⟩, ⟨(some 12), (.mv (.t 65)), none⟩])
 (.seq (.reg [⟨(some 66), (.mv (.t 10)), none⟩, ⟨(some 67), (.call (.c (.func (.func 103) #[] #[])) [(.t 66)]), none⟩, ⟨(some 13), (.mv (.t 67)), none⟩])
 (.seq (.seq (.reg [⟨(some 68), (.mv (.t 7)), none⟩, ⟨(some 69), (.bin .rem (.t 68) (.c (.int .i64 4))), none⟩, ⟨(some 70), (.bin .eql (.t 69) (.c (.int .i64 1))), none⟩])
 (.cond (.t 70) (.seq (.reg [⟨(some 71), (.mv (.t 8)), none⟩, ⟨(some 72), (.bin .rem (.t 71) (.c (.int .i64 8))), none⟩, ⟨(some 73), (.bin .add (.c (.int .i64 4)) (.t 72)), none⟩, ⟨(some 12), (.mv (.t 73)), none⟩])
 (.reg [⟨(some 74), (.mv (.t 8)), none⟩, ⟨(some 75), (.bin .quo (.t 74) (.c (.int .i64 8))), none⟩, ⟨(some 76), (.bin .mul (.t 75) (.c (.int .i64 256))), none⟩, ⟨(some 77), (.mv (.t 13)), none⟩, ⟨(some 78), (.bin .add (.t 76) (.t 77)), none⟩, ⟨(some 13), (.mv (.t 78)), none⟩]))
 .skip))
 (.seq (.seq (.reg [⟨(some 79), (.mv (.t 13)), none⟩, ⟨(some 80), (.bin .eql (.t 79) (.c (.int .i64 0))), none⟩, ⟨(some 81), (.mv (.t 80)), none⟩, ⟨(some 82), (.mv (.t 13)), (some (81, false))⟩, ⟨(some 83), (.mv (.t 6)), (some (81, false))⟩, ⟨(some 84), (.len 1 (.t 83)), (some (81, false))⟩, ⟨(some 85), (.bin .gtr (.t 82) (.t 84)), (some (81, false))⟩, ⟨(some 86), (.pick (.t 81) (.c (.bool true)) (.t 85)), none⟩, ⟨(some 87), (.mv (.t 86)), none⟩, ⟨(some 88), (.mv (.t 12)), (some (87, false))⟩, ⟨(some 89), (.mv (.t 1)), (some (87, false))⟩, ⟨(some 90), (.mv (.t 6)), (some (87, false))⟩, ⟨(some 91), (.len 1 (.t 90)), (some (87, false))⟩, ⟨(some 92), (.bin .sub (.t 89) (.t 91)), (some (87, false))⟩, ⟨(some 93), (.bin .gtr (.t 88) (.t 92)), (some (87, false))⟩, ⟨(some 94), (.pick (.t 87) (.c (.bool true)) (.t 93)), none⟩])
 (.cond (.t 94) (.seq (.reg [⟨(some 4), (.mv (.c (.string ⟨#[]⟩))), none⟩, ⟨(some 5), (.mv (.c (.int .i64 3))), none⟩])
 .ret)
 .skip))
 (.seq (.reg [⟨(some 14), (.mv (.c (.int .i64 0))), none⟩])
 (.block 2 (.loop lp61_0))))))))))))))))
def ir61 : AFn := ⟨116, [.t 4, .t 5],
 (.seq (.reg [⟨(some 4), (.mv (.c (.string ⟨#[]⟩))), none⟩, ⟨(some 5), (.mv (.c (.int .i64 0))), none⟩])
 (.seq (.reg [⟨(some 6), (.mv (.c (.slice none 0 0))), none⟩])
 (.seq (.block 0 (.loop lp61_1))
 (.seq (.seq (.reg [⟨(some 110), (.mv (.t 6)), none⟩, ⟨(some 111), (.len 1 (.t 110)), none⟩, ⟨(some 112), (.mv (.t 1)), none⟩, ⟨(some 113), (.bin .lss (.t 111) (.t 112)), none⟩])
 (.cond (.t 113) (.seq (.reg [⟨(some 4), (.mv (.c (.string ⟨#[]⟩))), none⟩, ⟨(some 5), (.mv (.c (.int .i64 2))), none⟩])
 .ret)
 .skip))
 (.seq (.reg [⟨(some 114), (.mv (.t 6)), none⟩, ⟨(some 115), (.b2s (.t 114)), none⟩, ⟨(some 4), (.mv (.t 115)), none⟩, ⟨(some 5), (.mv (.c (.int .i64 0))), none⟩])
 .ret)))))⟩
theorem ok61 : FOk alT Try.prog 0 61 ir61 := ⟨_, Try.func61, by kernel_rfl, by kernel_rfl⟩
-- 93 hatchway/leb.Next
def lp93_0 : ACode := (.seq (.reg [⟨(some 13), (.bin .lss (.t 12) (.t 11)), none⟩])
 (.seq (.cond (.t 13) .skip
 (.exit 0))
 (.seq (.block 1 (.seq (.reg [⟨(some 14), (.mv (.t 12)), none⟩, ⟨(some 15), (.ia 1 (.t 10) (.t 12)), none⟩, ⟨(some 16), (.ld (.t 15)), none⟩, ⟨(some 6), (.mv (.t 14)), none⟩, ⟨(some 7), (.mv (.t 16)), none⟩])
 (.seq (.reg [⟨(some 17), (.mv (.t 7)), none⟩, ⟨(some 18), (.bin .lss (.t 17) (.c (.int .u8 128))), none⟩, ⟨(some 8), (.mv (.t 18)), none⟩])
 (.seq (.seq (.reg [⟨(some 19), (.mv (.t 6)), none⟩, ⟨(some 20), (.bin .eql (.t 19) (.c (.int .i64 9))), none⟩, ⟨(some 21), (.mv (.t 20)), none⟩, ⟨(some 22), (.mv (.t 7)), (some (21, true))⟩, ⟨(some 23), (.bin .gtr (.t 22) (.c (.int .u8 1))), (some (21, true))⟩, ⟨(some 24), (.pick (.t 21) (.t 23) (.c (.bool false))), none⟩, ⟨(some 25), (.mv (.t 24)), none⟩, ⟨(some 26), (.mv (.t 8)), (some (25, false))⟩, ⟨(some 27), (.mv (.t 26)), (some (25, false))⟩, ⟨(some 28), (.mv (.t 7)), (some (27, true))⟩, ⟨(some 29), (.bin .eql (.t 28) (.c (.int .u8 0))), (some (27, true))⟩, ⟨(some 30), (.pick (.t 27) (.t 29) (.c (.bool false))), (some (25, false))⟩, ⟨(some 31), (.mv (.t 30)), (some (25, false))⟩, ⟨(some 32), (.mv (.t 6)), (some (31, true))⟩, ⟨(some 33), (.bin .gtr (.t 32) (.c (.int .i64 0))), (some (31, true))⟩, ⟨(some 34), (.pick (.t 31) (.t 33) (.c (.bool false))), (some (25, false))⟩, ⟨(some 35), (.pick (.t 25) (.c (.bool true)) (.t 34)), none⟩])
 (.cond (.t 35) (.seq (.reg [⟨(some 2), (.mv (.c (.int .u64 0))), none⟩, ⟨(some 3), (.mv (.c (.int .i64 0))), none⟩, ⟨(some 4), (.mv (.c (.int .i64 3))), none⟩])
 .ret)
 .skip))
 (.seq (.reg [⟨(some 36), (.mv (.t 5)), none⟩, ⟨(some 37), (.mv (.t 7)), none⟩, ⟨(some 38), (.bin .rem (.t 37) (.c (.int .u8 128))), none⟩, ⟨(some 39), (.conv .u64 (.t 38)), none⟩, ⟨(some 40), (.mv (.t 6)), none⟩, ⟨(some 41), (.bin .mul (.c (.int .i64 7)) (.t 40)), none⟩, ⟨(some 42), (.bin .shl (.t 39) (.t 41)), none⟩, ⟨(some 43), (.bin .or (.t 36) (.t 42)), none⟩, ⟨(some 5), (.mv (.t 43)), none⟩])
 (.seq (.reg [⟨(some 44), (.mv (.t 8)), none⟩])
 (.cond (.t 44) (.seq (.reg [⟨(some 45), (.mv (.t 5)), none⟩, ⟨(some 46), (.mv (.t 6)), none⟩, ⟨(some 47), (.bin .add (.t 46) (.c (.int .i64 1))), none⟩, ⟨(some 2), (.mv (.t 45)), none⟩, ⟨(some 3), (.mv (.t 47)), none⟩, ⟨(some 4), (.mv (.c (.int .i64 0))), none⟩])
 .ret)
 .skip)))))))
 (.reg [⟨(some 48), (.bin .add (.t 12) (.c (.int .i64 1))), none⟩, ⟨(some 12), (.mv (.t 48)), none⟩]))))
def ir93 : AFn := ⟨49, [.t 2, .t 3, .t 4],
 (.seq (.reg [⟨(some 2), (.mv (.c (.int .u64 0))), none⟩, ⟨(some 3), (.mv (.c (.int .i64 0))), none⟩, ⟨(some 4), (.mv (.c (.int .i64 0))), none⟩])
 (.seq (.reg [⟨(some 5), (.mv (.c (.int .u64 0))), none⟩])
 (.seq (.seq (.reg [⟨(some 9), (.mv (.t 0)), none⟩, ⟨(some 10), (.s2b 5 (.t 9)), none⟩, ⟨(some 11), (.len 1 (.t 10)), none⟩, ⟨(some 12), (.mv (.c (.int .i64 0))), none⟩])
 (.block 0 (.loop lp93_0)))
 (.seq (.reg [⟨(some 2), (.mv (.c (.int .u64 0))), none⟩, ⟨(some 3), (.mv (.c (.int .i64 0))), none⟩, ⟨(some 4), (.mv (.c (.int .i64 2))), none⟩])
 .ret))))⟩
theorem ok93 : FOk alT Try.prog 0 93 ir93 := ⟨_, Try.func93, by kernel_rfl, by kernel_rfl⟩
-- 94 (*hatchway/meter.Meter).Take$1
def ir94 : AFn := ⟨23, [.t 2],
 (.seq (.reg [⟨(some 2), (.mv (.c (.int .i64 0))), none⟩])
 (.seq (.seq (.draw [⟨(some 3), (.ld (.t 0)), none⟩, ⟨(some 4), (.ld (.t 1)), none⟩, ⟨(some 5), (.nilchk (.t 4)), none⟩, ⟨(some 6), (.fa 0 (.t 5)), none⟩, ⟨(some 7), (.ld (.t 6)), none⟩, ⟨(some 8), (.ld (.t 1)), none⟩, ⟨(some 9), (.nilchk (.t 8)), none⟩, ⟨(some 10), (.fa 1 (.t 9)), none⟩, ⟨(some 11), (.ld (.t 10)), none⟩, ⟨(some 12), (.bin .sub (.t 7) (.t 11)), none⟩, ⟨(some 13), (.bin .gtr (.t 3) (.t 12)), none⟩, ⟨(some 14), (.mv (.t 13)), none⟩, ⟨(some 15), (.ld (.t 0)), (some (14, false))⟩, ⟨(some 16), (.ld (.t 1)), (some (14, false))⟩, ⟨(some 17), (.nilchk (.t 16)), (some (14, false))⟩, ⟨(some 18), (.fa 2 (.t 17)), (some (14, false))⟩, ⟨(some 19), (.ld (.t 18)), (some (14, false))⟩, ⟨(some 20), (.bin .sub (.c (.int .i64 9223372036854775807)) (.t 19)), (some (14, false))⟩, ⟨(some 21), (.bin .gtr (.t 15) (.t 20)), (some (14, false))⟩, ⟨(some 22), (.pick (.t 14) (.c (.bool true)) (.t 21)), none⟩] [])
 (.cond (.t 22) (.seq (.reg [⟨(some 2), (.mv (.c (.int .i64 5))), none⟩])
 .ret)
 .skip))
 (.seq (.reg [⟨(some 2), (.mv (.c (.int .i64 0))), none⟩])
 .ret)))⟩
theorem ok94 : FOk alT Try.prog 0 94 ir94 := ⟨_, Try.func94, by kernel_rfl, by kernel_rfl⟩
-- 95 (*hatchway/meter.Meter).when
def ir95 : AFn := ⟨23, [.t 8],
 (.seq (.reg [⟨(some 8), (.mv (.c (.int .i64 0))), none⟩])
 (.seq (.seq (.reg [⟨(some 10), (.mv (.t 0)), none⟩, ⟨(some 11), (.nileq 0 false (.t 10) (.c (.pointer none))), none⟩, ⟨(some 12), (.mv (.t 11)), none⟩, ⟨(some 13), (.mv (.t 1)), (some (12, false))⟩, ⟨(some 14), (.bin .lss (.t 13) (.c (.int .i64 0))), (some (12, false))⟩, ⟨(some 15), (.pick (.t 12) (.c (.bool true)) (.t 14)), none⟩])
 (.cond (.t 15) (.seq (.reg [⟨(some 8), (.mv (.c (.int .i64 1))), none⟩])
 .ret)
 .skip))
 (.seq (.seq (.reg [⟨(some 16), (.mv (.t 2)), none⟩, ⟨(some 17), (.call (.t 16) []), none⟩, ⟨(some 9), (.mv (.t 17)), none⟩])
 (.seq (.reg [⟨(some 18), (.mv (.t 9)), none⟩, ⟨(some 19), (.bin .neq (.t 18) (.c (.int .i64 0))), none⟩])
 (.cond (.t 19) (.seq (.reg [⟨(some 20), (.mv (.t 9)), none⟩, ⟨(some 8), (.mv (.t 20)), none⟩])
 .ret)
 .skip)))
 (.seq (.reg [⟨(some 21), (.mv (.t 3)), none⟩, ⟨(some 22), (.call (.t 21) []), none⟩])
 (.seq (.reg [⟨(some 8), (.mv (.c (.int .i64 0))), none⟩])
 .ret)))))⟩
theorem ok95 : FOk alT Try.prog 0 95 ir95 := ⟨_, Try.func95, by kernel_rfl, by kernel_rfl⟩
-- 96 (*hatchway/meter.Meter).Take$2
def ir96 : AFn := ⟨30, [],
 (.seq (.draw [⟨(some 2), (.ld (.t 0)), none⟩, ⟨(some 3), (.nilchk (.t 2)), none⟩, ⟨(some 4), (.fa 1 (.t 3)), none⟩, ⟨(some 5), (.ld (.t 4)), none⟩, ⟨(some 6), (.ld (.t 1)), none⟩, ⟨(some 7), (.bin .add (.t 5) (.t 6)), none⟩, ⟨(some 8), (.nilchk (.t 2)), none⟩, ⟨(some 9), (.fa 1 (.t 8)), none⟩] [⟨none, (.st 1 (.t 9) (.t 7)), none⟩])
 (.seq (.draw [⟨(some 10), (.ld (.t 0)), none⟩, ⟨(some 11), (.nilchk (.t 10)), none⟩, ⟨(some 12), (.fa 2 (.t 11)), none⟩, ⟨(some 13), (.ld (.t 12)), none⟩, ⟨(some 14), (.ld (.t 1)), none⟩, ⟨(some 15), (.bin .add (.t 13) (.t 14)), none⟩, ⟨(some 16), (.nilchk (.t 10)), none⟩, ⟨(some 17), (.fa 2 (.t 16)), none⟩] [⟨none, (.st 1 (.t 17) (.t 15)), none⟩])
 (.draw [⟨(some 18), (.ld (.t 0)), none⟩, ⟨(some 19), (.ld (.t 0)), none⟩, ⟨(some 20), (.nilchk (.t 19)), none⟩, ⟨(some 21), (.fa 3 (.t 20)), none⟩, ⟨(some 22), (.ld (.t 21)), none⟩, ⟨(some 23), (.ld (.t 0)), none⟩, ⟨(some 24), (.nilchk (.t 23)), none⟩, ⟨(some 25), (.fa 1 (.t 24)), none⟩, ⟨(some 26), (.ld (.t 25)), none⟩, ⟨(some 27), (.mm true (.t 22) [(.t 26)]), none⟩, ⟨(some 28), (.nilchk (.t 18)), none⟩, ⟨(some 29), (.fa 3 (.t 28)), none⟩] [⟨none, (.st 1 (.t 29) (.t 27)), none⟩])))⟩
theorem ok96 : FOk alT Try.prog 0 96 ir96 := ⟨_, Try.func96, by kernel_rfl, by kernel_rfl⟩
-- 97 (*hatchway/cursor.Reader).Byte
def ir97 : AFn := ⟨10, [.t 2],
 (.seq (.reg [⟨(some 2), (.mv (.c (.int .u8 0))), none⟩])
 (.seq (.reg [⟨(some 4), (.mv (.t 0)), none⟩, ⟨(some 5), (.call (.c (.func (.func 114) #[] #[])) [(.t 4), (.c (.int .i64 1))]), none⟩, ⟨(some 3), (.mv (.t 5)), none⟩])
 (.seq (.seq (.reg [⟨(some 6), (.mv (.t 3)), none⟩, ⟨(some 7), (.bin .eql (.t 6) (.c (.string ⟨#[]⟩))), none⟩])
 (.cond (.t 7) (.seq (.reg [⟨(some 2), (.mv (.c (.int .u8 0))), none⟩])
 .ret)
 .skip))
 (.seq (.reg [⟨(some 8), (.mv (.t 3)), none⟩, ⟨(some 9), (.ixs (.t 8) (.c (.int .i64 0))), none⟩, ⟨(some 2), (.mv (.t 9)), none⟩])
 .ret))))⟩
theorem ok97 : FOk alT Try.prog 0 97 ir97 := ⟨_, Try.func97, by kernel_rfl, by kernel_rfl⟩
-- 98 (*hatchway/snap.unpacker).element$1
def ir98 : AFn := ⟨14, [],
 (.drawD [⟨(some 4), (.ld (.t 1)), none⟩, ⟨(some 5), (.ld (.t 2)), none⟩, ⟨(some 6), (.bin .add (.t 5) (.c (.int .i64 1))), none⟩, ⟨(some 7), (.ld (.t 1)), none⟩, ⟨(some 8), (.nilchk (.t 7)), none⟩, ⟨(some 9), (.fa 0 (.t 8)), none⟩, ⟨(some 10), (.ld (.t 9)), none⟩, ⟨(some 11), (.mv (.t 0)), none⟩] [(⟨(some 12), (.call (.c (.func (.func 100) #[] #[])) [(.t 10), (.t 11)]), none⟩, [⟨(some 4), (.ld (.t 1)), none⟩, ⟨(some 5), (.ld (.t 2)), none⟩]), (⟨(some 13), (.call (.c (.func (.func 99) #[] #[])) [(.t 4), (.t 6), (.t 12)]), none⟩, [])])⟩
theorem ok98 : FOk alT Try.prog 0 98 ir98 := ⟨_, Try.func98, by kernel_rfl, by kernel_rfl⟩
-- 99 (*hatchway/snap.unpacker).copied
def lp99_0 : ACode := (.seq (.reg [⟨(some 33), (.bin .lss (.t 32) (.t 31)), none⟩])
 (.seq (.cond (.t 33) .skip
 (.exit 0))
 (.seq (.block 1 (.draw [⟨(some 34), (.mv (.t 0)), none⟩, ⟨(some 35), (.mv (.t 0)), none⟩, ⟨(some 36), (.nilchk (.t 35)), none⟩, ⟨(some 37), (.fa 1 (.t 36)), none⟩, ⟨(some 38), (.ld (.t 37)), none⟩, ⟨(some 39), (.mv (.t 0)), none⟩, ⟨(some 40), (.nilchk (.t 39)), none⟩, ⟨(some 41), (.fa 1 (.t 40)), none⟩, ⟨(some 42), (.ld (.t 41)), none⟩, ⟨(some 43), (.mv (.t 0)), none⟩, ⟨(some 44), (.nilchk (.t 43)), none⟩, ⟨(some 45), (.fa 1 (.t 44)), none⟩, ⟨(some 46), (.ld (.t 45)), none⟩, ⟨(some 47), (.len 1 (.t 46)), none⟩, ⟨(some 48), (.mv (.t 2)), none⟩, ⟨(some 49), (.bin .sub (.t 47) (.t 48)), none⟩, ⟨(some 50), (.ia 1 (.t 42) (.t 49)), none⟩, ⟨(some 51), (.ld (.t 50)), none⟩, ⟨(some 54), (.nilchk (.t 34)), none⟩, ⟨(some 55), (.fa 1 (.t 54)), none⟩] [⟨(some 52), (.lit 5 [(.int .u8 0)] 1 1 [(0, 1, (.t 51))]), none⟩, ⟨(some 53), (.app 5 1 1 (.t 38) (.t 52)), none⟩, ⟨none, (.st 1 (.t 55) (.t 53)), none⟩]))
 (.reg [⟨(some 56), (.bin .add (.t 32) (.c (.int .i64 1))), none⟩, ⟨(some 32), (.mv (.t 56)), none⟩]))))
def ir99 : AFn := ⟨57, [],
 (.seq (.seq (.reg [⟨(some 6), (.mv (.t 2)), none⟩, ⟨(some 7), (.bin .eql (.t 6) (.c (.int .i64 0))), none⟩, ⟨(some 8), (.mv (.t 7)), none⟩, ⟨(some 9), (.mv (.t 2)), (some (8, false))⟩, ⟨(some 10), (.mv (.t 0)), (some (8, false))⟩, ⟨(some 11), (.nilchk (.t 10)), (some (8, false))⟩, ⟨(some 12), (.fa 1 (.t 11)), (some (8, false))⟩, ⟨(some 13), (.ld (.t 12)), (some (8, false))⟩, ⟨(some 14), (.len 1 (.t 13)), (some (8, false))⟩, ⟨(some 15), (.bin .gtr (.t 9) (.t 14)), (some (8, false))⟩, ⟨(some 16), (.pick (.t 8) (.c (.bool true)) (.t 15)), none⟩])
 (.cond (.t 16) (.reg [⟨(some 17), (.mv (.t 0)), none⟩, ⟨(some 18), (.nilchk (.t 17)), none⟩, ⟨(some 19), (.fa 0 (.t 18)), none⟩, ⟨(some 20), (.ld (.t 19)), none⟩, ⟨(some 21), (.call (.c (.func (.func 60) #[] #[])) [(.t 20), (.c (.int .i64 3))]), none⟩])
 .skip))
 (.seq (.reg [⟨(some 22), (.mv (.t 0)), none⟩, ⟨(some 23), (.mv (.t 1)), none⟩, ⟨(some 24), (.call (.c (.func (.func 126) #[] #[])) [(.t 22), (.t 23)]), none⟩])
 (.seq (.seq (.reg [⟨(some 25), (.mv (.t 0)), none⟩, ⟨(some 26), (.nilchk (.t 25)), none⟩, ⟨(some 27), (.fa 0 (.t 26)), none⟩, ⟨(some 28), (.ld (.t 27)), none⟩, ⟨(some 29), (.call (.c (.func (.func 58) #[] #[])) [(.t 28)]), none⟩, ⟨(some 30), (.bin .neq (.t 29) (.c (.int .i64 0))), none⟩])
 (.cond (.t 30) .ret
 .skip))
 (.seq (.reg [⟨(some 31), (.mv (.t 1)), none⟩, ⟨(some 32), (.mv (.c (.int .i64 0))), none⟩])
 (.block 0 (.loop lp99_0))))))⟩
theorem ok99 : FOk alT Try.prog 0 99 ir99 := ⟨_, Try.func99, by kernel_rfl, by kernel_rfl⟩
-- 100 hatchway/snap.little
def lp100_0 : ACode := (.seq (.seq (.reg [⟨(some 14), (.mv (.t 7)), none⟩, ⟨(some 15), (.bin .geq (.t 14) (.c (.int .i64 0))), none⟩])
 (.cond (.t 15) .skip
 (.exit 0)))
 (.seq (.block 1 (.reg [⟨(some 18), (.mv (.t 5)), none⟩, ⟨(some 19), (.bin .shl (.t 18) (.c (.int .u64 8))), none⟩, ⟨(some 20), (.mv (.t 6)), none⟩, ⟨(some 21), (.mv (.t 7)), none⟩, ⟨(some 22), (.ixs (.t 20) (.t 21)), none⟩, ⟨(some 23), (.conv .i64 (.t 22)), none⟩, ⟨(some 24), (.bin .or (.t 19) (.t 23)), none⟩, ⟨(some 5), (.mv (.t 24)), none⟩]))
 (.reg [⟨(some 16), (.mv (.t 7)), none⟩, ⟨(some 17), (.bin .sub (.t 16) (.c (.int .i64 1))), none⟩, ⟨(some 7), (.mv (.t 17)), none⟩])))
def ir100 : AFn := ⟨26, [.t 4],
 (.seq (.reg [⟨(some 4), (.mv (.c (.int .i64 0))), none⟩])
 (.seq (.reg [⟨(some 5), (.mv (.c (.int .i64 0))), none⟩])
 (.seq (.reg [⟨(some 8), (.mv (.t 0)), none⟩, ⟨(some 9), (.mv (.t 1)), none⟩, ⟨(some 10), (.call (.c (.func (.func 114) #[] #[])) [(.t 8), (.t 9)]), none⟩, ⟨(some 6), (.mv (.t 10)), none⟩])
 (.seq (.seq (.reg [⟨(some 11), (.mv (.t 6)), none⟩, ⟨(some 12), (.len 0 (.t 11)), none⟩, ⟨(some 13), (.bin .sub (.t 12) (.c (.int .i64 1))), none⟩, ⟨(some 7), (.mv (.t 13)), none⟩])
 (.block 0 (.loop lp100_0)))
 (.seq (.reg [⟨(some 25), (.mv (.t 5)), none⟩, ⟨(some 4), (.mv (.t 25)), none⟩])
 .ret)))))⟩
theorem ok100 : FOk alT Try.prog 0 100 ir100 := ⟨_, Try.func100, by kernel_rfl, by kernel_rfl⟩
-- 101 (*hatchway/snap.unpacker).literal
def ir101 : AFn := ⟨35, [],
 (.seq (.reg [⟨(some 5), (.mv (.t 1)), none⟩, ⟨(some 6), (.bin .add (.t 5) (.c (.int .i64 1))), none⟩, ⟨(some 4), (.mv (.t 6)), none⟩])
 (.seq (.seq (.reg [⟨(some 7), (.mv (.t 1)), none⟩, ⟨(some 8), (.bin .geq (.t 7) (.c (.int .i64 60))), none⟩])
 (.cond (.t 8) (.reg [⟨(some 9), (.mv (.t 0)), none⟩, ⟨(some 10), (.nilchk (.t 9)), none⟩, ⟨(some 11), (.fa 0 (.t 10)), none⟩, ⟨(some 12), (.ld (.t 11)), none⟩, ⟨(some 13), (.mv (.t 1)), none⟩, ⟨(some 14), (.bin .sub (.t 13) (.c (.int .i64 60))), none⟩, ⟨(some 15), (.bin .add (.t 14) (.c (.int .i64 1))), none⟩, ⟨(some 16), (.call (.c (.func (.func 100) #[] #[])) [(.t 12), (.t 15)]), none⟩, ⟨(some 17), (.bin .add (.t 16) (.c (.int .i64 1))), none⟩, ⟨(some 4), (.mv (.t 17)), none⟩])
 .skip))
 (.seq (.reg [⟨(some 18), (.mv (.t 0)), none⟩, ⟨(some 19), (.mv (.t 4)), none⟩, ⟨(some 20), (.call (.c (.func (.func 126) #[] #[])) [(.t 18), (.t 19)]), none⟩])
 (.drawD [⟨(some 21), (.mv (.t 0)), none⟩, ⟨(some 22), (.mv (.t 0)), none⟩, ⟨(some 23), (.nilchk (.t 22)), none⟩, ⟨(some 24), (.fa 1 (.t 23)), none⟩, ⟨(some 25), (.ld (.t 24)), none⟩, ⟨(some 26), (.mv (.t 0)), none⟩, ⟨(some 27), (.nilchk (.t 26)), none⟩, ⟨(some 28), (.fa 0 (.t 27)), none⟩, ⟨(some 29), (.ld (.t 28)), none⟩, ⟨(some 30), (.mv (.t 4)), none⟩, ⟨(some 33), (.nilchk (.t 21)), none⟩, ⟨(some 34), (.fa 1 (.t 33)), none⟩] [(⟨(some 31), (.call (.c (.func (.func 114) #[] #[])) [(.t 29), (.t 30)]), none⟩, [⟨(some 25), (.ld (.t 24)), none⟩]), (⟨(some 32), (.x (.apps 5 1 1) [(.t 25), (.t 31)]), none⟩, []), (⟨none, (.st 1 (.t 34) (.t 32)), none⟩, [])]))))⟩
theorem ok101 : FOk alT Try.prog 0 101 ir101 := ⟨_, Try.func101, by kernel_rfl, by kernel_rfl⟩
-- 102 hatchway/hatchwayref11.heads
def ir102 : AFn := ⟨19, [.t 2],
 (.seq (.reg [⟨(some 2), (.mv (.c (.int .i64 0))), none⟩])
 (.seq (.reg [⟨(some 4), (.mv (.t 0)), none⟩, ⟨(some 5), (.bin .quo (.t 4) (.c (.int .i64 4))), none⟩, ⟨(some 3), (.mv (.t 5)), none⟩])
 (.seq (.seq (.reg [⟨(some 6), (.mv (.t 0)), none⟩, ⟨(some 7), (.bin .rem (.t 6) (.c (.int .i64 4))), none⟩])
 (.block 0 (.seq (.reg [⟨(some 9), (.bin .eql (.t 7) (.c (.int .i64 0))), none⟩, ⟨(some 8), (.mv (.t 9)), none⟩])
 (.cond (.t 8) (.seq (.seq (.reg [⟨(some 10), (.mv (.t 3)), none⟩, ⟨(some 11), (.bin .geq (.t 10) (.c (.int .i64 60))), none⟩])
 (.cond (.t 11) (.seq (.reg [⟨(some 12), (.mv (.t 3)), none⟩, ⟨(some 13), (.bin .add (.c (.int .i64 1)) (.t 12)), none⟩, ⟨(some 14), (.bin .sub (.t 13) (.c (.int .i64 59))), none⟩, ⟨(some 2), (.mv (.t 14)), none⟩])
 .ret)
 .skip))
 (.seq (.reg [⟨(some 2), (.mv (.c (.int .i64 1))), none⟩])
 .ret))
 (.seq (.reg [⟨(some 16), (.bin .eql (.t 7) (.c (.int .i64 1))), none⟩, ⟨(some 15), (.mv (.t 16)), none⟩])
 (.cond (.t 15) (.seq (.reg [⟨(some 2), (.mv (.c (.int .i64 2))), none⟩])
 .ret)
 (.seq (.reg [⟨(some 18), (.bin .eql (.t 7) (.c (.int .i64 2))), none⟩, ⟨(some 17), (.mv (.t 18)), none⟩])
 (.cond (.t 17) (.seq (.reg [⟨(some 2), (.mv (.c (.int .i64 3))), none⟩])
 .ret)
 .skip))))))))
 (.seq (.reg [⟨(some 2), (.mv (.c (.int .i64 5))), none⟩])
 .ret))))⟩
theorem ok102 : FOk alT Try.prog 0 102 ir102 := ⟨_, Try.func102, by kernel_rfl, by kernel_rfl⟩
-- 103 hatchway/hatchwayref11.little
def ir103 : AFn := ⟨7, [.t 2],
 (.seq (.reg [⟨(some 2), (.mv (.c (.int .i64 0))), none⟩])
 (.seq (.reg [⟨(some 3), (.mv (.t 0)), none⟩, ⟨(some 4), (.call (.c (.func (.func 128) #[] #[])) [(.t 3)]), none⟩, ⟨(some 5), (.call (.c (.func (.func 127) #[] #[])) [(.t 4)]), none⟩, ⟨(some 6), (.conv .i64 (.t 5)), none⟩, ⟨(some 2), (.mv (.t 6)), none⟩])
 .ret))⟩
theorem ok103 : FOk alT Try.prog 0 103 ir103 := ⟨_, Try.func103, by kernel_rfl, by kernel_rfl⟩
-- 114 (*hatchway/cursor.Reader).Take
def ir114 : AFn := ⟨43, [.t 4],
 (.seq (.reg [⟨(some 2), (.box 89 (.t 0)), none⟩, ⟨(some 4), (.mv (.c (.string ⟨#[]⟩))), none⟩])
 (.seq (.reg [⟨(some 6), (.mkf (.func 132) [] [(.t 2)]), none⟩, ⟨(some 5), (.mv (.t 6)), none⟩])
 (.seq (.reg [⟨(some 7), (.mv (.t 5)), none⟩, ⟨(some 8), (.mv (.t 1)), none⟩, ⟨(some 9), (.bin .lss (.t 8) (.c (.int .i64 0))), none⟩, ⟨(some 10), (.call (.t 7) [(.t 9), (.c (.int .i64 1))]), none⟩])
 (.seq (.reg [⟨(some 11), (.mv (.t 5)), none⟩, ⟨(some 12), (.mv (.t 1)), none⟩, ⟨(some 13), (.ld (.t 2)), none⟩, ⟨(some 14), (.call (.c (.func (.func 57) #[] #[])) [(.t 13)]), none⟩, ⟨(some 15), (.bin .gtr (.t 12) (.t 14)), none⟩, ⟨(some 16), (.call (.t 11) [(.t 15), (.c (.int .i64 2))]), none⟩])
 (.seq (.seq (.reg [⟨(some 17), (.ld (.t 2)), none⟩, ⟨(some 18), (.call (.c (.func (.func 58) #[] #[])) [(.t 17)]), none⟩, ⟨(some 19), (.bin .neq (.t 18) (.c (.int .i64 0))), none⟩])
 (.cond (.t 19) (.seq (.reg [⟨(some 4), (.mv (.c (.string ⟨#[]⟩))), none⟩])
 .ret)
 .skip))
 (.seq (.reg [⟨(some 20), (.ld (.t 2)), none⟩, ⟨(some 21), (.nilchk (.t 20)), none⟩, ⟨(some 22), (.fa 1 (.t 21)), none⟩, ⟨(some 23), (.ld (.t 22)), none⟩, ⟨(some 24), (.mv (.t 1)), none⟩, ⟨(some 25), (.bin .add (.t 23) (.t 24)), none⟩, ⟨(some 26), (.nilchk (.t 20)), none⟩, ⟨(some 27), (.fa 1 (.t 26)), none⟩, ⟨none, (.st 1 (.t 27) (.t 25)), none⟩])
 (.seq (.draw [⟨(some 28), (.ld (.t 2)), none⟩, ⟨(some 29), (.nilchk (.t 28)), none⟩, ⟨(some 30), (.fa 0 (.t 29)), none⟩, ⟨(some 31), (.ld (.t 30)), none⟩, ⟨(some 32), (.ld (.t 2)), none⟩, ⟨(some 33), (.nilchk (.t 32)), none⟩, ⟨(some 34), (.fa 1 (.t 33)), none⟩, ⟨(some 35), (.ld (.t 34)), none⟩, ⟨(some 36), (.mv (.t 1)), none⟩, ⟨(some 37), (.bin .sub (.t 35) (.t 36)), none⟩, ⟨(some 38), (.ld (.t 2)), none⟩, ⟨(some 39), (.nilchk (.t 38)), none⟩, ⟨(some 40), (.fa 1 (.t 39)), none⟩, ⟨(some 41), (.ld (.t 40)), none⟩, ⟨(some 42), (.cut (.t 31) (some (.t 37)) (some (.t 41))), none⟩, ⟨(some 4), (.mv (.t 42)), none⟩] [])
 .ret)))))))⟩
theorem ok114 : FOk alT Try.prog 0 114 ir114 := ⟨_, Try.func114, by kernel_rfl, by kernel_rfl⟩
-- 126 (*hatchway/snap.unpacker).room
def ir126 : AFn := ⟨21, [],
 (.seq (.draw [⟨(some 4), (.mv (.t 1)), none⟩, ⟨(some 5), (.mv (.t 0)), none⟩, ⟨(some 6), (.nilchk (.t 5)), none⟩, ⟨(some 7), (.fa 2 (.t 6)), none⟩, ⟨(some 8), (.ld (.t 7)), none⟩, ⟨(some 9), (.mv (.t 0)), none⟩, ⟨(some 10), (.nilchk (.t 9)), none⟩, ⟨(some 11), (.fa 1 (.t 10)), none⟩, ⟨(some 12), (.ld (.t 11)), none⟩, ⟨(some 13), (.len 1 (.t 12)), none⟩, ⟨(some 14), (.bin .sub (.t 8) (.t 13)), none⟩, ⟨(some 15), (.bin .gtr (.t 4) (.t 14)), none⟩] [])
 (.cond (.t 15) (.reg [⟨(some 16), (.mv (.t 0)), none⟩, ⟨(some 17), (.nilchk (.t 16)), none⟩, ⟨(some 18), (.fa 0 (.t 17)), none⟩, ⟨(some 19), (.ld (.t 18)), none⟩, ⟨(some 20), (.call (.c (.func (.func 60) #[] #[])) [(.t 19), (.c (.int .i64 3))]), none⟩])
 .skip))⟩
theorem ok126 : FOk alT Try.prog 0 126 ir126 := ⟨_, Try.func126, by kernel_rfl, by kernel_rfl⟩
-- 127 hatchway/hatchwayref02.Number
def lp127_0 : ACode := (.seq (.seq (.reg [⟨(some 5), (.mv (.t 4)), none⟩, ⟨(some 6), (.mv (.t 0)), none⟩, ⟨(some 7), (.len 0 (.t 6)), none⟩, ⟨(some 8), (.bin .lss (.t 5) (.t 7)), none⟩])
 (.cond (.t 8) .skip
 (.exit 0)))
 (.seq (.block 1 (.reg [⟨(some 11), (.mv (.t 3)), none⟩, ⟨(some 12), (.bin .mul (.c (.int .u64 256)) (.t 11)), none⟩, ⟨(some 13), (.mv (.t 0)), none⟩, ⟨(some 14), (.mv (.t 4)), none⟩, ⟨(some 15), (.ixs (.t 13) (.t 14)), none⟩, ⟨(some 16), (.conv .u64 (.t 15)), none⟩, ⟨(some 17), (.bin .add (.t 12) (.t 16)), none⟩, ⟨(some 3), (.mv (.t 17)), none⟩]))
 (.reg [⟨(some 9), (.mv (.t 4)), none⟩, ⟨(some 10), (.bin .add (.t 9) (.c (.int .i64 1))), none⟩, ⟨(some 4), (.mv (.t 10)), none⟩])))
def ir127 : AFn := ⟨19, [.t 2],
 (.seq (.reg [⟨(some 2), (.mv (.c (.int .u64 0))), none⟩])
 (.seq (.reg [⟨(some 3), (.mv (.c (.int .u64 0))), none⟩])
 (.seq (.seq (.reg [⟨(some 4), (.mv (.c (.int .i64 0))), none⟩])
 (.block 0 (.loop lp127_0)))
 (.seq (.reg [⟨(some 18), (.mv (.t 3)), none⟩, ⟨(some 2), (.mv (.t 18)), none⟩])
 .ret))))⟩
theorem ok127 : FOk alT Try.prog 0 127 ir127 := ⟨_, Try.func127, by kernel_rfl, by kernel_rfl⟩
-- 128 hatchway/hatchwayref02.Turned
def lp128_0 : ACode := (.seq (.seq (.reg [⟨(some 5), (.mv (.t 4)), none⟩, ⟨(some 6), (.mv (.t 0)), none⟩, ⟨(some 7), (.len 0 (.t 6)), none⟩, ⟨(some 8), (.bin .lss (.t 5) (.t 7)), none⟩])
 (.cond (.t 8) .skip
 (.exit 0)))
 (.seq (.block 1 (.reg [⟨(some 11), (.mv (.t 0)), none⟩, ⟨(some 12), (.mv (.t 4)), none⟩, ⟨(some 13), (.mv (.t 4)), none⟩, ⟨(some 14), (.bin .add (.t 13) (.c (.int .i64 1))), none⟩, ⟨(some 15), (.cut (.t 11) (some (.t 12)) (some (.t 14))), none⟩, ⟨(some 16), (.mv (.t 3)), none⟩, ⟨(some 17), (.bin .add (.t 15) (.t 16)), none⟩, ⟨(some 3), (.mv (.t 17)), none⟩]))
 (.reg [⟨(some 9), (.mv (.t 4)), none⟩, ⟨(some 10), (.bin .add (.t 9) (.c (.int .i64 1))), none⟩, ⟨(some 4), (.mv (.t 10)), none⟩])))
def ir128 : AFn := ⟨19, [.t 2],
 (.seq (.reg [⟨(some 2), (.mv (.c (.string ⟨#[]⟩))), none⟩])
 (.seq (.reg [⟨(some 3), (.mv (.c (.string ⟨#[]⟩))), none⟩])
 (.seq (.seq (.reg [⟨(some 4), (.mv (.c (.int .i64 0))), none⟩])
 (.block 0 (.loop lp128_0)))
 (.seq (.reg [⟨(some 18), (.mv (.t 3)), none⟩, ⟨(some 2), (.mv (.t 18)), none⟩])
 .ret))))⟩
theorem ok128 : FOk alT Try.prog 0 128 ir128 := ⟨_, Try.func128, by kernel_rfl, by kernel_rfl⟩
-- 132 (*hatchway/cursor.Reader).Take$1
def ir132 : AFn := ⟨9, [],
 (.seq (.reg [⟨(some 5), (.mv (.t 0)), none⟩])
 (.cond (.t 5) (.reg [⟨(some 6), (.ld (.t 2)), none⟩, ⟨(some 7), (.mv (.t 1)), none⟩, ⟨(some 8), (.call (.c (.func (.func 60) #[] #[])) [(.t 6), (.t 7)]), none⟩])
 .skip))⟩
theorem ok132 : FOk alT Try.prog 0 132 ir132 := ⟨_, Try.func132, by kernel_rfl, by kernel_rfl⟩
def fnL : List (Nat × AFn) := [(3, ir3), (12, ir12), (13, ir13), (14, ir14), (15, ir15), (16, ir16), (17, ir17), (18, ir18), (53, ir53), (54, ir54), (55, ir55), (56, ir56), (57, ir57), (58, ir58), (59, ir59), (60, ir60), (61, ir61), (93, ir93), (94, ir94), (95, ir95), (96, ir96), (97, ir97), (98, ir98), (99, ir99), (100, ir100), (101, ir101), (102, ir102), (103, ir103), (114, ir114), (126, ir126), (127, ir127), (128, ir128), (132, ir132)]
theorem fnL_ok : ∀ p ∈ fnL, FOk alT Try.prog 0 p.1 p.2 := (all_cons ok3 (all_cons ok12 (all_cons ok13 (all_cons ok14 (all_cons ok15 (all_cons ok16 (all_cons ok17 (all_cons ok18 (all_cons ok53 (all_cons ok54 (all_cons ok55 (all_cons ok56 (all_cons ok57 (all_cons ok58 (all_cons ok59 (all_cons ok60 (all_cons ok61 (all_cons ok93 (all_cons ok94 (all_cons ok95 (all_cons ok96 (all_cons ok97 (all_cons ok98 (all_cons ok99 (all_cons ok100 (all_cons ok101 (all_cons ok102 (all_cons ok103 (all_cons ok114 (all_cons ok126 (all_cons ok127 (all_cons ok128 (all_cons ok132 all_nil)))))))))))))))))))))))))))))))))
theorem fn3 : tab fnL 3 = some ir3 := rfl
theorem fn12 : tab fnL 12 = some ir12 := rfl
theorem fn13 : tab fnL 13 = some ir13 := rfl
theorem fn14 : tab fnL 14 = some ir14 := rfl
theorem fn15 : tab fnL 15 = some ir15 := rfl
theorem fn16 : tab fnL 16 = some ir16 := rfl
theorem fn17 : tab fnL 17 = some ir17 := rfl
theorem fn18 : tab fnL 18 = some ir18 := rfl
theorem fn53 : tab fnL 53 = some ir53 := rfl
theorem fn54 : tab fnL 54 = some ir54 := rfl
theorem fn55 : tab fnL 55 = some ir55 := rfl
theorem fn56 : tab fnL 56 = some ir56 := rfl
theorem fn57 : tab fnL 57 = some ir57 := rfl
theorem fn58 : tab fnL 58 = some ir58 := rfl
theorem fn59 : tab fnL 59 = some ir59 := rfl
theorem fn60 : tab fnL 60 = some ir60 := rfl
theorem fn61 : tab fnL 61 = some ir61 := rfl
theorem fn93 : tab fnL 93 = some ir93 := rfl
theorem fn94 : tab fnL 94 = some ir94 := rfl
theorem fn95 : tab fnL 95 = some ir95 := rfl
theorem fn96 : tab fnL 96 = some ir96 := rfl
theorem fn97 : tab fnL 97 = some ir97 := rfl
theorem fn98 : tab fnL 98 = some ir98 := rfl
theorem fn99 : tab fnL 99 = some ir99 := rfl
theorem fn100 : tab fnL 100 = some ir100 := rfl
theorem fn101 : tab fnL 101 = some ir101 := rfl
theorem fn102 : tab fnL 102 = some ir102 := rfl
theorem fn103 : tab fnL 103 = some ir103 := rfl
theorem fn114 : tab fnL 114 = some ir114 := rfl
theorem fn126 : tab fnL 126 = some ir126 := rfl
theorem fn127 : tab fnL 127 = some ir127 := rfl
theorem fn128 : tab fnL 128 = some ir128 := rfl
theorem fn132 : tab fnL 132 = some ir132 := rfl
noncomputable def CX (X : FuncId → Option (List Value → Option Value)) (pol : FuncId → Pol) : Cf := ⟨Try.prog, 0, tab fnL, pol, alT, X⟩
theorem CX_fn (X : FuncId → Option (List Value → Option Value)) (pol : FuncId → Pol) (f : FuncId) : (CX X pol).fn f = tab fnL f := rfl
theorem CX_X (X : FuncId → Option (List Value → Option Value)) (pol : FuncId → Pol) (f : FuncId) : (CX X pol).X f = X f := rfl
theorem CX_pol (X : FuncId → Option (List Value → Option Value)) (pol : FuncId → Pol) (f : FuncId) : (CX X pol).pol f = pol f := rfl
theorem CX_ok {x : List (Nat × (List Value → Option Value))} {pol : FuncId → Pol} (hx : ∀ p ∈ x, XOk Try.prog p.1 p.2) (hal : ∀ k, alT k = true → (∃ g, xtab x k = some g) ∨ (xtab x k = none ∧ (pol k = .al ∨ pol k = .ro))) : (CX (xtab x) pol).Ok where
  mixed := by kernel_rfl
  alok := hal
  fn := tab_ok fnL_ok
  X := xtab_ok hx
end Ev
end Go.Proofs.Ythigekeonjmhdaa
