/-
  The functions of the seat in the small language, and that they are their translation.
-/
import Derived.Test.YtfbelnjchpffeaaProg
import Derived.Test.YtfbelnjchpffeaaEvV
import Derived.KernelRfl
namespace Go.Proofs.Ytfbelnjchpffeaa
namespace Ev
set_option maxRecDepth 4000
def alT : FuncId → Bool := fun k => [].contains k
-- 3 hatchway/hatchwaylaw08.ItemApart
def lp3_0 : ACode := (.seq (.seq (.reg [⟨(some 31), (.mv (.t 7)), none⟩, ⟨(some 32), (.fa 2 (.t 4)), none⟩, ⟨(some 33), (.ld (.t 32)), none⟩, ⟨(some 34), (.mv (.t 6)), none⟩, ⟨(some 35), (.ia 3 (.t 33) (.t 34)), none⟩, ⟨(some 36), (.fa 2 (.t 35)), none⟩, ⟨(some 37), (.ld (.t 36)), none⟩, ⟨(some 38), (.len 1 (.t 37)), none⟩, ⟨(some 39), (.bin .lss (.t 31) (.t 38)), none⟩])
 (.cond (.t 39) .skip
 (.exit 2)))
 (.seq (.block 3 (.reg [⟨(some 42), (.fa 2 (.t 4)), none⟩, ⟨(some 43), (.ld (.t 42)), none⟩, ⟨(some 44), (.mv (.t 6)), none⟩, ⟨(some 45), (.ia 3 (.t 43) (.t 44)), none⟩, ⟨(some 46), (.fa 2 (.t 45)), none⟩, ⟨(some 47), (.ld (.t 46)), none⟩, ⟨(some 48), (.mv (.t 7)), none⟩, ⟨(some 49), (.ia 3 (.t 47) (.t 48)), none⟩, ⟨(some 50), (.fa 0 (.t 49)), none⟩, ⟨none, (.st 1 (.t 50) (.c (.string ⟨#[116, 117, 114, 110, 101, 100]⟩))), none⟩]))
 (.reg [⟨(some 40), (.mv (.t 7)), none⟩, ⟨(some 41), (.bin .add (.t 40) (.c (.int .i64 1))), none⟩, ⟨(some 7), (.mv (.t 41)), none⟩])))
def lp3_1 : ACode := (.seq (.seq (.reg [⟨(some 24), (.mv (.t 6)), none⟩, ⟨(some 25), (.fa 2 (.t 4)), none⟩, ⟨(some 26), (.ld (.t 25)), none⟩, ⟨(some 27), (.len 1 (.t 26)), none⟩, ⟨(some 28), (.bin .lss (.t 24) (.t 27)), none⟩])
 (.cond (.t 28) .skip
 (.exit 0)))
 (.seq (.block 1 (.seq (.seq (.reg [⟨(some 7), (.mv (.c (.int .i64 0))), none⟩])
 (.block 2 (.loop lp3_0)))
 (.seq (.reg [⟨(some 51), (.fa 2 (.t 4)), none⟩, ⟨(some 52), (.ld (.t 51)), none⟩, ⟨(some 53), (.mv (.t 6)), none⟩, ⟨(some 54), (.ia 3 (.t 52) (.t 53)), none⟩, ⟨(some 55), (.fa 0 (.t 54)), none⟩, ⟨none, (.st 1 (.t 55) (.c (.string ⟨#[116, 117, 114, 110, 101, 100]⟩))), none⟩])
 (.reg [⟨(some 56), (.fa 2 (.t 4)), none⟩, ⟨(some 57), (.ld (.t 56)), none⟩, ⟨(some 58), (.mv (.t 6)), none⟩, ⟨(some 59), (.ia 3 (.t 57) (.t 58)), none⟩, ⟨(some 60), (.fa 1 (.t 59)), none⟩, ⟨none, (.st 1 (.t 60) (.c (.bool false))), none⟩]))))
 (.reg [⟨(some 29), (.mv (.t 6)), none⟩, ⟨(some 30), (.bin .add (.t 29) (.c (.int .i64 1))), none⟩, ⟨(some 6), (.mv (.t 30)), none⟩])))
def ir3 : AFn := ⟨73, [.t 2],
 (.seq (.reg [⟨(some 1), (.box 24 (.t 0)), none⟩, ⟨(some 2), (.mv (.c (.bool false))), none⟩])
 (.seq (.seq (.reg [⟨(some 8), (.call (.c (.func (.func 14) #[] #[])) []), none⟩, ⟨(some 9), (.un .not (.t 8)), none⟩])
 (.cond (.t 9) (.seq (.reg [⟨(some 2), (.mv (.c (.bool false))), none⟩])
 .ret)
 .skip))
 (.seq (.seq (.reg [⟨(some 10), (.ldn 3 (.t 1)), none⟩, ⟨(some 11), (.call (.c (.func (.func 15) #[] #[])) [(.t 10)]), none⟩, ⟨(some 12), (.mv (.t 11)), none⟩, ⟨(some 13), (.ldn 3 (.t 1)), (some (12, false))⟩, ⟨(some 14), (.call (.c (.func (.func 16) #[] #[])) [(.t 13)]), (some (12, false))⟩, ⟨(some 15), (.un .not (.t 14)), (some (12, false))⟩, ⟨(some 16), (.pick (.t 12) (.c (.bool true)) (.t 15)), none⟩])
 (.cond (.t 16) (.seq (.reg [⟨(some 2), (.mv (.c (.bool true))), none⟩])
 .ret)
 .skip))
 (.seq (.reg [⟨(some 17), (.ldn 3 (.t 1)), none⟩, ⟨(some 18), (.call (.c (.func (.func 17) #[] #[])) [(.t 17)]), none⟩, ⟨(some 3), (.mv (.t 18)), none⟩])
 (.seq (.reg [⟨(some 19), (.ldn 3 (.t 1)), none⟩, ⟨(some 20), (.call (.c (.func (.func 18) #[] #[])) [(.t 19)]), none⟩, ⟨(some 4), (.new 24 [(.string ⟨#[]⟩), (.bool false), (.slice none 0 0)]), none⟩, ⟨none, (.st 3 (.t 4) (.t 20)), none⟩])
 (.seq (.reg [⟨(some 21), (.ldn 3 (.t 1)), none⟩, ⟨(some 22), (.lit 24 [(.string ⟨#[]⟩), (.bool false), (.slice none 0 0)] 1 3 [(0, 3, (.t 21))]), none⟩, ⟨(some 23), (.call (.c (.func (.func 19) #[] #[])) [(.t 22)]), none⟩, ⟨(some 5), (.new 24 [(.string ⟨#[]⟩), (.bool false), (.slice none 0 0)]), none⟩, ⟨none, (.st 3 (.t 5) (.t 23)), none⟩])
 (.seq (.seq (.reg [⟨(some 6), (.mv (.c (.int .i64 0))), none⟩])
 (.block 0 (.loop lp3_1)))
 (.seq (.seq (.reg [⟨(some 61), (.fa 2 (.t 5)), none⟩, ⟨(some 62), (.ld (.t 61)), none⟩, ⟨(some 63), (.len 1 (.t 62)), none⟩, ⟨(some 64), (.bin .neq (.t 63) (.c (.int .i64 1))), none⟩])
 (.cond (.t 64) (.seq (.reg [⟨(some 2), (.mv (.c (.bool false))), none⟩])
 .ret)
 .skip))
 (.seq (.reg [⟨(some 65), (.fa 2 (.t 5)), none⟩, ⟨(some 66), (.ld (.t 65)), none⟩, ⟨(some 67), (.build [(.string ⟨#[]⟩), (.bool false), (.slice none 0 0)] []), none⟩, ⟨(some 68), (.ia 3 (.t 66) (.c (.int .i64 0))), none⟩, ⟨none, (.st 3 (.t 68) (.t 67)), none⟩])
 (.seq (.reg [⟨(some 69), (.ldn 3 (.t 1)), none⟩, ⟨(some 70), (.call (.c (.func (.func 17) #[] #[])) [(.t 69)]), none⟩, ⟨(some 71), (.mv (.t 3)), none⟩, ⟨(some 72), (.bin .eql (.t 70) (.t 71)), none⟩, ⟨(some 2), (.mv (.t 72)), none⟩])
 .ret))))))))))⟩
theorem ok3 : FOk alT Try.prog 0 3 ir3 := ⟨_, Try.func3, by kernel_rfl, by kernel_rfl⟩
-- 9 hatchway/hatchwaylaw08.ItemShows
def ir9 : AFn := ⟨47, [.t 2],
 (.seq (.reg [⟨(some 1), (.box 24 (.t 0)), none⟩, ⟨(some 2), (.mv (.c (.bool false))), none⟩])
 (.seq (.seq (.reg [⟨(some 7), (.call (.c (.func (.func 14) #[] #[])) []), none⟩, ⟨(some 8), (.un .not (.t 7)), none⟩])
 (.cond (.t 8) (.seq (.reg [⟨(some 2), (.mv (.c (.bool false))), none⟩])
 .ret)
 .skip))
 (.seq (.seq (.reg [⟨(some 9), (.ldn 3 (.t 1)), none⟩, ⟨(some 10), (.call (.c (.func (.func 15) #[] #[])) [(.t 9)]), none⟩])
 (.cond (.t 10) (.seq (.reg [⟨(some 2), (.mv (.c (.bool true))), none⟩])
 .ret)
 .skip))
 (.seq (.reg [⟨(some 12), (.ldn 3 (.t 1)), none⟩, ⟨(some 13), (.call (.c (.func (.func 42) #[] #[])) [(.t 12)]), none⟩, ⟨(some 11), (.mv (.t 13)), none⟩, ⟨(some 14), (.ext 0 (.t 11)), none⟩, ⟨(some 15), (.ext 1 (.t 11)), none⟩, ⟨(some 3), (.mv (.t 14)), none⟩, ⟨(some 4), (.mv (.t 15)), none⟩])
 (.seq (.seq (.reg [⟨(some 16), (.ldn 3 (.t 1)), none⟩, ⟨(some 17), (.call (.c (.func (.func 16) #[] #[])) [(.t 16)]), none⟩, ⟨(some 18), (.un .not (.t 17)), none⟩])
 (.cond (.t 18) (.seq (.reg [⟨(some 19), (.mv (.t 4)), none⟩, ⟨(some 20), (.bin .eql (.t 19) (.c (.int .i64 1))), none⟩, ⟨(some 21), (.mv (.t 20)), none⟩, ⟨(some 22), (.mv (.t 3)), (some (21, true))⟩, ⟨(some 23), (.bin .eql (.t 22) (.c (.string ⟨#[]⟩))), (some (21, true))⟩, ⟨(some 24), (.pick (.t 21) (.t 23) (.c (.bool false))), none⟩, ⟨(some 2), (.mv (.t 24)), none⟩])
 .ret)
 .skip))
 (.seq (.reg [⟨(some 26), (.mv (.t 3)), none⟩, ⟨(some 27), (.call (.c (.func (.func 43) #[] #[])) [(.t 26)]), none⟩, ⟨(some 25), (.mv (.t 27)), none⟩, ⟨(some 28), (.ext 0 (.t 25)), none⟩, ⟨(some 29), (.ext 1 (.t 25)), none⟩, ⟨(some 5), (.new 24 [(.string ⟨#[]⟩), (.bool false), (.slice none 0 0)]), none⟩, ⟨none, (.st 3 (.t 5) (.t 28)), none⟩, ⟨(some 6), (.mv (.t 29)), none⟩])
 (.seq (.reg [⟨(some 30), (.mv (.t 4)), none⟩, ⟨(some 31), (.bin .eql (.t 30) (.c (.int .i64 0))), none⟩, ⟨(some 32), (.mv (.t 31)), none⟩, ⟨(some 33), (.mv (.t 3)), (some (32, true))⟩, ⟨(some 34), (.ldn 3 (.t 1)), (some (32, true))⟩, ⟨(some 35), (.call (.c (.func (.func 17) #[] #[])) [(.t 34)]), (some (32, true))⟩, ⟨(some 36), (.bin .eql (.t 33) (.t 35)), (some (32, true))⟩, ⟨(some 37), (.pick (.t 32) (.t 36) (.c (.bool false))), none⟩, ⟨(some 38), (.mv (.t 37)), none⟩, ⟨(some 39), (.mv (.t 6)), (some (38, true))⟩, ⟨(some 40), (.bin .eql (.t 39) (.c (.int .i64 0))), (some (38, true))⟩, ⟨(some 41), (.pick (.t 38) (.t 40) (.c (.bool false))), none⟩, ⟨(some 42), (.mv (.t 41)), none⟩, ⟨(some 43), (.ldn 3 (.t 1)), (some (42, true))⟩, ⟨(some 44), (.ldn 3 (.t 5)), (some (42, true))⟩, ⟨(some 45), (.call (.c (.func (.func 44) #[] #[])) [(.t 43), (.t 44)]), (some (42, true))⟩, ⟨(some 46), (.pick (.t 42) (.t 45) (.c (.bool false))), none⟩, ⟨(some 2), (.mv (.t 46)), none⟩])
 .ret)))))))⟩
theorem ok9 : FOk alT Try.prog 0 9 ir9 := ⟨_, Try.func9, by kernel_rfl, by kernel_rfl⟩
-- 10 hatchway/hatchwaylaw08.ItemReads
def ir10 : AFn := ⟨47, [.t 2],
 (.seq (.reg [⟨(some 2), (.mv (.c (.bool false))), none⟩])
 (.seq (.seq (.reg [⟨(some 9), (.call (.c (.func (.func 14) #[] #[])) []), none⟩, ⟨(some 10), (.un .not (.t 9)), none⟩])
 (.cond (.t 10) (.seq (.reg [⟨(some 2), (.mv (.c (.bool false))), none⟩])
 .ret)
 .skip))
 (.seq (.seq (.reg [⟨(some 11), (.mv (.t 0)), none⟩, ⟨(some 12), (.len 0 (.t 11)), none⟩, ⟨(some 13), (.bin .gtr (.t 12) (.c (.int .i64 4000))), none⟩])
 (.cond (.t 13) (.seq (.reg [⟨(some 2), (.mv (.c (.bool true))), none⟩])
 .ret)
 .skip))
 (.seq (.reg [⟨(some 15), (.mv (.t 0)), none⟩, ⟨(some 16), (.call (.c (.func (.func 43) #[] #[])) [(.t 15)]), none⟩, ⟨(some 14), (.mv (.t 16)), none⟩, ⟨(some 17), (.ext 0 (.t 14)), none⟩, ⟨(some 18), (.ext 1 (.t 14)), none⟩, ⟨(some 3), (.new 24 [(.string ⟨#[]⟩), (.bool false), (.slice none 0 0)]), none⟩, ⟨none, (.st 3 (.t 3) (.t 17)), none⟩, ⟨(some 4), (.mv (.t 18)), none⟩])
 (.seq (.reg [⟨(some 20), (.mv (.t 0)), none⟩, ⟨(some 21), (.call (.c (.func (.func 45) #[] #[])) [(.t 20)]), none⟩, ⟨(some 19), (.mv (.t 21)), none⟩, ⟨(some 22), (.ext 0 (.t 19)), none⟩, ⟨(some 23), (.ext 1 (.t 19)), none⟩, ⟨(some 5), (.new 24 [(.string ⟨#[]⟩), (.bool false), (.slice none 0 0)]), none⟩, ⟨none, (.st 3 (.t 5) (.t 22)), none⟩, ⟨(some 6), (.mv (.t 23)), none⟩])
 (.seq (.seq (.reg [⟨(some 24), (.mv (.t 4)), none⟩, ⟨(some 25), (.mv (.t 6)), none⟩, ⟨(some 26), (.bin .neq (.t 24) (.t 25)), none⟩, ⟨(some 27), (.mv (.t 26)), none⟩, ⟨(some 28), (.ldn 3 (.t 3)), (some (27, false))⟩, ⟨(some 29), (.ldn 3 (.t 5)), (some (27, false))⟩, ⟨(some 30), (.call (.c (.func (.func 44) #[] #[])) [(.t 28), (.t 29)]), (some (27, false))⟩, ⟨(some 31), (.un .not (.t 30)), (some (27, false))⟩, ⟨(some 32), (.pick (.t 27) (.c (.bool true)) (.t 31)), none⟩])
 (.cond (.t 32) (.seq (.reg [⟨(some 2), (.mv (.c (.bool false))), none⟩])
 .ret)
 .skip))
 (.seq (.seq (.reg [⟨(some 33), (.mv (.t 4)), none⟩, ⟨(some 34), (.bin .neq (.t 33) (.c (.int .i64 0))), none⟩])
 (.cond (.t 34) (.seq (.reg [⟨(some 2), (.mv (.c (.bool true))), none⟩])
 .ret)
 .skip))
 (.seq (.reg [⟨(some 36), (.ldn 3 (.t 3)), none⟩, ⟨(some 37), (.call (.c (.func (.func 42) #[] #[])) [(.t 36)]), none⟩, ⟨(some 35), (.mv (.t 37)), none⟩, ⟨(some 38), (.ext 0 (.t 35)), none⟩, ⟨(some 39), (.ext 1 (.t 35)), none⟩, ⟨(some 7), (.mv (.t 38)), none⟩, ⟨(some 8), (.mv (.t 39)), none⟩])
 (.seq (.reg [⟨(some 40), (.mv (.t 8)), none⟩, ⟨(some 41), (.bin .eql (.t 40) (.c (.int .i64 0))), none⟩, ⟨(some 42), (.mv (.t 41)), none⟩, ⟨(some 43), (.mv (.t 7)), (some (42, true))⟩, ⟨(some 44), (.mv (.t 0)), (some (42, true))⟩, ⟨(some 45), (.bin .eql (.t 43) (.t 44)), (some (42, true))⟩, ⟨(some 46), (.pick (.t 42) (.t 45) (.c (.bool false))), none⟩, ⟨(some 2), (.mv (.t 46)), none⟩])
 .ret)))))))))⟩
theorem ok10 : FOk alT Try.prog 0 10 ir10 := ⟨_, Try.func10, by kernel_rfl, by kernel_rfl⟩
-- 14 hatchway/hatchwaylaw08.alive
def ir14 : AFn := ⟨18, [.t 0],
 (.seq (.reg [⟨(some 0), (.mv (.c (.bool false))), none⟩])
 (.seq (.reg [⟨(some 4), (.call (.c (.func (.func 51) #[] #[])) [(.c (.string ⟨#[97]⟩))]), none⟩, ⟨(some 5), (.call (.c (.func (.func 51) #[] #[])) [(.c (.string ⟨#[]⟩))]), none⟩, ⟨(some 6), (.call (.c (.func (.func 19) #[] #[])) [(.c (.slice none 0 0))]), none⟩, ⟨(some 7), (.lit 24 [(.string ⟨#[]⟩), (.bool false), (.slice none 0 0), (.string ⟨#[]⟩), (.bool false), (.slice none 0 0), (.string ⟨#[]⟩), (.bool false), (.slice none 0 0)] 3 3 [(0, 3, (.t 4)), (3, 3, (.t 5)), (6, 3, (.t 6))]), none⟩, ⟨(some 8), (.call (.c (.func (.func 19) #[] #[])) [(.t 7)]), none⟩, ⟨(some 9), (.call (.c (.func (.func 42) #[] #[])) [(.t 8)]), none⟩, ⟨(some 3), (.mv (.t 9)), none⟩, ⟨(some 10), (.ext 0 (.t 3)), none⟩, ⟨(some 11), (.ext 1 (.t 3)), none⟩, ⟨(some 1), (.mv (.t 10)), none⟩, ⟨(some 2), (.mv (.t 11)), none⟩])
 (.seq (.reg [⟨(some 12), (.mv (.t 2)), none⟩, ⟨(some 13), (.bin .eql (.t 12) (.c (.int .i64 0))), none⟩, ⟨(some 14), (.mv (.t 13)), none⟩, ⟨(some 15), (.mv (.t 1)), (some (14, true))⟩, ⟨(some 16), (.bin .eql (.t 15) (.c (.string ⟨#[40, 54, 49, 32, 45, 32, 40, 41, 41]⟩))), (some (14, true))⟩, ⟨(some 17), (.pick (.t 14) (.t 16) (.c (.bool false))), none⟩, ⟨(some 0), (.mv (.t 17)), none⟩])
 .ret)))⟩
theorem ok14 : FOk alT Try.prog 0 14 ir14 := ⟨_, Try.func14, by kernel_rfl, by kernel_rfl⟩
-- 15 hatchway/hatchwaylaw08.Great
def ir15 : AFn := ⟨11, [.t 2],
 (.seq (.reg [⟨(some 1), (.box 24 (.t 0)), none⟩, ⟨(some 2), (.mv (.c (.bool false))), none⟩])
 (.seq (.reg [⟨(some 3), (.ldn 3 (.t 1)), none⟩, ⟨(some 4), (.call (.c (.func (.func 52) #[] #[])) [(.t 3), (.c (.int .i64 1200))]), none⟩, ⟨(some 5), (.bin .eql (.t 4) (.c (.int .i64 0))), none⟩, ⟨(some 6), (.mv (.t 5)), none⟩, ⟨(some 7), (.ldn 3 (.t 1)), (some (6, false))⟩, ⟨(some 8), (.call (.c (.func (.func 53) #[] #[])) [(.t 7)]), (some (6, false))⟩, ⟨(some 9), (.bin .gtr (.t 8) (.c (.int .i64 6000))), (some (6, false))⟩, ⟨(some 10), (.pick (.t 6) (.c (.bool true)) (.t 9)), none⟩, ⟨(some 2), (.mv (.t 10)), none⟩])
 .ret))⟩
theorem ok15 : FOk alT Try.prog 0 15 ir15 := ⟨_, Try.func15, by kernel_rfl, by kernel_rfl⟩
-- 16 hatchway/hatchwayref08.May
def ir16 : AFn := ⟨15, [.t 2],
 (.seq (.reg [⟨(some 1), (.box 24 (.t 0)), none⟩, ⟨(some 2), (.mv (.c (.bool false))), none⟩])
 (.seq (.reg [⟨(some 3), (.ldn 3 (.t 1)), none⟩, ⟨(some 4), (.call (.c (.func (.func 54) #[] #[])) [(.t 3)]), none⟩, ⟨(some 5), (.mv (.t 4)), none⟩, ⟨(some 6), (.ldn 3 (.t 1)), (some (5, true))⟩, ⟨(some 7), (.call (.c (.func (.func 55) #[] #[])) [(.t 6)]), (some (5, true))⟩, ⟨(some 8), (.bin .leq (.t 7) (.c (.int .i64 16))), (some (5, true))⟩, ⟨(some 9), (.pick (.t 5) (.t 8) (.c (.bool false))), none⟩, ⟨(some 10), (.mv (.t 9)), none⟩, ⟨(some 11), (.ldn 3 (.t 1)), (some (10, true))⟩, ⟨(some 12), (.call (.c (.func (.func 56) #[] #[])) [(.t 11)]), (some (10, true))⟩, ⟨(some 13), (.bin .leq (.t 12) (.c (.int .i64 1024))), (some (10, true))⟩, ⟨(some 14), (.pick (.t 10) (.t 13) (.c (.bool false))), none⟩, ⟨(some 2), (.mv (.t 14)), none⟩])
 .ret))⟩
theorem ok16 : FOk alT Try.prog 0 16 ir16 := ⟨_, Try.func16, by kernel_rfl, by kernel_rfl⟩
-- 17 hatchway/hatchwayref08.Show
def lp17_0 : ACode := (.seq (.seq (.reg [⟨(some 11), (.mv (.t 4)), none⟩, ⟨(some 12), (.fa 2 (.t 1)), none⟩, ⟨(some 13), (.ld (.t 12)), none⟩, ⟨(some 14), (.len 1 (.t 13)), none⟩, ⟨(some 15), (.bin .lss (.t 11) (.t 14)), none⟩])
 (.cond (.t 15) .skip
 (.exit 0)))
 (.seq (.block 1 (.seq (.seq (.reg [⟨(some 18), (.mv (.t 4)), none⟩, ⟨(some 19), (.bin .gtr (.t 18) (.c (.int .i64 0))), none⟩])
 (.cond (.t 19) (.reg [⟨(some 20), (.mv (.t 3)), none⟩, ⟨(some 21), (.bin .add (.t 20) (.c (.string ⟨#[32]⟩))), none⟩, ⟨(some 3), (.mv (.t 21)), none⟩])
 .skip))
 (.reg [⟨(some 22), (.mv (.t 3)), none⟩, ⟨(some 23), (.fa 2 (.t 1)), none⟩, ⟨(some 24), (.ld (.t 23)), none⟩, ⟨(some 25), (.mv (.t 4)), none⟩, ⟨(some 26), (.ia 3 (.t 24) (.t 25)), none⟩, ⟨(some 27), (.ldn 3 (.t 26)), none⟩, ⟨(some 28), (.call (.c (.func (.func 17) #[] #[])) [(.t 27)]), none⟩, ⟨(some 29), (.bin .add (.t 22) (.t 28)), none⟩, ⟨(some 3), (.mv (.t 29)), none⟩])))
 (.reg [⟨(some 16), (.mv (.t 4)), none⟩, ⟨(some 17), (.bin .add (.t 16) (.c (.int .i64 1))), none⟩, ⟨(some 4), (.mv (.t 17)), none⟩])))
def lp17_1 : ACode := (.seq (.seq (.reg [⟨(some 35), (.mv (.t 6)), none⟩, ⟨(some 36), (.fa 0 (.t 1)), none⟩, ⟨(some 37), (.ld (.t 36)), none⟩, ⟨(some 38), (.len 0 (.t 37)), none⟩, ⟨(some 39), (.bin .lss (.t 35) (.t 38)), none⟩])
 (.cond (.t 39) .skip
 (.exit 2)))
 (.seq (.block 3 (.seq (.draw [⟨(some 42), (.fa 0 (.t 1)), none⟩, ⟨(some 43), (.ld (.t 42)), none⟩, ⟨(some 44), (.mv (.t 6)), none⟩, ⟨(some 45), (.ixs (.t 43) (.t 44)), none⟩, ⟨(some 46), (.conv .i64 (.t 45)), none⟩, ⟨(some 47), (.bin .quo (.t 46) (.c (.int .i64 16))), none⟩, ⟨(some 48), (.fa 0 (.t 1)), none⟩, ⟨(some 49), (.ld (.t 48)), none⟩, ⟨(some 50), (.mv (.t 6)), none⟩, ⟨(some 51), (.ixs (.t 49) (.t 50)), none⟩, ⟨(some 52), (.conv .i64 (.t 51)), none⟩, ⟨(some 53), (.bin .rem (.t 52) (.c (.int .i64 16))), none⟩, ⟨(some 7), (.mv (.t 47)), none⟩, ⟨(some 8), (.mv (.t 53)), none⟩] [])
 (.draw [⟨(some 54), (.mv (.t 5)), none⟩, ⟨(some 55), (.mv (.t 7)), none⟩, ⟨(some 56), (.mv (.t 7)), none⟩, ⟨(some 57), (.bin .add (.t 56) (.c (.int .i64 1))), none⟩, ⟨(some 58), (.cut (.c (.string ⟨#[48, 49, 50, 51, 52, 53, 54, 55, 56, 57, 97, 98, 99, 100, 101, 102]⟩)) (some (.t 55)) (some (.t 57))), none⟩, ⟨(some 59), (.bin .add (.t 54) (.t 58)), none⟩, ⟨(some 60), (.mv (.t 8)), none⟩, ⟨(some 61), (.mv (.t 8)), none⟩, ⟨(some 62), (.bin .add (.t 61) (.c (.int .i64 1))), none⟩, ⟨(some 63), (.cut (.c (.string ⟨#[48, 49, 50, 51, 52, 53, 54, 55, 56, 57, 97, 98, 99, 100, 101, 102]⟩)) (some (.t 60)) (some (.t 62))), none⟩, ⟨(some 64), (.bin .add (.t 59) (.t 63)), none⟩, ⟨(some 5), (.mv (.t 64)), none⟩] [])))
 (.reg [⟨(some 40), (.mv (.t 6)), none⟩, ⟨(some 41), (.bin .add (.t 40) (.c (.int .i64 1))), none⟩, ⟨(some 6), (.mv (.t 41)), none⟩])))
def ir17 : AFn := ⟨66, [.t 2],
 (.seq (.reg [⟨(some 1), (.box 24 (.t 0)), none⟩, ⟨(some 2), (.mv (.c (.string ⟨#[]⟩))), none⟩])
 (.seq (.seq (.reg [⟨(some 9), (.fa 1 (.t 1)), none⟩, ⟨(some 10), (.ld (.t 9)), none⟩])
 (.cond (.t 10) (.seq (.reg [⟨(some 3), (.mv (.c (.string ⟨#[40]⟩))), none⟩])
 (.seq (.seq (.reg [⟨(some 4), (.mv (.c (.int .i64 0))), none⟩])
 (.block 0 (.loop lp17_0)))
 (.seq (.reg [⟨(some 30), (.mv (.t 3)), none⟩, ⟨(some 31), (.bin .add (.t 30) (.c (.string ⟨#[41]⟩))), none⟩, ⟨(some 2), (.mv (.t 31)), none⟩])
 .ret)))
 .skip))
 (.seq (.seq (.reg [⟨(some 32), (.fa 0 (.t 1)), none⟩, ⟨(some 33), (.ld (.t 32)), none⟩, ⟨(some 34), (.bin .eql (.t 33) (.c (.string ⟨#[]⟩))), none⟩])
 (.cond (.t 34) (.seq (.reg [⟨(some 2), (.mv (.c (.string ⟨#[45]⟩))), none⟩])
 .ret)
 .skip))
 (.seq (.reg [⟨(some 5), (.mv (.c (.string ⟨#[]⟩))), none⟩])
 (.seq (.seq (.reg [⟨(some 6), (.mv (.c (.int .i64 0))), none⟩])
 (.block 2 (.loop lp17_1)))
 (.seq (.reg [⟨(some 65), (.mv (.t 5)), none⟩, ⟨(some 2), (.mv (.t 65)), none⟩])
 .ret))))))⟩
theorem ok17 : FOk alT Try.prog 0 17 ir17 := ⟨_, Try.func17, by kernel_rfl, by kernel_rfl⟩
-- 18 hatchway/item.Copy
def ir18 : AFn := ⟨9, [.cell 2 (some 3)],
 (.seq (.reg [⟨(some 1), (.box 24 (.t 0)), none⟩, ⟨(some 2), (.new 24 [(.string ⟨#[]⟩), (.bool false), (.slice none 0 0)]), none⟩])
 (.seq (.seq (.reg [⟨(some 3), (.ldn 3 (.t 1)), none⟩, ⟨(some 4), (.call (.c (.func (.func 57) #[] #[])) [(.t 3)]), none⟩, ⟨(some 5), (.un .not (.t 4)), none⟩])
 (.cond (.t 5) (.seq (.reg [⟨(some 6), (.build [(.string ⟨#[]⟩), (.bool false), (.slice none 0 0)] []), none⟩, ⟨none, (.st 3 (.t 2) (.t 6)), none⟩])
 .ret)
 .skip))
 (.seq (.reg [⟨(some 7), (.ldn 3 (.t 1)), none⟩, ⟨(some 8), (.call (.c (.func (.func 58) #[] #[])) [(.t 7)]), none⟩, ⟨none, (.st 3 (.t 2) (.t 8)), none⟩])
 .ret)))⟩
theorem ok18 : FOk alT Try.prog 0 18 ir18 := ⟨_, Try.func18, by kernel_rfl, by kernel_rfl⟩
-- 19 hatchway/item.List
def ir19 : AFn := ⟨6, [.cell 2 (some 3)],
 (.seq (.reg [⟨(some 2), (.new 24 [(.string ⟨#[]⟩), (.bool false), (.slice none 0 0)]), none⟩])
 (.seq (.reg [⟨(some 3), (.mv (.t 0)), none⟩, ⟨(some 4), (.app 24 3 48 (.c (.slice none 0 0)) (.t 3)), none⟩, ⟨(some 5), (.build [(.string ⟨#[]⟩), (.bool false), (.slice none 0 0)] [(1, 1, (.c (.bool true))), (2, 1, (.t 4))]), none⟩, ⟨none, (.st 3 (.t 2) (.t 5)), none⟩])
 .ret))⟩
theorem ok19 : FOk alT Try.prog 0 19 ir19 := ⟨_, Try.func19, by kernel_rfl, by kernel_rfl⟩
-- 42 hatchway/item.Show
def ir42 : AFn := ⟨11, [.t 2, .t 3],
 (.seq (.reg [⟨(some 1), (.box 24 (.t 0)), none⟩, ⟨(some 2), (.mv (.c (.string ⟨#[]⟩))), none⟩, ⟨(some 3), (.mv (.c (.int .i64 0))), none⟩])
 (.seq (.seq (.reg [⟨(some 5), (.ldn 3 (.t 1)), none⟩, ⟨(some 6), (.call (.c (.func (.func 57) #[] #[])) [(.t 5)]), none⟩, ⟨(some 7), (.un .not (.t 6)), none⟩])
 (.cond (.t 7) (.seq (.reg [⟨(some 2), (.mv (.c (.string ⟨#[]⟩))), none⟩, ⟨(some 3), (.mv (.c (.int .i64 1))), none⟩])
 .ret)
 .skip))
 (.seq (.reg [⟨(some 4), (.new 1000098 [(.pointer none), (.slice none 0 0)]), none⟩])
 (.seq (.reg [⟨(some 8), (.ldn 3 (.t 1)), none⟩, ⟨(some 9), (.call (.c (.func (.func 81) #[] #[])) [(.t 4), (.t 8)]), none⟩])
 (.seq (.reg [⟨(some 10), (.call (.c (.func (.func 61) #[] #[])) [(.t 4)]), none⟩, ⟨(some 2), (.mv (.t 10)), none⟩, ⟨(some 3), (.mv (.c (.int .i64 0))), none⟩])
 .ret)))))⟩
theorem ok42 : FOk alT Try.prog 0 42 ir42 := ⟨_, Try.func42, by kernel_rfl, by kernel_rfl⟩
-- 43 hatchway/item.Read
def ir43 : AFn := ⟨24, [.cell 2 (some 3), .t 3],
 (.seq (.reg [⟨(some 2), (.new 24 [(.string ⟨#[]⟩), (.bool false), (.slice none 0 0)]), none⟩, ⟨(some 3), (.mv (.c (.int .i64 0))), none⟩])
 (.seq (.reg [⟨(some 6), (.mv (.t 0)), none⟩, ⟨(some 7), (.build [(.string ⟨#[]⟩), (.int .i64 0), (.bool false)] [(0, 1, (.t 6))]), none⟩, ⟨(some 8), (.box 131 (.t 7)), none⟩, ⟨(some 4), (.mv (.t 8)), none⟩])
 (.seq (.reg [⟨(some 9), (.mv (.t 4)), none⟩, ⟨(some 10), (.call (.c (.func (.func 82) #[] #[])) [(.t 9), (.c (.int .i64 1))]), none⟩, ⟨(some 5), (.new 24 [(.string ⟨#[]⟩), (.bool false), (.slice none 0 0)]), none⟩, ⟨none, (.st 3 (.t 5) (.t 10)), none⟩])
 (.seq (.seq (.reg [⟨(some 11), (.mv (.t 4)), none⟩, ⟨(some 12), (.nilchk (.t 11)), none⟩, ⟨(some 13), (.fa 2 (.t 12)), none⟩, ⟨(some 14), (.ld (.t 13)), none⟩, ⟨(some 15), (.mv (.t 14)), none⟩, ⟨(some 16), (.mv (.t 4)), (some (15, false))⟩, ⟨(some 17), (.nilchk (.t 16)), (some (15, false))⟩, ⟨(some 18), (.fa 0 (.t 17)), (some (15, false))⟩, ⟨(some 19), (.ld (.t 18)), (some (15, false))⟩, ⟨(some 20), (.bin .neq (.t 19) (.c (.string ⟨#[]⟩))), (some (15, false))⟩, ⟨(some 21), (.pick (.t 15) (.c (.bool true)) (.t 20)), none⟩])
 (.cond (.t 21) (.seq (.reg [⟨(some 22), (.build [(.string ⟨#[]⟩), (.bool false), (.slice none 0 0)] []), none⟩, ⟨none, (.st 3 (.t 2) (.t 22)), none⟩, ⟨(some 3), (.mv (.c (.int .i64 3))), none⟩])
 .ret)
 .skip))
 (.seq (.reg [⟨(some 23), (.ldn 3 (.t 5)), none⟩, ⟨none, (.st 3 (.t 2) (.t 23)), none⟩, ⟨(some 3), (.mv (.c (.int .i64 0))), none⟩])
 .ret)))))⟩
theorem ok43 : FOk alT Try.prog 0 43 ir43 := ⟨_, Try.func43, by kernel_rfl, by kernel_rfl⟩
-- 44 hatchway/hatchwayref08.Same
def lp44_0 : ACode := (.seq (.seq (.reg [⟨(some 27), (.mv (.t 5)), none⟩, ⟨(some 28), (.fa 2 (.t 2)), none⟩, ⟨(some 29), (.ld (.t 28)), none⟩, ⟨(some 30), (.len 1 (.t 29)), none⟩, ⟨(some 31), (.bin .lss (.t 27) (.t 30)), none⟩])
 (.cond (.t 31) .skip
 (.exit 0)))
 (.seq (.block 1 (.seq (.drawD [⟨(some 34), (.fa 2 (.t 2)), none⟩, ⟨(some 35), (.ld (.t 34)), none⟩, ⟨(some 36), (.mv (.t 5)), none⟩, ⟨(some 37), (.ia 3 (.t 35) (.t 36)), none⟩, ⟨(some 38), (.ldn 3 (.t 37)), none⟩, ⟨(some 39), (.fa 2 (.t 3)), none⟩, ⟨(some 40), (.ld (.t 39)), none⟩, ⟨(some 41), (.mv (.t 5)), none⟩, ⟨(some 42), (.ia 3 (.t 40) (.t 41)), none⟩, ⟨(some 43), (.ldn 3 (.t 42)), none⟩] [(⟨(some 44), (.call (.c (.func (.func 44) #[] #[])) [(.t 38), (.t 43)]), none⟩, []), (⟨(some 45), (.un .not (.t 44)), none⟩, [])])
 (.cond (.t 45) (.seq (.reg [⟨(some 4), (.mv (.c (.bool false))), none⟩])
 .ret)
 .skip)))
 (.reg [⟨(some 32), (.mv (.t 5)), none⟩, ⟨(some 33), (.bin .add (.t 32) (.c (.int .i64 1))), none⟩, ⟨(some 5), (.mv (.t 33)), none⟩])))
def ir44 : AFn := ⟨46, [.t 4],
 (.seq (.reg [⟨(some 2), (.box 24 (.t 0)), none⟩, ⟨(some 3), (.box 24 (.t 1)), none⟩, ⟨(some 4), (.mv (.c (.bool false))), none⟩])
 (.seq (.seq (.reg [⟨(some 6), (.fa 1 (.t 2)), none⟩, ⟨(some 7), (.ld (.t 6)), none⟩, ⟨(some 8), (.fa 1 (.t 3)), none⟩, ⟨(some 9), (.ld (.t 8)), none⟩, ⟨(some 10), (.booleq true (.t 7) (.t 9)), none⟩, ⟨(some 11), (.mv (.t 10)), none⟩, ⟨(some 12), (.fa 0 (.t 2)), (some (11, false))⟩, ⟨(some 13), (.ld (.t 12)), (some (11, false))⟩, ⟨(some 14), (.fa 0 (.t 3)), (some (11, false))⟩, ⟨(some 15), (.ld (.t 14)), (some (11, false))⟩, ⟨(some 16), (.bin .neq (.t 13) (.t 15)), (some (11, false))⟩, ⟨(some 17), (.pick (.t 11) (.c (.bool true)) (.t 16)), none⟩, ⟨(some 18), (.mv (.t 17)), none⟩, ⟨(some 19), (.fa 2 (.t 2)), (some (18, false))⟩, ⟨(some 20), (.ld (.t 19)), (some (18, false))⟩, ⟨(some 21), (.len 1 (.t 20)), (some (18, false))⟩, ⟨(some 22), (.fa 2 (.t 3)), (some (18, false))⟩, ⟨(some 23), (.ld (.t 22)), (some (18, false))⟩, ⟨(some 24), (.len 1 (.t 23)), (some (18, false))⟩, ⟨(some 25), (.bin .neq (.t 21) (.t 24)), (some (18, false))⟩, ⟨(some 26), (.pick (.t 18) (.c (.bool true)) (.t 25)), none⟩])
 (.cond (.t 26) (.seq (.reg [⟨(some 4), (.mv (.c (.bool false))), none⟩])
 .ret)
 .skip))
 (.seq (.seq (.reg [⟨(some 5), (.mv (.c (.int .i64 0))), none⟩])
 (.block 0 (.loop lp44_0)))
 (.seq (.reg [⟨(some 4), (.mv (.c (.bool true))), none⟩])
 .ret))))⟩
theorem ok44 : FOk alT Try.prog 0 44 ir44 := ⟨_, Try.func44, by kernel_rfl, by kernel_rfl⟩
-- 45 hatchway/hatchwayref08.Read
def ir45 : AFn := ⟨22, [.cell 2 (some 3), .t 3],
 (.seq (.reg [⟨(some 2), (.new 24 [(.string ⟨#[]⟩), (.bool false), (.slice none 0 0)]), none⟩, ⟨(some 3), (.mv (.c (.int .i64 0))), none⟩])
 (.seq (.reg [⟨(some 7), (.mv (.t 0)), none⟩, ⟨(some 8), (.call (.c (.func (.func 83) #[] #[])) [(.t 7), (.c (.int .i64 0)), (.c (.int .i64 1))]), none⟩, ⟨(some 6), (.mv (.t 8)), none⟩, ⟨(some 9), (.ext 0 (.t 6)), none⟩, ⟨(some 10), (.ext 1 (.t 6)), none⟩, ⟨(some 4), (.new 24 [(.string ⟨#[]⟩), (.bool false), (.slice none 0 0)]), none⟩, ⟨none, (.st 3 (.t 4) (.t 9)), none⟩, ⟨(some 5), (.mv (.t 10)), none⟩])
 (.seq (.seq (.reg [⟨(some 11), (.mv (.t 5)), none⟩, ⟨(some 12), (.mv (.t 0)), none⟩, ⟨(some 13), (.len 0 (.t 12)), none⟩, ⟨(some 14), (.bin .neq (.t 11) (.t 13)), none⟩, ⟨(some 15), (.mv (.t 14)), none⟩, ⟨(some 16), (.ldn 3 (.t 4)), (some (15, false))⟩, ⟨(some 17), (.call (.c (.func (.func 16) #[] #[])) [(.t 16)]), (some (15, false))⟩, ⟨(some 18), (.un .not (.t 17)), (some (15, false))⟩, ⟨(some 19), (.pick (.t 15) (.c (.bool true)) (.t 18)), none⟩])
 (.cond (.t 19) (.seq (.reg [⟨(some 20), (.build [(.string ⟨#[]⟩), (.bool false), (.slice none 0 0)] []), none⟩, ⟨none, (.st 3 (.t 2) (.t 20)), none⟩, ⟨(some 3), (.mv (.c (.int .i64 3))), none⟩])
 .ret)
 .skip))
 (.seq (.reg [⟨(some 21), (.ldn 3 (.t 4)), none⟩, ⟨none, (.st 3 (.t 2) (.t 21)), none⟩, ⟨(some 3), (.mv (.c (.int .i64 0))), none⟩])
 .ret))))⟩
theorem ok45 : FOk alT Try.prog 0 45 ir45 := ⟨_, Try.func45, by kernel_rfl, by kernel_rfl⟩
-- 51 hatchway/item.Text
def ir51 : AFn := ⟨5, [.cell 2 (some 3)],
 (.seq (.reg [⟨(some 2), (.new 24 [(.string ⟨#[]⟩), (.bool false), (.slice none 0 0)]), none⟩])
 (.seq (.reg [⟨(some 3), (.mv (.t 0)), none⟩, ⟨(some 4), (.build [(.string ⟨#[]⟩), (.bool false), (.slice none 0 0)] [(0, 1, (.t 3))]), none⟩, ⟨none, (.st 3 (.t 2) (.t 4)), none⟩])
 .ret))⟩
theorem ok51 : FOk alT Try.prog 0 51 ir51 := ⟨_, Try.func51, by kernel_rfl, by kernel_rfl⟩
-- 52 hatchway/hatchwaylaw08.room
def lp52_0 : ACode := (.seq (.seq (.reg [⟨(some 8), (.mv (.t 5)), none⟩, ⟨(some 9), (.fa 2 (.t 2)), none⟩, ⟨(some 10), (.ld (.t 9)), none⟩, ⟨(some 11), (.len 1 (.t 10)), none⟩, ⟨(some 12), (.bin .lss (.t 8) (.t 11)), none⟩, ⟨(some 13), (.mv (.t 12)), none⟩, ⟨(some 14), (.mv (.t 1)), (some (13, true))⟩, ⟨(some 15), (.bin .gtr (.t 14) (.c (.int .i64 0))), (some (13, true))⟩, ⟨(some 16), (.pick (.t 13) (.t 15) (.c (.bool false))), none⟩])
 (.cond (.t 16) .skip
 (.exit 0)))
 (.seq (.block 1 (.reg [⟨(some 19), (.fa 2 (.t 2)), none⟩, ⟨(some 20), (.ld (.t 19)), none⟩, ⟨(some 21), (.mv (.t 5)), none⟩, ⟨(some 22), (.ia 3 (.t 20) (.t 21)), none⟩, ⟨(some 23), (.ldn 3 (.t 22)), none⟩, ⟨(some 24), (.mv (.t 1)), none⟩, ⟨(some 25), (.call (.c (.func (.func 52) #[] #[])) [(.t 23), (.t 24)]), none⟩, ⟨(some 1), (.mv (.t 25)), none⟩]))
 (.reg [⟨(some 17), (.mv (.t 5)), none⟩, ⟨(some 18), (.bin .add (.t 17) (.c (.int .i64 1))), none⟩, ⟨(some 5), (.mv (.t 18)), none⟩])))
def ir52 : AFn := ⟨28, [.t 4],
 (.seq (.reg [⟨(some 2), (.box 24 (.t 0)), none⟩, ⟨(some 4), (.mv (.c (.int .i64 0))), none⟩])
 (.seq (.reg [⟨(some 6), (.mv (.t 1)), none⟩, ⟨(some 7), (.bin .sub (.t 6) (.c (.int .i64 1))), none⟩, ⟨(some 1), (.mv (.t 7)), none⟩])
 (.seq (.seq (.reg [⟨(some 5), (.mv (.c (.int .i64 0))), none⟩])
 (.block 0 (.loop lp52_0)))
 (.seq (.reg [⟨(some 26), (.mv (.t 1)), none⟩, ⟨(some 27), (.mm true (.t 26) [(.c (.int .i64 0))]), none⟩, ⟨(some 4), (.mv (.t 27)), none⟩])
 .ret))))⟩
theorem ok52 : FOk alT Try.prog 0 52 ir52 := ⟨_, Try.func52, by kernel_rfl, by kernel_rfl⟩
-- 53 hatchway/hatchwaylaw08.size
def lp53_0 : ACode := (.seq (.seq (.reg [⟨(some 9), (.mv (.t 4)), none⟩, ⟨(some 10), (.fa 2 (.t 1)), none⟩, ⟨(some 11), (.ld (.t 10)), none⟩, ⟨(some 12), (.len 1 (.t 11)), none⟩, ⟨(some 13), (.bin .lss (.t 9) (.t 12)), none⟩])
 (.cond (.t 13) .skip
 (.exit 0)))
 (.seq (.block 1 (.reg [⟨(some 16), (.mv (.t 3)), none⟩, ⟨(some 17), (.fa 2 (.t 1)), none⟩, ⟨(some 18), (.ld (.t 17)), none⟩, ⟨(some 19), (.mv (.t 4)), none⟩, ⟨(some 20), (.ia 3 (.t 18) (.t 19)), none⟩, ⟨(some 21), (.ldn 3 (.t 20)), none⟩, ⟨(some 22), (.call (.c (.func (.func 53) #[] #[])) [(.t 21)]), none⟩, ⟨(some 23), (.bin .add (.t 16) (.t 22)), none⟩, ⟨(some 24), (.mm false (.t 23) [(.c (.int .i64 10000))]), none⟩, ⟨(some 3), (.mv (.t 24)), none⟩]))
 (.reg [⟨(some 14), (.mv (.t 4)), none⟩, ⟨(some 15), (.bin .add (.t 14) (.c (.int .i64 1))), none⟩, ⟨(some 4), (.mv (.t 15)), none⟩])))
def ir53 : AFn := ⟨26, [.t 2],
 (.seq (.reg [⟨(some 1), (.box 24 (.t 0)), none⟩, ⟨(some 2), (.mv (.c (.int .i64 0))), none⟩])
 (.seq (.reg [⟨(some 5), (.fa 0 (.t 1)), none⟩, ⟨(some 6), (.ld (.t 5)), none⟩, ⟨(some 7), (.len 0 (.t 6)), none⟩, ⟨(some 8), (.mm false (.t 7) [(.c (.int .i64 10000))]), none⟩, ⟨(some 3), (.mv (.t 8)), none⟩])
 (.seq (.seq (.reg [⟨(some 4), (.mv (.c (.int .i64 0))), none⟩])
 (.block 0 (.loop lp53_0)))
 (.seq (.reg [⟨(some 25), (.mv (.t 3)), none⟩, ⟨(some 2), (.mv (.t 25)), none⟩])
 .ret))))⟩
theorem ok53 : FOk alT Try.prog 0 53 ir53 := ⟨_, Try.func53, by kernel_rfl, by kernel_rfl⟩
-- 54 hatchway/hatchwayref08.right
def lp54_0 : ACode := (.seq (.seq (.reg [⟨(some 22), (.mv (.t 3)), none⟩, ⟨(some 23), (.fa 2 (.t 1)), none⟩, ⟨(some 24), (.ld (.t 23)), none⟩, ⟨(some 25), (.len 1 (.t 24)), none⟩, ⟨(some 26), (.bin .lss (.t 22) (.t 25)), none⟩])
 (.cond (.t 26) .skip
 (.exit 0)))
 (.seq (.block 1 (.seq (.reg [⟨(some 29), (.fa 2 (.t 1)), none⟩, ⟨(some 30), (.ld (.t 29)), none⟩, ⟨(some 31), (.mv (.t 3)), none⟩, ⟨(some 32), (.ia 3 (.t 30) (.t 31)), none⟩, ⟨(some 33), (.ldn 3 (.t 32)), none⟩, ⟨(some 34), (.call (.c (.func (.func 54) #[] #[])) [(.t 33)]), none⟩, ⟨(some 35), (.un .not (.t 34)), none⟩])
 (.cond (.t 35) (.seq (.reg [⟨(some 2), (.mv (.c (.bool false))), none⟩])
 .ret)
 .skip)))
 (.reg [⟨(some 27), (.mv (.t 3)), none⟩, ⟨(some 28), (.bin .add (.t 27) (.c (.int .i64 1))), none⟩, ⟨(some 3), (.mv (.t 28)), none⟩])))
def ir54 : AFn := ⟨36, [.t 2],
 (.seq (.reg [⟨(some 1), (.box 24 (.t 0)), none⟩, ⟨(some 2), (.mv (.c (.bool false))), none⟩])
 (.seq (.seq (.reg [⟨(some 4), (.fa 1 (.t 1)), none⟩, ⟨(some 5), (.ld (.t 4)), none⟩, ⟨(some 6), (.mv (.t 5)), none⟩, ⟨(some 7), (.fa 0 (.t 1)), (some (6, true))⟩, ⟨(some 8), (.ld (.t 7)), (some (6, true))⟩, ⟨(some 9), (.bin .neq (.t 8) (.c (.string ⟨#[]⟩))), (some (6, true))⟩, ⟨(some 10), (.pick (.t 6) (.t 9) (.c (.bool false))), none⟩, ⟨(some 11), (.mv (.t 10)), none⟩, ⟨(some 12), (.fa 1 (.t 1)), (some (11, false))⟩, ⟨(some 13), (.ld (.t 12)), (some (11, false))⟩, ⟨(some 14), (.un .not (.t 13)), (some (11, false))⟩, ⟨(some 15), (.mv (.t 14)), (some (11, false))⟩, ⟨(some 16), (.fa 2 (.t 1)), (some (15, true))⟩, ⟨(some 17), (.ld (.t 16)), (some (15, true))⟩, ⟨(some 18), (.len 1 (.t 17)), (some (15, true))⟩, ⟨(some 19), (.bin .gtr (.t 18) (.c (.int .i64 0))), (some (15, true))⟩, ⟨(some 20), (.pick (.t 15) (.t 19) (.c (.bool false))), (some (11, false))⟩, ⟨(some 21), (.pick (.t 11) (.c (.bool true)) (.t 20)), none⟩])
 (.cond (.t 21) (.seq (.reg [⟨(some 2), (.mv (.c (.bool false))), none⟩])
 .ret)
 .skip))
 (.seq (.seq (.reg [⟨(some 3), (.mv (.c (.int .i64 0))), none⟩])
 (.block 0 (.loop lp54_0)))
 (.seq (.reg [⟨(some 2), (.mv (.c (.bool true))), none⟩])
 .ret))))⟩
theorem ok54 : FOk alT Try.prog 0 54 ir54 := ⟨_, Try.func54, by kernel_rfl, by kernel_rfl⟩
-- 55 hatchway/hatchwayref08.Deep
def lp55_0 : ACode := (.seq (.seq (.reg [⟨(some 6), (.mv (.t 4)), none⟩, ⟨(some 7), (.fa 2 (.t 1)), none⟩, ⟨(some 8), (.ld (.t 7)), none⟩, ⟨(some 9), (.len 1 (.t 8)), none⟩, ⟨(some 10), (.bin .lss (.t 6) (.t 9)), none⟩])
 (.cond (.t 10) .skip
 (.exit 0)))
 (.seq (.block 1 (.seq (.reg [⟨(some 13), (.fa 2 (.t 1)), none⟩, ⟨(some 14), (.ld (.t 13)), none⟩, ⟨(some 15), (.mv (.t 4)), none⟩, ⟨(some 16), (.ia 3 (.t 14) (.t 15)), none⟩, ⟨(some 17), (.ldn 3 (.t 16)), none⟩, ⟨(some 18), (.call (.c (.func (.func 55) #[] #[])) [(.t 17)]), none⟩, ⟨(some 5), (.mv (.t 18)), none⟩])
 (.seq (.reg [⟨(some 19), (.mv (.t 5)), none⟩, ⟨(some 20), (.mv (.t 3)), none⟩, ⟨(some 21), (.bin .gtr (.t 19) (.t 20)), none⟩])
 (.cond (.t 21) (.reg [⟨(some 22), (.mv (.t 5)), none⟩, ⟨(some 3), (.mv (.t 22)), none⟩])
 .skip))))
 (.reg [⟨(some 11), (.mv (.t 4)), none⟩, ⟨(some 12), (.bin .add (.t 11) (.c (.int .i64 1))), none⟩, ⟨(some 4), (.mv (.t 12)), none⟩])))
def ir55 : AFn := ⟨25, [.t 2],
 (.seq (.reg [⟨(some 1), (.box 24 (.t 0)), none⟩, ⟨(some 2), (.mv (.c (.int .i64 0))), none⟩])
 (.seq (.reg [⟨(some 3), (.mv (.c (.int .i64 0))), none⟩])
 (.seq (.seq (.reg [⟨(some 4), (.mv (.c (.int .i64 0))), none⟩])
 (.block 0 (.loop lp55_0)))
 (.seq (.reg [⟨(some 23), (.mv (.t 3)), none⟩, ⟨(some 24), (.bin .add (.t 23) (.c (.int .i64 1))), none⟩, ⟨(some 2), (.mv (.t 24)), none⟩])
 .ret))))⟩
theorem ok55 : FOk alT Try.prog 0 55 ir55 := ⟨_, Try.func55, by kernel_rfl, by kernel_rfl⟩
-- 56 hatchway/hatchwayref08.Count
def lp56_0 : ACode := (.seq (.seq (.reg [⟨(some 5), (.mv (.t 4)), none⟩, ⟨(some 6), (.fa 2 (.t 1)), none⟩, ⟨(some 7), (.ld (.t 6)), none⟩, ⟨(some 8), (.len 1 (.t 7)), none⟩, ⟨(some 9), (.bin .lss (.t 5) (.t 8)), none⟩])
 (.cond (.t 9) .skip
 (.exit 0)))
 (.seq (.block 1 (.reg [⟨(some 12), (.mv (.t 3)), none⟩, ⟨(some 13), (.fa 2 (.t 1)), none⟩, ⟨(some 14), (.ld (.t 13)), none⟩, ⟨(some 15), (.mv (.t 4)), none⟩, ⟨(some 16), (.ia 3 (.t 14) (.t 15)), none⟩, ⟨(some 17), (.ldn 3 (.t 16)), none⟩, ⟨(some 18), (.call (.c (.func (.func 56) #[] #[])) [(.t 17)]), none⟩, ⟨(some 19), (.bin .add (.t 12) (.t 18)), none⟩, ⟨(some 3), (.mv (.t 19)), none⟩]))
 (.reg [⟨(some 10), (.mv (.t 4)), none⟩, ⟨(some 11), (.bin .add (.t 10) (.c (.int .i64 1))), none⟩, ⟨(some 4), (.mv (.t 11)), none⟩])))
def ir56 : AFn := ⟨21, [.t 2],
 (.seq (.reg [⟨(some 1), (.box 24 (.t 0)), none⟩, ⟨(some 2), (.mv (.c (.int .i64 0))), none⟩])
 (.seq (.reg [⟨(some 3), (.mv (.c (.int .i64 1))), none⟩])
 (.seq (.seq (.reg [⟨(some 4), (.mv (.c (.int .i64 0))), none⟩])
 (.block 0 (.loop lp56_0)))
 (.seq (.reg [⟨(some 20), (.mv (.t 3)), none⟩, ⟨(some 2), (.mv (.t 20)), none⟩])
 .ret))))⟩
theorem ok56 : FOk alT Try.prog 0 56 ir56 := ⟨_, Try.func56, by kernel_rfl, by kernel_rfl⟩
-- 57 hatchway/item.May
def ir57 : AFn := ⟨13, [.t 2],
 (.seq (.reg [⟨(some 1), (.box 24 (.t 0)), none⟩, ⟨(some 2), (.mv (.c (.bool false))), none⟩])
 (.seq (.reg [⟨(some 7), (.ldn 3 (.t 1)), none⟩, ⟨(some 8), (.call (.c (.func (.func 91) #[] #[])) [(.t 7)]), none⟩, ⟨(some 6), (.mv (.t 8)), none⟩, ⟨(some 9), (.ext 0 (.t 6)), none⟩, ⟨(some 10), (.ext 1 (.t 6)), none⟩, ⟨(some 11), (.ext 2 (.t 6)), none⟩, ⟨(some 3), (.mv (.t 9)), none⟩, ⟨(some 4), (.mv (.t 10)), none⟩, ⟨(some 5), (.mv (.t 11)), none⟩])
 (.seq (.reg [⟨(some 12), (.mv (.t 5)), none⟩, ⟨(some 2), (.mv (.t 12)), none⟩])
 .ret)))⟩
theorem ok57 : FOk alT Try.prog 0 57 ir57 := ⟨_, Try.func57, by kernel_rfl, by kernel_rfl⟩
-- 58 hatchway/item.copied
def lp58_0 : ACode := (.seq (.reg [⟨(some 15), (.bin .lss (.t 14) (.t 13)), none⟩])
 (.seq (.cond (.t 15) .skip
 (.exit 0))
 (.seq (.block 1 (.seq (.reg [⟨(some 16), (.ia 3 (.t 12) (.t 14)), none⟩, ⟨(some 17), (.ldn 3 (.t 16)), none⟩, ⟨(some 5), (.new 24 [(.string ⟨#[]⟩), (.bool false), (.slice none 0 0)]), none⟩, ⟨none, (.st 3 (.t 5) (.t 17)), none⟩])
 (.drawD [⟨(some 18), (.fa 2 (.t 3)), none⟩, ⟨(some 19), (.ld (.t 18)), none⟩, ⟨(some 20), (.ldn 3 (.t 5)), none⟩, ⟨(some 24), (.fa 2 (.t 3)), none⟩] [(⟨(some 21), (.call (.c (.func (.func 58) #[] #[])) [(.t 20)]), none⟩, [⟨(some 19), (.ld (.t 18)), none⟩]), (⟨(some 22), (.lit 24 [(.string ⟨#[]⟩), (.bool false), (.slice none 0 0)] 1 3 [(0, 3, (.t 21))]), none⟩, [⟨(some 19), (.ld (.t 18)), none⟩]), (⟨(some 23), (.app 24 3 48 (.t 19) (.t 22)), none⟩, []), (⟨none, (.st 1 (.t 24) (.t 23)), none⟩, [])])))
 (.reg [⟨(some 25), (.bin .add (.t 14) (.c (.int .i64 1))), none⟩, ⟨(some 14), (.mv (.t 25)), none⟩]))))
def ir58 : AFn := ⟨27, [.cell 2 (some 3)],
 (.seq (.reg [⟨(some 1), (.box 24 (.t 0)), none⟩, ⟨(some 2), (.new 24 [(.string ⟨#[]⟩), (.bool false), (.slice none 0 0)]), none⟩])
 (.seq (.reg [⟨(some 6), (.fa 0 (.t 1)), none⟩, ⟨(some 7), (.ld (.t 6)), none⟩, ⟨(some 8), (.fa 1 (.t 1)), none⟩, ⟨(some 9), (.ld (.t 8)), none⟩, ⟨(some 10), (.build [(.string ⟨#[]⟩), (.bool false), (.slice none 0 0)] [(0, 1, (.t 7)), (1, 1, (.t 9))]), none⟩, ⟨(some 3), (.new 24 [(.string ⟨#[]⟩), (.bool false), (.slice none 0 0)]), none⟩, ⟨none, (.st 3 (.t 3) (.t 10)), none⟩])
 (.seq (.seq (.reg [⟨(some 11), (.fa 2 (.t 1)), none⟩, ⟨(some 12), (.ld (.t 11)), none⟩, ⟨(some 13), (.len 1 (.t 12)), none⟩, ⟨(some 14), (.mv (.c (.int .i64 0))), none⟩])
 (.block 0 (.loop lp58_0)))
 (.seq (.reg [⟨(some 26), (.ldn 3 (.t 3)), none⟩, ⟨none, (.st 3 (.t 2) (.t 26)), none⟩])
 .ret))))⟩
theorem ok58 : FOk alT Try.prog 0 58 ir58 := ⟨_, Try.func58, by kernel_rfl, by kernel_rfl⟩
-- 60 (*strings.Builder).WriteByte
def ir60 : AFn := ⟨17, [.t 4],
 (.seq (.reg [⟨(some 4), (.mv (.c .nilIface)), none⟩])
 (.seq (.reg [⟨(some 5), (.mv (.t 0)), none⟩, ⟨(some 6), (.call (.c (.func (.func 94) #[] #[])) [(.t 5)]), none⟩])
 (.seq (.reg [⟨(some 7), (.mv (.t 0)), none⟩, ⟨(some 8), (.mv (.t 0)), none⟩, ⟨(some 9), (.nilchk (.t 8)), none⟩, ⟨(some 10), (.fa 1 (.t 9)), none⟩, ⟨(some 11), (.ld (.t 10)), none⟩, ⟨(some 12), (.mv (.t 1)), none⟩, ⟨(some 13), (.lit 5 [(.int .u8 0)] 1 1 [(0, 1, (.t 12))]), none⟩, ⟨(some 14), (.app 5 1 1 (.t 11) (.t 13)), none⟩, ⟨(some 15), (.nilchk (.t 7)), none⟩, ⟨(some 16), (.fa 1 (.t 15)), none⟩, ⟨none, (.st 1 (.t 16) (.t 14)), none⟩])
 (.seq (.reg [⟨(some 4), (.mv (.c .nilIface)), none⟩])
 .ret))))⟩
theorem ok60 : FOk alT Try.prog 0 60 ir60 := ⟨_, Try.func60, by kernel_rfl, by kernel_rfl⟩
-- 61 (*strings.Builder).String
def ir61 : AFn := ⟨14, [.t 2],
 (.seq (.reg [⟨(some 2), (.mv (.c (.string ⟨#[]⟩))), none⟩])
 (.seq (.draw [⟨(some 3), (.mv (.t 0)), none⟩, ⟨(some 4), (.nilchk (.t 3)), none⟩, ⟨(some 5), (.fa 1 (.t 4)), none⟩, ⟨(some 6), (.ld (.t 5)), none⟩, ⟨(some 7), (.x .sdata [(.t 6)]), none⟩, ⟨(some 8), (.mv (.t 0)), none⟩, ⟨(some 9), (.nilchk (.t 8)), none⟩, ⟨(some 10), (.fa 1 (.t 9)), none⟩, ⟨(some 11), (.ld (.t 10)), none⟩, ⟨(some 12), (.len 1 (.t 11)), none⟩] [⟨(some 13), (.x (.ustr 5) [(.t 7), (.t 12)]), none⟩, ⟨(some 2), (.mv (.t 13)), none⟩])
 .ret))⟩
theorem ok61 : FOk alT Try.prog 0 61 ir61 := ⟨_, Try.func61, by kernel_rfl, by kernel_rfl⟩
-- 63 strings.IndexByte
def ir63 : AFn := ⟨8, [.t 4],
 (.seq (.reg [⟨(some 4), (.mv (.c (.int .i64 0))), none⟩])
 (.seq (.reg [⟨(some 5), (.mv (.t 0)), none⟩, ⟨(some 6), (.mv (.t 1)), none⟩, ⟨(some 7), (.call (.c (.func (.func 96) #[] #[])) [(.t 5), (.t 6)]), none⟩, ⟨(some 4), (.mv (.t 7)), none⟩])
 .ret))⟩
theorem ok63 : FOk alT Try.prog 0 63 ir63 := ⟨_, Try.func63, by kernel_rfl, by kernel_rfl⟩
-- 81 hatchway/item.show
def lp81_0 : ACode := (.seq (.reg [⟨(some 39), (.bin .lss (.t 38) (.t 37)), none⟩])
 (.seq (.cond (.t 39) .skip
 (.exit 3))
 (.seq (.block 4 (.seq (.reg [⟨(some 40), (.mv (.t 38)), none⟩, ⟨(some 41), (.ia 3 (.t 36) (.t 38)), none⟩, ⟨(some 42), (.ldn 3 (.t 41)), none⟩, ⟨(some 5), (.new 24 [(.string ⟨#[]⟩), (.bool false), (.slice none 0 0)]), none⟩, ⟨(some 4), (.mv (.t 40)), none⟩, ⟨none, (.st 3 (.t 5) (.t 42)), none⟩])
 (.seq (.seq (.reg [⟨(some 43), (.mv (.t 4)), none⟩, ⟨(some 44), (.bin .gtr (.t 43) (.c (.int .i64 0))), none⟩])
 (.cond (.t 44) (.reg [⟨(some 45), (.mv (.t 0)), none⟩, ⟨(some 46), (.call (.c (.func (.func 60) #[] #[])) [(.t 45), (.c (.int .u8 32))]), none⟩])
 .skip))
 (.reg [⟨(some 47), (.mv (.t 0)), none⟩, ⟨(some 48), (.ldn 3 (.t 5)), none⟩, ⟨(some 49), (.call (.c (.func (.func 81) #[] #[])) [(.t 47), (.t 48)]), none⟩]))))
 (.reg [⟨(some 50), (.bin .add (.t 38) (.c (.int .i64 1))), none⟩, ⟨(some 38), (.mv (.t 50)), none⟩]))))
def lp81_1 : ACode := (.seq (.reg [⟨(some 11), (.bin .lss (.t 10) (.t 9)), none⟩])
 (.seq (.cond (.t 11) .skip
 (.exit 1))
 (.seq (.block 2 (.seq (.reg [⟨(some 12), (.mv (.t 10)), none⟩, ⟨(some 6), (.mv (.t 12)), none⟩])
 (.seq (.reg [⟨(some 13), (.mv (.t 0)), none⟩, ⟨(some 14), (.fa 0 (.t 3)), none⟩, ⟨(some 15), (.ld (.t 14)), none⟩, ⟨(some 16), (.mv (.t 6)), none⟩, ⟨(some 17), (.ixs (.t 15) (.t 16)), none⟩, ⟨(some 18), (.bin .quo (.t 17) (.c (.int .u8 16))), none⟩, ⟨(some 19), (.ixs (.c (.string ⟨#[48, 49, 50, 51, 52, 53, 54, 55, 56, 57, 97, 98, 99, 100, 101, 102]⟩)) (.t 18)), none⟩, ⟨(some 20), (.call (.c (.func (.func 60) #[] #[])) [(.t 13), (.t 19)]), none⟩])
 (.reg [⟨(some 21), (.mv (.t 0)), none⟩, ⟨(some 22), (.fa 0 (.t 3)), none⟩, ⟨(some 23), (.ld (.t 22)), none⟩, ⟨(some 24), (.mv (.t 6)), none⟩, ⟨(some 25), (.ixs (.t 23) (.t 24)), none⟩, ⟨(some 26), (.bin .rem (.t 25) (.c (.int .u8 16))), none⟩, ⟨(some 27), (.ixs (.c (.string ⟨#[48, 49, 50, 51, 52, 53, 54, 55, 56, 57, 97, 98, 99, 100, 101, 102]⟩)) (.t 26)), none⟩, ⟨(some 28), (.call (.c (.func (.func 60) #[] #[])) [(.t 21), (.t 27)]), none⟩]))))
 (.reg [⟨(some 29), (.bin .add (.t 10) (.c (.int .i64 1))), none⟩, ⟨(some 10), (.mv (.t 29)), none⟩]))))
def ir81 : AFn := ⟨59, [],
 (.seq (.reg [⟨(some 3), (.box 24 (.t 1)), none⟩])
 (.block 0 (.seq (.reg [⟨(some 31), (.fa 1 (.t 3)), none⟩, ⟨(some 32), (.ld (.t 31)), none⟩, ⟨(some 30), (.mv (.t 32)), none⟩])
 (.cond (.t 30) (.seq (.reg [⟨(some 33), (.mv (.t 0)), none⟩, ⟨(some 34), (.call (.c (.func (.func 60) #[] #[])) [(.t 33), (.c (.int .u8 40))]), none⟩])
 (.seq (.seq (.reg [⟨(some 35), (.fa 2 (.t 3)), none⟩, ⟨(some 36), (.ld (.t 35)), none⟩, ⟨(some 37), (.len 1 (.t 36)), none⟩, ⟨(some 38), (.mv (.c (.int .i64 0))), none⟩])
 (.block 3 (.loop lp81_0)))
 (.reg [⟨(some 51), (.mv (.t 0)), none⟩, ⟨(some 52), (.call (.c (.func (.func 60) #[] #[])) [(.t 51), (.c (.int .u8 41))]), none⟩])))
 (.seq (.reg [⟨(some 54), (.fa 0 (.t 3)), none⟩, ⟨(some 55), (.ld (.t 54)), none⟩, ⟨(some 56), (.bin .eql (.t 55) (.c (.string ⟨#[]⟩))), none⟩, ⟨(some 53), (.mv (.t 56)), none⟩])
 (.cond (.t 53) (.reg [⟨(some 57), (.mv (.t 0)), none⟩, ⟨(some 58), (.call (.c (.func (.func 92) #[] #[])) [(.t 57), (.c (.string ⟨#[45]⟩))]), none⟩])
 (.seq (.reg [⟨(some 7), (.fa 0 (.t 3)), none⟩, ⟨(some 8), (.ld (.t 7)), none⟩, ⟨(some 9), (.len 0 (.t 8)), none⟩, ⟨(some 10), (.mv (.c (.int .i64 0))), none⟩])
 (.block 1 (.loop lp81_1)))))))))⟩
theorem ok81 : FOk alT Try.prog 0 81 ir81 := ⟨_, Try.func81, by kernel_rfl, by kernel_rfl⟩
-- 82 (*hatchway/item.reader).item
def lp82_0 : ACode := (.seq (.seq (.reg [⟨(some 43), (.mv (.t 0)), none⟩, ⟨(some 44), (.call (.c (.func (.func 105) #[] #[])) [(.t 43), (.c (.string ⟨#[41]⟩))]), none⟩, ⟨(some 45), (.un .not (.t 44)), none⟩])
 (.cond (.t 45) .skip
 (.exit 0)))
 (.block 1 (.seq (.seq (.reg [⟨(some 46), (.fa 2 (.t 5)), none⟩, ⟨(some 47), (.ld (.t 46)), none⟩, ⟨(some 48), (.len 1 (.t 47)), none⟩, ⟨(some 49), (.bin .gtr (.t 48) (.c (.int .i64 0))), none⟩, ⟨(some 50), (.mv (.t 49)), none⟩, ⟨(some 51), (.mv (.t 0)), (some (50, true))⟩, ⟨(some 52), (.call (.c (.func (.func 105) #[] #[])) [(.t 51), (.c (.string ⟨#[32]⟩))]), (some (50, true))⟩, ⟨(some 53), (.un .not (.t 52)), (some (50, true))⟩, ⟨(some 54), (.pick (.t 50) (.t 53) (.c (.bool false))), none⟩])
 (.cond (.t 54) (.reg [⟨(some 55), (.mv (.t 0)), none⟩, ⟨(some 56), (.nilchk (.t 55)), none⟩, ⟨(some 57), (.fa 2 (.t 56)), none⟩, ⟨none, (.st 1 (.t 57) (.c (.bool true))), none⟩])
 .skip))
 (.seq (.seq (.reg [⟨(some 58), (.mv (.t 0)), none⟩, ⟨(some 59), (.nilchk (.t 58)), none⟩, ⟨(some 60), (.fa 2 (.t 59)), none⟩, ⟨(some 61), (.ld (.t 60)), none⟩])
 (.cond (.t 61) (.exit 0)
 .skip))
 (.drawD [⟨(some 62), (.fa 2 (.t 5)), none⟩, ⟨(some 63), (.ld (.t 62)), none⟩, ⟨(some 64), (.mv (.t 0)), none⟩, ⟨(some 65), (.mv (.t 1)), none⟩, ⟨(some 66), (.bin .add (.t 65) (.c (.int .i64 1))), none⟩, ⟨(some 70), (.fa 2 (.t 5)), none⟩] [(⟨(some 67), (.call (.c (.func (.func 82) #[] #[])) [(.t 64), (.t 66)]), none⟩, [⟨(some 63), (.ld (.t 62)), none⟩]), (⟨(some 68), (.lit 24 [(.string ⟨#[]⟩), (.bool false), (.slice none 0 0)] 1 3 [(0, 3, (.t 67))]), none⟩, [⟨(some 63), (.ld (.t 62)), none⟩]), (⟨(some 69), (.app 24 3 48 (.t 63) (.t 68)), none⟩, []), (⟨none, (.st 1 (.t 70) (.t 69)), none⟩, [])])))))
def ir82 : AFn := ⟨72, [.cell 4 (some 3)],
 (.seq (.reg [⟨(some 4), (.new 24 [(.string ⟨#[]⟩), (.bool false), (.slice none 0 0)]), none⟩])
 (.seq (.reg [⟨(some 6), (.mv (.t 0)), none⟩, ⟨(some 7), (.nilchk (.t 6)), none⟩, ⟨(some 8), (.fa 1 (.t 7)), none⟩, ⟨(some 9), (.ld (.t 8)), none⟩, ⟨(some 10), (.bin .add (.t 9) (.c (.int .i64 1))), none⟩, ⟨(some 11), (.nilchk (.t 6)), none⟩, ⟨(some 12), (.fa 1 (.t 11)), none⟩, ⟨none, (.st 1 (.t 12) (.t 10)), none⟩])
 (.seq (.reg [⟨(some 13), (.mv (.t 0)), none⟩, ⟨(some 14), (.mv (.t 0)), none⟩, ⟨(some 15), (.nilchk (.t 14)), none⟩, ⟨(some 16), (.fa 2 (.t 15)), none⟩, ⟨(some 17), (.ld (.t 16)), none⟩, ⟨(some 18), (.mv (.t 17)), none⟩, ⟨(some 19), (.mv (.t 1)), (some (18, false))⟩, ⟨(some 20), (.bin .gtr (.t 19) (.c (.int .i64 16))), (some (18, false))⟩, ⟨(some 21), (.pick (.t 18) (.c (.bool true)) (.t 20)), none⟩, ⟨(some 22), (.mv (.t 21)), none⟩, ⟨(some 23), (.mv (.t 0)), (some (22, false))⟩, ⟨(some 24), (.nilchk (.t 23)), (some (22, false))⟩, ⟨(some 25), (.fa 1 (.t 24)), (some (22, false))⟩, ⟨(some 26), (.ld (.t 25)), (some (22, false))⟩, ⟨(some 27), (.bin .gtr (.t 26) (.c (.int .i64 1024))), (some (22, false))⟩, ⟨(some 28), (.pick (.t 22) (.c (.bool true)) (.t 27)), none⟩, ⟨(some 29), (.nilchk (.t 13)), none⟩, ⟨(some 30), (.fa 2 (.t 29)), none⟩, ⟨none, (.st 1 (.t 30) (.t 28)), none⟩])
 (.seq (.seq (.reg [⟨(some 31), (.mv (.t 0)), none⟩, ⟨(some 32), (.nilchk (.t 31)), none⟩, ⟨(some 33), (.fa 2 (.t 32)), none⟩, ⟨(some 34), (.ld (.t 33)), none⟩])
 (.cond (.t 34) (.seq (.reg [⟨(some 35), (.build [(.string ⟨#[]⟩), (.bool false), (.slice none 0 0)] []), none⟩, ⟨none, (.st 3 (.t 4) (.t 35)), none⟩])
 .ret)
 .skip))
 (.seq (.seq (.reg [⟨(some 36), (.mv (.t 0)), none⟩, ⟨(some 37), (.call (.c (.func (.func 105) #[] #[])) [(.t 36), (.c (.string ⟨#[40]⟩))]), none⟩, ⟨(some 38), (.un .not (.t 37)), none⟩])
 (.cond (.t 38) (.seq (.reg [⟨(some 39), (.mv (.t 0)), none⟩, ⟨(some 40), (.call (.c (.func (.func 106) #[] #[])) [(.t 39)]), none⟩, ⟨(some 41), (.build [(.string ⟨#[]⟩), (.bool false), (.slice none 0 0)] [(0, 1, (.t 40))]), none⟩, ⟨none, (.st 3 (.t 4) (.t 41)), none⟩])
 .ret)
 .skip))
 (.seq (.reg [⟨(some 42), (.build [(.string ⟨#[]⟩), (.bool false), (.slice none 0 0)] [(1, 1, (.c (.bool true)))]), none⟩, ⟨(some 5), (.new 24 [(.string ⟨#[]⟩), (.bool false), (.slice none 0 0)]), none⟩, ⟨none, (.st 3 (.t 5) (.t 42)), none⟩])
 (.seq (.block 0 (.loop lp82_0))
 (.seq (.reg [⟨(some 71), (.ldn 3 (.t 5)), none⟩, ⟨none, (.st 3 (.t 4) (.t 71)), none⟩])
 .ret))))))))⟩
theorem ok82 : FOk alT Try.prog 0 82 ir82 := ⟨_, Try.func82, by kernel_rfl, by kernel_rfl⟩
-- 83 hatchway/hatchwayref08.parse
def lp83_0 : ACode := (.seq (.seq (.reg [⟨(some 32), (.mv (.t 1)), none⟩, ⟨(some 33), (.bin .add (.t 32) (.c (.int .i64 1))), none⟩, ⟨(some 34), (.mv (.t 0)), none⟩, ⟨(some 35), (.len 0 (.t 34)), none⟩, ⟨(some 36), (.bin .lss (.t 33) (.t 35)), none⟩, ⟨(some 37), (.mv (.t 36)), none⟩, ⟨(some 38), (.mv (.t 0)), (some (37, true))⟩, ⟨(some 39), (.mv (.t 1)), (some (37, true))⟩, ⟨(some 40), (.ixs (.t 38) (.t 39)), (some (37, true))⟩, ⟨(some 41), (.call (.c (.func (.func 107) #[] #[])) [(.t 40)]), (some (37, true))⟩, ⟨(some 42), (.bin .geq (.t 41) (.c (.int .i64 0))), (some (37, true))⟩, ⟨(some 43), (.pick (.t 37) (.t 42) (.c (.bool false))), none⟩, ⟨(some 44), (.mv (.t 43)), none⟩, ⟨(some 45), (.mv (.t 0)), (some (44, true))⟩, ⟨(some 46), (.mv (.t 1)), (some (44, true))⟩, ⟨(some 47), (.bin .add (.t 46) (.c (.int .i64 1))), (some (44, true))⟩, ⟨(some 48), (.ixs (.t 45) (.t 47)), (some (44, true))⟩, ⟨(some 49), (.call (.c (.func (.func 107) #[] #[])) [(.t 48)]), (some (44, true))⟩, ⟨(some 50), (.bin .geq (.t 49) (.c (.int .i64 0))), (some (44, true))⟩, ⟨(some 51), (.pick (.t 44) (.t 50) (.c (.bool false))), none⟩])
 (.cond (.t 51) .skip
 (.exit 0)))
 (.block 1 (.seq (.draw [⟨(some 52), (.mv (.t 8)), none⟩, ⟨(some 53), (.mv (.t 0)), none⟩, ⟨(some 54), (.mv (.t 1)), none⟩, ⟨(some 55), (.ixs (.t 53) (.t 54)), none⟩, ⟨(some 56), (.call (.c (.func (.func 107) #[] #[])) [(.t 55)]), none⟩, ⟨(some 57), (.bin .mul (.c (.int .i64 16)) (.t 56)), none⟩, ⟨(some 58), (.mv (.t 0)), none⟩, ⟨(some 59), (.mv (.t 1)), none⟩, ⟨(some 60), (.bin .add (.t 59) (.c (.int .i64 1))), none⟩, ⟨(some 61), (.ixs (.t 58) (.t 60)), none⟩, ⟨(some 62), (.call (.c (.func (.func 107) #[] #[])) [(.t 61)]), none⟩, ⟨(some 63), (.bin .add (.t 57) (.t 62)), none⟩, ⟨(some 64), (.conv .u8 (.t 63)), none⟩] [⟨(some 65), (.lit 5 [(.int .u8 0)] 1 1 [(0, 1, (.t 64))]), none⟩, ⟨(some 66), (.app 5 1 1 (.t 52) (.t 65)), none⟩, ⟨(some 8), (.mv (.t 66)), none⟩])
 (.reg [⟨(some 67), (.mv (.t 1)), none⟩, ⟨(some 68), (.bin .add (.t 67) (.c (.int .i64 2))), none⟩, ⟨(some 1), (.mv (.t 68)), none⟩]))))
def lp83_1 : ACode := (.seq (.seq (.reg [⟨(some 80), (.mv (.t 1)), none⟩, ⟨(some 81), (.mv (.t 0)), none⟩, ⟨(some 82), (.len 0 (.t 81)), none⟩, ⟨(some 83), (.bin .lss (.t 80) (.t 82)), none⟩, ⟨(some 84), (.mv (.t 83)), none⟩, ⟨(some 85), (.mv (.t 0)), (some (84, true))⟩, ⟨(some 86), (.mv (.t 1)), (some (84, true))⟩, ⟨(some 87), (.ixs (.t 85) (.t 86)), (some (84, true))⟩, ⟨(some 88), (.bin .neq (.t 87) (.c (.int .u8 41))), (some (84, true))⟩, ⟨(some 89), (.pick (.t 84) (.t 88) (.c (.bool false))), none⟩])
 (.cond (.t 89) .skip
 (.exit 2)))
 (.block 3 (.seq (.seq (.reg [⟨(some 90), (.fa 2 (.t 9)), none⟩, ⟨(some 91), (.ld (.t 90)), none⟩, ⟨(some 92), (.len 1 (.t 91)), none⟩, ⟨(some 93), (.bin .gtr (.t 92) (.c (.int .i64 0))), none⟩])
 (.cond (.t 93) (.seq (.seq (.reg [⟨(some 94), (.mv (.t 0)), none⟩, ⟨(some 95), (.mv (.t 1)), none⟩, ⟨(some 96), (.ixs (.t 94) (.t 95)), none⟩, ⟨(some 97), (.bin .neq (.t 96) (.c (.int .u8 32))), none⟩])
 (.cond (.t 97) (.seq (.reg [⟨(some 98), (.build [(.string ⟨#[]⟩), (.bool false), (.slice none 0 0)] []), none⟩, ⟨none, (.st 3 (.t 6) (.t 98)), none⟩, ⟨(some 7), (.mv (.c (.int .i64 (-1)))), none⟩])
 .ret)
 .skip))
 (.reg [⟨(some 99), (.mv (.t 1)), none⟩, ⟨(some 100), (.bin .add (.t 99) (.c (.int .i64 1))), none⟩, ⟨(some 1), (.mv (.t 100)), none⟩]))
 .skip))
 (.seq (.reg [⟨(some 102), (.mv (.t 0)), none⟩, ⟨(some 103), (.mv (.t 1)), none⟩, ⟨(some 104), (.mv (.t 2)), none⟩, ⟨(some 105), (.bin .add (.t 104) (.c (.int .i64 1))), none⟩, ⟨(some 106), (.call (.c (.func (.func 83) #[] #[])) [(.t 102), (.t 103), (.t 105)]), none⟩, ⟨(some 101), (.mv (.t 106)), none⟩, ⟨(some 107), (.ext 0 (.t 101)), none⟩, ⟨(some 108), (.ext 1 (.t 101)), none⟩, ⟨(some 10), (.new 24 [(.string ⟨#[]⟩), (.bool false), (.slice none 0 0)]), none⟩, ⟨none, (.st 3 (.t 10) (.t 107)), none⟩, ⟨(some 11), (.mv (.t 108)), none⟩])
 (.seq (.seq (.reg [⟨(some 109), (.mv (.t 11)), none⟩, ⟨(some 110), (.bin .lss (.t 109) (.c (.int .i64 0))), none⟩])
 (.cond (.t 110) (.seq (.reg [⟨(some 111), (.build [(.string ⟨#[]⟩), (.bool false), (.slice none 0 0)] []), none⟩, ⟨none, (.st 3 (.t 6) (.t 111)), none⟩, ⟨(some 7), (.mv (.c (.int .i64 (-1)))), none⟩])
 .ret)
 .skip))
 (.seq (.reg [⟨(some 112), (.fa 2 (.t 9)), none⟩, ⟨(some 113), (.ld (.t 112)), none⟩, ⟨(some 114), (.ldn 3 (.t 10)), none⟩, ⟨(some 115), (.lit 24 [(.string ⟨#[]⟩), (.bool false), (.slice none 0 0)] 1 3 [(0, 3, (.t 114))]), none⟩, ⟨(some 116), (.app 24 3 48 (.t 113) (.t 115)), none⟩, ⟨(some 117), (.fa 2 (.t 9)), none⟩, ⟨none, (.st 1 (.t 117) (.t 116)), none⟩])
 (.reg [⟨(some 118), (.mv (.t 11)), none⟩, ⟨(some 1), (.mv (.t 118)), none⟩])))))))
def ir83 : AFn := ⟨127, [.cell 6 (some 3), .t 7],
 (.seq (.reg [⟨(some 6), (.new 24 [(.string ⟨#[]⟩), (.bool false), (.slice none 0 0)]), none⟩, ⟨(some 7), (.mv (.c (.int .i64 0))), none⟩])
 (.seq (.seq (.reg [⟨(some 12), (.mv (.t 1)), none⟩, ⟨(some 13), (.mv (.t 0)), none⟩, ⟨(some 14), (.len 0 (.t 13)), none⟩, ⟨(some 15), (.bin .geq (.t 12) (.t 14)), none⟩, ⟨(some 16), (.mv (.t 15)), none⟩, ⟨(some 17), (.mv (.t 2)), (some (16, false))⟩, ⟨(some 18), (.bin .gtr (.t 17) (.c (.int .i64 16))), (some (16, false))⟩, ⟨(some 19), (.pick (.t 16) (.c (.bool true)) (.t 18)), none⟩])
 (.cond (.t 19) (.seq (.reg [⟨(some 20), (.build [(.string ⟨#[]⟩), (.bool false), (.slice none 0 0)] []), none⟩, ⟨none, (.st 3 (.t 6) (.t 20)), none⟩, ⟨(some 7), (.mv (.c (.int .i64 (-1)))), none⟩])
 .ret)
 .skip))
 (.seq (.seq (.reg [⟨(some 21), (.mv (.t 0)), none⟩, ⟨(some 22), (.mv (.t 1)), none⟩, ⟨(some 23), (.ixs (.t 21) (.t 22)), none⟩, ⟨(some 24), (.bin .eql (.t 23) (.c (.int .u8 45))), none⟩])
 (.cond (.t 24) (.seq (.reg [⟨(some 25), (.build [(.string ⟨#[]⟩), (.bool false), (.slice none 0 0)] []), none⟩, ⟨(some 26), (.mv (.t 1)), none⟩, ⟨(some 27), (.bin .add (.t 26) (.c (.int .i64 1))), none⟩, ⟨none, (.st 3 (.t 6) (.t 25)), none⟩, ⟨(some 7), (.mv (.t 27)), none⟩])
 .ret)
 .skip))
 (.seq (.seq (.reg [⟨(some 28), (.mv (.t 0)), none⟩, ⟨(some 29), (.mv (.t 1)), none⟩, ⟨(some 30), (.ixs (.t 28) (.t 29)), none⟩, ⟨(some 31), (.bin .neq (.t 30) (.c (.int .u8 40))), none⟩])
 (.cond (.t 31) (.seq (.reg [⟨(some 8), (.mv (.c (.slice none 0 0))), none⟩])
 (.seq (.block 0 (.loop lp83_0))
 (.seq (.seq (.reg [⟨(some 69), (.mv (.t 8)), none⟩, ⟨(some 70), (.len 1 (.t 69)), none⟩, ⟨(some 71), (.bin .eql (.t 70) (.c (.int .i64 0))), none⟩])
 (.cond (.t 71) (.seq (.reg [⟨(some 72), (.build [(.string ⟨#[]⟩), (.bool false), (.slice none 0 0)] []), none⟩, ⟨none, (.st 3 (.t 6) (.t 72)), none⟩, ⟨(some 7), (.mv (.c (.int .i64 (-1)))), none⟩])
 .ret)
 .skip))
 (.seq (.reg [⟨(some 73), (.mv (.t 8)), none⟩, ⟨(some 74), (.b2s (.t 73)), none⟩, ⟨(some 75), (.build [(.string ⟨#[]⟩), (.bool false), (.slice none 0 0)] [(0, 1, (.t 74))]), none⟩, ⟨(some 76), (.mv (.t 1)), none⟩, ⟨none, (.st 3 (.t 6) (.t 75)), none⟩, ⟨(some 7), (.mv (.t 76)), none⟩])
 .ret))))
 .skip))
 (.seq (.reg [⟨(some 77), (.build [(.string ⟨#[]⟩), (.bool false), (.slice none 0 0)] [(1, 1, (.c (.bool true)))]), none⟩, ⟨(some 9), (.new 24 [(.string ⟨#[]⟩), (.bool false), (.slice none 0 0)]), none⟩, ⟨none, (.st 3 (.t 9) (.t 77)), none⟩])
 (.seq (.reg [⟨(some 78), (.mv (.t 1)), none⟩, ⟨(some 79), (.bin .add (.t 78) (.c (.int .i64 1))), none⟩, ⟨(some 1), (.mv (.t 79)), none⟩])
 (.seq (.block 2 (.loop lp83_1))
 (.seq (.seq (.reg [⟨(some 119), (.mv (.t 1)), none⟩, ⟨(some 120), (.mv (.t 0)), none⟩, ⟨(some 121), (.len 0 (.t 120)), none⟩, ⟨(some 122), (.bin .geq (.t 119) (.t 121)), none⟩])
 (.cond (.t 122) (.seq (.reg [⟨(some 123), (.build [(.string ⟨#[]⟩), (.bool false), (.slice none 0 0)] []), none⟩, ⟨none, (.st 3 (.t 6) (.t 123)), none⟩, ⟨(some 7), (.mv (.c (.int .i64 (-1)))), none⟩])
 .ret)
 .skip))
 (.seq (.reg [⟨(some 124), (.ldn 3 (.t 9)), none⟩, ⟨(some 125), (.mv (.t 1)), none⟩, ⟨(some 126), (.bin .add (.t 125) (.c (.int .i64 1))), none⟩, ⟨none, (.st 3 (.t 6) (.t 124)), none⟩, ⟨(some 7), (.mv (.t 126)), none⟩])
 .ret)))))))))⟩
theorem ok83 : FOk alT Try.prog 0 83 ir83 := ⟨_, Try.func83, by kernel_rfl, by kernel_rfl⟩
-- 91 hatchway/item.walk
def ir91 : AFn := ⟨16, [.t 2, .t 3, .t 4],
 (.seq (.reg [⟨(some 1), (.box 24 (.t 0)), none⟩, ⟨(some 2), (.mv (.c (.int .i64 0))), none⟩, ⟨(some 3), (.mv (.c (.int .i64 0))), none⟩, ⟨(some 4), (.mv (.c (.bool false))), none⟩])
 (.seq (.reg [⟨(some 5), (.new 3 [(.int .i64 0)]), none⟩, ⟨(some 6), (.new 3 [(.int .i64 0)]), none⟩, ⟨none, (.st 1 (.t 5) (.c (.int .i64 0))), none⟩, ⟨none, (.st 1 (.t 6) (.c (.int .i64 0))), none⟩])
 (.seq (.reg [⟨(some 7), (.new 176 [.nilFunc]), none⟩])
 (.seq (.reg [⟨(some 9), (.mkf (.func 118) [] [(.t 5), (.t 6), (.t 7)]), none⟩, ⟨none, (.st 1 (.t 7) (.t 9)), none⟩])
 (.seq (.reg [⟨(some 10), (.ld (.t 7)), none⟩, ⟨(some 11), (.ldn 3 (.t 1)), none⟩, ⟨(some 12), (.call (.t 10) [(.t 11), (.c (.int .i64 1))]), none⟩, ⟨(some 8), (.mv (.t 12)), none⟩])
 (.seq (.draw [⟨(some 13), (.ld (.t 5)), none⟩, ⟨(some 14), (.ld (.t 6)), none⟩, ⟨(some 15), (.mv (.t 8)), none⟩, ⟨(some 2), (.mv (.t 13)), none⟩, ⟨(some 3), (.mv (.t 14)), none⟩, ⟨(some 4), (.mv (.t 15)), none⟩] [])
 .ret))))))⟩
theorem ok91 : FOk alT Try.prog 0 91 ir91 := ⟨_, Try.func91, by kernel_rfl, by kernel_rfl⟩
-- 92 (*strings.Builder).WriteString
def ir92 : AFn := ⟨19, [.t 4, .t 5],
 (.seq (.reg [⟨(some 4), (.mv (.c (.int .i64 0))), none⟩, ⟨(some 5), (.mv (.c .nilIface)), none⟩])
 (.seq (.reg [⟨(some 6), (.mv (.t 0)), none⟩, ⟨(some 7), (.call (.c (.func (.func 94) #[] #[])) [(.t 6)]), none⟩])
 (.seq (.reg [⟨(some 8), (.mv (.t 0)), none⟩, ⟨(some 9), (.mv (.t 0)), none⟩, ⟨(some 10), (.nilchk (.t 9)), none⟩, ⟨(some 11), (.fa 1 (.t 10)), none⟩, ⟨(some 12), (.ld (.t 11)), none⟩, ⟨(some 13), (.mv (.t 1)), none⟩, ⟨(some 14), (.x (.apps 5 1 1) [(.t 12), (.t 13)]), none⟩, ⟨(some 15), (.nilchk (.t 8)), none⟩, ⟨(some 16), (.fa 1 (.t 15)), none⟩, ⟨none, (.st 1 (.t 16) (.t 14)), none⟩])
 (.seq (.reg [⟨(some 17), (.mv (.t 1)), none⟩, ⟨(some 18), (.len 0 (.t 17)), none⟩, ⟨(some 4), (.mv (.t 18)), none⟩, ⟨(some 5), (.mv (.c .nilIface)), none⟩])
 .ret))))⟩
theorem ok92 : FOk alT Try.prog 0 92 ir92 := ⟨_, Try.func92, by kernel_rfl, by kernel_rfl⟩
-- 94 (*strings.Builder).copyCheck
def ir94 : AFn := ⟨20, [],
 (.seq (.reg [⟨(some 2), (.mv (.t 0)), none⟩, ⟨(some 3), (.nilchk (.t 2)), none⟩, ⟨(some 4), (.fa 0 (.t 3)), none⟩, ⟨(some 5), (.ld (.t 4)), none⟩, ⟨(some 6), (.nileq 0 false (.t 5) (.c (.pointer none))), none⟩])
 (.cond (.t 6) (.reg [⟨(some 7), (.mv (.t 0)), none⟩, ⟨(some 8), (.mv (.t 0)), none⟩, ⟨(some 9), (.x .up [(.t 8)]), none⟩, ⟨(some 10), (.mv (.t 9)), none⟩, ⟨(some 11), (.x (.down 98) [(.t 10)]), none⟩, ⟨(some 12), (.nilchk (.t 7)), none⟩, ⟨(some 13), (.fa 0 (.t 12)), none⟩, ⟨none, (.st 1 (.t 13) (.t 11)), none⟩])
 (.seq (.reg [⟨(some 14), (.mv (.t 0)), none⟩, ⟨(some 15), (.nilchk (.t 14)), none⟩, ⟨(some 16), (.fa 0 (.t 15)), none⟩, ⟨(some 17), (.ld (.t 16)), none⟩, ⟨(some 18), (.mv (.t 0)), none⟩, ⟨(some 19), (.nileq 0 true (.t 17) (.t 18)), none⟩])
 (.cond (.t 19) (.reg [⟨none, (.x .bad []), none⟩])
 .skip))))⟩
theorem ok94 : FOk alT Try.prog 0 94 ir94 := ⟨_, Try.func94, by kernel_rfl, by kernel_rfl⟩
-- 96 internal/stringslite.IndexByte
def ir96 : AFn := ⟨8, [.t 4],
 (.seq (.reg [⟨(some 4), (.mv (.c (.int .i64 0))), none⟩])
 (.seq (.reg [⟨(some 5), (.mv (.t 0)), none⟩, ⟨(some 6), (.mv (.t 1)), none⟩, ⟨(some 7), (.x .idxb [(.t 5), (.t 6)]), none⟩, ⟨(some 4), (.mv (.t 7)), none⟩])
 .ret))⟩
theorem ok96 : FOk alT Try.prog 0 96 ir96 := ⟨_, Try.func96, by kernel_rfl, by kernel_rfl⟩
-- 105 (*hatchway/item.reader).sign
def ir105 : AFn := ⟨21, [.t 4],
 (.seq (.reg [⟨(some 4), (.mv (.c (.bool false))), none⟩])
 (.seq (.reg [⟨(some 8), (.mv (.t 0)), none⟩, ⟨(some 9), (.nilchk (.t 8)), none⟩, ⟨(some 10), (.fa 0 (.t 9)), none⟩, ⟨(some 11), (.ld (.t 10)), none⟩, ⟨(some 12), (.mv (.t 1)), none⟩, ⟨(some 13), (.call (.c (.func (.func 129) #[] #[])) [(.t 11), (.t 12)]), none⟩, ⟨(some 7), (.mv (.t 13)), none⟩, ⟨(some 14), (.ext 0 (.t 7)), none⟩, ⟨(some 15), (.ext 1 (.t 7)), none⟩, ⟨(some 5), (.mv (.t 14)), none⟩, ⟨(some 6), (.mv (.t 15)), none⟩])
 (.seq (.reg [⟨(some 16), (.mv (.t 0)), none⟩, ⟨(some 17), (.mv (.t 5)), none⟩, ⟨(some 18), (.nilchk (.t 16)), none⟩, ⟨(some 19), (.fa 0 (.t 18)), none⟩, ⟨none, (.st 1 (.t 19) (.t 17)), none⟩])
 (.seq (.reg [⟨(some 20), (.mv (.t 6)), none⟩, ⟨(some 4), (.mv (.t 20)), none⟩])
 .ret))))⟩
theorem ok105 : FOk alT Try.prog 0 105 ir105 := ⟨_, Try.func105, by kernel_rfl, by kernel_rfl⟩
-- 106 (*hatchway/item.reader).text
def lp106_0 : ACode := (.seq (.seq (.reg [⟨(some 8), (.mv (.t 0)), none⟩, ⟨(some 9), (.nilchk (.t 8)), none⟩, ⟨(some 10), (.fa 0 (.t 9)), none⟩, ⟨(some 11), (.ld (.t 10)), none⟩, ⟨(some 12), (.len 0 (.t 11)), none⟩, ⟨(some 13), (.bin .geq (.t 12) (.c (.int .i64 2))), none⟩])
 (.cond (.t 13) .skip
 (.exit 0)))
 (.block 1 (.seq (.drawD [⟨(some 14), (.mv (.t 0)), none⟩, ⟨(some 15), (.nilchk (.t 14)), none⟩, ⟨(some 16), (.fa 0 (.t 15)), none⟩, ⟨(some 17), (.ld (.t 16)), none⟩, ⟨(some 18), (.ixs (.t 17) (.c (.int .i64 0))), none⟩, ⟨(some 20), (.mv (.t 0)), none⟩, ⟨(some 21), (.nilchk (.t 20)), none⟩, ⟨(some 22), (.fa 0 (.t 21)), none⟩, ⟨(some 23), (.ld (.t 22)), none⟩, ⟨(some 24), (.ixs (.t 23) (.c (.int .i64 1))), none⟩] [(⟨(some 19), (.call (.c (.func (.func 63) #[] #[])) [(.c (.string ⟨#[48, 49, 50, 51, 52, 53, 54, 55, 56, 57, 97, 98, 99, 100, 101, 102]⟩)), (.t 18)]), none⟩, [⟨(some 23), (.ld (.t 22)), none⟩]), (⟨(some 25), (.call (.c (.func (.func 63) #[] #[])) [(.c (.string ⟨#[48, 49, 50, 51, 52, 53, 54, 55, 56, 57, 97, 98, 99, 100, 101, 102]⟩)), (.t 24)]), none⟩, []), (⟨(some 4), (.mv (.t 19)), none⟩, []), (⟨(some 5), (.mv (.t 25)), none⟩, [])])
 (.seq (.seq (.reg [⟨(some 26), (.mv (.t 4)), none⟩, ⟨(some 27), (.bin .lss (.t 26) (.c (.int .i64 0))), none⟩, ⟨(some 28), (.mv (.t 27)), none⟩, ⟨(some 29), (.mv (.t 5)), (some (28, false))⟩, ⟨(some 30), (.bin .lss (.t 29) (.c (.int .i64 0))), (some (28, false))⟩, ⟨(some 31), (.pick (.t 28) (.c (.bool true)) (.t 30)), none⟩])
 (.cond (.t 31) (.exit 0)
 .skip))
 (.seq (.reg [⟨(some 32), (.mv (.t 3)), none⟩, ⟨(some 33), (.mv (.t 4)), none⟩, ⟨(some 34), (.bin .mul (.c (.int .i64 16)) (.t 33)), none⟩, ⟨(some 35), (.mv (.t 5)), none⟩, ⟨(some 36), (.bin .add (.t 34) (.t 35)), none⟩, ⟨(some 37), (.conv .u8 (.t 36)), none⟩, ⟨(some 38), (.lit 5 [(.int .u8 0)] 1 1 [(0, 1, (.t 37))]), none⟩, ⟨(some 39), (.app 5 1 1 (.t 32) (.t 38)), none⟩, ⟨(some 3), (.mv (.t 39)), none⟩])
 (.reg [⟨(some 40), (.mv (.t 0)), none⟩, ⟨(some 41), (.mv (.t 0)), none⟩, ⟨(some 42), (.nilchk (.t 41)), none⟩, ⟨(some 43), (.fa 0 (.t 42)), none⟩, ⟨(some 44), (.ld (.t 43)), none⟩, ⟨(some 45), (.cut (.t 44) (some (.c (.int .i64 2))) none), none⟩, ⟨(some 46), (.nilchk (.t 40)), none⟩, ⟨(some 47), (.fa 0 (.t 46)), none⟩, ⟨none, (.st 1 (.t 47) (.t 45)), none⟩]))))))
def ir106 : AFn := ⟨62, [.t 2],
 (.seq (.reg [⟨(some 2), (.mv (.c (.string ⟨#[]⟩))), none⟩])
 (.seq (.seq (.reg [⟨(some 6), (.mv (.t 0)), none⟩, ⟨(some 7), (.call (.c (.func (.func 105) #[] #[])) [(.t 6), (.c (.string ⟨#[45]⟩))]), none⟩])
 (.cond (.t 7) (.seq (.reg [⟨(some 2), (.mv (.c (.string ⟨#[]⟩))), none⟩])
 .ret)
 .skip))
 (.seq (.reg [⟨(some 3), (.mv (.c (.slice none 0 0))), none⟩])
 (.seq (.block 0 (.loop lp106_0))
 (.seq (.reg [⟨(some 48), (.mv (.t 0)), none⟩, ⟨(some 49), (.mv (.t 0)), none⟩, ⟨(some 50), (.nilchk (.t 49)), none⟩, ⟨(some 51), (.fa 2 (.t 50)), none⟩, ⟨(some 52), (.ld (.t 51)), none⟩, ⟨(some 53), (.mv (.t 52)), none⟩, ⟨(some 54), (.mv (.t 3)), (some (53, false))⟩, ⟨(some 55), (.len 1 (.t 54)), (some (53, false))⟩, ⟨(some 56), (.bin .eql (.t 55) (.c (.int .i64 0))), (some (53, false))⟩, ⟨(some 57), (.pick (.t 53) (.c (.bool true)) (.t 56)), none⟩, ⟨(some 58), (.nilchk (.t 48)), none⟩, ⟨(some 59), (.fa 2 (.t 58)), none⟩, ⟨none, (.st 1 (.t 59) (.t 57)), none⟩])
 (.seq (.reg [⟨(some 60), (.mv (.t 3)), none⟩, ⟨(some 61), (.b2s (.t 60)), none⟩, ⟨(some 2), (.mv (.t 61)), none⟩])
 .ret))))))⟩
theorem ok106 : FOk alT Try.prog 0 106 ir106 := ⟨_, Try.func106, by kernel_rfl, by kernel_rfl⟩
-- 107 hatchway/hatchwayref08.digit
def lp107_0 : ACode := (.seq (.seq (.reg [⟨(some 4), (.mv (.t 3)), none⟩, ⟨(some 5), (.bin .lss (.t 4) (.c (.int .i64 16))), none⟩])
 (.cond (.t 5) .skip
 (.exit 0)))
 (.seq (.block 1 (.seq (.reg [⟨(some 8), (.mv (.t 3)), none⟩, ⟨(some 9), (.ixs (.c (.string ⟨#[48, 49, 50, 51, 52, 53, 54, 55, 56, 57, 97, 98, 99, 100, 101, 102]⟩)) (.t 8)), none⟩, ⟨(some 10), (.mv (.t 0)), none⟩, ⟨(some 11), (.bin .eql (.t 9) (.t 10)), none⟩])
 (.cond (.t 11) (.seq (.reg [⟨(some 12), (.mv (.t 3)), none⟩, ⟨(some 2), (.mv (.t 12)), none⟩])
 .ret)
 .skip)))
 (.reg [⟨(some 6), (.mv (.t 3)), none⟩, ⟨(some 7), (.bin .add (.t 6) (.c (.int .i64 1))), none⟩, ⟨(some 3), (.mv (.t 7)), none⟩])))
def ir107 : AFn := ⟨13, [.t 2],
 (.seq (.reg [⟨(some 2), (.mv (.c (.int .i64 0))), none⟩])
 (.seq (.seq (.reg [⟨(some 3), (.mv (.c (.int .i64 0))), none⟩])
 (.block 0 (.loop lp107_0)))
 (.seq (.reg [⟨(some 2), (.mv (.c (.int .i64 (-1)))), none⟩])
 .ret)))⟩
theorem ok107 : FOk alT Try.prog 0 107 ir107 := ⟨_, Try.func107, by kernel_rfl, by kernel_rfl⟩
-- 118 hatchway/item.walk$1
def lp118_0 : ACode := (.seq (.reg [⟨(some 45), (.bin .lss (.t 44) (.t 43)), none⟩])
 (.seq (.cond (.t 45) .skip
 (.exit 0))
 (.seq (.block 1 (.seq (.reg [⟨(some 46), (.ia 3 (.t 42) (.t 44)), none⟩, ⟨(some 47), (.ldn 3 (.t 46)), none⟩, ⟨(some 9), (.new 24 [(.string ⟨#[]⟩), (.bool false), (.slice none 0 0)]), none⟩, ⟨none, (.st 3 (.t 9) (.t 47)), none⟩])
 (.seq (.reg [⟨(some 48), (.ld (.t 4)), none⟩, ⟨(some 49), (.ldn 3 (.t 9)), none⟩, ⟨(some 50), (.mv (.t 1)), none⟩, ⟨(some 51), (.bin .add (.t 50) (.c (.int .i64 1))), none⟩, ⟨(some 52), (.call (.t 48) [(.t 49), (.t 51)]), none⟩, ⟨(some 53), (.un .not (.t 52)), none⟩])
 (.cond (.t 53) (.seq (.reg [⟨(some 7), (.mv (.c (.bool false))), none⟩])
 .ret)
 .skip))))
 (.reg [⟨(some 54), (.bin .add (.t 44) (.c (.int .i64 1))), none⟩, ⟨(some 44), (.mv (.t 54)), none⟩]))))
def ir118 : AFn := ⟨55, [.t 7],
 (.seq (.reg [⟨(some 5), (.box 24 (.t 0)), none⟩, ⟨(some 7), (.mv (.c (.bool false))), none⟩])
 (.seq (.reg [⟨(some 10), (.ld (.t 2)), none⟩, ⟨(some 11), (.bin .add (.t 10) (.c (.int .i64 1))), none⟩, ⟨none, (.st 1 (.t 2) (.t 11)), none⟩])
 (.seq (.reg [⟨(some 12), (.ld (.t 3)), none⟩, ⟨(some 13), (.mv (.t 1)), none⟩, ⟨(some 14), (.mm true (.t 12) [(.t 13)]), none⟩, ⟨none, (.st 1 (.t 3) (.t 14)), none⟩])
 (.seq (.seq (.reg [⟨(some 15), (.mv (.t 1)), none⟩, ⟨(some 16), (.bin .gtr (.t 15) (.c (.int .i64 16))), none⟩, ⟨(some 17), (.mv (.t 16)), none⟩, ⟨(some 18), (.ld (.t 2)), (some (17, false))⟩, ⟨(some 19), (.bin .gtr (.t 18) (.c (.int .i64 1024))), (some (17, false))⟩, ⟨(some 20), (.pick (.t 17) (.c (.bool true)) (.t 19)), none⟩, ⟨(some 21), (.mv (.t 20)), none⟩, ⟨(some 22), (.fa 1 (.t 5)), (some (21, false))⟩, ⟨(some 23), (.ld (.t 22)), (some (21, false))⟩, ⟨(some 24), (.mv (.t 23)), (some (21, false))⟩, ⟨(some 25), (.fa 0 (.t 5)), (some (24, true))⟩, ⟨(some 26), (.ld (.t 25)), (some (24, true))⟩, ⟨(some 27), (.bin .neq (.t 26) (.c (.string ⟨#[]⟩))), (some (24, true))⟩, ⟨(some 28), (.pick (.t 24) (.t 27) (.c (.bool false))), (some (21, false))⟩, ⟨(some 29), (.pick (.t 21) (.c (.bool true)) (.t 28)), none⟩, ⟨(some 30), (.mv (.t 29)), none⟩, ⟨(some 31), (.fa 1 (.t 5)), (some (30, false))⟩, ⟨(some 32), (.ld (.t 31)), (some (30, false))⟩, ⟨(some 33), (.un .not (.t 32)), (some (30, false))⟩, ⟨(some 34), (.mv (.t 33)), (some (30, false))⟩, ⟨(some 35), (.fa 2 (.t 5)), (some (34, true))⟩, ⟨(some 36), (.ld (.t 35)), (some (34, true))⟩, ⟨(some 37), (.len 1 (.t 36)), (some (34, true))⟩, ⟨(some 38), (.bin .gtr (.t 37) (.c (.int .i64 0))), (some (34, true))⟩, ⟨(some 39), (.pick (.t 34) (.t 38) (.c (.bool false))), (some (30, false))⟩, ⟨(some 40), (.pick (.t 30) (.c (.bool true)) (.t 39)), none⟩])
 (.cond (.t 40) (.seq (.reg [⟨(some 7), (.mv (.c (.bool false))), none⟩])
 .ret)
 .skip))
 (.seq (.seq (.reg [⟨(some 41), (.fa 2 (.t 5)), none⟩, ⟨(some 42), (.ld (.t 41)), none⟩, ⟨(some 43), (.len 1 (.t 42)), none⟩, ⟨(some 44), (.mv (.c (.int .i64 0))), none⟩])
 (.block 0 (.loop lp118_0)))
 (.seq (.reg [⟨(some 7), (.mv (.c (.bool true))), none⟩])
 .ret))))))⟩
theorem ok118 : FOk alT Try.prog 0 118 ir118 := ⟨_, Try.func118, by kernel_rfl, by kernel_rfl⟩
-- 129 strings.CutPrefix
def ir129 : AFn := ⟨11, [.t 4, .t 5],
 (.seq (.reg [⟨(some 4), (.mv (.c (.string ⟨#[]⟩))), none⟩, ⟨(some 5), (.mv (.c (.bool false))), none⟩])
 (.seq (.reg [⟨(some 6), (.mv (.t 0)), none⟩, ⟨(some 7), (.mv (.t 1)), none⟩, ⟨(some 8), (.call (.c (.func (.func 136) #[] #[])) [(.t 6), (.t 7)]), none⟩, ⟨(some 9), (.ext 0 (.t 8)), none⟩, ⟨(some 10), (.ext 1 (.t 8)), none⟩, ⟨(some 4), (.mv (.t 9)), none⟩, ⟨(some 5), (.mv (.t 10)), none⟩])
 .ret))⟩
theorem ok129 : FOk alT Try.prog 0 129 ir129 := ⟨_, Try.func129, by kernel_rfl, by kernel_rfl⟩
-- 136 internal/stringslite.CutPrefix
def ir136 : AFn := ⟨15, [.t 4, .t 5],
 (.seq (.reg [⟨(some 4), (.mv (.c (.string ⟨#[]⟩))), none⟩, ⟨(some 5), (.mv (.c (.bool false))), none⟩])
 (.seq (.seq (.reg [⟨(some 6), (.mv (.t 0)), none⟩, ⟨(some 7), (.mv (.t 1)), none⟩, ⟨(some 8), (.call (.c (.func (.func 139) #[] #[])) [(.t 6), (.t 7)]), none⟩, ⟨(some 9), (.un .not (.t 8)), none⟩])
 (.cond (.t 9) (.seq (.reg [⟨(some 10), (.mv (.t 0)), none⟩, ⟨(some 4), (.mv (.t 10)), none⟩, ⟨(some 5), (.mv (.c (.bool false))), none⟩])
 .ret)
 .skip))
 (.seq (.reg [⟨(some 11), (.mv (.t 0)), none⟩, ⟨(some 12), (.mv (.t 1)), none⟩, ⟨(some 13), (.len 0 (.t 12)), none⟩, ⟨(some 14), (.cut (.t 11) (some (.t 13)) none), none⟩, ⟨(some 4), (.mv (.t 14)), none⟩, ⟨(some 5), (.mv (.c (.bool true))), none⟩])
 .ret)))⟩
theorem ok136 : FOk alT Try.prog 0 136 ir136 := ⟨_, Try.func136, by kernel_rfl, by kernel_rfl⟩
-- 139 internal/stringslite.HasPrefix
def ir139 : AFn := ⟨18, [.t 4],
 (.seq (.reg [⟨(some 4), (.mv (.c (.bool false))), none⟩])
 (.seq (.reg [⟨(some 5), (.mv (.t 0)), none⟩, ⟨(some 6), (.len 0 (.t 5)), none⟩, ⟨(some 7), (.mv (.t 1)), none⟩, ⟨(some 8), (.len 0 (.t 7)), none⟩, ⟨(some 9), (.bin .geq (.t 6) (.t 8)), none⟩, ⟨(some 10), (.mv (.t 9)), none⟩, ⟨(some 11), (.mv (.t 0)), (some (10, true))⟩, ⟨(some 12), (.mv (.t 1)), (some (10, true))⟩, ⟨(some 13), (.len 0 (.t 12)), (some (10, true))⟩, ⟨(some 14), (.cut (.t 11) none (some (.t 13))), (some (10, true))⟩, ⟨(some 15), (.mv (.t 1)), (some (10, true))⟩, ⟨(some 16), (.bin .eql (.t 14) (.t 15)), (some (10, true))⟩, ⟨(some 17), (.pick (.t 10) (.t 16) (.c (.bool false))), none⟩, ⟨(some 4), (.mv (.t 17)), none⟩])
 .ret))⟩
theorem ok139 : FOk alT Try.prog 0 139 ir139 := ⟨_, Try.func139, by kernel_rfl, by kernel_rfl⟩
def fnL : List (Nat × AFn) := [(3, ir3), (9, ir9), (10, ir10), (14, ir14), (15, ir15), (16, ir16), (17, ir17), (18, ir18), (19, ir19), (42, ir42), (43, ir43), (44, ir44), (45, ir45), (51, ir51), (52, ir52), (53, ir53), (54, ir54), (55, ir55), (56, ir56), (57, ir57), (58, ir58), (60, ir60), (61, ir61), (63, ir63), (81, ir81), (82, ir82), (83, ir83), (91, ir91), (92, ir92), (94, ir94), (96, ir96), (105, ir105), (106, ir106), (107, ir107), (118, ir118), (129, ir129), (136, ir136), (139, ir139)]
theorem fnL_ok : ∀ p ∈ fnL, FOk alT Try.prog 0 p.1 p.2 := (all_cons ok3 (all_cons ok9 (all_cons ok10 (all_cons ok14 (all_cons ok15 (all_cons ok16 (all_cons ok17 (all_cons ok18 (all_cons ok19 (all_cons ok42 (all_cons ok43 (all_cons ok44 (all_cons ok45 (all_cons ok51 (all_cons ok52 (all_cons ok53 (all_cons ok54 (all_cons ok55 (all_cons ok56 (all_cons ok57 (all_cons ok58 (all_cons ok60 (all_cons ok61 (all_cons ok63 (all_cons ok81 (all_cons ok82 (all_cons ok83 (all_cons ok91 (all_cons ok92 (all_cons ok94 (all_cons ok96 (all_cons ok105 (all_cons ok106 (all_cons ok107 (all_cons ok118 (all_cons ok129 (all_cons ok136 (all_cons ok139 all_nil))))))))))))))))))))))))))))))))))))))
theorem fn3 : tab fnL 3 = some ir3 := rfl
theorem fn9 : tab fnL 9 = some ir9 := rfl
theorem fn10 : tab fnL 10 = some ir10 := rfl
theorem fn14 : tab fnL 14 = some ir14 := rfl
theorem fn15 : tab fnL 15 = some ir15 := rfl
theorem fn16 : tab fnL 16 = some ir16 := rfl
theorem fn17 : tab fnL 17 = some ir17 := rfl
theorem fn18 : tab fnL 18 = some ir18 := rfl
theorem fn19 : tab fnL 19 = some ir19 := rfl
theorem fn42 : tab fnL 42 = some ir42 := rfl
theorem fn43 : tab fnL 43 = some ir43 := rfl
theorem fn44 : tab fnL 44 = some ir44 := rfl
theorem fn45 : tab fnL 45 = some ir45 := rfl
theorem fn51 : tab fnL 51 = some ir51 := rfl
theorem fn52 : tab fnL 52 = some ir52 := rfl
theorem fn53 : tab fnL 53 = some ir53 := rfl
theorem fn54 : tab fnL 54 = some ir54 := rfl
theorem fn55 : tab fnL 55 = some ir55 := rfl
theorem fn56 : tab fnL 56 = some ir56 := rfl
theorem fn57 : tab fnL 57 = some ir57 := rfl
theorem fn58 : tab fnL 58 = some ir58 := rfl
theorem fn60 : tab fnL 60 = some ir60 := rfl
theorem fn61 : tab fnL 61 = some ir61 := rfl
theorem fn63 : tab fnL 63 = some ir63 := rfl
theorem fn81 : tab fnL 81 = some ir81 := rfl
theorem fn82 : tab fnL 82 = some ir82 := rfl
theorem fn83 : tab fnL 83 = some ir83 := rfl
theorem fn91 : tab fnL 91 = some ir91 := rfl
theorem fn92 : tab fnL 92 = some ir92 := rfl
theorem fn94 : tab fnL 94 = some ir94 := rfl
theorem fn96 : tab fnL 96 = some ir96 := rfl
theorem fn105 : tab fnL 105 = some ir105 := rfl
theorem fn106 : tab fnL 106 = some ir106 := rfl
theorem fn107 : tab fnL 107 = some ir107 := rfl
theorem fn118 : tab fnL 118 = some ir118 := rfl
theorem fn129 : tab fnL 129 = some ir129 := rfl
theorem fn136 : tab fnL 136 = some ir136 := rfl
theorem fn139 : tab fnL 139 = some ir139 := rfl
noncomputable def CX (X : FuncId → Option (List Value → Option Value)) (pol : FuncId → Pol) : Cf := ⟨Try.prog, 0, tab fnL, pol, alT, X⟩
theorem CX_fn (X : FuncId → Option (List Value → Option Value)) (pol : FuncId → Pol) (f : FuncId) : (CX X pol).fn f = tab fnL f := rfl
theorem CX_X (X : FuncId → Option (List Value → Option Value)) (pol : FuncId → Pol) (f : FuncId) : (CX X pol).X f = X f := rfl
theorem CX_pol (X : FuncId → Option (List Value → Option Value)) (pol : FuncId → Pol) (f : FuncId) : (CX X pol).pol f = pol f := rfl
theorem CX_ok {x : List (Nat × (List Value → Option Value))} {pol : FuncId → Pol} (hx : ∀ p ∈ x, XOk Try.prog p.1 p.2) (hal : ∀ k, alT k = true → (∃ g, xtab x k = some g) ∨ (xtab x k = none ∧ (pol k = .al ∨ pol k = .ro))) : (CX (xtab x) pol).Ok where
  mixed := by kernel_rfl
  alok := hal
  fn := tab_ok fnL_ok
  X := xtab_ok hx
end Ev
end Go.Proofs.Ytfbelnjchpffeaa
