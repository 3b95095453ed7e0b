/-
  The functions of the seat in the small language, and that they are their translation.
-/
import Derived.Test.YtlcfanmmpfmnaaaProg
import Derived.Test.YtlcfanmmpfmnaaaEvV
import Derived.KernelRfl
namespace Go.Proofs.Ytlcfanmmpfmnaaa
namespace Ev
set_option maxRecDepth 4000
def alT : FuncId → Bool := fun k => [].contains k
-- 0 main.main: no body
-- 1 gosem.cut: no body
-- 2 gosem.cut.init
def ir2 : AFn := ⟨1, [],
 (.reg [⟨(some 0), (.call (.c (.func (.func 1) #[] #[])) []), none⟩])⟩
theorem ok2 : FOk alT Try.prog 0 2 ir2 := ⟨_, Try.func2, by kernel_rfl, by kernel_rfl⟩
-- 3 hatchway/hatchwaylaw03.LebReads
def ir3 : AFn := ⟨49, [.t 2],
 (.seq (.reg [⟨(some 2), (.mv (.c (.bool false))), none⟩])
 (.seq (.seq (.reg [⟨(some 9), (.call (.c (.func (.func 12) #[] #[])) []), none⟩, ⟨(some 10), (.un .not (.t 9)), none⟩])
 (.cond (.t 10) (.seq (.reg [⟨(some 2), (.mv (.c (.bool false))), none⟩])
 .ret)
 .skip))
 (.seq (.seq (.reg [⟨(some 11), (.mv (.t 0)), none⟩, ⟨(some 12), (.len 0 (.t 11)), none⟩, ⟨(some 13), (.bin .gtr (.t 12) (.c (.int .i64 200))), none⟩])
 (.cond (.t 13) (.seq (.reg [⟨(some 2), (.mv (.c (.bool true))), none⟩])
 .ret)
 .skip))
 (.seq (.reg [⟨(some 15), (.mv (.t 0)), none⟩, ⟨(some 16), (.call (.c (.func (.func 13) #[] #[])) [(.t 15)]), none⟩, ⟨(some 14), (.mv (.t 16)), none⟩, ⟨(some 17), (.ext 0 (.t 14)), none⟩, ⟨(some 18), (.ext 1 (.t 14)), none⟩, ⟨(some 19), (.ext 2 (.t 14)), none⟩, ⟨(some 3), (.mv (.t 17)), none⟩, ⟨(some 4), (.mv (.t 18)), none⟩, ⟨(some 5), (.mv (.t 19)), none⟩])
 (.seq (.reg [⟨(some 21), (.mv (.t 0)), none⟩, ⟨(some 22), (.call (.c (.func (.func 14) #[] #[])) [(.t 21)]), none⟩, ⟨(some 20), (.mv (.t 22)), none⟩, ⟨(some 23), (.ext 0 (.t 20)), none⟩, ⟨(some 24), (.ext 1 (.t 20)), none⟩, ⟨(some 25), (.ext 2 (.t 20)), none⟩, ⟨(some 6), (.mv (.t 23)), none⟩, ⟨(some 7), (.mv (.t 24)), none⟩, ⟨(some 8), (.mv (.t 25)), none⟩])
 (.seq (.seq (.reg [⟨(some 26), (.mv (.t 3)), none⟩, ⟨(some 27), (.mv (.t 6)), none⟩, ⟨(some 28), (.bin .neq (.t 26) (.t 27)), none⟩, ⟨(some 29), (.mv (.t 28)), none⟩, ⟨(some 30), (.mv (.t 4)), (some (29, false))⟩, ⟨(some 31), (.mv (.t 7)), (some (29, false))⟩, ⟨(some 32), (.bin .neq (.t 30) (.t 31)), (some (29, false))⟩, ⟨(some 33), (.pick (.t 29) (.c (.bool true)) (.t 32)), none⟩, ⟨(some 34), (.mv (.t 33)), none⟩, ⟨(some 35), (.mv (.t 5)), (some (34, false))⟩, ⟨(some 36), (.mv (.t 8)), (some (34, false))⟩, ⟨(some 37), (.bin .neq (.t 35) (.t 36)), (some (34, false))⟩, ⟨(some 38), (.pick (.t 34) (.c (.bool true)) (.t 37)), none⟩])
 (.cond (.t 38) (.seq (.reg [⟨(some 2), (.mv (.c (.bool false))), none⟩])
 .ret)
 .skip))
 (.seq (.draw [⟨(some 39), (.mv (.t 5)), none⟩, ⟨(some 40), (.bin .neq (.t 39) (.c (.int .i64 0))), none⟩, ⟨(some 41), (.mv (.t 40)), none⟩, ⟨(some 42), (.mv (.t 3)), (some (41, false))⟩, ⟨(some 43), (.call (.c (.func (.func 15) #[] #[])) [(.t 42)]), (some (41, false))⟩, ⟨(some 44), (.mv (.t 0)), (some (41, false))⟩, ⟨(some 45), (.mv (.t 4)), (some (41, false))⟩, ⟨(some 46), (.cut (.t 44) none (some (.t 45))), (some (41, false))⟩, ⟨(some 47), (.bin .eql (.t 43) (.t 46)), (some (41, false))⟩, ⟨(some 48), (.pick (.t 41) (.c (.bool true)) (.t 47)), none⟩, ⟨(some 2), (.mv (.t 48)), none⟩] [])
 .ret)))))))⟩
theorem ok3 : FOk alT Try.prog 0 3 ir3 := ⟨_, Try.func3, by kernel_rfl, by kernel_rfl⟩
-- 4 hatchway/hatchwaylaw03.LebShort
def ir4 : AFn := ⟨51, [.t 4],
 (.seq (.reg [⟨(some 4), (.mv (.c (.bool false))), none⟩])
 (.seq (.seq (.reg [⟨(some 11), (.call (.c (.func (.func 12) #[] #[])) []), none⟩, ⟨(some 12), (.un .not (.t 11)), none⟩])
 (.cond (.t 12) (.seq (.reg [⟨(some 4), (.mv (.c (.bool false))), none⟩])
 .ret)
 .skip))
 (.seq (.seq (.reg [⟨(some 13), (.mv (.t 0)), none⟩, ⟨(some 14), (.len 0 (.t 13)), none⟩, ⟨(some 15), (.bin .gtr (.t 14) (.c (.int .i64 200))), none⟩])
 (.cond (.t 15) (.seq (.reg [⟨(some 4), (.mv (.c (.bool true))), none⟩])
 .ret)
 .skip))
 (.seq (.reg [⟨(some 17), (.mv (.t 0)), none⟩, ⟨(some 18), (.mv (.t 1)), none⟩, ⟨(some 19), (.conv .i64 (.t 18)), none⟩, ⟨(some 20), (.mv (.t 0)), none⟩, ⟨(some 21), (.len 0 (.t 20)), none⟩, ⟨(some 22), (.mm false (.t 19) [(.t 21)]), none⟩, ⟨(some 23), (.cut (.t 17) none (some (.t 22))), none⟩, ⟨(some 24), (.call (.c (.func (.func 13) #[] #[])) [(.t 23)]), none⟩, ⟨(some 16), (.mv (.t 24)), none⟩, ⟨(some 25), (.ext 0 (.t 16)), none⟩, ⟨(some 26), (.ext 1 (.t 16)), none⟩, ⟨(some 27), (.ext 2 (.t 16)), none⟩, ⟨(some 5), (.mv (.t 25)), none⟩, ⟨(some 6), (.mv (.t 26)), none⟩, ⟨(some 7), (.mv (.t 27)), none⟩])
 (.seq (.reg [⟨(some 29), (.mv (.t 0)), none⟩, ⟨(some 30), (.call (.c (.func (.func 13) #[] #[])) [(.t 29)]), none⟩, ⟨(some 28), (.mv (.t 30)), none⟩, ⟨(some 31), (.ext 0 (.t 28)), none⟩, ⟨(some 32), (.ext 1 (.t 28)), none⟩, ⟨(some 33), (.ext 2 (.t 28)), none⟩, ⟨(some 8), (.mv (.t 31)), none⟩, ⟨(some 9), (.mv (.t 32)), none⟩, ⟨(some 10), (.mv (.t 33)), none⟩])
 (.seq (.reg [⟨(some 34), (.mv (.t 7)), none⟩, ⟨(some 35), (.bin .eql (.t 34) (.c (.int .i64 2))), none⟩, ⟨(some 36), (.mv (.t 35)), none⟩, ⟨(some 37), (.mv (.t 5)), (some (36, false))⟩, ⟨(some 38), (.mv (.t 8)), (some (36, false))⟩, ⟨(some 39), (.bin .eql (.t 37) (.t 38)), (some (36, false))⟩, ⟨(some 40), (.mv (.t 39)), (some (36, false))⟩, ⟨(some 41), (.mv (.t 6)), (some (40, true))⟩, ⟨(some 42), (.mv (.t 9)), (some (40, true))⟩, ⟨(some 43), (.bin .eql (.t 41) (.t 42)), (some (40, true))⟩, ⟨(some 44), (.pick (.t 40) (.t 43) (.c (.bool false))), (some (36, false))⟩, ⟨(some 45), (.mv (.t 44)), (some (36, false))⟩, ⟨(some 46), (.mv (.t 7)), (some (45, true))⟩, ⟨(some 47), (.mv (.t 10)), (some (45, true))⟩, ⟨(some 48), (.bin .eql (.t 46) (.t 47)), (some (45, true))⟩, ⟨(some 49), (.pick (.t 45) (.t 48) (.c (.bool false))), (some (36, false))⟩, ⟨(some 50), (.pick (.t 36) (.c (.bool true)) (.t 49)), none⟩, ⟨(some 4), (.mv (.t 50)), none⟩])
 .ret))))))⟩
theorem ok4 : FOk alT Try.prog 0 4 ir4 := ⟨_, Try.func4, by kernel_rfl, by kernel_rfl⟩
-- 5 hatchway/hatchwaylaw03.LebPuts
def ir5 : AFn := ⟨50, [.t 4],
 (.seq (.reg [⟨(some 4), (.mv (.c (.bool false))), none⟩])
 (.seq (.seq (.reg [⟨(some 9), (.call (.c (.func (.func 12) #[] #[])) []), none⟩, ⟨(some 10), (.un .not (.t 9)), none⟩])
 (.cond (.t 10) (.seq (.reg [⟨(some 4), (.mv (.c (.bool false))), none⟩])
 .ret)
 .skip))
 (.seq (.seq (.reg [⟨(some 11), (.mv (.t 1)), none⟩, ⟨(some 12), (.len 0 (.t 11)), none⟩, ⟨(some 13), (.bin .gtr (.t 12) (.c (.int .i64 100))), none⟩])
 (.cond (.t 13) (.seq (.reg [⟨(some 4), (.mv (.c (.bool true))), none⟩])
 .ret)
 .skip))
 (.seq (.reg [⟨(some 14), (.mv (.t 0)), none⟩, ⟨(some 15), (.call (.c (.func (.func 15) #[] #[])) [(.t 14)]), none⟩, ⟨(some 5), (.mv (.t 15)), none⟩])
 (.seq (.reg [⟨(some 17), (.mv (.t 5)), none⟩, ⟨(some 18), (.mv (.t 1)), none⟩, ⟨(some 19), (.bin .add (.t 17) (.t 18)), none⟩, ⟨(some 20), (.call (.c (.func (.func 13) #[] #[])) [(.t 19)]), none⟩, ⟨(some 16), (.mv (.t 20)), none⟩, ⟨(some 21), (.ext 0 (.t 16)), none⟩, ⟨(some 22), (.ext 1 (.t 16)), none⟩, ⟨(some 23), (.ext 2 (.t 16)), none⟩, ⟨(some 6), (.mv (.t 21)), none⟩, ⟨(some 7), (.mv (.t 22)), none⟩, ⟨(some 8), (.mv (.t 23)), none⟩])
 (.seq (.reg [⟨(some 24), (.mv (.t 5)), none⟩, ⟨(some 25), (.mv (.t 0)), none⟩, ⟨(some 26), (.call (.c (.func (.func 16) #[] #[])) [(.t 25)]), none⟩, ⟨(some 27), (.bin .eql (.t 24) (.t 26)), none⟩, ⟨(some 28), (.mv (.t 27)), none⟩, ⟨(some 29), (.mv (.t 0)), (some (28, true))⟩, ⟨(some 30), (.call (.c (.func (.func 17) #[] #[])) [(.t 29)]), (some (28, true))⟩, ⟨(some 31), (.mv (.t 5)), (some (28, true))⟩, ⟨(some 32), (.len 0 (.t 31)), (some (28, true))⟩, ⟨(some 33), (.bin .eql (.t 30) (.t 32)), (some (28, true))⟩, ⟨(some 34), (.pick (.t 28) (.t 33) (.c (.bool false))), none⟩, ⟨(some 35), (.mv (.t 34)), none⟩, ⟨(some 36), (.mv (.t 8)), (some (35, true))⟩, ⟨(some 37), (.bin .eql (.t 36) (.c (.int .i64 0))), (some (35, true))⟩, ⟨(some 38), (.pick (.t 35) (.t 37) (.c (.bool false))), none⟩, ⟨(some 39), (.mv (.t 38)), none⟩, ⟨(some 40), (.mv (.t 6)), (some (39, true))⟩, ⟨(some 41), (.mv (.t 0)), (some (39, true))⟩, ⟨(some 42), (.bin .eql (.t 40) (.t 41)), (some (39, true))⟩, ⟨(some 43), (.pick (.t 39) (.t 42) (.c (.bool false))), none⟩, ⟨(some 44), (.mv (.t 43)), none⟩, ⟨(some 45), (.mv (.t 7)), (some (44, true))⟩, ⟨(some 46), (.mv (.t 5)), (some (44, true))⟩, ⟨(some 47), (.len 0 (.t 46)), (some (44, true))⟩, ⟨(some 48), (.bin .eql (.t 45) (.t 47)), (some (44, true))⟩, ⟨(some 49), (.pick (.t 44) (.t 48) (.c (.bool false))), none⟩, ⟨(some 4), (.mv (.t 49)), none⟩])
 .ret))))))⟩
theorem ok5 : FOk alT Try.prog 0 5 ir5 := ⟨_, Try.func5, by kernel_rfl, by kernel_rfl⟩
-- 6 hatchway/hatchwaylaw01.CursorWhole
def lp6_0 : ACode := (.seq (.seq (.reg [⟨(some 21), (.mv (.t 7)), none⟩, ⟨(some 22), (.mv (.t 1)), none⟩, ⟨(some 23), (.len 1 (.t 22)), none⟩, ⟨(some 24), (.bin .lss (.t 21) (.t 23)), none⟩])
 (.cond (.t 24) .skip
 (.exit 0)))
 (.seq (.block 1 (.seq (.reg [⟨(some 27), (.mv (.t 1)), none⟩, ⟨(some 28), (.mv (.t 7)), none⟩, ⟨(some 29), (.ia 1 (.t 27) (.t 28)), none⟩, ⟨(some 30), (.ld (.t 29)), none⟩, ⟨(some 31), (.conv .i64 (.t 30)), none⟩, ⟨(some 8), (.mv (.t 31)), none⟩])
 (.seq (.seq (.reg [⟨(some 32), (.mv (.t 8)), none⟩, ⟨(some 33), (.mv (.t 5)), none⟩, ⟨(some 34), (.call (.c (.func (.func 20) #[] #[])) [(.t 33)]), none⟩, ⟨(some 35), (.bin .gtr (.t 32) (.t 34)), none⟩])
 (.cond (.t 35) (.reg [⟨(some 36), (.mv (.t 5)), none⟩, ⟨(some 37), (.call (.c (.func (.func 20) #[] #[])) [(.t 36)]), none⟩, ⟨(some 8), (.mv (.t 37)), none⟩])
 .skip))
 (.seq (.reg [⟨(some 38), (.mv (.t 6)), none⟩, ⟨(some 39), (.mv (.t 5)), none⟩, ⟨(some 40), (.mv (.t 8)), none⟩, ⟨(some 41), (.call (.c (.func (.func 21) #[] #[])) [(.t 39), (.t 40)]), none⟩, ⟨(some 42), (.bin .add (.t 38) (.t 41)), none⟩, ⟨(some 6), (.mv (.t 42)), none⟩])
 (.seq (.reg [⟨(some 43), (.mv (.t 5)), none⟩, ⟨(some 44), (.call (.c (.func (.func 22) #[] #[])) [(.t 43)]), none⟩, ⟨(some 45), (.mv (.t 6)), none⟩, ⟨(some 46), (.len 0 (.t 45)), none⟩, ⟨(some 47), (.bin .neq (.t 44) (.t 46)), none⟩])
 (.cond (.t 47) (.seq (.reg [⟨(some 4), (.mv (.c (.bool false))), none⟩])
 .ret)
 .skip))))))
 (.reg [⟨(some 25), (.mv (.t 7)), none⟩, ⟨(some 26), (.bin .add (.t 25) (.c (.int .i64 1))), none⟩, ⟨(some 7), (.mv (.t 26)), none⟩])))
def ir6 : AFn := ⟨64, [.t 4],
 (.seq (.reg [⟨(some 4), (.mv (.c (.bool false))), none⟩])
 (.seq (.seq (.reg [⟨(some 9), (.call (.c (.func (.func 18) #[] #[])) []), none⟩, ⟨(some 10), (.un .not (.t 9)), none⟩])
 (.cond (.t 10) (.seq (.reg [⟨(some 4), (.mv (.c (.bool false))), none⟩])
 .ret)
 .skip))
 (.seq (.seq (.reg [⟨(some 11), (.mv (.t 0)), none⟩, ⟨(some 12), (.len 0 (.t 11)), none⟩, ⟨(some 13), (.bin .gtr (.t 12) (.c (.int .i64 1000))), none⟩, ⟨(some 14), (.mv (.t 13)), none⟩, ⟨(some 15), (.mv (.t 1)), (some (14, false))⟩, ⟨(some 16), (.len 1 (.t 15)), (some (14, false))⟩, ⟨(some 17), (.bin .gtr (.t 16) (.c (.int .i64 100))), (some (14, false))⟩, ⟨(some 18), (.pick (.t 14) (.c (.bool true)) (.t 17)), none⟩])
 (.cond (.t 18) (.seq (.reg [⟨(some 4), (.mv (.c (.bool true))), none⟩])
 .ret)
 .skip))
 (.seq (.reg [⟨(some 19), (.mv (.t 0)), none⟩, ⟨(some 20), (.call (.c (.func (.func 19) #[] #[])) [(.t 19)]), none⟩, ⟨(some 5), (.mv (.t 20)), none⟩])
 (.seq (.reg [⟨(some 6), (.mv (.c (.string ⟨#[]⟩))), none⟩])
 (.seq (.seq (.reg [⟨(some 7), (.mv (.c (.int .i64 0))), none⟩])
 (.block 0 (.loop lp6_0)))
 (.seq (.reg [⟨(some 48), (.mv (.t 6)), none⟩, ⟨(some 49), (.mv (.t 5)), none⟩, ⟨(some 50), (.call (.c (.func (.func 23) #[] #[])) [(.t 49)]), none⟩, ⟨(some 51), (.bin .add (.t 48) (.t 50)), none⟩, ⟨(some 52), (.mv (.t 0)), none⟩, ⟨(some 53), (.bin .eql (.t 51) (.t 52)), none⟩, ⟨(some 54), (.mv (.t 53)), none⟩, ⟨(some 55), (.mv (.t 5)), (some (54, true))⟩, ⟨(some 56), (.call (.c (.func (.func 20) #[] #[])) [(.t 55)]), (some (54, true))⟩, ⟨(some 57), (.bin .eql (.t 56) (.c (.int .i64 0))), (some (54, true))⟩, ⟨(some 58), (.pick (.t 54) (.t 57) (.c (.bool false))), none⟩, ⟨(some 59), (.mv (.t 58)), none⟩, ⟨(some 60), (.mv (.t 5)), (some (59, true))⟩, ⟨(some 61), (.call (.c (.func (.func 24) #[] #[])) [(.t 60)]), (some (59, true))⟩, ⟨(some 62), (.bin .eql (.t 61) (.c (.int .i64 0))), (some (59, true))⟩, ⟨(some 63), (.pick (.t 59) (.t 62) (.c (.bool false))), none⟩, ⟨(some 4), (.mv (.t 63)), none⟩])
 .ret)))))))⟩
theorem ok6 : FOk alT Try.prog 0 6 ir6 := ⟨_, Try.func6, by kernel_rfl, by kernel_rfl⟩
-- 7 hatchway/hatchwaylaw07.MeterSums
def lp7_0 : ACode := (.seq (.seq (.reg [⟨(some 17), (.mv (.t 7)), none⟩, ⟨(some 18), (.mv (.t 1)), none⟩, ⟨(some 19), (.len 1 (.t 18)), none⟩, ⟨(some 20), (.bin .lss (.t 17) (.t 19)), none⟩])
 (.cond (.t 20) .skip
 (.exit 0)))
 (.seq (.block 1 (.seq (.reg [⟨(some 23), (.mv (.t 1)), none⟩, ⟨(some 24), (.mv (.t 7)), none⟩, ⟨(some 25), (.ia 1 (.t 23) (.t 24)), none⟩, ⟨(some 26), (.ld (.t 25)), none⟩, ⟨(some 27), (.conv .i64 (.t 26)), none⟩, ⟨(some 8), (.mv (.t 27)), none⟩])
 (.seq (.reg [⟨(some 28), (.mv (.t 5)), none⟩, ⟨(some 29), (.mv (.t 8)), none⟩, ⟨(some 30), (.call (.c (.func (.func 27) #[] #[])) [(.t 28), (.t 29)]), none⟩, ⟨(some 9), (.mv (.t 30)), none⟩])
 (.seq (.seq (.reg [⟨(some 31), (.mv (.t 9)), none⟩, ⟨(some 32), (.bin .eql (.t 31) (.c (.int .i64 0))), none⟩, ⟨(some 33), (.mv (.t 6)), none⟩, ⟨(some 34), (.mv (.t 8)), none⟩, ⟨(some 35), (.bin .add (.t 33) (.t 34)), none⟩, ⟨(some 36), (.mv (.t 0)), none⟩, ⟨(some 37), (.mm true (.t 36) [(.c (.int .i64 0))]), none⟩, ⟨(some 38), (.bin .leq (.t 35) (.t 37)), none⟩, ⟨(some 39), (.booleq true (.t 32) (.t 38)), none⟩])
 (.cond (.t 39) (.seq (.reg [⟨(some 4), (.mv (.c (.bool false))), none⟩])
 .ret)
 .skip))
 (.seq (.reg [⟨(some 40), (.mv (.t 9)), none⟩, ⟨(some 41), (.bin .eql (.t 40) (.c (.int .i64 0))), none⟩])
 (.cond (.t 41) (.reg [⟨(some 42), (.mv (.t 6)), none⟩, ⟨(some 43), (.mv (.t 8)), none⟩, ⟨(some 44), (.bin .add (.t 42) (.t 43)), none⟩, ⟨(some 6), (.mv (.t 44)), none⟩])
 .skip))))))
 (.reg [⟨(some 21), (.mv (.t 7)), none⟩, ⟨(some 22), (.bin .add (.t 21) (.c (.int .i64 1))), none⟩, ⟨(some 7), (.mv (.t 22)), none⟩])))
def ir7 : AFn := ⟨78, [.t 4],
 (.seq (.reg [⟨(some 4), (.mv (.c (.bool false))), none⟩])
 (.seq (.seq (.reg [⟨(some 10), (.call (.c (.func (.func 25) #[] #[])) []), none⟩, ⟨(some 11), (.un .not (.t 10)), none⟩])
 (.cond (.t 11) (.seq (.reg [⟨(some 4), (.mv (.c (.bool false))), none⟩])
 .ret)
 .skip))
 (.seq (.seq (.reg [⟨(some 12), (.mv (.t 1)), none⟩, ⟨(some 13), (.len 1 (.t 12)), none⟩, ⟨(some 14), (.bin .gtr (.t 13) (.c (.int .i64 100))), none⟩])
 (.cond (.t 14) (.seq (.reg [⟨(some 4), (.mv (.c (.bool true))), none⟩])
 .ret)
 .skip))
 (.seq (.reg [⟨(some 15), (.mv (.t 0)), none⟩, ⟨(some 16), (.call (.c (.func (.func 26) #[] #[])) [(.t 15)]), none⟩, ⟨(some 5), (.mv (.t 16)), none⟩])
 (.seq (.reg [⟨(some 6), (.mv (.c (.int .i64 0))), none⟩])
 (.seq (.seq (.reg [⟨(some 7), (.mv (.c (.int .i64 0))), none⟩])
 (.block 0 (.loop lp7_0)))
 (.seq (.reg [⟨(some 45), (.mv (.t 5)), none⟩, ⟨(some 46), (.call (.c (.func (.func 28) #[] #[])) [(.t 45)]), none⟩, ⟨(some 47), (.mv (.t 6)), none⟩, ⟨(some 48), (.bin .eql (.t 46) (.t 47)), none⟩, ⟨(some 49), (.mv (.t 48)), none⟩, ⟨(some 50), (.mv (.t 5)), (some (49, true))⟩, ⟨(some 51), (.call (.c (.func (.func 29) #[] #[])) [(.t 50)]), (some (49, true))⟩, ⟨(some 52), (.mv (.t 6)), (some (49, true))⟩, ⟨(some 53), (.bin .eql (.t 51) (.t 52)), (some (49, true))⟩, ⟨(some 54), (.pick (.t 49) (.t 53) (.c (.bool false))), none⟩, ⟨(some 55), (.mv (.t 54)), none⟩, ⟨(some 56), (.mv (.t 5)), (some (55, true))⟩, ⟨(some 57), (.call (.c (.func (.func 30) #[] #[])) [(.t 56)]), (some (55, true))⟩, ⟨(some 58), (.mv (.t 6)), (some (55, true))⟩, ⟨(some 59), (.bin .eql (.t 57) (.t 58)), (some (55, true))⟩, ⟨(some 60), (.pick (.t 55) (.t 59) (.c (.bool false))), none⟩, ⟨(some 61), (.mv (.t 60)), none⟩, ⟨(some 62), (.mv (.t 5)), (some (61, true))⟩, ⟨(some 63), (.mv (.t 6)), (some (61, true))⟩, ⟨(some 64), (.call (.c (.func (.func 31) #[] #[])) [(.t 62), (.t 63)]), (some (61, true))⟩, ⟨(some 65), (.bin .eql (.t 64) (.c (.int .i64 0))), (some (61, true))⟩, ⟨(some 66), (.pick (.t 61) (.t 65) (.c (.bool false))), none⟩, ⟨(some 67), (.mv (.t 66)), none⟩, ⟨(some 68), (.mv (.t 5)), (some (67, true))⟩, ⟨(some 69), (.call (.c (.func (.func 28) #[] #[])) [(.t 68)]), (some (67, true))⟩, ⟨(some 70), (.bin .eql (.t 69) (.c (.int .i64 0))), (some (67, true))⟩, ⟨(some 71), (.pick (.t 67) (.t 70) (.c (.bool false))), none⟩, ⟨(some 72), (.mv (.t 71)), none⟩, ⟨(some 73), (.mv (.t 5)), (some (72, true))⟩, ⟨(some 74), (.call (.c (.func (.func 30) #[] #[])) [(.t 73)]), (some (72, true))⟩, ⟨(some 75), (.mv (.t 6)), (some (72, true))⟩, ⟨(some 76), (.bin .eql (.t 74) (.t 75)), (some (72, true))⟩, ⟨(some 77), (.pick (.t 72) (.t 76) (.c (.bool false))), none⟩, ⟨(some 4), (.mv (.t 77)), none⟩])
 .ret)))))))⟩
theorem ok7 : FOk alT Try.prog 0 7 ir7 := ⟨_, Try.func7, by kernel_rfl, by kernel_rfl⟩
-- 8 hatchway/hatchwaylaw02.FixedOrder
def ir8 : AFn := ⟨45, [.t 4],
 (.seq (.reg [⟨(some 4), (.mv (.c (.bool false))), none⟩])
 (.seq (.seq (.reg [⟨(some 9), (.call (.c (.func (.func 32) #[] #[])) []), none⟩, ⟨(some 10), (.un .not (.t 9)), none⟩])
 (.cond (.t 10) (.seq (.reg [⟨(some 4), (.mv (.c (.bool false))), none⟩])
 .ret)
 .skip))
 (.seq (.reg [⟨(some 12), (.mv (.t 0)), none⟩, ⟨(some 13), (.call (.c (.func (.func 33) #[] #[])) [(.t 12), (.c (.int .i64 8))]), none⟩, ⟨(some 11), (.mv (.t 13)), none⟩, ⟨(some 14), (.ext 0 (.t 11)), none⟩, ⟨(some 15), (.ext 1 (.t 11)), none⟩, ⟨(some 5), (.mv (.t 14)), none⟩, ⟨(some 6), (.mv (.t 15)), none⟩])
 (.seq (.reg [⟨(some 17), (.mv (.t 1)), none⟩, ⟨(some 18), (.call (.c (.func (.func 33) #[] #[])) [(.t 17), (.c (.int .i64 8))]), none⟩, ⟨(some 16), (.mv (.t 18)), none⟩, ⟨(some 19), (.ext 0 (.t 16)), none⟩, ⟨(some 20), (.ext 1 (.t 16)), none⟩, ⟨(some 7), (.mv (.t 19)), none⟩, ⟨(some 8), (.mv (.t 20)), none⟩])
 (.seq (.reg [⟨(some 21), (.mv (.t 6)), none⟩, ⟨(some 22), (.bin .eql (.t 21) (.c (.int .i64 0))), none⟩, ⟨(some 23), (.mv (.t 22)), none⟩, ⟨(some 24), (.mv (.t 8)), (some (23, true))⟩, ⟨(some 25), (.bin .eql (.t 24) (.c (.int .i64 0))), (some (23, true))⟩, ⟨(some 26), (.pick (.t 23) (.t 25) (.c (.bool false))), none⟩, ⟨(some 27), (.mv (.t 26)), none⟩, ⟨(some 28), (.mv (.t 0)), (some (27, true))⟩, ⟨(some 29), (.mv (.t 1)), (some (27, true))⟩, ⟨(some 30), (.bin .lss (.t 28) (.t 29)), (some (27, true))⟩, ⟨(some 31), (.mv (.t 5)), (some (27, true))⟩, ⟨(some 32), (.mv (.t 7)), (some (27, true))⟩, ⟨(some 33), (.bin .lss (.t 31) (.t 32)), (some (27, true))⟩, ⟨(some 34), (.booleq false (.t 30) (.t 33)), (some (27, true))⟩, ⟨(some 35), (.pick (.t 27) (.t 34) (.c (.bool false))), none⟩, ⟨(some 36), (.mv (.t 35)), none⟩, ⟨(some 37), (.mv (.t 0)), (some (36, true))⟩, ⟨(some 38), (.mv (.t 1)), (some (36, true))⟩, ⟨(some 39), (.bin .eql (.t 37) (.t 38)), (some (36, true))⟩, ⟨(some 40), (.mv (.t 5)), (some (36, true))⟩, ⟨(some 41), (.mv (.t 7)), (some (36, true))⟩, ⟨(some 42), (.bin .eql (.t 40) (.t 41)), (some (36, true))⟩, ⟨(some 43), (.booleq false (.t 39) (.t 42)), (some (36, true))⟩, ⟨(some 44), (.pick (.t 36) (.t 43) (.c (.bool false))), none⟩, ⟨(some 4), (.mv (.t 44)), none⟩])
 .ret)))))⟩
theorem ok8 : FOk alT Try.prog 0 8 ir8 := ⟨_, Try.func8, by kernel_rfl, by kernel_rfl⟩
-- 9 hatchway/hatchwaylaw07.MeterPlays
def lp9_0 : ACode := (.seq (.seq (.reg [⟨(some 22), (.mv (.t 7)), none⟩, ⟨(some 23), (.mv (.t 1)), none⟩, ⟨(some 24), (.len 1 (.t 23)), none⟩, ⟨(some 25), (.bin .lss (.t 22) (.t 24)), none⟩])
 (.cond (.t 25) .skip
 (.exit 0)))
 (.seq (.block 1 (.seq (.reg [⟨(some 28), (.mv (.t 1)), none⟩, ⟨(some 29), (.mv (.t 7)), none⟩, ⟨(some 30), (.ia 2 (.t 28) (.t 29)), none⟩, ⟨(some 31), (.ldn 2 (.t 30)), none⟩, ⟨(some 8), (.new 54 [(.int .u8 0), (.int .i64 0)]), none⟩, ⟨none, (.st 2 (.t 8) (.t 31)), none⟩])
 (.seq (.reg [⟨(some 9), (.mv (.c (.int .i64 0))), none⟩, ⟨(some 10), (.mv (.c (.int .i64 0))), none⟩])
 (.seq (.reg [⟨(some 32), (.ldn 4 (.t 6)), none⟩, ⟨(some 11), (.new 51 [(.int .i64 0), (.int .i64 0), (.int .i64 0), (.int .i64 0)]), none⟩, ⟨none, (.st 4 (.t 11) (.t 32)), none⟩])
 (.seq (.seq (.reg [⟨(some 33), (.fa 0 (.t 8)), none⟩, ⟨(some 34), (.ld (.t 33)), none⟩, ⟨(some 35), (.bin .rem (.t 34) (.c (.int .u8 4))), none⟩])
 (.block 2 (.seq (.reg [⟨(some 48), (.bin .eql (.t 35) (.c (.int .u8 2))), none⟩, ⟨(some 47), (.mv (.t 48)), none⟩])
 (.cond (.t 47) (.seq (.reg [⟨(some 49), (.mv (.t 5)), none⟩, ⟨(some 50), (.fa 1 (.t 8)), none⟩, ⟨(some 51), (.ld (.t 50)), none⟩, ⟨(some 52), (.call (.c (.func (.func 31) #[] #[])) [(.t 49), (.t 51)]), none⟩, ⟨(some 9), (.mv (.t 52)), none⟩])
 (.reg [⟨(some 54), (.ldn 4 (.t 6)), none⟩, ⟨(some 55), (.fa 1 (.t 8)), none⟩, ⟨(some 56), (.ld (.t 55)), none⟩, ⟨(some 57), (.call (.c (.func (.func 35) #[] #[])) [(.t 54), (.t 56)]), none⟩, ⟨(some 53), (.mv (.t 57)), none⟩, ⟨(some 58), (.ext 0 (.t 53)), none⟩, ⟨(some 59), (.ext 1 (.t 53)), none⟩, ⟨none, (.st 4 (.t 11) (.t 58)), none⟩, ⟨(some 10), (.mv (.t 59)), none⟩]))
 (.seq (.reg [⟨(some 61), (.bin .eql (.t 35) (.c (.int .u8 3))), none⟩, ⟨(some 60), (.mv (.t 61)), none⟩])
 (.cond (.t 60) (.seq (.reg [⟨(some 62), (.mv (.t 5)), none⟩, ⟨(some 63), (.call (.c (.func (.func 36) #[] #[])) [(.t 62)]), none⟩])
 (.reg [⟨(some 64), (.ldn 4 (.t 6)), none⟩, ⟨(some 65), (.call (.c (.func (.func 37) #[] #[])) [(.t 64)]), none⟩, ⟨none, (.st 4 (.t 11) (.t 65)), none⟩]))
 (.seq (.reg [⟨(some 36), (.mv (.t 5)), none⟩, ⟨(some 37), (.fa 1 (.t 8)), none⟩, ⟨(some 38), (.ld (.t 37)), none⟩, ⟨(some 39), (.call (.c (.func (.func 27) #[] #[])) [(.t 36), (.t 38)]), none⟩, ⟨(some 9), (.mv (.t 39)), none⟩])
 (.reg [⟨(some 41), (.ldn 4 (.t 6)), none⟩, ⟨(some 42), (.fa 1 (.t 8)), none⟩, ⟨(some 43), (.ld (.t 42)), none⟩, ⟨(some 44), (.call (.c (.func (.func 38) #[] #[])) [(.t 41), (.t 43)]), none⟩, ⟨(some 40), (.mv (.t 44)), none⟩, ⟨(some 45), (.ext 0 (.t 40)), none⟩, ⟨(some 46), (.ext 1 (.t 40)), none⟩, ⟨none, (.st 4 (.t 11) (.t 45)), none⟩, ⟨(some 10), (.mv (.t 46)), none⟩]))))))))
 (.seq (.reg [⟨(some 66), (.ldn 4 (.t 11)), none⟩, ⟨none, (.st 4 (.t 6) (.t 66)), none⟩])
 (.seq (.draw [⟨(some 67), (.mv (.t 9)), none⟩, ⟨(some 68), (.mv (.t 10)), none⟩, ⟨(some 69), (.bin .neq (.t 67) (.t 68)), none⟩, ⟨(some 70), (.mv (.t 69)), none⟩, ⟨(some 71), (.mv (.t 5)), (some (70, false))⟩, ⟨(some 72), (.call (.c (.func (.func 28) #[] #[])) [(.t 71)]), (some (70, false))⟩, ⟨(some 73), (.fa 1 (.t 6)), (some (70, false))⟩, ⟨(some 74), (.ld (.t 73)), (some (70, false))⟩, ⟨(some 75), (.bin .neq (.t 72) (.t 74)), (some (70, false))⟩, ⟨(some 76), (.pick (.t 70) (.c (.bool true)) (.t 75)), none⟩, ⟨(some 77), (.mv (.t 76)), none⟩, ⟨(some 78), (.mv (.t 5)), (some (77, false))⟩, ⟨(some 79), (.call (.c (.func (.func 29) #[] #[])) [(.t 78)]), (some (77, false))⟩, ⟨(some 80), (.fa 2 (.t 6)), (some (77, false))⟩, ⟨(some 81), (.ld (.t 80)), (some (77, false))⟩, ⟨(some 82), (.bin .neq (.t 79) (.t 81)), (some (77, false))⟩, ⟨(some 83), (.pick (.t 77) (.c (.bool true)) (.t 82)), none⟩, ⟨(some 84), (.mv (.t 83)), none⟩, ⟨(some 85), (.mv (.t 5)), (some (84, false))⟩, ⟨(some 86), (.call (.c (.func (.func 30) #[] #[])) [(.t 85)]), (some (84, false))⟩, ⟨(some 87), (.fa 3 (.t 6)), (some (84, false))⟩, ⟨(some 88), (.ld (.t 87)), (some (84, false))⟩, ⟨(some 89), (.bin .neq (.t 86) (.t 88)), (some (84, false))⟩, ⟨(some 90), (.pick (.t 84) (.c (.bool true)) (.t 89)), none⟩, ⟨(some 91), (.mv (.t 90)), none⟩, ⟨(some 92), (.mv (.t 5)), (some (91, false))⟩, ⟨(some 93), (.call (.c (.func (.func 39) #[] #[])) [(.t 92)]), (some (91, false))⟩, ⟨(some 94), (.fa 0 (.t 6)), (some (91, false))⟩, ⟨(some 95), (.ld (.t 94)), (some (91, false))⟩, ⟨(some 96), (.bin .neq (.t 93) (.t 95)), (some (91, false))⟩, ⟨(some 97), (.pick (.t 91) (.c (.bool true)) (.t 96)), none⟩, ⟨(some 98), (.mv (.t 97)), none⟩, ⟨(some 99), (.mv (.t 5)), (some (98, false))⟩, ⟨(some 100), (.call (.c (.func (.func 28) #[] #[])) [(.t 99)]), (some (98, false))⟩, ⟨(some 101), (.mv (.t 5)), (some (98, false))⟩, ⟨(some 102), (.call (.c (.func (.func 39) #[] #[])) [(.t 101)]), (some (98, false))⟩, ⟨(some 103), (.bin .gtr (.t 100) (.t 102)), (some (98, false))⟩, ⟨(some 104), (.pick (.t 98) (.c (.bool true)) (.t 103)), none⟩, ⟨(some 105), (.mv (.t 104)), none⟩, ⟨(some 106), (.mv (.t 5)), (some (105, false))⟩, ⟨(some 107), (.call (.c (.func (.func 30) #[] #[])) [(.t 106)]), (some (105, false))⟩, ⟨(some 108), (.mv (.t 5)), (some (105, false))⟩, ⟨(some 109), (.call (.c (.func (.func 28) #[] #[])) [(.t 108)]), (some (105, false))⟩, ⟨(some 110), (.bin .lss (.t 107) (.t 109)), (some (105, false))⟩, ⟨(some 111), (.pick (.t 105) (.c (.bool true)) (.t 110)), none⟩, ⟨(some 112), (.mv (.t 111)), none⟩, ⟨(some 113), (.mv (.t 5)), (some (112, false))⟩, ⟨(some 114), (.call (.c (.func (.func 30) #[] #[])) [(.t 113)]), (some (112, false))⟩, ⟨(some 115), (.mv (.t 5)), (some (112, false))⟩, ⟨(some 116), (.call (.c (.func (.func 39) #[] #[])) [(.t 115)]), (some (112, false))⟩, ⟨(some 117), (.bin .gtr (.t 114) (.t 116)), (some (112, false))⟩, ⟨(some 118), (.pick (.t 112) (.c (.bool true)) (.t 117)), none⟩] [])
 (.cond (.t 118) (.seq (.reg [⟨(some 4), (.mv (.c (.bool false))), none⟩])
 .ret)
 .skip))))))))
 (.reg [⟨(some 26), (.mv (.t 7)), none⟩, ⟨(some 27), (.bin .add (.t 26) (.c (.int .i64 1))), none⟩, ⟨(some 7), (.mv (.t 27)), none⟩])))
def ir9 : AFn := ⟨149, [.t 4],
 (.seq (.reg [⟨(some 4), (.mv (.c (.bool false))), none⟩])
 (.seq (.seq (.reg [⟨(some 13), (.call (.c (.func (.func 25) #[] #[])) []), none⟩, ⟨(some 14), (.un .not (.t 13)), none⟩])
 (.cond (.t 14) (.seq (.reg [⟨(some 4), (.mv (.c (.bool false))), none⟩])
 .ret)
 .skip))
 (.seq (.seq (.reg [⟨(some 15), (.mv (.t 1)), none⟩, ⟨(some 16), (.len 1 (.t 15)), none⟩, ⟨(some 17), (.bin .gtr (.t 16) (.c (.int .i64 100))), none⟩])
 (.cond (.t 17) (.seq (.reg [⟨(some 4), (.mv (.c (.bool true))), none⟩])
 .ret)
 .skip))
 (.seq (.reg [⟨(some 18), (.mv (.t 0)), none⟩, ⟨(some 19), (.call (.c (.func (.func 26) #[] #[])) [(.t 18)]), none⟩, ⟨(some 20), (.mv (.t 0)), none⟩, ⟨(some 21), (.call (.c (.func (.func 34) #[] #[])) [(.t 20)]), none⟩, ⟨(some 6), (.new 51 [(.int .i64 0), (.int .i64 0), (.int .i64 0), (.int .i64 0)]), none⟩, ⟨(some 5), (.mv (.t 19)), none⟩, ⟨none, (.st 4 (.t 6) (.t 21)), none⟩])
 (.seq (.seq (.reg [⟨(some 7), (.mv (.c (.int .i64 0))), none⟩])
 (.block 0 (.loop lp9_0)))
 (.seq (.reg [⟨(some 12), (.mv (.c (.pointer none))), none⟩])
 (.seq (.reg [⟨(some 119), (.mv (.t 12)), none⟩, ⟨(some 120), (.call (.c (.func (.func 36) #[] #[])) [(.t 119)]), none⟩])
 (.seq (.reg [⟨(some 121), (.mv (.t 12)), none⟩, ⟨(some 122), (.call (.c (.func (.func 27) #[] #[])) [(.t 121), (.c (.int .i64 1))]), none⟩, ⟨(some 123), (.bin .eql (.t 122) (.c (.int .i64 1))), none⟩, ⟨(some 124), (.mv (.t 123)), none⟩, ⟨(some 125), (.mv (.t 12)), (some (124, true))⟩, ⟨(some 126), (.call (.c (.func (.func 31) #[] #[])) [(.t 125), (.c (.int .i64 0))]), (some (124, true))⟩, ⟨(some 127), (.bin .eql (.t 126) (.c (.int .i64 1))), (some (124, true))⟩, ⟨(some 128), (.pick (.t 124) (.t 127) (.c (.bool false))), none⟩, ⟨(some 129), (.mv (.t 128)), none⟩, ⟨(some 130), (.mv (.t 12)), (some (129, true))⟩, ⟨(some 131), (.call (.c (.func (.func 28) #[] #[])) [(.t 130)]), (some (129, true))⟩, ⟨(some 132), (.bin .eql (.t 131) (.c (.int .i64 0))), (some (129, true))⟩, ⟨(some 133), (.pick (.t 129) (.t 132) (.c (.bool false))), none⟩, ⟨(some 134), (.mv (.t 133)), none⟩, ⟨(some 135), (.mv (.t 12)), (some (134, true))⟩, ⟨(some 136), (.call (.c (.func (.func 29) #[] #[])) [(.t 135)]), (some (134, true))⟩, ⟨(some 137), (.bin .eql (.t 136) (.c (.int .i64 0))), (some (134, true))⟩, ⟨(some 138), (.pick (.t 134) (.t 137) (.c (.bool false))), none⟩, ⟨(some 139), (.mv (.t 138)), none⟩, ⟨(some 140), (.mv (.t 12)), (some (139, true))⟩, ⟨(some 141), (.call (.c (.func (.func 30) #[] #[])) [(.t 140)]), (some (139, true))⟩, ⟨(some 142), (.bin .eql (.t 141) (.c (.int .i64 0))), (some (139, true))⟩, ⟨(some 143), (.pick (.t 139) (.t 142) (.c (.bool false))), none⟩, ⟨(some 144), (.mv (.t 143)), none⟩, ⟨(some 145), (.mv (.t 12)), (some (144, true))⟩, ⟨(some 146), (.call (.c (.func (.func 39) #[] #[])) [(.t 145)]), (some (144, true))⟩, ⟨(some 147), (.bin .eql (.t 146) (.c (.int .i64 0))), (some (144, true))⟩, ⟨(some 148), (.pick (.t 144) (.t 147) (.c (.bool false))), none⟩, ⟨(some 4), (.mv (.t 148)), none⟩])
 .ret))))))))⟩
theorem ok9 : FOk alT Try.prog 0 9 ir9 := ⟨_, Try.func9, by kernel_rfl, by kernel_rfl⟩
-- 10 hatchway/hatchwaylaw02.FixedPuts
def ir10 : AFn := ⟨139, [.t 4],
 (.seq (.reg [⟨(some 4), (.mv (.c (.bool false))), none⟩])
 (.seq (.seq (.reg [⟨(some 18), (.call (.c (.func (.func 32) #[] #[])) []), none⟩, ⟨(some 19), (.un .not (.t 18)), none⟩])
 (.cond (.t 19) (.seq (.reg [⟨(some 4), (.mv (.c (.bool false))), none⟩])
 .ret)
 .skip))
 (.seq (.reg [⟨(some 21), (.mv (.t 0)), none⟩, ⟨(some 22), (.mv (.t 1)), none⟩, ⟨(some 23), (.call (.c (.func (.func 40) #[] #[])) [(.t 21), (.t 22)]), none⟩, ⟨(some 20), (.mv (.t 23)), none⟩, ⟨(some 24), (.ext 0 (.t 20)), none⟩, ⟨(some 25), (.ext 1 (.t 20)), none⟩, ⟨(some 5), (.mv (.t 24)), none⟩, ⟨(some 6), (.mv (.t 25)), none⟩])
 (.seq (.reg [⟨(some 27), (.mv (.t 0)), none⟩, ⟨(some 28), (.mv (.t 1)), none⟩, ⟨(some 29), (.call (.c (.func (.func 33) #[] #[])) [(.t 27), (.t 28)]), none⟩, ⟨(some 26), (.mv (.t 29)), none⟩, ⟨(some 30), (.ext 0 (.t 26)), none⟩, ⟨(some 31), (.ext 1 (.t 26)), none⟩, ⟨(some 7), (.mv (.t 30)), none⟩, ⟨(some 8), (.mv (.t 31)), none⟩])
 (.seq (.reg [⟨(some 32), (.mv (.t 0)), none⟩, ⟨(some 33), (.call (.c (.func (.func 41) #[] #[])) [(.t 32)]), none⟩, ⟨(some 9), (.mv (.t 33)), none⟩])
 (.seq (.reg [⟨(some 35), (.mv (.t 9)), none⟩, ⟨(some 36), (.call (.c (.func (.func 42) #[] #[])) [(.t 35)]), none⟩, ⟨(some 34), (.mv (.t 36)), none⟩, ⟨(some 37), (.ext 0 (.t 34)), none⟩, ⟨(some 38), (.ext 1 (.t 34)), none⟩, ⟨(some 10), (.mv (.t 37)), none⟩, ⟨(some 11), (.mv (.t 38)), none⟩])
 (.seq (.seq (.reg [⟨(some 39), (.mv (.t 9)), none⟩, ⟨(some 40), (.mv (.t 0)), none⟩, ⟨(some 41), (.call (.c (.func (.func 43) #[] #[])) [(.t 40)]), none⟩, ⟨(some 42), (.bin .neq (.t 39) (.t 41)), none⟩, ⟨(some 43), (.mv (.t 42)), none⟩, ⟨(some 44), (.mv (.t 11)), (some (43, false))⟩, ⟨(some 45), (.bin .neq (.t 44) (.c (.int .i64 0))), (some (43, false))⟩, ⟨(some 46), (.pick (.t 43) (.c (.bool true)) (.t 45)), none⟩, ⟨(some 47), (.mv (.t 46)), none⟩, ⟨(some 48), (.mv (.t 10)), (some (47, false))⟩, ⟨(some 49), (.mv (.t 0)), (some (47, false))⟩, ⟨(some 50), (.bin .neq (.t 48) (.t 49)), (some (47, false))⟩, ⟨(some 51), (.pick (.t 47) (.c (.bool true)) (.t 50)), none⟩])
 (.cond (.t 51) (.seq (.reg [⟨(some 4), (.mv (.c (.bool false))), none⟩])
 .ret)
 .skip))
 (.seq (.seq (.reg [⟨(some 52), (.mv (.t 1)), none⟩, ⟨(some 53), (.bin .lss (.t 52) (.c (.int .i64 1))), none⟩, ⟨(some 54), (.mv (.t 53)), none⟩, ⟨(some 55), (.mv (.t 1)), (some (54, false))⟩, ⟨(some 56), (.bin .gtr (.t 55) (.c (.int .i64 8))), (some (54, false))⟩, ⟨(some 57), (.pick (.t 54) (.c (.bool true)) (.t 56)), none⟩])
 (.cond (.t 57) (.seq (.reg [⟨(some 58), (.mv (.t 6)), none⟩, ⟨(some 59), (.bin .eql (.t 58) (.c (.int .i64 1))), none⟩, ⟨(some 60), (.mv (.t 59)), none⟩, ⟨(some 61), (.mv (.t 8)), (some (60, true))⟩, ⟨(some 62), (.bin .eql (.t 61) (.c (.int .i64 1))), (some (60, true))⟩, ⟨(some 63), (.pick (.t 60) (.t 62) (.c (.bool false))), none⟩, ⟨(some 64), (.mv (.t 63)), none⟩, ⟨(some 65), (.mv (.t 5)), (some (64, true))⟩, ⟨(some 66), (.bin .eql (.t 65) (.c (.string ⟨#[]⟩))), (some (64, true))⟩, ⟨(some 67), (.pick (.t 64) (.t 66) (.c (.bool false))), none⟩, ⟨(some 68), (.mv (.t 67)), none⟩, ⟨(some 69), (.mv (.t 7)), (some (68, true))⟩, ⟨(some 70), (.bin .eql (.t 69) (.c (.string ⟨#[]⟩))), (some (68, true))⟩, ⟨(some 71), (.pick (.t 68) (.t 70) (.c (.bool false))), none⟩, ⟨(some 4), (.mv (.t 71)), none⟩])
 .ret)
 .skip))
 (.seq (.reg [⟨(some 73), (.mv (.t 0)), none⟩, ⟨(some 74), (.mv (.t 1)), none⟩, ⟨(some 75), (.call (.c (.func (.func 44) #[] #[])) [(.t 73), (.t 74)]), none⟩, ⟨(some 72), (.mv (.t 75)), none⟩, ⟨(some 76), (.ext 0 (.t 72)), none⟩, ⟨(some 77), (.ext 1 (.t 72)), none⟩, ⟨(some 12), (.mv (.t 76)), none⟩, ⟨(some 13), (.mv (.t 77)), none⟩])
 (.seq (.seq (.reg [⟨(some 78), (.mv (.t 13)), none⟩, ⟨(some 79), (.un .not (.t 78)), none⟩])
 (.cond (.t 79) (.seq (.reg [⟨(some 80), (.mv (.t 6)), none⟩, ⟨(some 81), (.bin .eql (.t 80) (.c (.int .i64 5))), none⟩, ⟨(some 82), (.mv (.t 81)), none⟩, ⟨(some 83), (.mv (.t 8)), (some (82, true))⟩, ⟨(some 84), (.bin .eql (.t 83) (.c (.int .i64 5))), (some (82, true))⟩, ⟨(some 85), (.pick (.t 82) (.t 84) (.c (.bool false))), none⟩, ⟨(some 86), (.mv (.t 85)), none⟩, ⟨(some 87), (.mv (.t 5)), (some (86, true))⟩, ⟨(some 88), (.bin .eql (.t 87) (.c (.string ⟨#[]⟩))), (some (86, true))⟩, ⟨(some 89), (.pick (.t 86) (.t 88) (.c (.bool false))), none⟩, ⟨(some 90), (.mv (.t 89)), none⟩, ⟨(some 91), (.mv (.t 7)), (some (90, true))⟩, ⟨(some 92), (.bin .eql (.t 91) (.c (.string ⟨#[]⟩))), (some (90, true))⟩, ⟨(some 93), (.pick (.t 90) (.t 92) (.c (.bool false))), none⟩, ⟨(some 4), (.mv (.t 93)), none⟩])
 .ret)
 .skip))
 (.seq (.reg [⟨(some 95), (.mv (.t 5)), none⟩, ⟨(some 96), (.call (.c (.func (.func 45) #[] #[])) [(.t 95)]), none⟩, ⟨(some 94), (.mv (.t 96)), none⟩, ⟨(some 97), (.ext 0 (.t 94)), none⟩, ⟨(some 98), (.ext 1 (.t 94)), none⟩, ⟨(some 14), (.mv (.t 97)), none⟩, ⟨(some 15), (.mv (.t 98)), none⟩])
 (.seq (.reg [⟨(some 100), (.mv (.t 7)), none⟩, ⟨(some 101), (.call (.c (.func (.func 46) #[] #[])) [(.t 100)]), none⟩, ⟨(some 99), (.mv (.t 101)), none⟩, ⟨(some 102), (.ext 0 (.t 99)), none⟩, ⟨(some 103), (.ext 1 (.t 99)), none⟩, ⟨(some 16), (.mv (.t 102)), none⟩, ⟨(some 17), (.mv (.t 103)), none⟩])
 (.seq (.reg [⟨(some 104), (.mv (.t 6)), none⟩, ⟨(some 105), (.bin .eql (.t 104) (.c (.int .i64 0))), none⟩, ⟨(some 106), (.mv (.t 105)), none⟩, ⟨(some 107), (.mv (.t 8)), (some (106, true))⟩, ⟨(some 108), (.bin .eql (.t 107) (.c (.int .i64 0))), (some (106, true))⟩, ⟨(some 109), (.pick (.t 106) (.t 108) (.c (.bool false))), none⟩, ⟨(some 110), (.mv (.t 109)), none⟩, ⟨(some 111), (.mv (.t 7)), (some (110, true))⟩, ⟨(some 112), (.mv (.t 12)), (some (110, true))⟩, ⟨(some 113), (.bin .eql (.t 111) (.t 112)), (some (110, true))⟩, ⟨(some 114), (.pick (.t 110) (.t 113) (.c (.bool false))), none⟩, ⟨(some 115), (.mv (.t 114)), none⟩, ⟨(some 116), (.mv (.t 5)), (some (115, true))⟩, ⟨(some 117), (.mv (.t 12)), (some (115, true))⟩, ⟨(some 118), (.call (.c (.func (.func 47) #[] #[])) [(.t 117)]), (some (115, true))⟩, ⟨(some 119), (.bin .eql (.t 116) (.t 118)), (some (115, true))⟩, ⟨(some 120), (.pick (.t 115) (.t 119) (.c (.bool false))), none⟩, ⟨(some 121), (.mv (.t 120)), none⟩, ⟨(some 122), (.mv (.t 15)), (some (121, true))⟩, ⟨(some 123), (.bin .eql (.t 122) (.c (.int .i64 0))), (some (121, true))⟩, ⟨(some 124), (.pick (.t 121) (.t 123) (.c (.bool false))), none⟩, ⟨(some 125), (.mv (.t 124)), none⟩, ⟨(some 126), (.mv (.t 14)), (some (125, true))⟩, ⟨(some 127), (.mv (.t 0)), (some (125, true))⟩, ⟨(some 128), (.bin .eql (.t 126) (.t 127)), (some (125, true))⟩, ⟨(some 129), (.pick (.t 125) (.t 128) (.c (.bool false))), none⟩, ⟨(some 130), (.mv (.t 129)), none⟩, ⟨(some 131), (.mv (.t 17)), (some (130, true))⟩, ⟨(some 132), (.bin .eql (.t 131) (.c (.int .i64 0))), (some (130, true))⟩, ⟨(some 133), (.pick (.t 130) (.t 132) (.c (.bool false))), none⟩, ⟨(some 134), (.mv (.t 133)), none⟩, ⟨(some 135), (.mv (.t 16)), (some (134, true))⟩, ⟨(some 136), (.mv (.t 0)), (some (134, true))⟩, ⟨(some 137), (.bin .eql (.t 135) (.t 136)), (some (134, true))⟩, ⟨(some 138), (.pick (.t 134) (.t 137) (.c (.bool false))), none⟩, ⟨(some 4), (.mv (.t 138)), none⟩])
 .ret)))))))))))))⟩
theorem ok10 : FOk alT Try.prog 0 10 ir10 := ⟨_, Try.func10, by kernel_rfl, by kernel_rfl⟩
-- 11 hatchway/hatchwaylaw02.FixedGets
def ir11 : AFn := ⟨119, [.t 2],
 (.seq (.reg [⟨(some 2), (.mv (.c (.bool false))), none⟩])
 (.seq (.seq (.reg [⟨(some 9), (.call (.c (.func (.func 32) #[] #[])) []), none⟩, ⟨(some 10), (.un .not (.t 9)), none⟩])
 (.cond (.t 10) (.seq (.reg [⟨(some 2), (.mv (.c (.bool false))), none⟩])
 .ret)
 .skip))
 (.seq (.seq (.reg [⟨(some 11), (.mv (.t 0)), none⟩, ⟨(some 12), (.len 0 (.t 11)), none⟩, ⟨(some 13), (.bin .gtr (.t 12) (.c (.int .i64 100))), none⟩])
 (.cond (.t 13) (.seq (.reg [⟨(some 2), (.mv (.c (.bool true))), none⟩])
 .ret)
 .skip))
 (.seq (.reg [⟨(some 15), (.mv (.t 0)), none⟩, ⟨(some 16), (.call (.c (.func (.func 45) #[] #[])) [(.t 15)]), none⟩, ⟨(some 14), (.mv (.t 16)), none⟩, ⟨(some 17), (.ext 0 (.t 14)), none⟩, ⟨(some 18), (.ext 1 (.t 14)), none⟩, ⟨(some 3), (.mv (.t 17)), none⟩, ⟨(some 4), (.mv (.t 18)), none⟩])
 (.seq (.reg [⟨(some 20), (.mv (.t 0)), none⟩, ⟨(some 21), (.call (.c (.func (.func 46) #[] #[])) [(.t 20)]), none⟩, ⟨(some 19), (.mv (.t 21)), none⟩, ⟨(some 22), (.ext 0 (.t 19)), none⟩, ⟨(some 23), (.ext 1 (.t 19)), none⟩, ⟨(some 5), (.mv (.t 22)), none⟩, ⟨(some 6), (.mv (.t 23)), none⟩])
 (.seq (.reg [⟨(some 25), (.mv (.t 0)), none⟩, ⟨(some 26), (.call (.c (.func (.func 42) #[] #[])) [(.t 25)]), none⟩, ⟨(some 24), (.mv (.t 26)), none⟩, ⟨(some 27), (.ext 0 (.t 24)), none⟩, ⟨(some 28), (.ext 1 (.t 24)), none⟩, ⟨(some 7), (.mv (.t 27)), none⟩, ⟨(some 8), (.mv (.t 28)), none⟩])
 (.seq (.seq (.reg [⟨(some 29), (.mv (.t 0)), none⟩, ⟨(some 30), (.len 0 (.t 29)), none⟩, ⟨(some 31), (.bin .gtr (.t 30) (.c (.int .i64 8))), none⟩])
 (.cond (.t 31) (.seq (.reg [⟨(some 32), (.mv (.t 4)), none⟩, ⟨(some 33), (.bin .eql (.t 32) (.c (.int .i64 5))), none⟩, ⟨(some 34), (.mv (.t 33)), none⟩, ⟨(some 35), (.mv (.t 6)), (some (34, true))⟩, ⟨(some 36), (.bin .eql (.t 35) (.c (.int .i64 5))), (some (34, true))⟩, ⟨(some 37), (.pick (.t 34) (.t 36) (.c (.bool false))), none⟩, ⟨(some 38), (.mv (.t 37)), none⟩, ⟨(some 39), (.mv (.t 8)), (some (38, true))⟩, ⟨(some 40), (.bin .eql (.t 39) (.c (.int .i64 5))), (some (38, true))⟩, ⟨(some 41), (.pick (.t 38) (.t 40) (.c (.bool false))), none⟩, ⟨(some 42), (.mv (.t 41)), none⟩, ⟨(some 43), (.mv (.t 3)), (some (42, true))⟩, ⟨(some 44), (.bin .eql (.t 43) (.c (.int .u64 0))), (some (42, true))⟩, ⟨(some 45), (.pick (.t 42) (.t 44) (.c (.bool false))), none⟩, ⟨(some 46), (.mv (.t 45)), none⟩, ⟨(some 47), (.mv (.t 5)), (some (46, true))⟩, ⟨(some 48), (.bin .eql (.t 47) (.c (.int .u64 0))), (some (46, true))⟩, ⟨(some 49), (.pick (.t 46) (.t 48) (.c (.bool false))), none⟩, ⟨(some 50), (.mv (.t 49)), none⟩, ⟨(some 51), (.mv (.t 7)), (some (50, true))⟩, ⟨(some 52), (.bin .eql (.t 51) (.c (.int .u64 0))), (some (50, true))⟩, ⟨(some 53), (.pick (.t 50) (.t 52) (.c (.bool false))), none⟩, ⟨(some 2), (.mv (.t 53)), none⟩])
 .ret)
 .skip))
 (.seq (.seq (.reg [⟨(some 54), (.mv (.t 0)), none⟩, ⟨(some 55), (.bin .eql (.t 54) (.c (.string ⟨#[]⟩))), none⟩])
 (.cond (.t 55) (.seq (.reg [⟨(some 56), (.mv (.t 4)), none⟩, ⟨(some 57), (.bin .eql (.t 56) (.c (.int .i64 1))), none⟩, ⟨(some 58), (.mv (.t 57)), none⟩, ⟨(some 59), (.mv (.t 6)), (some (58, true))⟩, ⟨(some 60), (.bin .eql (.t 59) (.c (.int .i64 1))), (some (58, true))⟩, ⟨(some 61), (.pick (.t 58) (.t 60) (.c (.bool false))), none⟩, ⟨(some 62), (.mv (.t 61)), none⟩, ⟨(some 63), (.mv (.t 3)), (some (62, true))⟩, ⟨(some 64), (.bin .eql (.t 63) (.c (.int .u64 0))), (some (62, true))⟩, ⟨(some 65), (.pick (.t 62) (.t 64) (.c (.bool false))), none⟩, ⟨(some 66), (.mv (.t 65)), none⟩, ⟨(some 67), (.mv (.t 5)), (some (66, true))⟩, ⟨(some 68), (.bin .eql (.t 67) (.c (.int .u64 0))), (some (66, true))⟩, ⟨(some 69), (.pick (.t 66) (.t 68) (.c (.bool false))), none⟩, ⟨(some 70), (.mv (.t 69)), none⟩, ⟨(some 71), (.mv (.t 8)), (some (70, true))⟩, ⟨(some 72), (.bin .eql (.t 71) (.c (.int .i64 0))), (some (70, true))⟩, ⟨(some 73), (.pick (.t 70) (.t 72) (.c (.bool false))), none⟩, ⟨(some 74), (.mv (.t 73)), none⟩, ⟨(some 75), (.mv (.t 7)), (some (74, true))⟩, ⟨(some 76), (.bin .eql (.t 75) (.c (.int .u64 0))), (some (74, true))⟩, ⟨(some 77), (.pick (.t 74) (.t 76) (.c (.bool false))), none⟩, ⟨(some 2), (.mv (.t 77)), none⟩])
 .ret)
 .skip))
 (.seq (.seq (.reg [⟨(some 78), (.mv (.t 4)), none⟩, ⟨(some 79), (.bin .neq (.t 78) (.c (.int .i64 0))), none⟩, ⟨(some 80), (.mv (.t 79)), none⟩, ⟨(some 81), (.mv (.t 6)), (some (80, false))⟩, ⟨(some 82), (.bin .neq (.t 81) (.c (.int .i64 0))), (some (80, false))⟩, ⟨(some 83), (.pick (.t 80) (.c (.bool true)) (.t 82)), none⟩, ⟨(some 84), (.mv (.t 83)), none⟩, ⟨(some 85), (.mv (.t 5)), (some (84, false))⟩, ⟨(some 86), (.mv (.t 0)), (some (84, false))⟩, ⟨(some 87), (.call (.c (.func (.func 48) #[] #[])) [(.t 86)]), (some (84, false))⟩, ⟨(some 88), (.bin .neq (.t 85) (.t 87)), (some (84, false))⟩, ⟨(some 89), (.pick (.t 84) (.c (.bool true)) (.t 88)), none⟩, ⟨(some 90), (.mv (.t 89)), none⟩, ⟨(some 91), (.mv (.t 3)), (some (90, false))⟩, ⟨(some 92), (.mv (.t 0)), (some (90, false))⟩, ⟨(some 93), (.call (.c (.func (.func 47) #[] #[])) [(.t 92)]), (some (90, false))⟩, ⟨(some 94), (.call (.c (.func (.func 48) #[] #[])) [(.t 93)]), (some (90, false))⟩, ⟨(some 95), (.bin .neq (.t 91) (.t 94)), (some (90, false))⟩, ⟨(some 96), (.pick (.t 90) (.c (.bool true)) (.t 95)), none⟩])
 (.cond (.t 96) (.seq (.reg [⟨(some 2), (.mv (.c (.bool false))), none⟩])
 .ret)
 .skip))
 (.seq (.seq (.reg [⟨(some 97), (.mv (.t 0)), none⟩, ⟨(some 98), (.ixs (.t 97) (.c (.int .i64 0))), none⟩, ⟨(some 99), (.bin .eql (.t 98) (.c (.int .u8 0))), none⟩])
 (.cond (.t 99) (.seq (.reg [⟨(some 100), (.mv (.t 8)), none⟩, ⟨(some 101), (.bin .eql (.t 100) (.c (.int .i64 3))), none⟩, ⟨(some 102), (.mv (.t 101)), none⟩, ⟨(some 103), (.mv (.t 7)), (some (102, true))⟩, ⟨(some 104), (.bin .eql (.t 103) (.c (.int .u64 0))), (some (102, true))⟩, ⟨(some 105), (.pick (.t 102) (.t 104) (.c (.bool false))), none⟩, ⟨(some 2), (.mv (.t 105)), none⟩])
 .ret)
 .skip))
 (.seq (.reg [⟨(some 106), (.mv (.t 8)), none⟩, ⟨(some 107), (.bin .eql (.t 106) (.c (.int .i64 0))), none⟩, ⟨(some 108), (.mv (.t 107)), none⟩, ⟨(some 109), (.mv (.t 7)), (some (108, true))⟩, ⟨(some 110), (.mv (.t 5)), (some (108, true))⟩, ⟨(some 111), (.bin .eql (.t 109) (.t 110)), (some (108, true))⟩, ⟨(some 112), (.pick (.t 108) (.t 111) (.c (.bool false))), none⟩, ⟨(some 113), (.mv (.t 112)), none⟩, ⟨(some 114), (.mv (.t 7)), (some (113, true))⟩, ⟨(some 115), (.call (.c (.func (.func 41) #[] #[])) [(.t 114)]), (some (113, true))⟩, ⟨(some 116), (.mv (.t 0)), (some (113, true))⟩, ⟨(some 117), (.bin .eql (.t 115) (.t 116)), (some (113, true))⟩, ⟨(some 118), (.pick (.t 113) (.t 117) (.c (.bool false))), none⟩, ⟨(some 2), (.mv (.t 118)), none⟩])
 .ret)))))))))))⟩
theorem ok11 : FOk alT Try.prog 0 11 ir11 := ⟨_, Try.func11, by kernel_rfl, by kernel_rfl⟩
-- 12 hatchway/hatchwaylaw03.alive
def ir12 : AFn := ⟨27, [.t 0],
 (.seq (.reg [⟨(some 0), (.mv (.c (.bool false))), none⟩])
 (.seq (.reg [⟨(some 8), (.call (.c (.func (.func 13) #[] #[])) [(.c (.string ⟨#[128, 0]⟩))]), none⟩, ⟨(some 7), (.mv (.t 8)), none⟩, ⟨(some 9), (.ext 0 (.t 7)), none⟩, ⟨(some 10), (.ext 1 (.t 7)), none⟩, ⟨(some 11), (.ext 2 (.t 7)), none⟩, ⟨(some 1), (.mv (.t 9)), none⟩, ⟨(some 2), (.mv (.t 10)), none⟩, ⟨(some 3), (.mv (.t 11)), none⟩])
 (.seq (.reg [⟨(some 13), (.call (.c (.func (.func 13) #[] #[])) [(.c (.string ⟨#[128]⟩))]), none⟩, ⟨(some 12), (.mv (.t 13)), none⟩, ⟨(some 14), (.ext 0 (.t 12)), none⟩, ⟨(some 15), (.ext 1 (.t 12)), none⟩, ⟨(some 16), (.ext 2 (.t 12)), none⟩, ⟨(some 4), (.mv (.t 14)), none⟩, ⟨(some 5), (.mv (.t 15)), none⟩, ⟨(some 6), (.mv (.t 16)), none⟩])
 (.seq (.reg [⟨(some 17), (.call (.c (.func (.func 15) #[] #[])) [(.c (.int .u64 300))]), none⟩, ⟨(some 18), (.bin .eql (.t 17) (.c (.string ⟨#[172, 2]⟩))), none⟩, ⟨(some 19), (.mv (.t 18)), none⟩, ⟨(some 20), (.mv (.t 3)), (some (19, true))⟩, ⟨(some 21), (.bin .eql (.t 20) (.c (.int .i64 3))), (some (19, true))⟩, ⟨(some 22), (.pick (.t 19) (.t 21) (.c (.bool false))), none⟩, ⟨(some 23), (.mv (.t 22)), none⟩, ⟨(some 24), (.mv (.t 6)), (some (23, true))⟩, ⟨(some 25), (.bin .eql (.t 24) (.c (.int .i64 2))), (some (23, true))⟩, ⟨(some 26), (.pick (.t 23) (.t 25) (.c (.bool false))), none⟩, ⟨(some 0), (.mv (.t 26)), none⟩])
 .ret))))⟩
theorem ok12 : FOk alT Try.prog 0 12 ir12 := ⟨_, Try.func12, by kernel_rfl, by kernel_rfl⟩
-- 13 hatchway/leb.Next
def lp13_0 : ACode := (.seq (.reg [⟨(some 13), (.bin .lss (.t 12) (.t 11)), none⟩])
 (.seq (.cond (.t 13) .skip
 (.exit 0))
 (.seq (.block 1 (.seq (.reg [⟨(some 14), (.mv (.t 12)), none⟩, ⟨(some 15), (.ia 1 (.t 10) (.t 12)), none⟩, ⟨(some 16), (.ld (.t 15)), none⟩, ⟨(some 6), (.mv (.t 14)), none⟩, ⟨(some 7), (.mv (.t 16)), none⟩])
 (.seq (.reg [⟨(some 17), (.mv (.t 7)), none⟩, ⟨(some 18), (.bin .lss (.t 17) (.c (.int .u8 128))), none⟩, ⟨(some 8), (.mv (.t 18)), none⟩])
 (.seq (.seq (.reg [⟨(some 19), (.mv (.t 6)), none⟩, ⟨(some 20), (.bin .eql (.t 19) (.c (.int .i64 9))), none⟩, ⟨(some 21), (.mv (.t 20)), none⟩, ⟨(some 22), (.mv (.t 7)), (some (21, true))⟩, ⟨(some 23), (.bin .gtr (.t 22) (.c (.int .u8 1))), (some (21, true))⟩, ⟨(some 24), (.pick (.t 21) (.t 23) (.c (.bool false))), none⟩, ⟨(some 25), (.mv (.t 24)), none⟩, ⟨(some 26), (.mv (.t 8)), (some (25, false))⟩, ⟨(some 27), (.mv (.t 26)), (some (25, false))⟩, ⟨(some 28), (.mv (.t 7)), (some (27, true))⟩, ⟨(some 29), (.bin .eql (.t 28) (.c (.int .u8 0))), (some (27, true))⟩, ⟨(some 30), (.pick (.t 27) (.t 29) (.c (.bool false))), (some (25, false))⟩, ⟨(some 31), (.mv (.t 30)), (some (25, false))⟩, ⟨(some 32), (.mv (.t 6)), (some (31, true))⟩, ⟨(some 33), (.bin .gtr (.t 32) (.c (.int .i64 0))), (some (31, true))⟩, ⟨(some 34), (.pick (.t 31) (.t 33) (.c (.bool false))), (some (25, false))⟩, ⟨(some 35), (.pick (.t 25) (.c (.bool true)) (.t 34)), none⟩])
 (.cond (.t 35) (.seq (.reg [⟨(some 2), (.mv (.c (.int .u64 0))), none⟩, ⟨(some 3), (.mv (.c (.int .i64 0))), none⟩, ⟨(some 4), (.mv (.c (.int .i64 3))), none⟩])
 .ret)
 .skip))
 (.seq (.reg [⟨(some 36), (.mv (.t 5)), none⟩, ⟨(some 37), (.mv (.t 7)), none⟩, ⟨(some 38), (.bin .rem (.t 37) (.c (.int .u8 128))), none⟩, ⟨(some 39), (.conv .u64 (.t 38)), none⟩, ⟨(some 40), (.mv (.t 6)), none⟩, ⟨(some 41), (.bin .mul (.c (.int .i64 7)) (.t 40)), none⟩, ⟨(some 42), (.bin .shl (.t 39) (.t 41)), none⟩, ⟨(some 43), (.bin .or (.t 36) (.t 42)), none⟩, ⟨(some 5), (.mv (.t 43)), none⟩])
 (.seq (.reg [⟨(some 44), (.mv (.t 8)), none⟩])
 (.cond (.t 44) (.seq (.reg [⟨(some 45), (.mv (.t 5)), none⟩, ⟨(some 46), (.mv (.t 6)), none⟩, ⟨(some 47), (.bin .add (.t 46) (.c (.int .i64 1))), none⟩, ⟨(some 2), (.mv (.t 45)), none⟩, ⟨(some 3), (.mv (.t 47)), none⟩, ⟨(some 4), (.mv (.c (.int .i64 0))), none⟩])
 .ret)
 .skip)))))))
 (.reg [⟨(some 48), (.bin .add (.t 12) (.c (.int .i64 1))), none⟩, ⟨(some 12), (.mv (.t 48)), none⟩]))))
def ir13 : AFn := ⟨49, [.t 2, .t 3, .t 4],
 (.seq (.reg [⟨(some 2), (.mv (.c (.int .u64 0))), none⟩, ⟨(some 3), (.mv (.c (.int .i64 0))), none⟩, ⟨(some 4), (.mv (.c (.int .i64 0))), none⟩])
 (.seq (.reg [⟨(some 5), (.mv (.c (.int .u64 0))), none⟩])
 (.seq (.seq (.reg [⟨(some 9), (.mv (.t 0)), none⟩, ⟨(some 10), (.s2b 5 (.t 9)), none⟩, ⟨(some 11), (.len 1 (.t 10)), none⟩, ⟨(some 12), (.mv (.c (.int .i64 0))), none⟩])
 (.block 0 (.loop lp13_0)))
 (.seq (.reg [⟨(some 2), (.mv (.c (.int .u64 0))), none⟩, ⟨(some 3), (.mv (.c (.int .i64 0))), none⟩, ⟨(some 4), (.mv (.c (.int .i64 2))), none⟩])
 .ret))))⟩
theorem ok13 : FOk alT Try.prog 0 13 ir13 := ⟨_, Try.func13, by kernel_rfl, by kernel_rfl⟩
-- 14 hatchway/hatchwayref03.Next
def lp14_0 : ACode := (.seq (.seq (.reg [⟨(some 9), (.mv (.t 7)), none⟩, ⟨(some 10), (.mv (.t 0)), none⟩, ⟨(some 11), (.len 0 (.t 10)), none⟩, ⟨(some 12), (.bin .lss (.t 9) (.t 11)), none⟩])
 (.cond (.t 12) .skip
 (.exit 0)))
 (.seq (.block 1 (.seq (.reg [⟨(some 15), (.mv (.t 0)), none⟩, ⟨(some 16), (.mv (.t 7)), none⟩, ⟨(some 17), (.ixs (.t 15) (.t 16)), none⟩, ⟨(some 18), (.bin .rem (.t 17) (.c (.int .u8 128))), none⟩, ⟨(some 19), (.conv .u64 (.t 18)), none⟩, ⟨(some 8), (.mv (.t 19)), none⟩])
 (.seq (.seq (.reg [⟨(some 20), (.mv (.t 7)), none⟩, ⟨(some 21), (.bin .eql (.t 20) (.c (.int .i64 9))), none⟩, ⟨(some 22), (.mv (.t 21)), none⟩, ⟨(some 23), (.mv (.t 0)), (some (22, true))⟩, ⟨(some 24), (.mv (.t 7)), (some (22, true))⟩, ⟨(some 25), (.ixs (.t 23) (.t 24)), (some (22, true))⟩, ⟨(some 26), (.bin .gtr (.t 25) (.c (.int .u8 1))), (some (22, true))⟩, ⟨(some 27), (.pick (.t 22) (.t 26) (.c (.bool false))), none⟩, ⟨(some 28), (.mv (.t 27)), none⟩, ⟨(some 29), (.mv (.t 7)), (some (28, false))⟩, ⟨(some 30), (.bin .gtr (.t 29) (.c (.int .i64 0))), (some (28, false))⟩, ⟨(some 31), (.mv (.t 30)), (some (28, false))⟩, ⟨(some 32), (.mv (.t 0)), (some (31, true))⟩, ⟨(some 33), (.mv (.t 7)), (some (31, true))⟩, ⟨(some 34), (.ixs (.t 32) (.t 33)), (some (31, true))⟩, ⟨(some 35), (.bin .eql (.t 34) (.c (.int .u8 0))), (some (31, true))⟩, ⟨(some 36), (.pick (.t 31) (.t 35) (.c (.bool false))), (some (28, false))⟩, ⟨(some 37), (.pick (.t 28) (.c (.bool true)) (.t 36)), none⟩])
 (.cond (.t 37) (.seq (.reg [⟨(some 2), (.mv (.c (.int .u64 0))), none⟩, ⟨(some 3), (.mv (.c (.int .i64 0))), none⟩, ⟨(some 4), (.mv (.c (.int .i64 3))), none⟩])
 .ret)
 .skip))
 (.seq (.reg [⟨(some 38), (.mv (.t 5)), none⟩, ⟨(some 39), (.mv (.t 8)), none⟩, ⟨(some 40), (.mv (.t 6)), none⟩, ⟨(some 41), (.bin .mul (.t 39) (.t 40)), none⟩, ⟨(some 42), (.bin .add (.t 38) (.t 41)), none⟩, ⟨(some 5), (.mv (.t 42)), none⟩])
 (.seq (.seq (.reg [⟨(some 43), (.mv (.t 0)), none⟩, ⟨(some 44), (.mv (.t 7)), none⟩, ⟨(some 45), (.ixs (.t 43) (.t 44)), none⟩, ⟨(some 46), (.bin .lss (.t 45) (.c (.int .u8 128))), none⟩])
 (.cond (.t 46) (.seq (.reg [⟨(some 47), (.mv (.t 5)), none⟩, ⟨(some 48), (.mv (.t 7)), none⟩, ⟨(some 49), (.bin .add (.t 48) (.c (.int .i64 1))), none⟩, ⟨(some 2), (.mv (.t 47)), none⟩, ⟨(some 3), (.mv (.t 49)), none⟩, ⟨(some 4), (.mv (.c (.int .i64 0))), none⟩])
 .ret)
 .skip))
 (.reg [⟨(some 50), (.mv (.t 6)), none⟩, ⟨(some 51), (.bin .mul (.t 50) (.c (.int .u64 128))), none⟩, ⟨(some 6), (.mv (.t 51)), none⟩]))))))
 (.reg [⟨(some 13), (.mv (.t 7)), none⟩, ⟨(some 14), (.bin .add (.t 13) (.c (.int .i64 1))), none⟩, ⟨(some 7), (.mv (.t 14)), none⟩])))
def ir14 : AFn := ⟨52, [.t 2, .t 3, .t 4],
 (.seq (.reg [⟨(some 2), (.mv (.c (.int .u64 0))), none⟩, ⟨(some 3), (.mv (.c (.int .i64 0))), none⟩, ⟨(some 4), (.mv (.c (.int .i64 0))), none⟩])
 (.seq (.reg [⟨(some 5), (.mv (.c (.int .u64 0))), none⟩, ⟨(some 6), (.mv (.c (.int .u64 0))), none⟩])
 (.seq (.reg [⟨(some 6), (.mv (.c (.int .u64 1))), none⟩])
 (.seq (.seq (.reg [⟨(some 7), (.mv (.c (.int .i64 0))), none⟩])
 (.block 0 (.loop lp14_0)))
 (.seq (.reg [⟨(some 2), (.mv (.c (.int .u64 0))), none⟩, ⟨(some 3), (.mv (.c (.int .i64 0))), none⟩, ⟨(some 4), (.mv (.c (.int .i64 2))), none⟩])
 .ret)))))⟩
theorem ok14 : FOk alT Try.prog 0 14 ir14 := ⟨_, Try.func14, by kernel_rfl, by kernel_rfl⟩
-- 15 hatchway/leb.Put
def lp15_0 : ACode := (.seq (.seq (.reg [⟨(some 4), (.mv (.t 0)), none⟩, ⟨(some 5), (.bin .geq (.t 4) (.c (.int .u64 128))), none⟩])
 (.cond (.t 5) .skip
 (.exit 0)))
 (.block 1 (.seq (.reg [⟨(some 6), (.mv (.t 3)), none⟩, ⟨(some 7), (.mv (.t 0)), none⟩, ⟨(some 8), (.bin .rem (.t 7) (.c (.int .u64 128))), none⟩, ⟨(some 9), (.bin .add (.t 8) (.c (.int .u64 128))), none⟩, ⟨(some 10), (.conv .u8 (.t 9)), none⟩, ⟨(some 11), (.lit 5 [(.int .u8 0)] 1 1 [(0, 1, (.t 10))]), none⟩, ⟨(some 12), (.app 5 1 1 (.t 6) (.t 11)), none⟩, ⟨(some 3), (.mv (.t 12)), none⟩])
 (.reg [⟨(some 13), (.mv (.t 0)), none⟩, ⟨(some 14), (.bin .quo (.t 13) (.c (.int .u64 128))), none⟩, ⟨(some 0), (.mv (.t 14)), none⟩]))))
def ir15 : AFn := ⟨21, [.t 2],
 (.seq (.reg [⟨(some 2), (.mv (.c (.string ⟨#[]⟩))), none⟩])
 (.seq (.reg [⟨(some 3), (.mv (.c (.slice none 0 0))), none⟩])
 (.seq (.block 0 (.loop lp15_0))
 (.seq (.reg [⟨(some 15), (.mv (.t 3)), none⟩, ⟨(some 16), (.mv (.t 0)), none⟩, ⟨(some 17), (.conv .u8 (.t 16)), none⟩, ⟨(some 18), (.lit 5 [(.int .u8 0)] 1 1 [(0, 1, (.t 17))]), none⟩, ⟨(some 19), (.app 5 1 1 (.t 15) (.t 18)), none⟩, ⟨(some 20), (.b2s (.t 19)), none⟩, ⟨(some 2), (.mv (.t 20)), none⟩])
 .ret))))⟩
theorem ok15 : FOk alT Try.prog 0 15 ir15 := ⟨_, Try.func15, by kernel_rfl, by kernel_rfl⟩
-- 16 hatchway/hatchwayref03.Put
def ir16 : AFn := ⟨19, [.t 2],
 (.seq (.reg [⟨(some 2), (.mv (.c (.string ⟨#[]⟩))), none⟩])
 (.seq (.seq (.reg [⟨(some 3), (.mv (.t 0)), none⟩, ⟨(some 4), (.bin .lss (.t 3) (.c (.int .u64 128))), none⟩])
 (.cond (.t 4) (.seq (.reg [⟨(some 5), (.mv (.t 0)), none⟩, ⟨(some 6), (.conv .u8 (.t 5)), none⟩, ⟨(some 7), (.lit 5 [(.int .u8 0)] 1 1 [(0, 1, (.t 6))]), none⟩, ⟨(some 8), (.b2s (.t 7)), none⟩, ⟨(some 2), (.mv (.t 8)), none⟩])
 .ret)
 .skip))
 (.seq (.draw [⟨(some 9), (.mv (.t 0)), none⟩, ⟨(some 10), (.bin .rem (.t 9) (.c (.int .u64 128))), none⟩, ⟨(some 11), (.conv .u8 (.t 10)), none⟩, ⟨(some 12), (.bin .add (.t 11) (.c (.int .u8 128))), none⟩, ⟨(some 15), (.mv (.t 0)), none⟩, ⟨(some 16), (.bin .quo (.t 15) (.c (.int .u64 128))), none⟩, ⟨(some 17), (.call (.c (.func (.func 16) #[] #[])) [(.t 16)]), none⟩] [⟨(some 13), (.lit 5 [(.int .u8 0)] 1 1 [(0, 1, (.t 12))]), none⟩, ⟨(some 14), (.b2s (.t 13)), none⟩, ⟨(some 18), (.bin .add (.t 14) (.t 17)), none⟩, ⟨(some 2), (.mv (.t 18)), none⟩])
 .ret)))⟩
theorem ok16 : FOk alT Try.prog 0 16 ir16 := ⟨_, Try.func16, by kernel_rfl, by kernel_rfl⟩
-- 17 hatchway/leb.Size
def lp17_0 : ACode := (.seq (.seq (.reg [⟨(some 4), (.mv (.t 0)), none⟩, ⟨(some 5), (.bin .geq (.t 4) (.c (.int .u64 128))), none⟩])
 (.cond (.t 5) .skip
 (.exit 0)))
 (.block 1 (.seq (.reg [⟨(some 6), (.mv (.t 3)), none⟩, ⟨(some 7), (.bin .add (.t 6) (.c (.int .i64 1))), none⟩, ⟨(some 3), (.mv (.t 7)), none⟩])
 (.reg [⟨(some 8), (.mv (.t 0)), none⟩, ⟨(some 9), (.bin .quo (.t 8) (.c (.int .u64 128))), none⟩, ⟨(some 0), (.mv (.t 9)), none⟩]))))
def ir17 : AFn := ⟨11, [.t 2],
 (.seq (.reg [⟨(some 2), (.mv (.c (.int .i64 0))), none⟩])
 (.seq (.reg [⟨(some 3), (.mv (.c (.int .i64 1))), none⟩])
 (.seq (.block 0 (.loop lp17_0))
 (.seq (.reg [⟨(some 10), (.mv (.t 3)), none⟩, ⟨(some 2), (.mv (.t 10)), none⟩])
 .ret))))⟩
theorem ok17 : FOk alT Try.prog 0 17 ir17 := ⟨_, Try.func17, by kernel_rfl, by kernel_rfl⟩
-- 18 hatchway/hatchwaylaw01.alive
def ir18 : AFn := ⟨21, [.t 0],
 (.seq (.reg [⟨(some 0), (.mv (.c (.bool false))), none⟩])
 (.seq (.reg [⟨(some 2), (.call (.c (.func (.func 19) #[] #[])) [(.c (.string ⟨#[97, 98, 99]⟩))]), none⟩, ⟨(some 1), (.mv (.t 2)), none⟩])
 (.seq (.reg [⟨(some 3), (.mv (.t 1)), none⟩, ⟨(some 4), (.call (.c (.func (.func 49) #[] #[])) [(.t 3)]), none⟩, ⟨(some 5), (.bin .eql (.t 4) (.c (.int .u8 97))), none⟩, ⟨(some 6), (.mv (.t 5)), none⟩, ⟨(some 7), (.mv (.t 1)), (some (6, true))⟩, ⟨(some 8), (.call (.c (.func (.func 21) #[] #[])) [(.t 7), (.c (.int .i64 2))]), (some (6, true))⟩, ⟨(some 9), (.bin .eql (.t 8) (.c (.string ⟨#[98, 99]⟩))), (some (6, true))⟩, ⟨(some 10), (.pick (.t 6) (.t 9) (.c (.bool false))), none⟩, ⟨(some 11), (.mv (.t 10)), none⟩, ⟨(some 12), (.mv (.t 1)), (some (11, true))⟩, ⟨(some 13), (.call (.c (.func (.func 49) #[] #[])) [(.t 12)]), (some (11, true))⟩, ⟨(some 14), (.bin .eql (.t 13) (.c (.int .u8 0))), (some (11, true))⟩, ⟨(some 15), (.pick (.t 11) (.t 14) (.c (.bool false))), none⟩, ⟨(some 16), (.mv (.t 15)), none⟩, ⟨(some 17), (.mv (.t 1)), (some (16, true))⟩, ⟨(some 18), (.call (.c (.func (.func 24) #[] #[])) [(.t 17)]), (some (16, true))⟩, ⟨(some 19), (.bin .eql (.t 18) (.c (.int .i64 2))), (some (16, true))⟩, ⟨(some 20), (.pick (.t 16) (.t 19) (.c (.bool false))), none⟩, ⟨(some 0), (.mv (.t 20)), none⟩])
 .ret)))⟩
theorem ok18 : FOk alT Try.prog 0 18 ir18 := ⟨_, Try.func18, by kernel_rfl, by kernel_rfl⟩
-- 19 hatchway/cursor.Read
def ir19 : AFn := ⟨6, [.t 2],
 (.seq (.reg [⟨(some 2), (.mv (.c (.pointer none))), none⟩])
 (.seq (.reg [⟨(some 3), (.mv (.t 0)), none⟩, ⟨(some 4), (.build [(.string ⟨#[]⟩), (.int .i64 0), (.int .i64 0)] [(0, 1, (.t 3))]), none⟩, ⟨(some 5), (.box 68 (.t 4)), none⟩, ⟨(some 2), (.mv (.t 5)), none⟩])
 .ret))⟩
theorem ok19 : FOk alT Try.prog 0 19 ir19 := ⟨_, Try.func19, by kernel_rfl, by kernel_rfl⟩
-- 20 (*hatchway/cursor.Reader).Left
def ir20 : AFn := ⟨15, [.t 2],
 (.seq (.reg [⟨(some 2), (.mv (.c (.int .i64 0))), none⟩])
 (.seq (.seq (.reg [⟨(some 3), (.mv (.t 0)), none⟩, ⟨(some 4), (.nileq 0 false (.t 3) (.c (.pointer none))), none⟩])
 (.cond (.t 4) (.seq (.reg [⟨(some 2), (.mv (.c (.int .i64 0))), none⟩])
 .ret)
 .skip))
 (.seq (.draw [⟨(some 5), (.mv (.t 0)), none⟩, ⟨(some 6), (.nilchk (.t 5)), none⟩, ⟨(some 7), (.fa 0 (.t 6)), none⟩, ⟨(some 8), (.ld (.t 7)), none⟩, ⟨(some 9), (.len 0 (.t 8)), none⟩, ⟨(some 10), (.mv (.t 0)), none⟩, ⟨(some 11), (.nilchk (.t 10)), none⟩, ⟨(some 12), (.fa 1 (.t 11)), none⟩, ⟨(some 13), (.ld (.t 12)), none⟩, ⟨(some 14), (.bin .sub (.t 9) (.t 13)), none⟩, ⟨(some 2), (.mv (.t 14)), none⟩] [])
 .ret)))⟩
theorem ok20 : FOk alT Try.prog 0 20 ir20 := ⟨_, Try.func20, by kernel_rfl, by kernel_rfl⟩
-- 21 (*hatchway/cursor.Reader).Take
def ir21 : AFn := ⟨43, [.t 4],
 (.seq (.reg [⟨(some 2), (.box 33 (.t 0)), none⟩, ⟨(some 4), (.mv (.c (.string ⟨#[]⟩))), none⟩])
 (.seq (.reg [⟨(some 6), (.mkf (.func 50) [] [(.t 2)]), none⟩, ⟨(some 5), (.mv (.t 6)), none⟩])
 (.seq (.reg [⟨(some 7), (.mv (.t 5)), none⟩, ⟨(some 8), (.mv (.t 1)), none⟩, ⟨(some 9), (.bin .lss (.t 8) (.c (.int .i64 0))), none⟩, ⟨(some 10), (.call (.t 7) [(.t 9), (.c (.int .i64 1))]), none⟩])
 (.seq (.reg [⟨(some 11), (.mv (.t 5)), none⟩, ⟨(some 12), (.mv (.t 1)), none⟩, ⟨(some 13), (.ld (.t 2)), none⟩, ⟨(some 14), (.call (.c (.func (.func 20) #[] #[])) [(.t 13)]), none⟩, ⟨(some 15), (.bin .gtr (.t 12) (.t 14)), none⟩, ⟨(some 16), (.call (.t 11) [(.t 15), (.c (.int .i64 2))]), none⟩])
 (.seq (.seq (.reg [⟨(some 17), (.ld (.t 2)), none⟩, ⟨(some 18), (.call (.c (.func (.func 24) #[] #[])) [(.t 17)]), none⟩, ⟨(some 19), (.bin .neq (.t 18) (.c (.int .i64 0))), none⟩])
 (.cond (.t 19) (.seq (.reg [⟨(some 4), (.mv (.c (.string ⟨#[]⟩))), none⟩])
 .ret)
 .skip))
 (.seq (.reg [⟨(some 20), (.ld (.t 2)), none⟩, ⟨(some 21), (.nilchk (.t 20)), none⟩, ⟨(some 22), (.fa 1 (.t 21)), none⟩, ⟨(some 23), (.ld (.t 22)), none⟩, ⟨(some 24), (.mv (.t 1)), none⟩, ⟨(some 25), (.bin .add (.t 23) (.t 24)), none⟩, ⟨(some 26), (.nilchk (.t 20)), none⟩, ⟨(some 27), (.fa 1 (.t 26)), none⟩, ⟨none, (.st 1 (.t 27) (.t 25)), none⟩])
 (.seq (.draw [⟨(some 28), (.ld (.t 2)), none⟩, ⟨(some 29), (.nilchk (.t 28)), none⟩, ⟨(some 30), (.fa 0 (.t 29)), none⟩, ⟨(some 31), (.ld (.t 30)), none⟩, ⟨(some 32), (.ld (.t 2)), none⟩, ⟨(some 33), (.nilchk (.t 32)), none⟩, ⟨(some 34), (.fa 1 (.t 33)), none⟩, ⟨(some 35), (.ld (.t 34)), none⟩, ⟨(some 36), (.mv (.t 1)), none⟩, ⟨(some 37), (.bin .sub (.t 35) (.t 36)), none⟩, ⟨(some 38), (.ld (.t 2)), none⟩, ⟨(some 39), (.nilchk (.t 38)), none⟩, ⟨(some 40), (.fa 1 (.t 39)), none⟩, ⟨(some 41), (.ld (.t 40)), none⟩, ⟨(some 42), (.cut (.t 31) (some (.t 37)) (some (.t 41))), none⟩, ⟨(some 4), (.mv (.t 42)), none⟩] [])
 .ret)))))))⟩
theorem ok21 : FOk alT Try.prog 0 21 ir21 := ⟨_, Try.func21, by kernel_rfl, by kernel_rfl⟩
-- 22 (*hatchway/cursor.Reader).At
def ir22 : AFn := ⟨9, [.t 2],
 (.seq (.reg [⟨(some 2), (.mv (.c (.int .i64 0))), none⟩])
 (.seq (.seq (.reg [⟨(some 3), (.mv (.t 0)), none⟩, ⟨(some 4), (.nileq 0 false (.t 3) (.c (.pointer none))), none⟩])
 (.cond (.t 4) (.seq (.reg [⟨(some 2), (.mv (.c (.int .i64 0))), none⟩])
 .ret)
 .skip))
 (.seq (.reg [⟨(some 5), (.mv (.t 0)), none⟩, ⟨(some 6), (.nilchk (.t 5)), none⟩, ⟨(some 7), (.fa 1 (.t 6)), none⟩, ⟨(some 8), (.ld (.t 7)), none⟩, ⟨(some 2), (.mv (.t 8)), none⟩])
 .ret)))⟩
theorem ok22 : FOk alT Try.prog 0 22 ir22 := ⟨_, Try.func22, by kernel_rfl, by kernel_rfl⟩
-- 23 (*hatchway/cursor.Reader).All
def ir23 : AFn := ⟨7, [.t 2],
 (.seq (.reg [⟨(some 2), (.mv (.c (.string ⟨#[]⟩))), none⟩])
 (.seq (.reg [⟨(some 3), (.mv (.t 0)), none⟩, ⟨(some 4), (.mv (.t 0)), none⟩, ⟨(some 5), (.call (.c (.func (.func 20) #[] #[])) [(.t 4)]), none⟩, ⟨(some 6), (.call (.c (.func (.func 21) #[] #[])) [(.t 3), (.t 5)]), none⟩, ⟨(some 2), (.mv (.t 6)), none⟩])
 .ret))⟩
theorem ok23 : FOk alT Try.prog 0 23 ir23 := ⟨_, Try.func23, by kernel_rfl, by kernel_rfl⟩
-- 24 (*hatchway/cursor.Reader).Fault
def ir24 : AFn := ⟨9, [.t 2],
 (.seq (.reg [⟨(some 2), (.mv (.c (.int .i64 0))), none⟩])
 (.seq (.seq (.reg [⟨(some 3), (.mv (.t 0)), none⟩, ⟨(some 4), (.nileq 0 false (.t 3) (.c (.pointer none))), none⟩])
 (.cond (.t 4) (.seq (.reg [⟨(some 2), (.mv (.c (.int .i64 1))), none⟩])
 .ret)
 .skip))
 (.seq (.reg [⟨(some 5), (.mv (.t 0)), none⟩, ⟨(some 6), (.nilchk (.t 5)), none⟩, ⟨(some 7), (.fa 2 (.t 6)), none⟩, ⟨(some 8), (.ld (.t 7)), none⟩, ⟨(some 2), (.mv (.t 8)), none⟩])
 .ret)))⟩
theorem ok24 : FOk alT Try.prog 0 24 ir24 := ⟨_, Try.func24, by kernel_rfl, by kernel_rfl⟩
-- 25 hatchway/hatchwaylaw07.alive
def ir25 : AFn := ⟨44, [.t 0],
 (.seq (.reg [⟨(some 0), (.mv (.c (.bool false))), none⟩])
 (.seq (.reg [⟨(some 6), (.call (.c (.func (.func 26) #[] #[])) [(.c (.int .i64 10))]), none⟩, ⟨(some 1), (.mv (.t 6)), none⟩])
 (.seq (.reg [⟨(some 7), (.mv (.t 1)), none⟩, ⟨(some 8), (.call (.c (.func (.func 27) #[] #[])) [(.t 7), (.c (.int .i64 7))]), none⟩, ⟨(some 9), (.mv (.t 1)), none⟩, ⟨(some 10), (.call (.c (.func (.func 27) #[] #[])) [(.t 9), (.c (.int .i64 4))]), none⟩, ⟨(some 11), (.mv (.t 1)), none⟩, ⟨(some 12), (.call (.c (.func (.func 31) #[] #[])) [(.t 11), (.c (.int .i64 2))]), none⟩, ⟨(some 13), (.mv (.t 1)), none⟩, ⟨(some 14), (.call (.c (.func (.func 27) #[] #[])) [(.t 13), (.c (.int .i64 4))]), none⟩, ⟨(some 2), (.mv (.t 8)), none⟩, ⟨(some 3), (.mv (.t 10)), none⟩, ⟨(some 4), (.mv (.t 12)), none⟩, ⟨(some 5), (.mv (.t 14)), none⟩])
 (.seq (.reg [⟨(some 15), (.mv (.t 2)), none⟩, ⟨(some 16), (.bin .eql (.t 15) (.c (.int .i64 0))), none⟩, ⟨(some 17), (.mv (.t 16)), none⟩, ⟨(some 18), (.mv (.t 3)), (some (17, true))⟩, ⟨(some 19), (.bin .eql (.t 18) (.c (.int .i64 5))), (some (17, true))⟩, ⟨(some 20), (.pick (.t 17) (.t 19) (.c (.bool false))), none⟩, ⟨(some 21), (.mv (.t 20)), none⟩, ⟨(some 22), (.mv (.t 4)), (some (21, true))⟩, ⟨(some 23), (.bin .eql (.t 22) (.c (.int .i64 0))), (some (21, true))⟩, ⟨(some 24), (.pick (.t 21) (.t 23) (.c (.bool false))), none⟩, ⟨(some 25), (.mv (.t 24)), none⟩, ⟨(some 26), (.mv (.t 5)), (some (25, true))⟩, ⟨(some 27), (.bin .eql (.t 26) (.c (.int .i64 0))), (some (25, true))⟩, ⟨(some 28), (.pick (.t 25) (.t 27) (.c (.bool false))), none⟩, ⟨(some 29), (.mv (.t 28)), none⟩, ⟨(some 30), (.mv (.t 1)), (some (29, true))⟩, ⟨(some 31), (.call (.c (.func (.func 28) #[] #[])) [(.t 30)]), (some (29, true))⟩, ⟨(some 32), (.bin .eql (.t 31) (.c (.int .i64 9))), (some (29, true))⟩, ⟨(some 33), (.pick (.t 29) (.t 32) (.c (.bool false))), none⟩, ⟨(some 34), (.mv (.t 33)), none⟩, ⟨(some 35), (.mv (.t 1)), (some (34, true))⟩, ⟨(some 36), (.call (.c (.func (.func 29) #[] #[])) [(.t 35)]), (some (34, true))⟩, ⟨(some 37), (.bin .eql (.t 36) (.c (.int .i64 11))), (some (34, true))⟩, ⟨(some 38), (.pick (.t 34) (.t 37) (.c (.bool false))), none⟩, ⟨(some 39), (.mv (.t 38)), none⟩, ⟨(some 40), (.mv (.t 1)), (some (39, true))⟩, ⟨(some 41), (.call (.c (.func (.func 30) #[] #[])) [(.t 40)]), (some (39, true))⟩, ⟨(some 42), (.bin .eql (.t 41) (.c (.int .i64 9))), (some (39, true))⟩, ⟨(some 43), (.pick (.t 39) (.t 42) (.c (.bool false))), none⟩, ⟨(some 0), (.mv (.t 43)), none⟩])
 .ret))))⟩
theorem ok25 : FOk alT Try.prog 0 25 ir25 := ⟨_, Try.func25, by kernel_rfl, by kernel_rfl⟩
-- 26 hatchway/meter.New
def ir26 : AFn := ⟨7, [.t 2],
 (.seq (.reg [⟨(some 2), (.mv (.c (.pointer none))), none⟩])
 (.seq (.reg [⟨(some 3), (.mv (.t 0)), none⟩, ⟨(some 4), (.mm true (.t 3) [(.c (.int .i64 0))]), none⟩, ⟨(some 5), (.build [(.int .i64 0), (.int .i64 0), (.int .i64 0), (.int .i64 0)] [(0, 1, (.t 4))]), none⟩, ⟨(some 6), (.box 72 (.t 5)), none⟩, ⟨(some 2), (.mv (.t 6)), none⟩])
 .ret))⟩
theorem ok26 : FOk alT Try.prog 0 26 ir26 := ⟨_, Try.func26, by kernel_rfl, by kernel_rfl⟩
-- 27 (*hatchway/meter.Meter).Take
def ir27 : AFn := ⟨12, [.t 4],
 (.seq (.reg [⟨(some 2), (.box 41 (.t 0)), none⟩, ⟨(some 3), (.box 3 (.t 1)), none⟩, ⟨(some 4), (.mv (.c (.int .i64 0))), none⟩])
 (.seq (.reg [⟨(some 6), (.mkf (.func 52) [] [(.t 3), (.t 2)]), none⟩, ⟨(some 5), (.mv (.t 6)), none⟩])
 (.seq (.reg [⟨(some 7), (.ld (.t 2)), none⟩, ⟨(some 8), (.ld (.t 3)), none⟩, ⟨(some 9), (.mv (.t 5)), none⟩, ⟨(some 10), (.mkf (.func 54) [] [(.t 2), (.t 3)]), none⟩, ⟨(some 11), (.call (.c (.func (.func 53) #[] #[])) [(.t 7), (.t 8), (.t 9), (.t 10)]), none⟩, ⟨(some 4), (.mv (.t 11)), none⟩])
 .ret)))⟩
theorem ok27 : FOk alT Try.prog 0 27 ir27 := ⟨_, Try.func27, by kernel_rfl, by kernel_rfl⟩
-- 28 (*hatchway/meter.Meter).Used
def ir28 : AFn := ⟨9, [.t 2],
 (.seq (.reg [⟨(some 2), (.mv (.c (.int .i64 0))), none⟩])
 (.seq (.seq (.reg [⟨(some 3), (.mv (.t 0)), none⟩, ⟨(some 4), (.nileq 0 false (.t 3) (.c (.pointer none))), none⟩])
 (.cond (.t 4) (.seq (.reg [⟨(some 2), (.mv (.c (.int .i64 0))), none⟩])
 .ret)
 .skip))
 (.seq (.reg [⟨(some 5), (.mv (.t 0)), none⟩, ⟨(some 6), (.nilchk (.t 5)), none⟩, ⟨(some 7), (.fa 1 (.t 6)), none⟩, ⟨(some 8), (.ld (.t 7)), none⟩, ⟨(some 2), (.mv (.t 8)), none⟩])
 .ret)))⟩
theorem ok28 : FOk alT Try.prog 0 28 ir28 := ⟨_, Try.func28, by kernel_rfl, by kernel_rfl⟩
-- 29 (*hatchway/meter.Meter).Taken
def ir29 : AFn := ⟨9, [.t 2],
 (.seq (.reg [⟨(some 2), (.mv (.c (.int .i64 0))), none⟩])
 (.seq (.seq (.reg [⟨(some 3), (.mv (.t 0)), none⟩, ⟨(some 4), (.nileq 0 false (.t 3) (.c (.pointer none))), none⟩])
 (.cond (.t 4) (.seq (.reg [⟨(some 2), (.mv (.c (.int .i64 0))), none⟩])
 .ret)
 .skip))
 (.seq (.reg [⟨(some 5), (.mv (.t 0)), none⟩, ⟨(some 6), (.nilchk (.t 5)), none⟩, ⟨(some 7), (.fa 2 (.t 6)), none⟩, ⟨(some 8), (.ld (.t 7)), none⟩, ⟨(some 2), (.mv (.t 8)), none⟩])
 .ret)))⟩
theorem ok29 : FOk alT Try.prog 0 29 ir29 := ⟨_, Try.func29, by kernel_rfl, by kernel_rfl⟩
-- 30 (*hatchway/meter.Meter).Top
def ir30 : AFn := ⟨9, [.t 2],
 (.seq (.reg [⟨(some 2), (.mv (.c (.int .i64 0))), none⟩])
 (.seq (.seq (.reg [⟨(some 3), (.mv (.t 0)), none⟩, ⟨(some 4), (.nileq 0 false (.t 3) (.c (.pointer none))), none⟩])
 (.cond (.t 4) (.seq (.reg [⟨(some 2), (.mv (.c (.int .i64 0))), none⟩])
 .ret)
 .skip))
 (.seq (.reg [⟨(some 5), (.mv (.t 0)), none⟩, ⟨(some 6), (.nilchk (.t 5)), none⟩, ⟨(some 7), (.fa 3 (.t 6)), none⟩, ⟨(some 8), (.ld (.t 7)), none⟩, ⟨(some 2), (.mv (.t 8)), none⟩])
 .ret)))⟩
theorem ok30 : FOk alT Try.prog 0 30 ir30 := ⟨_, Try.func30, by kernel_rfl, by kernel_rfl⟩
-- 31 (*hatchway/meter.Meter).Give
def ir31 : AFn := ⟨12, [.t 4],
 (.seq (.reg [⟨(some 2), (.box 41 (.t 0)), none⟩, ⟨(some 3), (.box 3 (.t 1)), none⟩, ⟨(some 4), (.mv (.c (.int .i64 0))), none⟩])
 (.seq (.reg [⟨(some 6), (.mkf (.func 55) [] [(.t 3), (.t 2)]), none⟩, ⟨(some 5), (.mv (.t 6)), none⟩])
 (.seq (.reg [⟨(some 7), (.ld (.t 2)), none⟩, ⟨(some 8), (.ld (.t 3)), none⟩, ⟨(some 9), (.mv (.t 5)), none⟩, ⟨(some 10), (.mkf (.func 56) [] [(.t 2), (.t 3)]), none⟩, ⟨(some 11), (.call (.c (.func (.func 53) #[] #[])) [(.t 7), (.t 8), (.t 9), (.t 10)]), none⟩, ⟨(some 4), (.mv (.t 11)), none⟩])
 .ret)))⟩
theorem ok31 : FOk alT Try.prog 0 31 ir31 := ⟨_, Try.func31, by kernel_rfl, by kernel_rfl⟩
-- 32 hatchway/hatchwaylaw02.alive
def ir32 : AFn := ⟨41, [.t 0],
 (.seq (.reg [⟨(some 0), (.mv (.c (.bool false))), none⟩])
 (.seq (.reg [⟨(some 8), (.call (.c (.func (.func 40) #[] #[])) [(.c (.int .u64 258)), (.c (.int .i64 3))]), none⟩, ⟨(some 7), (.mv (.t 8)), none⟩, ⟨(some 9), (.ext 0 (.t 7)), none⟩, ⟨(some 10), (.ext 1 (.t 7)), none⟩, ⟨(some 1), (.mv (.t 9)), none⟩, ⟨(some 2), (.mv (.t 10)), none⟩])
 (.seq (.reg [⟨(some 12), (.call (.c (.func (.func 33) #[] #[])) [(.c (.int .u64 258)), (.c (.int .i64 3))]), none⟩, ⟨(some 11), (.mv (.t 12)), none⟩, ⟨(some 13), (.ext 0 (.t 11)), none⟩, ⟨(some 14), (.ext 1 (.t 11)), none⟩, ⟨(some 3), (.mv (.t 13)), none⟩, ⟨(some 4), (.mv (.t 14)), none⟩])
 (.seq (.reg [⟨(some 16), (.call (.c (.func (.func 42) #[] #[])) [(.c (.string ⟨#[0, 1]⟩))]), none⟩, ⟨(some 15), (.mv (.t 16)), none⟩, ⟨(some 17), (.ext 0 (.t 15)), none⟩, ⟨(some 18), (.ext 1 (.t 15)), none⟩, ⟨(some 5), (.mv (.t 17)), none⟩, ⟨(some 6), (.mv (.t 18)), none⟩])
 (.seq (.reg [⟨(some 19), (.mv (.t 2)), none⟩, ⟨(some 20), (.bin .eql (.t 19) (.c (.int .i64 0))), none⟩, ⟨(some 21), (.mv (.t 20)), none⟩, ⟨(some 22), (.mv (.t 1)), (some (21, true))⟩, ⟨(some 23), (.bin .eql (.t 22) (.c (.string ⟨#[2, 1, 0]⟩))), (some (21, true))⟩, ⟨(some 24), (.pick (.t 21) (.t 23) (.c (.bool false))), none⟩, ⟨(some 25), (.mv (.t 24)), none⟩, ⟨(some 26), (.mv (.t 4)), (some (25, true))⟩, ⟨(some 27), (.bin .eql (.t 26) (.c (.int .i64 0))), (some (25, true))⟩, ⟨(some 28), (.pick (.t 25) (.t 27) (.c (.bool false))), none⟩, ⟨(some 29), (.mv (.t 28)), none⟩, ⟨(some 30), (.mv (.t 3)), (some (29, true))⟩, ⟨(some 31), (.bin .eql (.t 30) (.c (.string ⟨#[0, 1, 2]⟩))), (some (29, true))⟩, ⟨(some 32), (.pick (.t 29) (.t 31) (.c (.bool false))), none⟩, ⟨(some 33), (.mv (.t 32)), none⟩, ⟨(some 34), (.call (.c (.func (.func 41) #[] #[])) [(.c (.int .u64 258))]), (some (33, true))⟩, ⟨(some 35), (.bin .eql (.t 34) (.c (.string ⟨#[1, 2]⟩))), (some (33, true))⟩, ⟨(some 36), (.pick (.t 33) (.t 35) (.c (.bool false))), none⟩, ⟨(some 37), (.mv (.t 36)), none⟩, ⟨(some 38), (.mv (.t 6)), (some (37, true))⟩, ⟨(some 39), (.bin .eql (.t 38) (.c (.int .i64 3))), (some (37, true))⟩, ⟨(some 40), (.pick (.t 37) (.t 39) (.c (.bool false))), none⟩, ⟨(some 0), (.mv (.t 40)), none⟩])
 .ret)))))⟩
theorem ok32 : FOk alT Try.prog 0 32 ir32 := ⟨_, Try.func32, by kernel_rfl, by kernel_rfl⟩
-- 33 hatchway/fixed.Big
def ir33 : AFn := ⟨11, [.t 4, .t 5],
 (.seq (.reg [⟨(some 4), (.mv (.c (.string ⟨#[]⟩))), none⟩, ⟨(some 5), (.mv (.c (.int .i64 0))), none⟩])
 (.seq (.reg [⟨(some 6), (.mv (.t 0)), none⟩, ⟨(some 7), (.mv (.t 1)), none⟩, ⟨(some 8), (.call (.c (.func (.func 57) #[] #[])) [(.t 6), (.t 7), (.c (.func (.func 58) #[] #[]))]), none⟩, ⟨(some 9), (.ext 0 (.t 8)), none⟩, ⟨(some 10), (.ext 1 (.t 8)), none⟩, ⟨(some 4), (.mv (.t 9)), none⟩, ⟨(some 5), (.mv (.t 10)), none⟩])
 .ret))⟩
theorem ok33 : FOk alT Try.prog 0 33 ir33 := ⟨_, Try.func33, by kernel_rfl, by kernel_rfl⟩
-- 34 hatchway/hatchwayref07.New
def ir34 : AFn := ⟨7, [.cell 2 (some 4)],
 (.seq (.reg [⟨(some 2), (.new 51 [(.int .i64 0), (.int .i64 0), (.int .i64 0), (.int .i64 0)]), none⟩])
 (.seq (.seq (.reg [⟨(some 3), (.mv (.t 0)), none⟩, ⟨(some 4), (.bin .lss (.t 3) (.c (.int .i64 0))), none⟩])
 (.cond (.t 4) (.reg [⟨(some 0), (.mv (.c (.int .i64 0))), none⟩])
 .skip))
 (.seq (.reg [⟨(some 5), (.mv (.t 0)), none⟩, ⟨(some 6), (.build [(.int .i64 0), (.int .i64 0), (.int .i64 0), (.int .i64 0)] [(0, 1, (.t 5))]), none⟩, ⟨none, (.st 4 (.t 2) (.t 6)), none⟩])
 .ret)))⟩
theorem ok34 : FOk alT Try.prog 0 34 ir34 := ⟨_, Try.func34, by kernel_rfl, by kernel_rfl⟩
-- 35 hatchway/hatchwayref07.Give
def ir35 : AFn := ⟨21, [.cell 4 (some 4), .t 5],
 (.seq (.reg [⟨(some 2), (.box 51 (.t 0)), none⟩, ⟨(some 4), (.new 51 [(.int .i64 0), (.int .i64 0), (.int .i64 0), (.int .i64 0)]), none⟩, ⟨(some 5), (.mv (.c (.int .i64 0))), none⟩])
 (.seq (.seq (.reg [⟨(some 6), (.mv (.t 1)), none⟩, ⟨(some 7), (.bin .lss (.t 6) (.c (.int .i64 0))), none⟩, ⟨(some 8), (.mv (.t 7)), none⟩, ⟨(some 9), (.mv (.t 1)), (some (8, false))⟩, ⟨(some 10), (.fa 1 (.t 2)), (some (8, false))⟩, ⟨(some 11), (.ld (.t 10)), (some (8, false))⟩, ⟨(some 12), (.bin .gtr (.t 9) (.t 11)), (some (8, false))⟩, ⟨(some 13), (.pick (.t 8) (.c (.bool true)) (.t 12)), none⟩])
 (.cond (.t 13) (.seq (.reg [⟨(some 14), (.ldn 4 (.t 2)), none⟩, ⟨none, (.st 4 (.t 4) (.t 14)), none⟩, ⟨(some 5), (.mv (.c (.int .i64 1))), none⟩])
 .ret)
 .skip))
 (.seq (.reg [⟨(some 15), (.fa 1 (.t 2)), none⟩, ⟨(some 16), (.ld (.t 15)), none⟩, ⟨(some 17), (.mv (.t 1)), none⟩, ⟨(some 18), (.bin .sub (.t 16) (.t 17)), none⟩, ⟨(some 19), (.fa 1 (.t 2)), none⟩, ⟨none, (.st 1 (.t 19) (.t 18)), none⟩])
 (.seq (.reg [⟨(some 20), (.ldn 4 (.t 2)), none⟩, ⟨none, (.st 4 (.t 4) (.t 20)), none⟩, ⟨(some 5), (.mv (.c (.int .i64 0))), none⟩])
 .ret))))⟩
theorem ok35 : FOk alT Try.prog 0 35 ir35 := ⟨_, Try.func35, by kernel_rfl, by kernel_rfl⟩
-- 36 (*hatchway/meter.Meter).Clear
def ir36 : AFn := ⟨14, [],
 (.seq (.reg [⟨(some 2), (.mv (.t 0)), none⟩, ⟨(some 3), (.nileq 0 true (.t 2) (.c (.pointer none))), none⟩])
 (.cond (.t 3) (.reg [⟨(some 4), (.mv (.t 0)), none⟩, ⟨(some 5), (.mv (.t 0)), none⟩, ⟨(some 6), (.mv (.t 0)), none⟩, ⟨(some 7), (.nilchk (.t 6)), none⟩, ⟨(some 8), (.fa 1 (.t 7)), none⟩, ⟨(some 9), (.ld (.t 8)), none⟩, ⟨(some 10), (.nilchk (.t 4)), none⟩, ⟨(some 11), (.fa 2 (.t 10)), none⟩, ⟨none, (.st 1 (.t 11) (.c (.int .i64 0))), none⟩, ⟨(some 12), (.nilchk (.t 5)), none⟩, ⟨(some 13), (.fa 3 (.t 12)), none⟩, ⟨none, (.st 1 (.t 13) (.t 9)), none⟩])
 .skip))⟩
theorem ok36 : FOk alT Try.prog 0 36 ir36 := ⟨_, Try.func36, by kernel_rfl, by kernel_rfl⟩
-- 37 hatchway/hatchwayref07.Clear
def ir37 : AFn := ⟨8, [.cell 2 (some 4)],
 (.seq (.reg [⟨(some 1), (.box 51 (.t 0)), none⟩, ⟨(some 2), (.new 51 [(.int .i64 0), (.int .i64 0), (.int .i64 0), (.int .i64 0)]), none⟩])
 (.seq (.reg [⟨(some 3), (.fa 2 (.t 1)), none⟩, ⟨none, (.st 1 (.t 3) (.c (.int .i64 0))), none⟩])
 (.seq (.reg [⟨(some 4), (.fa 1 (.t 1)), none⟩, ⟨(some 5), (.ld (.t 4)), none⟩, ⟨(some 6), (.fa 3 (.t 1)), none⟩, ⟨none, (.st 1 (.t 6) (.t 5)), none⟩])
 (.seq (.reg [⟨(some 7), (.ldn 4 (.t 1)), none⟩, ⟨none, (.st 4 (.t 2) (.t 7)), none⟩])
 .ret))))⟩
theorem ok37 : FOk alT Try.prog 0 37 ir37 := ⟨_, Try.func37, by kernel_rfl, by kernel_rfl⟩
-- 38 hatchway/hatchwayref07.Take
def ir38 : AFn := ⟨48, [.cell 4 (some 4), .t 5],
 (.seq (.reg [⟨(some 2), (.box 51 (.t 0)), none⟩, ⟨(some 4), (.new 51 [(.int .i64 0), (.int .i64 0), (.int .i64 0), (.int .i64 0)]), none⟩, ⟨(some 5), (.mv (.c (.int .i64 0))), none⟩])
 (.seq (.seq (.reg [⟨(some 6), (.mv (.t 1)), none⟩, ⟨(some 7), (.bin .lss (.t 6) (.c (.int .i64 0))), none⟩])
 (.cond (.t 7) (.seq (.reg [⟨(some 8), (.ldn 4 (.t 2)), none⟩, ⟨none, (.st 4 (.t 4) (.t 8)), none⟩, ⟨(some 5), (.mv (.c (.int .i64 1))), none⟩])
 .ret)
 .skip))
 (.seq (.seq (.reg [⟨(some 9), (.fa 1 (.t 2)), none⟩, ⟨(some 10), (.ld (.t 9)), none⟩, ⟨(some 11), (.conv .u64 (.t 10)), none⟩, ⟨(some 12), (.mv (.t 1)), none⟩, ⟨(some 13), (.conv .u64 (.t 12)), none⟩, ⟨(some 14), (.bin .add (.t 11) (.t 13)), none⟩, ⟨(some 15), (.fa 0 (.t 2)), none⟩, ⟨(some 16), (.ld (.t 15)), none⟩, ⟨(some 17), (.conv .u64 (.t 16)), none⟩, ⟨(some 18), (.bin .gtr (.t 14) (.t 17)), none⟩, ⟨(some 19), (.mv (.t 18)), none⟩, ⟨(some 20), (.fa 2 (.t 2)), (some (19, false))⟩, ⟨(some 21), (.ld (.t 20)), (some (19, false))⟩, ⟨(some 22), (.conv .u64 (.t 21)), (some (19, false))⟩, ⟨(some 23), (.mv (.t 1)), (some (19, false))⟩, ⟨(some 24), (.conv .u64 (.t 23)), (some (19, false))⟩, ⟨(some 25), (.bin .add (.t 22) (.t 24)), (some (19, false))⟩, ⟨(some 26), (.bin .gtr (.t 25) (.c (.int .u64 9223372036854775807))), (some (19, false))⟩, ⟨(some 27), (.pick (.t 19) (.c (.bool true)) (.t 26)), none⟩])
 (.cond (.t 27) (.seq (.reg [⟨(some 28), (.ldn 4 (.t 2)), none⟩, ⟨none, (.st 4 (.t 4) (.t 28)), none⟩, ⟨(some 5), (.mv (.c (.int .i64 5))), none⟩])
 .ret)
 .skip))
 (.seq (.reg [⟨(some 29), (.fa 1 (.t 2)), none⟩, ⟨(some 30), (.ld (.t 29)), none⟩, ⟨(some 31), (.mv (.t 1)), none⟩, ⟨(some 32), (.bin .add (.t 30) (.t 31)), none⟩, ⟨(some 33), (.fa 1 (.t 2)), none⟩, ⟨none, (.st 1 (.t 33) (.t 32)), none⟩])
 (.seq (.reg [⟨(some 34), (.fa 2 (.t 2)), none⟩, ⟨(some 35), (.ld (.t 34)), none⟩, ⟨(some 36), (.mv (.t 1)), none⟩, ⟨(some 37), (.bin .add (.t 35) (.t 36)), none⟩, ⟨(some 38), (.fa 2 (.t 2)), none⟩, ⟨none, (.st 1 (.t 38) (.t 37)), none⟩])
 (.seq (.seq (.reg [⟨(some 39), (.fa 1 (.t 2)), none⟩, ⟨(some 40), (.ld (.t 39)), none⟩, ⟨(some 41), (.fa 3 (.t 2)), none⟩, ⟨(some 42), (.ld (.t 41)), none⟩, ⟨(some 43), (.bin .gtr (.t 40) (.t 42)), none⟩])
 (.cond (.t 43) (.reg [⟨(some 44), (.fa 1 (.t 2)), none⟩, ⟨(some 45), (.ld (.t 44)), none⟩, ⟨(some 46), (.fa 3 (.t 2)), none⟩, ⟨none, (.st 1 (.t 46) (.t 45)), none⟩])
 .skip))
 (.seq (.reg [⟨(some 47), (.ldn 4 (.t 2)), none⟩, ⟨none, (.st 4 (.t 4) (.t 47)), none⟩, ⟨(some 5), (.mv (.c (.int .i64 0))), none⟩])
 .ret)))))))⟩
theorem ok38 : FOk alT Try.prog 0 38 ir38 := ⟨_, Try.func38, by kernel_rfl, by kernel_rfl⟩
-- 39 (*hatchway/meter.Meter).Most
def ir39 : AFn := ⟨9, [.t 2],
 (.seq (.reg [⟨(some 2), (.mv (.c (.int .i64 0))), none⟩])
 (.seq (.seq (.reg [⟨(some 3), (.mv (.t 0)), none⟩, ⟨(some 4), (.nileq 0 false (.t 3) (.c (.pointer none))), none⟩])
 (.cond (.t 4) (.seq (.reg [⟨(some 2), (.mv (.c (.int .i64 0))), none⟩])
 .ret)
 .skip))
 (.seq (.reg [⟨(some 5), (.mv (.t 0)), none⟩, ⟨(some 6), (.nilchk (.t 5)), none⟩, ⟨(some 7), (.fa 0 (.t 6)), none⟩, ⟨(some 8), (.ld (.t 7)), none⟩, ⟨(some 2), (.mv (.t 8)), none⟩])
 .ret)))⟩
theorem ok39 : FOk alT Try.prog 0 39 ir39 := ⟨_, Try.func39, by kernel_rfl, by kernel_rfl⟩
-- 40 hatchway/fixed.Little
def ir40 : AFn := ⟨11, [.t 4, .t 5],
 (.seq (.reg [⟨(some 4), (.mv (.c (.string ⟨#[]⟩))), none⟩, ⟨(some 5), (.mv (.c (.int .i64 0))), none⟩])
 (.seq (.reg [⟨(some 6), (.mv (.t 0)), none⟩, ⟨(some 7), (.mv (.t 1)), none⟩, ⟨(some 8), (.call (.c (.func (.func 57) #[] #[])) [(.t 6), (.t 7), (.c (.func (.func 59) #[] #[]))]), none⟩, ⟨(some 9), (.ext 0 (.t 8)), none⟩, ⟨(some 10), (.ext 1 (.t 8)), none⟩, ⟨(some 4), (.mv (.t 9)), none⟩, ⟨(some 5), (.mv (.t 10)), none⟩])
 .ret))⟩
theorem ok40 : FOk alT Try.prog 0 40 ir40 := ⟨_, Try.func40, by kernel_rfl, by kernel_rfl⟩
-- 41 hatchway/fixed.Least
def lp41_0 : ACode := (.seq (.seq (.reg [⟨(some 5), (.mv (.t 0)), none⟩, ⟨(some 6), (.mv (.t 3)), none⟩, ⟨(some 7), (.call (.c (.func (.func 60) #[] #[])) [(.t 5), (.t 6)]), none⟩, ⟨(some 8), (.un .not (.t 7)), none⟩])
 (.cond (.t 8) .skip
 (.exit 0)))
 (.block 1 (.reg [⟨(some 9), (.mv (.t 3)), none⟩, ⟨(some 10), (.bin .add (.t 9) (.c (.int .i64 1))), none⟩, ⟨(some 3), (.mv (.t 10)), none⟩])))
def ir41 : AFn := ⟨18, [.t 2],
 (.seq (.reg [⟨(some 2), (.mv (.c (.string ⟨#[]⟩))), none⟩])
 (.seq (.reg [⟨(some 3), (.mv (.c (.int .i64 0))), none⟩])
 (.seq (.block 0 (.loop lp41_0))
 (.seq (.reg [⟨(some 11), (.mv (.t 0)), none⟩, ⟨(some 12), (.mv (.t 3)), none⟩, ⟨(some 13), (.call (.c (.func (.func 61) #[] #[])) [(.t 11), (.t 12)]), none⟩, ⟨(some 4), (.mv (.t 13)), none⟩])
 (.seq (.reg [⟨(some 14), (.mv (.t 4)), none⟩, ⟨(some 15), (.call (.c (.func (.func 58) #[] #[])) [(.t 14)]), none⟩])
 (.seq (.reg [⟨(some 16), (.mv (.t 4)), none⟩, ⟨(some 17), (.b2s (.t 16)), none⟩, ⟨(some 2), (.mv (.t 17)), none⟩])
 .ret))))))⟩
theorem ok41 : FOk alT Try.prog 0 41 ir41 := ⟨_, Try.func41, by kernel_rfl, by kernel_rfl⟩
-- 42 hatchway/fixed.GetLeast
def ir42 : AFn := ⟨19, [.t 2, .t 3],
 (.seq (.reg [⟨(some 2), (.mv (.c (.int .u64 0))), none⟩, ⟨(some 3), (.mv (.c (.int .i64 0))), none⟩])
 (.seq (.block 0 (.seq (.reg [⟨(some 5), (.mv (.t 0)), none⟩, ⟨(some 6), (.len 0 (.t 5)), none⟩, ⟨(some 7), (.bin .gtr (.t 6) (.c (.int .i64 8))), none⟩, ⟨(some 4), (.mv (.t 7)), none⟩])
 (.cond (.t 4) (.seq (.reg [⟨(some 2), (.mv (.c (.int .u64 0))), none⟩, ⟨(some 3), (.mv (.c (.int .i64 5))), none⟩])
 .ret)
 (.seq (.reg [⟨(some 9), (.mv (.t 0)), none⟩, ⟨(some 10), (.bin .neq (.t 9) (.c (.string ⟨#[]⟩))), none⟩, ⟨(some 11), (.mv (.t 10)), none⟩, ⟨(some 12), (.mv (.t 0)), (some (11, true))⟩, ⟨(some 13), (.ixs (.t 12) (.c (.int .i64 0))), (some (11, true))⟩, ⟨(some 14), (.bin .eql (.t 13) (.c (.int .u8 0))), (some (11, true))⟩, ⟨(some 15), (.pick (.t 11) (.t 14) (.c (.bool false))), none⟩, ⟨(some 8), (.mv (.t 15)), none⟩])
 (.cond (.t 8) (.seq (.reg [⟨(some 2), (.mv (.c (.int .u64 0))), none⟩, ⟨(some 3), (.mv (.c (.int .i64 3))), none⟩])
 .ret)
 .skip)))))
 (.seq (.reg [⟨(some 16), (.mv (.t 0)), none⟩, ⟨(some 17), (.s2b 5 (.t 16)), none⟩, ⟨(some 18), (.call (.c (.func (.func 62) #[] #[])) [(.t 17)]), none⟩, ⟨(some 2), (.mv (.t 18)), none⟩, ⟨(some 3), (.mv (.c (.int .i64 0))), none⟩])
 .ret)))⟩
theorem ok42 : FOk alT Try.prog 0 42 ir42 := ⟨_, Try.func42, by kernel_rfl, by kernel_rfl⟩
-- 43 hatchway/hatchwayref02.Least
def lp43_0 : ACode := (.seq (.seq (.reg [⟨(some 4), (.mv (.t 0)), none⟩, ⟨(some 5), (.bin .gtr (.t 4) (.c (.int .u64 0))), none⟩])
 (.cond (.t 5) .skip
 (.exit 0)))
 (.block 1 (.seq (.reg [⟨(some 6), (.mv (.t 0)), none⟩, ⟨(some 7), (.bin .rem (.t 6) (.c (.int .u64 256))), none⟩, ⟨(some 8), (.conv .u8 (.t 7)), none⟩, ⟨(some 9), (.lit 5 [(.int .u8 0)] 1 1 [(0, 1, (.t 8))]), none⟩, ⟨(some 10), (.b2s (.t 9)), none⟩, ⟨(some 11), (.mv (.t 3)), none⟩, ⟨(some 12), (.bin .add (.t 10) (.t 11)), none⟩, ⟨(some 3), (.mv (.t 12)), none⟩])
 (.reg [⟨(some 13), (.mv (.t 0)), none⟩, ⟨(some 14), (.bin .quo (.t 13) (.c (.int .u64 256))), none⟩, ⟨(some 0), (.mv (.t 14)), none⟩]))))
def ir43 : AFn := ⟨16, [.t 2],
 (.seq (.reg [⟨(some 2), (.mv (.c (.string ⟨#[]⟩))), none⟩])
 (.seq (.reg [⟨(some 3), (.mv (.c (.string ⟨#[]⟩))), none⟩])
 (.seq (.block 0 (.loop lp43_0))
 (.seq (.reg [⟨(some 15), (.mv (.t 3)), none⟩, ⟨(some 2), (.mv (.t 15)), none⟩])
 .ret))))⟩
theorem ok43 : FOk alT Try.prog 0 43 ir43 := ⟨_, Try.func43, by kernel_rfl, by kernel_rfl⟩
-- 44 hatchway/hatchwayref02.Big
def lp44_0 : ACode := (.seq (.seq (.reg [⟨(some 13), (.mv (.t 6)), none⟩, ⟨(some 14), (.len 0 (.t 13)), none⟩, ⟨(some 15), (.mv (.t 1)), none⟩, ⟨(some 16), (.bin .lss (.t 14) (.t 15)), none⟩])
 (.cond (.t 16) .skip
 (.exit 0)))
 (.block 1 (.reg [⟨(some 17), (.mv (.t 6)), none⟩, ⟨(some 18), (.bin .add (.c (.string ⟨#[0]⟩)) (.t 17)), none⟩, ⟨(some 6), (.mv (.t 18)), none⟩])))
def ir44 : AFn := ⟨20, [.t 4, .t 5],
 (.seq (.reg [⟨(some 4), (.mv (.c (.string ⟨#[]⟩))), none⟩, ⟨(some 5), (.mv (.c (.bool false))), none⟩])
 (.seq (.reg [⟨(some 7), (.mv (.t 0)), none⟩, ⟨(some 8), (.call (.c (.func (.func 43) #[] #[])) [(.t 7)]), none⟩, ⟨(some 6), (.mv (.t 8)), none⟩])
 (.seq (.seq (.reg [⟨(some 9), (.mv (.t 6)), none⟩, ⟨(some 10), (.len 0 (.t 9)), none⟩, ⟨(some 11), (.mv (.t 1)), none⟩, ⟨(some 12), (.bin .gtr (.t 10) (.t 11)), none⟩])
 (.cond (.t 12) (.seq (.reg [⟨(some 4), (.mv (.c (.string ⟨#[]⟩))), none⟩, ⟨(some 5), (.mv (.c (.bool false))), none⟩])
 .ret)
 .skip))
 (.seq (.block 0 (.loop lp44_0))
 (.seq (.reg [⟨(some 19), (.mv (.t 6)), none⟩, ⟨(some 4), (.mv (.t 19)), none⟩, ⟨(some 5), (.mv (.c (.bool true))), none⟩])
 .ret)))))⟩
theorem ok44 : FOk alT Try.prog 0 44 ir44 := ⟨_, Try.func44, by kernel_rfl, by kernel_rfl⟩
-- 45 hatchway/fixed.GetLittle
def ir45 : AFn := ⟨8, [.t 2, .t 3],
 (.seq (.reg [⟨(some 2), (.mv (.c (.int .u64 0))), none⟩, ⟨(some 3), (.mv (.c (.int .i64 0))), none⟩])
 (.seq (.reg [⟨(some 4), (.mv (.t 0)), none⟩, ⟨(some 5), (.call (.c (.func (.func 63) #[] #[])) [(.t 4), (.c (.func (.func 58) #[] #[]))]), none⟩, ⟨(some 6), (.ext 0 (.t 5)), none⟩, ⟨(some 7), (.ext 1 (.t 5)), none⟩, ⟨(some 2), (.mv (.t 6)), none⟩, ⟨(some 3), (.mv (.t 7)), none⟩])
 .ret))⟩
theorem ok45 : FOk alT Try.prog 0 45 ir45 := ⟨_, Try.func45, by kernel_rfl, by kernel_rfl⟩
-- 46 hatchway/fixed.GetBig
def ir46 : AFn := ⟨8, [.t 2, .t 3],
 (.seq (.reg [⟨(some 2), (.mv (.c (.int .u64 0))), none⟩, ⟨(some 3), (.mv (.c (.int .i64 0))), none⟩])
 (.seq (.reg [⟨(some 4), (.mv (.t 0)), none⟩, ⟨(some 5), (.call (.c (.func (.func 63) #[] #[])) [(.t 4), (.c (.func (.func 59) #[] #[]))]), none⟩, ⟨(some 6), (.ext 0 (.t 5)), none⟩, ⟨(some 7), (.ext 1 (.t 5)), none⟩, ⟨(some 2), (.mv (.t 6)), none⟩, ⟨(some 3), (.mv (.t 7)), none⟩])
 .ret))⟩
theorem ok46 : FOk alT Try.prog 0 46 ir46 := ⟨_, Try.func46, by kernel_rfl, by kernel_rfl⟩
-- 47 hatchway/hatchwayref02.Turned
def lp47_0 : ACode := (.seq (.seq (.reg [⟨(some 5), (.mv (.t 4)), none⟩, ⟨(some 6), (.mv (.t 0)), none⟩, ⟨(some 7), (.len 0 (.t 6)), none⟩, ⟨(some 8), (.bin .lss (.t 5) (.t 7)), none⟩])
 (.cond (.t 8) .skip
 (.exit 0)))
 (.seq (.block 1 (.reg [⟨(some 11), (.mv (.t 0)), none⟩, ⟨(some 12), (.mv (.t 4)), none⟩, ⟨(some 13), (.mv (.t 4)), none⟩, ⟨(some 14), (.bin .add (.t 13) (.c (.int .i64 1))), none⟩, ⟨(some 15), (.cut (.t 11) (some (.t 12)) (some (.t 14))), none⟩, ⟨(some 16), (.mv (.t 3)), none⟩, ⟨(some 17), (.bin .add (.t 15) (.t 16)), none⟩, ⟨(some 3), (.mv (.t 17)), none⟩]))
 (.reg [⟨(some 9), (.mv (.t 4)), none⟩, ⟨(some 10), (.bin .add (.t 9) (.c (.int .i64 1))), none⟩, ⟨(some 4), (.mv (.t 10)), none⟩])))
def ir47 : AFn := ⟨19, [.t 2],
 (.seq (.reg [⟨(some 2), (.mv (.c (.string ⟨#[]⟩))), none⟩])
 (.seq (.reg [⟨(some 3), (.mv (.c (.string ⟨#[]⟩))), none⟩])
 (.seq (.seq (.reg [⟨(some 4), (.mv (.c (.int .i64 0))), none⟩])
 (.block 0 (.loop lp47_0)))
 (.seq (.reg [⟨(some 18), (.mv (.t 3)), none⟩, ⟨(some 2), (.mv (.t 18)), none⟩])
 .ret))))⟩
theorem ok47 : FOk alT Try.prog 0 47 ir47 := ⟨_, Try.func47, by kernel_rfl, by kernel_rfl⟩
-- 48 hatchway/hatchwayref02.Number
def lp48_0 : ACode := (.seq (.seq (.reg [⟨(some 5), (.mv (.t 4)), none⟩, ⟨(some 6), (.mv (.t 0)), none⟩, ⟨(some 7), (.len 0 (.t 6)), none⟩, ⟨(some 8), (.bin .lss (.t 5) (.t 7)), none⟩])
 (.cond (.t 8) .skip
 (.exit 0)))
 (.seq (.block 1 (.reg [⟨(some 11), (.mv (.t 3)), none⟩, ⟨(some 12), (.bin .mul (.c (.int .u64 256)) (.t 11)), none⟩, ⟨(some 13), (.mv (.t 0)), none⟩, ⟨(some 14), (.mv (.t 4)), none⟩, ⟨(some 15), (.ixs (.t 13) (.t 14)), none⟩, ⟨(some 16), (.conv .u64 (.t 15)), none⟩, ⟨(some 17), (.bin .add (.t 12) (.t 16)), none⟩, ⟨(some 3), (.mv (.t 17)), none⟩]))
 (.reg [⟨(some 9), (.mv (.t 4)), none⟩, ⟨(some 10), (.bin .add (.t 9) (.c (.int .i64 1))), none⟩, ⟨(some 4), (.mv (.t 10)), none⟩])))
def ir48 : AFn := ⟨19, [.t 2],
 (.seq (.reg [⟨(some 2), (.mv (.c (.int .u64 0))), none⟩])
 (.seq (.reg [⟨(some 3), (.mv (.c (.int .u64 0))), none⟩])
 (.seq (.seq (.reg [⟨(some 4), (.mv (.c (.int .i64 0))), none⟩])
 (.block 0 (.loop lp48_0)))
 (.seq (.reg [⟨(some 18), (.mv (.t 3)), none⟩, ⟨(some 2), (.mv (.t 18)), none⟩])
 .ret))))⟩
theorem ok48 : FOk alT Try.prog 0 48 ir48 := ⟨_, Try.func48, by kernel_rfl, by kernel_rfl⟩
-- 49 (*hatchway/cursor.Reader).Byte
def ir49 : AFn := ⟨10, [.t 2],
 (.seq (.reg [⟨(some 2), (.mv (.c (.int .u8 0))), none⟩])
 (.seq (.reg [⟨(some 4), (.mv (.t 0)), none⟩, ⟨(some 5), (.call (.c (.func (.func 21) #[] #[])) [(.t 4), (.c (.int .i64 1))]), none⟩, ⟨(some 3), (.mv (.t 5)), none⟩])
 (.seq (.seq (.reg [⟨(some 6), (.mv (.t 3)), none⟩, ⟨(some 7), (.bin .eql (.t 6) (.c (.string ⟨#[]⟩))), none⟩])
 (.cond (.t 7) (.seq (.reg [⟨(some 2), (.mv (.c (.int .u8 0))), none⟩])
 .ret)
 .skip))
 (.seq (.reg [⟨(some 8), (.mv (.t 3)), none⟩, ⟨(some 9), (.ixs (.t 8) (.c (.int .i64 0))), none⟩, ⟨(some 2), (.mv (.t 9)), none⟩])
 .ret))))⟩
theorem ok49 : FOk alT Try.prog 0 49 ir49 := ⟨_, Try.func49, by kernel_rfl, by kernel_rfl⟩
-- 50 (*hatchway/cursor.Reader).Take$1
def ir50 : AFn := ⟨9, [],
 (.seq (.reg [⟨(some 5), (.mv (.t 0)), none⟩])
 (.cond (.t 5) (.reg [⟨(some 6), (.ld (.t 2)), none⟩, ⟨(some 7), (.mv (.t 1)), none⟩, ⟨(some 8), (.call (.c (.func (.func 51) #[] #[])) [(.t 6), (.t 7)]), none⟩])
 .skip))⟩
theorem ok50 : FOk alT Try.prog 0 50 ir50 := ⟨_, Try.func50, by kernel_rfl, by kernel_rfl⟩
-- 51 (*hatchway/cursor.Reader).Fail
def ir51 : AFn := ⟨11, [],
 (.seq (.reg [⟨(some 4), (.mv (.t 0)), none⟩, ⟨(some 5), (.call (.c (.func (.func 24) #[] #[])) [(.t 4)]), none⟩, ⟨(some 6), (.bin .eql (.t 5) (.c (.int .i64 0))), none⟩])
 (.cond (.t 6) (.reg [⟨(some 7), (.mv (.t 0)), none⟩, ⟨(some 8), (.mv (.t 1)), none⟩, ⟨(some 9), (.nilchk (.t 7)), none⟩, ⟨(some 10), (.fa 2 (.t 9)), none⟩, ⟨none, (.st 1 (.t 10) (.t 8)), none⟩])
 .skip))⟩
theorem ok51 : FOk alT Try.prog 0 51 ir51 := ⟨_, Try.func51, by kernel_rfl, by kernel_rfl⟩
-- 52 (*hatchway/meter.Meter).Take$1
def ir52 : AFn := ⟨23, [.t 2],
 (.seq (.reg [⟨(some 2), (.mv (.c (.int .i64 0))), none⟩])
 (.seq (.seq (.draw [⟨(some 3), (.ld (.t 0)), none⟩, ⟨(some 4), (.ld (.t 1)), none⟩, ⟨(some 5), (.nilchk (.t 4)), none⟩, ⟨(some 6), (.fa 0 (.t 5)), none⟩, ⟨(some 7), (.ld (.t 6)), none⟩, ⟨(some 8), (.ld (.t 1)), none⟩, ⟨(some 9), (.nilchk (.t 8)), none⟩, ⟨(some 10), (.fa 1 (.t 9)), none⟩, ⟨(some 11), (.ld (.t 10)), none⟩, ⟨(some 12), (.bin .sub (.t 7) (.t 11)), none⟩, ⟨(some 13), (.bin .gtr (.t 3) (.t 12)), none⟩, ⟨(some 14), (.mv (.t 13)), none⟩, ⟨(some 15), (.ld (.t 0)), (some (14, false))⟩, ⟨(some 16), (.ld (.t 1)), (some (14, false))⟩, ⟨(some 17), (.nilchk (.t 16)), (some (14, false))⟩, ⟨(some 18), (.fa 2 (.t 17)), (some (14, false))⟩, ⟨(some 19), (.ld (.t 18)), (some (14, false))⟩, ⟨(some 20), (.bin .sub (.c (.int .i64 9223372036854775807)) (.t 19)), (some (14, false))⟩, ⟨(some 21), (.bin .gtr (.t 15) (.t 20)), (some (14, false))⟩, ⟨(some 22), (.pick (.t 14) (.c (.bool true)) (.t 21)), none⟩] [])
 (.cond (.t 22) (.seq (.reg [⟨(some 2), (.mv (.c (.int .i64 5))), none⟩])
 .ret)
 .skip))
 (.seq (.reg [⟨(some 2), (.mv (.c (.int .i64 0))), none⟩])
 .ret)))⟩
theorem ok52 : FOk alT Try.prog 0 52 ir52 := ⟨_, Try.func52, by kernel_rfl, by kernel_rfl⟩
-- 53 (*hatchway/meter.Meter).when
def ir53 : AFn := ⟨23, [.t 8],
 (.seq (.reg [⟨(some 8), (.mv (.c (.int .i64 0))), none⟩])
 (.seq (.seq (.reg [⟨(some 10), (.mv (.t 0)), none⟩, ⟨(some 11), (.nileq 0 false (.t 10) (.c (.pointer none))), none⟩, ⟨(some 12), (.mv (.t 11)), none⟩, ⟨(some 13), (.mv (.t 1)), (some (12, false))⟩, ⟨(some 14), (.bin .lss (.t 13) (.c (.int .i64 0))), (some (12, false))⟩, ⟨(some 15), (.pick (.t 12) (.c (.bool true)) (.t 14)), none⟩])
 (.cond (.t 15) (.seq (.reg [⟨(some 8), (.mv (.c (.int .i64 1))), none⟩])
 .ret)
 .skip))
 (.seq (.seq (.reg [⟨(some 16), (.mv (.t 2)), none⟩, ⟨(some 17), (.call (.t 16) []), none⟩, ⟨(some 9), (.mv (.t 17)), none⟩])
 (.seq (.reg [⟨(some 18), (.mv (.t 9)), none⟩, ⟨(some 19), (.bin .neq (.t 18) (.c (.int .i64 0))), none⟩])
 (.cond (.t 19) (.seq (.reg [⟨(some 20), (.mv (.t 9)), none⟩, ⟨(some 8), (.mv (.t 20)), none⟩])
 .ret)
 .skip)))
 (.seq (.reg [⟨(some 21), (.mv (.t 3)), none⟩, ⟨(some 22), (.call (.t 21) []), none⟩])
 (.seq (.reg [⟨(some 8), (.mv (.c (.int .i64 0))), none⟩])
 .ret)))))⟩
theorem ok53 : FOk alT Try.prog 0 53 ir53 := ⟨_, Try.func53, by kernel_rfl, by kernel_rfl⟩
-- 54 (*hatchway/meter.Meter).Take$2
def ir54 : AFn := ⟨30, [],
 (.seq (.draw [⟨(some 2), (.ld (.t 0)), none⟩, ⟨(some 3), (.nilchk (.t 2)), none⟩, ⟨(some 4), (.fa 1 (.t 3)), none⟩, ⟨(some 5), (.ld (.t 4)), none⟩, ⟨(some 6), (.ld (.t 1)), none⟩, ⟨(some 7), (.bin .add (.t 5) (.t 6)), none⟩, ⟨(some 8), (.nilchk (.t 2)), none⟩, ⟨(some 9), (.fa 1 (.t 8)), none⟩] [⟨none, (.st 1 (.t 9) (.t 7)), none⟩])
 (.seq (.draw [⟨(some 10), (.ld (.t 0)), none⟩, ⟨(some 11), (.nilchk (.t 10)), none⟩, ⟨(some 12), (.fa 2 (.t 11)), none⟩, ⟨(some 13), (.ld (.t 12)), none⟩, ⟨(some 14), (.ld (.t 1)), none⟩, ⟨(some 15), (.bin .add (.t 13) (.t 14)), none⟩, ⟨(some 16), (.nilchk (.t 10)), none⟩, ⟨(some 17), (.fa 2 (.t 16)), none⟩] [⟨none, (.st 1 (.t 17) (.t 15)), none⟩])
 (.draw [⟨(some 18), (.ld (.t 0)), none⟩, ⟨(some 19), (.ld (.t 0)), none⟩, ⟨(some 20), (.nilchk (.t 19)), none⟩, ⟨(some 21), (.fa 3 (.t 20)), none⟩, ⟨(some 22), (.ld (.t 21)), none⟩, ⟨(some 23), (.ld (.t 0)), none⟩, ⟨(some 24), (.nilchk (.t 23)), none⟩, ⟨(some 25), (.fa 1 (.t 24)), none⟩, ⟨(some 26), (.ld (.t 25)), none⟩, ⟨(some 27), (.mm true (.t 22) [(.t 26)]), none⟩, ⟨(some 28), (.nilchk (.t 18)), none⟩, ⟨(some 29), (.fa 3 (.t 28)), none⟩] [⟨none, (.st 1 (.t 29) (.t 27)), none⟩])))⟩
theorem ok54 : FOk alT Try.prog 0 54 ir54 := ⟨_, Try.func54, by kernel_rfl, by kernel_rfl⟩
-- 55 (*hatchway/meter.Meter).Give$1
def ir55 : AFn := ⟨9, [.t 2],
 (.seq (.reg [⟨(some 2), (.mv (.c (.int .i64 0))), none⟩])
 (.seq (.seq (.draw [⟨(some 3), (.ld (.t 0)), none⟩, ⟨(some 4), (.ld (.t 1)), none⟩, ⟨(some 5), (.nilchk (.t 4)), none⟩, ⟨(some 6), (.fa 1 (.t 5)), none⟩, ⟨(some 7), (.ld (.t 6)), none⟩, ⟨(some 8), (.bin .gtr (.t 3) (.t 7)), none⟩] [])
 (.cond (.t 8) (.seq (.reg [⟨(some 2), (.mv (.c (.int .i64 1))), none⟩])
 .ret)
 .skip))
 (.seq (.reg [⟨(some 2), (.mv (.c (.int .i64 0))), none⟩])
 .ret)))⟩
theorem ok55 : FOk alT Try.prog 0 55 ir55 := ⟨_, Try.func55, by kernel_rfl, by kernel_rfl⟩
-- 56 (*hatchway/meter.Meter).Give$2
def ir56 : AFn := ⟨10, [],
 (.draw [⟨(some 2), (.ld (.t 0)), none⟩, ⟨(some 3), (.nilchk (.t 2)), none⟩, ⟨(some 4), (.fa 1 (.t 3)), none⟩, ⟨(some 5), (.ld (.t 4)), none⟩, ⟨(some 6), (.ld (.t 1)), none⟩, ⟨(some 7), (.bin .sub (.t 5) (.t 6)), none⟩, ⟨(some 8), (.nilchk (.t 2)), none⟩, ⟨(some 9), (.fa 1 (.t 8)), none⟩] [⟨none, (.st 1 (.t 9) (.t 7)), none⟩])⟩
theorem ok56 : FOk alT Try.prog 0 56 ir56 := ⟨_, Try.func56, by kernel_rfl, by kernel_rfl⟩
-- 57 hatchway/fixed.put
def ir57 : AFn := ⟨29, [.t 6, .t 7],
 (.seq (.reg [⟨(some 6), (.mv (.c (.string ⟨#[]⟩))), none⟩, ⟨(some 7), (.mv (.c (.int .i64 0))), none⟩])
 (.seq (.block 0 (.seq (.reg [⟨(some 10), (.mv (.t 1)), none⟩, ⟨(some 11), (.bin .lss (.t 10) (.c (.int .i64 1))), none⟩, ⟨(some 12), (.mv (.t 11)), none⟩, ⟨(some 13), (.mv (.t 1)), (some (12, false))⟩, ⟨(some 14), (.bin .gtr (.t 13) (.c (.int .i64 8))), (some (12, false))⟩, ⟨(some 15), (.pick (.t 12) (.c (.bool true)) (.t 14)), none⟩, ⟨(some 9), (.mv (.t 15)), none⟩])
 (.cond (.t 9) (.seq (.reg [⟨(some 6), (.mv (.c (.string ⟨#[]⟩))), none⟩, ⟨(some 7), (.mv (.c (.int .i64 1))), none⟩])
 .ret)
 (.seq (.reg [⟨(some 17), (.mv (.t 0)), none⟩, ⟨(some 18), (.mv (.t 1)), none⟩, ⟨(some 19), (.call (.c (.func (.func 60) #[] #[])) [(.t 17), (.t 18)]), none⟩, ⟨(some 20), (.un .not (.t 19)), none⟩, ⟨(some 16), (.mv (.t 20)), none⟩])
 (.cond (.t 16) (.seq (.reg [⟨(some 6), (.mv (.c (.string ⟨#[]⟩))), none⟩, ⟨(some 7), (.mv (.c (.int .i64 5))), none⟩])
 .ret)
 .skip)))))
 (.seq (.reg [⟨(some 21), (.mv (.t 0)), none⟩, ⟨(some 22), (.mv (.t 1)), none⟩, ⟨(some 23), (.call (.c (.func (.func 61) #[] #[])) [(.t 21), (.t 22)]), none⟩, ⟨(some 8), (.mv (.t 23)), none⟩])
 (.seq (.reg [⟨(some 24), (.mv (.t 2)), none⟩, ⟨(some 25), (.mv (.t 8)), none⟩, ⟨(some 26), (.call (.t 24) [(.t 25)]), none⟩])
 (.seq (.reg [⟨(some 27), (.mv (.t 8)), none⟩, ⟨(some 28), (.b2s (.t 27)), none⟩, ⟨(some 6), (.mv (.t 28)), none⟩, ⟨(some 7), (.mv (.c (.int .i64 0))), none⟩])
 .ret)))))⟩
theorem ok57 : FOk alT Try.prog 0 57 ir57 := ⟨_, Try.func57, by kernel_rfl, by kernel_rfl⟩
-- 58 slices.Reverse[[]byte,byte]
def lp58_0 : ACode := (.seq (.seq (.reg [⟨(some 7), (.mv (.t 2)), none⟩, ⟨(some 8), (.mv (.t 3)), none⟩, ⟨(some 9), (.bin .lss (.t 7) (.t 8)), none⟩])
 (.cond (.t 9) .skip
 (.exit 0)))
 (.seq (.block 1 (.draw [⟨(some 14), (.mv (.t 0)), none⟩, ⟨(some 15), (.mv (.t 2)), none⟩, ⟨(some 16), (.mv (.t 0)), none⟩, ⟨(some 17), (.mv (.t 3)), none⟩, ⟨(some 18), (.mv (.t 0)), none⟩, ⟨(some 19), (.mv (.t 3)), none⟩, ⟨(some 20), (.ia 1 (.t 18) (.t 19)), none⟩, ⟨(some 21), (.ld (.t 20)), none⟩, ⟨(some 22), (.mv (.t 0)), none⟩, ⟨(some 23), (.mv (.t 2)), none⟩, ⟨(some 24), (.ia 1 (.t 22) (.t 23)), none⟩, ⟨(some 25), (.ld (.t 24)), none⟩, ⟨(some 26), (.ia 1 (.t 14) (.t 15)), none⟩, ⟨(some 27), (.ia 1 (.t 16) (.t 17)), none⟩] [⟨none, (.st 1 (.t 26) (.t 21)), none⟩, ⟨none, (.st 1 (.t 27) (.t 25)), none⟩]))
 (.reg [⟨(some 10), (.mv (.t 2)), none⟩, ⟨(some 11), (.bin .add (.t 10) (.c (.int .i64 1))), none⟩, ⟨(some 12), (.mv (.t 3)), none⟩, ⟨(some 13), (.bin .sub (.t 12) (.c (.int .i64 1))), none⟩, ⟨(some 2), (.mv (.t 11)), none⟩, ⟨(some 3), (.mv (.t 13)), none⟩])))
def ir58 : AFn := ⟨28, [],
 (.seq (.reg [⟨(some 4), (.mv (.t 0)), none⟩, ⟨(some 5), (.len 1 (.t 4)), none⟩, ⟨(some 6), (.bin .sub (.t 5) (.c (.int .i64 1))), none⟩, ⟨(some 2), (.mv (.c (.int .i64 0))), none⟩, ⟨(some 3), (.mv (.t 6)), none⟩])
 (.block 0 (.loop lp58_0)))⟩
theorem ok58 : FOk alT Try.prog 0 58 ir58 := ⟨_, Try.func58, by kernel_rfl, by kernel_rfl⟩
-- 59 hatchway/fixed.keep
def ir59 : AFn := ⟨2, [],
 .skip⟩
theorem ok59 : FOk alT Try.prog 0 59 ir59 := ⟨_, Try.func59, by kernel_rfl, by kernel_rfl⟩
-- 60 hatchway/fixed.fits
def ir60 : AFn := ⟨14, [.t 4],
 (.seq (.reg [⟨(some 4), (.mv (.c (.bool false))), none⟩])
 (.seq (.reg [⟨(some 5), (.mv (.t 1)), none⟩, ⟨(some 6), (.bin .geq (.t 5) (.c (.int .i64 8))), none⟩, ⟨(some 7), (.mv (.t 6)), none⟩, ⟨(some 8), (.mv (.t 0)), (some (7, false))⟩, ⟨(some 9), (.mv (.t 1)), (some (7, false))⟩, ⟨(some 10), (.bin .mul (.c (.int .i64 8)) (.t 9)), (some (7, false))⟩, ⟨(some 11), (.bin .shr (.t 8) (.t 10)), (some (7, false))⟩, ⟨(some 12), (.bin .eql (.t 11) (.c (.int .u64 0))), (some (7, false))⟩, ⟨(some 13), (.pick (.t 7) (.c (.bool true)) (.t 12)), none⟩, ⟨(some 4), (.mv (.t 13)), none⟩])
 .ret))⟩
theorem ok60 : FOk alT Try.prog 0 60 ir60 := ⟨_, Try.func60, by kernel_rfl, by kernel_rfl⟩
-- 61 hatchway/fixed.digits
def lp61_0 : ACode := (.seq (.reg [⟨(some 12), (.bin .lss (.t 11) (.t 10)), none⟩])
 (.seq (.cond (.t 12) .skip
 (.exit 0))
 (.seq (.block 1 (.seq (.reg [⟨(some 13), (.mv (.t 11)), none⟩, ⟨(some 6), (.mv (.t 13)), none⟩])
 (.reg [⟨(some 14), (.mv (.t 5)), none⟩, ⟨(some 15), (.mv (.t 6)), none⟩, ⟨(some 16), (.mv (.t 0)), none⟩, ⟨(some 17), (.mv (.t 6)), none⟩, ⟨(some 18), (.bin .mul (.c (.int .i64 8)) (.t 17)), none⟩, ⟨(some 19), (.bin .shr (.t 16) (.t 18)), none⟩, ⟨(some 20), (.conv .u8 (.t 19)), none⟩, ⟨(some 21), (.ia 1 (.t 14) (.t 15)), none⟩, ⟨none, (.st 1 (.t 21) (.t 20)), none⟩])))
 (.reg [⟨(some 22), (.bin .add (.t 11) (.c (.int .i64 1))), none⟩, ⟨(some 11), (.mv (.t 22)), none⟩]))))
def ir61 : AFn := ⟨24, [.t 4],
 (.seq (.reg [⟨(some 4), (.mv (.c (.slice none 0 0))), none⟩])
 (.seq (.reg [⟨(some 7), (.mv (.t 1)), none⟩, ⟨(some 8), (.mks 5 [(.int .u8 0)] 1 (.t 7) (.t 7)), none⟩, ⟨(some 5), (.mv (.t 8)), none⟩])
 (.seq (.seq (.reg [⟨(some 9), (.mv (.t 5)), none⟩, ⟨(some 10), (.len 1 (.t 9)), none⟩, ⟨(some 11), (.mv (.c (.int .i64 0))), none⟩])
 (.block 0 (.loop lp61_0)))
 (.seq (.reg [⟨(some 23), (.mv (.t 5)), none⟩, ⟨(some 4), (.mv (.t 23)), none⟩])
 .ret))))⟩
theorem ok61 : FOk alT Try.prog 0 61 ir61 := ⟨_, Try.func61, by kernel_rfl, by kernel_rfl⟩
-- 62 hatchway/fixed.number
def lp62_0 : ACode := (.seq (.reg [⟨(some 9), (.bin .lss (.t 8) (.t 7)), none⟩])
 (.seq (.cond (.t 9) .skip
 (.exit 0))
 (.seq (.block 1 (.seq (.reg [⟨(some 10), (.ia 1 (.t 6) (.t 8)), none⟩, ⟨(some 11), (.ld (.t 10)), none⟩, ⟨(some 5), (.mv (.t 11)), none⟩])
 (.reg [⟨(some 12), (.mv (.t 3)), none⟩, ⟨(some 13), (.bin .shl (.t 12) (.c (.int .u64 8))), none⟩, ⟨(some 14), (.mv (.t 5)), none⟩, ⟨(some 15), (.conv .u64 (.t 14)), none⟩, ⟨(some 16), (.bin .or (.t 13) (.t 15)), none⟩, ⟨(some 3), (.mv (.t 16)), none⟩])))
 (.reg [⟨(some 17), (.bin .add (.t 8) (.c (.int .i64 1))), none⟩, ⟨(some 8), (.mv (.t 17)), none⟩]))))
def ir62 : AFn := ⟨19, [.t 2],
 (.seq (.reg [⟨(some 2), (.mv (.c (.int .u64 0))), none⟩])
 (.seq (.reg [⟨(some 3), (.mv (.c (.int .u64 0))), none⟩])
 (.seq (.seq (.reg [⟨(some 6), (.mv (.t 0)), none⟩, ⟨(some 7), (.len 1 (.t 6)), none⟩, ⟨(some 8), (.mv (.c (.int .i64 0))), none⟩])
 (.block 0 (.loop lp62_0)))
 (.seq (.reg [⟨(some 18), (.mv (.t 3)), none⟩, ⟨(some 2), (.mv (.t 18)), none⟩])
 .ret))))⟩
theorem ok62 : FOk alT Try.prog 0 62 ir62 := ⟨_, Try.func62, by kernel_rfl, by kernel_rfl⟩
-- 63 hatchway/fixed.get
def ir63 : AFn := ⟨21, [.t 4, .t 5],
 (.seq (.reg [⟨(some 4), (.mv (.c (.int .u64 0))), none⟩, ⟨(some 5), (.mv (.c (.int .i64 0))), none⟩])
 (.seq (.block 0 (.seq (.reg [⟨(some 8), (.mv (.t 0)), none⟩, ⟨(some 9), (.bin .eql (.t 8) (.c (.string ⟨#[]⟩))), none⟩, ⟨(some 7), (.mv (.t 9)), none⟩])
 (.cond (.t 7) (.seq (.reg [⟨(some 4), (.mv (.c (.int .u64 0))), none⟩, ⟨(some 5), (.mv (.c (.int .i64 1))), none⟩])
 .ret)
 (.seq (.reg [⟨(some 11), (.mv (.t 0)), none⟩, ⟨(some 12), (.len 0 (.t 11)), none⟩, ⟨(some 13), (.bin .gtr (.t 12) (.c (.int .i64 8))), none⟩, ⟨(some 10), (.mv (.t 13)), none⟩])
 (.cond (.t 10) (.seq (.reg [⟨(some 4), (.mv (.c (.int .u64 0))), none⟩, ⟨(some 5), (.mv (.c (.int .i64 5))), none⟩])
 .ret)
 .skip)))))
 (.seq (.reg [⟨(some 14), (.mv (.t 0)), none⟩, ⟨(some 15), (.s2b 5 (.t 14)), none⟩, ⟨(some 6), (.mv (.t 15)), none⟩])
 (.seq (.reg [⟨(some 16), (.mv (.t 1)), none⟩, ⟨(some 17), (.mv (.t 6)), none⟩, ⟨(some 18), (.call (.t 16) [(.t 17)]), none⟩])
 (.seq (.reg [⟨(some 19), (.mv (.t 6)), none⟩, ⟨(some 20), (.call (.c (.func (.func 62) #[] #[])) [(.t 19)]), none⟩, ⟨(some 4), (.mv (.t 20)), none⟩, ⟨(some 5), (.mv (.c (.int .i64 0))), none⟩])
 .ret)))))⟩
theorem ok63 : FOk alT Try.prog 0 63 ir63 := ⟨_, Try.func63, by kernel_rfl, by kernel_rfl⟩
-- 64 (runtime.boundsError).Error: no body
-- 65 (runtime.boundsError).RuntimeError: no body
-- 66 (runtime.errorString).Error: no body
-- 67 (runtime.errorString).RuntimeError: no body
-- 68 (runtime.plainError).Error: no body
-- 69 (runtime.plainError).RuntimeError: no body
-- 70 (runtime.errorAddressString).Error: no body
-- 71 (runtime.errorAddressString).RuntimeError: no body
-- 72 (*runtime.TypeAssertionError).Error: no body
-- 73 (*runtime.TypeAssertionError).RuntimeError: no body
-- 74 (*runtime.PanicNilError).Error: no body
-- 75 (*runtime.PanicNilError).RuntimeError: no body
-- 76 (*internal/abi.Type).Align: no body
-- 77 (internal/runtime/maps.unhashableTypeError).Error: no body
-- 78 (internal/runtime/maps.unhashableTypeError).RuntimeError: no body
-- 79 (internal/abi.Kind).String: no body
def fnL : List (Nat × AFn) := [(2, ir2), (3, ir3), (4, ir4), (5, ir5), (6, ir6), (7, ir7), (8, ir8), (9, ir9), (10, ir10), (11, ir11), (12, ir12), (13, ir13), (14, ir14), (15, ir15), (16, ir16), (17, ir17), (18, ir18), (19, ir19), (20, ir20), (21, ir21), (22, ir22), (23, ir23), (24, ir24), (25, ir25), (26, ir26), (27, ir27), (28, ir28), (29, ir29), (30, ir30), (31, ir31), (32, ir32), (33, ir33), (34, ir34), (35, ir35), (36, ir36), (37, ir37), (38, ir38), (39, ir39), (40, ir40), (41, ir41), (42, ir42), (43, ir43), (44, ir44), (45, ir45), (46, ir46), (47, ir47), (48, ir48), (49, ir49), (50, ir50), (51, ir51), (52, ir52), (53, ir53), (54, ir54), (55, ir55), (56, ir56), (57, ir57), (58, ir58), (59, ir59), (60, ir60), (61, ir61), (62, ir62), (63, ir63)]
theorem fnL_ok : ∀ p ∈ fnL, FOk alT Try.prog 0 p.1 p.2 := (all_cons ok2 (all_cons ok3 (all_cons ok4 (all_cons ok5 (all_cons ok6 (all_cons ok7 (all_cons ok8 (all_cons ok9 (all_cons ok10 (all_cons ok11 (all_cons ok12 (all_cons ok13 (all_cons ok14 (all_cons ok15 (all_cons ok16 (all_cons ok17 (all_cons ok18 (all_cons ok19 (all_cons ok20 (all_cons ok21 (all_cons ok22 (all_cons ok23 (all_cons ok24 (all_cons ok25 (all_cons ok26 (all_cons ok27 (all_cons ok28 (all_cons ok29 (all_cons ok30 (all_cons ok31 (all_cons ok32 (all_cons ok33 (all_cons ok34 (all_cons ok35 (all_cons ok36 (all_cons ok37 (all_cons ok38 (all_cons ok39 (all_cons ok40 (all_cons ok41 (all_cons ok42 (all_cons ok43 (all_cons ok44 (all_cons ok45 (all_cons ok46 (all_cons ok47 (all_cons ok48 (all_cons ok49 (all_cons ok50 (all_cons ok51 (all_cons ok52 (all_cons ok53 (all_cons ok54 (all_cons ok55 (all_cons ok56 (all_cons ok57 (all_cons ok58 (all_cons ok59 (all_cons ok60 (all_cons ok61 (all_cons ok62 (all_cons ok63 all_nil))))))))))))))))))))))))))))))))))))))))))))))))))))))))))))))
theorem fn2 : tab fnL 2 = some ir2 := rfl
theorem fn3 : tab fnL 3 = some ir3 := rfl
theorem fn4 : tab fnL 4 = some ir4 := rfl
theorem fn5 : tab fnL 5 = some ir5 := rfl
theorem fn6 : tab fnL 6 = some ir6 := rfl
theorem fn7 : tab fnL 7 = some ir7 := rfl
theorem fn8 : tab fnL 8 = some ir8 := rfl
theorem fn9 : tab fnL 9 = some ir9 := rfl
theorem fn10 : tab fnL 10 = some ir10 := rfl
theorem fn11 : tab fnL 11 = some ir11 := rfl
theorem fn12 : tab fnL 12 = some ir12 := rfl
theorem fn13 : tab fnL 13 = some ir13 := rfl
theorem fn14 : tab fnL 14 = some ir14 := rfl
theorem fn15 : tab fnL 15 = some ir15 := rfl
theorem fn16 : tab fnL 16 = some ir16 := rfl
theorem fn17 : tab fnL 17 = some ir17 := rfl
theorem fn18 : tab fnL 18 = some ir18 := rfl
theorem fn19 : tab fnL 19 = some ir19 := rfl
theorem fn20 : tab fnL 20 = some ir20 := rfl
theorem fn21 : tab fnL 21 = some ir21 := rfl
theorem fn22 : tab fnL 22 = some ir22 := rfl
theorem fn23 : tab fnL 23 = some ir23 := rfl
theorem fn24 : tab fnL 24 = some ir24 := rfl
theorem fn25 : tab fnL 25 = some ir25 := rfl
theorem fn26 : tab fnL 26 = some ir26 := rfl
theorem fn27 : tab fnL 27 = some ir27 := rfl
theorem fn28 : tab fnL 28 = some ir28 := rfl
theorem fn29 : tab fnL 29 = some ir29 := rfl
theorem fn30 : tab fnL 30 = some ir30 := rfl
theorem fn31 : tab fnL 31 = some ir31 := rfl
theorem fn32 : tab fnL 32 = some ir32 := rfl
theorem fn33 : tab fnL 33 = some ir33 := rfl
theorem fn34 : tab fnL 34 = some ir34 := rfl
theorem fn35 : tab fnL 35 = some ir35 := rfl
theorem fn36 : tab fnL 36 = some ir36 := rfl
theorem fn37 : tab fnL 37 = some ir37 := rfl
theorem fn38 : tab fnL 38 = some ir38 := rfl
theorem fn39 : tab fnL 39 = some ir39 := rfl
theorem fn40 : tab fnL 40 = some ir40 := rfl
theorem fn41 : tab fnL 41 = some ir41 := rfl
theorem fn42 : tab fnL 42 = some ir42 := rfl
theorem fn43 : tab fnL 43 = some ir43 := rfl
theorem fn44 : tab fnL 44 = some ir44 := rfl
theorem fn45 : tab fnL 45 = some ir45 := rfl
theorem fn46 : tab fnL 46 = some ir46 := rfl
theorem fn47 : tab fnL 47 = some ir47 := rfl
theorem fn48 : tab fnL 48 = some ir48 := rfl
theorem fn49 : tab fnL 49 = some ir49 := rfl
theorem fn50 : tab fnL 50 = some ir50 := rfl
theorem fn51 : tab fnL 51 = some ir51 := rfl
theorem fn52 : tab fnL 52 = some ir52 := rfl
theorem fn53 : tab fnL 53 = some ir53 := rfl
theorem fn54 : tab fnL 54 = some ir54 := rfl
theorem fn55 : tab fnL 55 = some ir55 := rfl
theorem fn56 : tab fnL 56 = some ir56 := rfl
theorem fn57 : tab fnL 57 = some ir57 := rfl
theorem fn58 : tab fnL 58 = some ir58 := rfl
theorem fn59 : tab fnL 59 = some ir59 := rfl
theorem fn60 : tab fnL 60 = some ir60 := rfl
theorem fn61 : tab fnL 61 = some ir61 := rfl
theorem fn62 : tab fnL 62 = some ir62 := rfl
theorem fn63 : tab fnL 63 = some ir63 := rfl
noncomputable def CX (X : FuncId → Option (List Value → Option Value)) (pol : FuncId → Pol) : Cf := ⟨Try.prog, 0, tab fnL, pol, alT, X⟩
theorem CX_fn (X : FuncId → Option (List Value → Option Value)) (pol : FuncId → Pol) (f : FuncId) : (CX X pol).fn f = tab fnL f := rfl
theorem CX_X (X : FuncId → Option (List Value → Option Value)) (pol : FuncId → Pol) (f : FuncId) : (CX X pol).X f = X f := rfl
theorem CX_pol (X : FuncId → Option (List Value → Option Value)) (pol : FuncId → Pol) (f : FuncId) : (CX X pol).pol f = pol f := rfl
theorem CX_ok {x : List (Nat × (List Value → Option Value))} {pol : FuncId → Pol} (hx : ∀ p ∈ x, XOk Try.prog p.1 p.2) (hal : ∀ k, alT k = true → (∃ g, xtab x k = some g) ∨ (xtab x k = none ∧ (pol k = .al ∨ pol k = .ro))) : (CX (xtab x) pol).Ok where
  mixed := by kernel_rfl
  alok := hal
  fn := tab_ok fnL_ok
  X := xtab_ok hx
end Ev
end Go.Proofs.Ytlcfanmmpfmnaaa
