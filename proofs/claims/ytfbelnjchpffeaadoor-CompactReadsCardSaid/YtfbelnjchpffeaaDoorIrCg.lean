/-
  The functions of the seat in the small language, and that they are their translation.
-/
import Derived.Test.YtfbelnjchpffeaaDoorProg
import Derived.Test.YtfbelnjchpffeaaDoorEvV
import Derived.KernelRfl
namespace Go.Proofs.YtfbelnjchpffeaaDoor
namespace Ev
namespace Cg
set_option maxRecDepth 4000
def alT : FuncId → Bool := fun k => [].contains k
-- 3 hatchway/hatchwaylaw04.CompactReads
def ir3 : AFn := ⟨85, [.t 4],
 (.seq (.reg [⟨(some 4), (.mv (.c (.bool false))), none⟩])
 (.seq (.seq (.reg [⟨(some 14), (.call (.c (.func (.func 4) #[] #[])) []), none⟩, ⟨(some 15), (.un .not (.t 14)), none⟩])
 (.cond (.t 15) (.seq (.reg [⟨(some 4), (.mv (.c (.bool false))), none⟩])
 .ret)
 .skip))
 (.seq (.seq (.reg [⟨(some 16), (.mv (.t 0)), none⟩, ⟨(some 17), (.len 0 (.t 16)), none⟩, ⟨(some 18), (.bin .gtr (.t 17) (.c (.int .i64 200))), none⟩])
 (.cond (.t 18) (.seq (.reg [⟨(some 4), (.mv (.c (.bool true))), none⟩])
 .ret)
 .skip))
 (.seq (.reg [⟨(some 20), (.mv (.t 0)), none⟩, ⟨(some 21), (.call (.c (.func (.func 5) #[] #[])) [(.t 20)]), none⟩, ⟨(some 19), (.mv (.t 21)), none⟩, ⟨(some 22), (.ext 0 (.t 19)), none⟩, ⟨(some 23), (.ext 1 (.t 19)), none⟩, ⟨(some 24), (.ext 2 (.t 19)), none⟩, ⟨(some 5), (.mv (.t 22)), none⟩, ⟨(some 6), (.mv (.t 23)), none⟩, ⟨(some 7), (.mv (.t 24)), none⟩])
 (.seq (.reg [⟨(some 26), (.mv (.t 0)), none⟩, ⟨(some 27), (.call (.c (.func (.func 6) #[] #[])) [(.t 26)]), none⟩, ⟨(some 25), (.mv (.t 27)), none⟩, ⟨(some 28), (.ext 0 (.t 25)), none⟩, ⟨(some 29), (.ext 1 (.t 25)), none⟩, ⟨(some 30), (.ext 2 (.t 25)), none⟩, ⟨(some 8), (.mv (.t 28)), none⟩, ⟨(some 9), (.mv (.t 29)), none⟩, ⟨(some 10), (.mv (.t 30)), none⟩])
 (.seq (.seq (.drawD [⟨(some 31), (.mv (.t 5)), none⟩, ⟨(some 32), (.mv (.t 8)), none⟩, ⟨(some 33), (.bin .neq (.t 31) (.t 32)), none⟩, ⟨(some 34), (.mv (.t 33)), none⟩, ⟨(some 35), (.mv (.t 6)), (some (34, false))⟩, ⟨(some 36), (.mv (.t 9)), (some (34, false))⟩, ⟨(some 37), (.bin .neq (.t 35) (.t 36)), (some (34, false))⟩, ⟨(some 38), (.pick (.t 34) (.c (.bool true)) (.t 37)), none⟩, ⟨(some 39), (.mv (.t 38)), none⟩, ⟨(some 40), (.mv (.t 7)), (some (39, false))⟩, ⟨(some 41), (.mv (.t 10)), (some (39, false))⟩, ⟨(some 42), (.bin .neq (.t 40) (.t 41)), (some (39, false))⟩, ⟨(some 43), (.pick (.t 39) (.c (.bool true)) (.t 42)), none⟩, ⟨(some 44), (.mv (.t 43)), none⟩, ⟨(some 45), (.mv (.t 7)), (some (44, false))⟩, ⟨(some 46), (.bin .eql (.t 45) (.c (.int .i64 0))), (some (44, false))⟩, ⟨(some 47), (.mv (.t 46)), (some (44, false))⟩, ⟨(some 48), (.mv (.t 5)), (some (47, true))⟩, ⟨(some 50), (.mv (.t 0)), (some (47, true))⟩, ⟨(some 51), (.mv (.t 6)), (some (47, true))⟩, ⟨(some 52), (.cut (.t 50) none (some (.t 51))), (some (47, true))⟩] [(⟨(some 49), (.call (.c (.func (.func 7) #[] #[])) [(.t 48)]), (some (47, true))⟩, []), (⟨(some 53), (.bin .neq (.t 49) (.t 52)), (some (47, true))⟩, []), (⟨(some 54), (.pick (.t 47) (.t 53) (.c (.bool false))), (some (44, false))⟩, []), (⟨(some 55), (.pick (.t 44) (.c (.bool true)) (.t 54)), none⟩, [])])
 (.cond (.t 55) (.seq (.reg [⟨(some 4), (.mv (.c (.bool false))), none⟩])
 .ret)
 .skip))
 (.seq (.reg [⟨(some 57), (.mv (.t 0)), none⟩, ⟨(some 58), (.mv (.t 1)), none⟩, ⟨(some 59), (.conv .i64 (.t 58)), none⟩, ⟨(some 60), (.mv (.t 0)), none⟩, ⟨(some 61), (.len 0 (.t 60)), none⟩, ⟨(some 62), (.mm false (.t 59) [(.t 61)]), none⟩, ⟨(some 63), (.cut (.t 57) none (some (.t 62))), none⟩, ⟨(some 64), (.call (.c (.func (.func 5) #[] #[])) [(.t 63)]), none⟩, ⟨(some 56), (.mv (.t 64)), none⟩, ⟨(some 65), (.ext 0 (.t 56)), none⟩, ⟨(some 66), (.ext 1 (.t 56)), none⟩, ⟨(some 67), (.ext 2 (.t 56)), none⟩, ⟨(some 11), (.mv (.t 65)), none⟩, ⟨(some 12), (.mv (.t 66)), none⟩, ⟨(some 13), (.mv (.t 67)), none⟩])
 (.seq (.reg [⟨(some 68), (.mv (.t 13)), none⟩, ⟨(some 69), (.bin .eql (.t 68) (.c (.int .i64 2))), none⟩, ⟨(some 70), (.mv (.t 69)), none⟩, ⟨(some 71), (.mv (.t 11)), (some (70, false))⟩, ⟨(some 72), (.mv (.t 5)), (some (70, false))⟩, ⟨(some 73), (.bin .eql (.t 71) (.t 72)), (some (70, false))⟩, ⟨(some 74), (.mv (.t 73)), (some (70, false))⟩, ⟨(some 75), (.mv (.t 12)), (some (74, true))⟩, ⟨(some 76), (.mv (.t 6)), (some (74, true))⟩, ⟨(some 77), (.bin .eql (.t 75) (.t 76)), (some (74, true))⟩, ⟨(some 78), (.pick (.t 74) (.t 77) (.c (.bool false))), (some (70, false))⟩, ⟨(some 79), (.mv (.t 78)), (some (70, false))⟩, ⟨(some 80), (.mv (.t 13)), (some (79, true))⟩, ⟨(some 81), (.mv (.t 7)), (some (79, true))⟩, ⟨(some 82), (.bin .eql (.t 80) (.t 81)), (some (79, true))⟩, ⟨(some 83), (.pick (.t 79) (.t 82) (.c (.bool false))), (some (70, false))⟩, ⟨(some 84), (.pick (.t 70) (.c (.bool true)) (.t 83)), none⟩, ⟨(some 4), (.mv (.t 84)), none⟩])
 .ret))))))))⟩
theorem ok3 : FOk alT Tryd.prog 1 3 ir3 := ⟨_, Tryd.func3, by kernel_rfl, by kernel_rfl⟩
-- 4 hatchway/hatchwaylaw04.alive
def ir4 : AFn := ⟨15, [.t 0],
 (.seq (.reg [⟨(some 0), (.mv (.c (.bool false))), none⟩])
 (.seq (.reg [⟨(some 5), (.call (.c (.func (.func 5) #[] #[])) [(.c (.string ⟨#[253, 1, 0]⟩))]), none⟩, ⟨(some 4), (.mv (.t 5)), none⟩, ⟨(some 6), (.ext 0 (.t 4)), none⟩, ⟨(some 7), (.ext 1 (.t 4)), none⟩, ⟨(some 8), (.ext 2 (.t 4)), none⟩, ⟨(some 1), (.mv (.t 6)), none⟩, ⟨(some 2), (.mv (.t 7)), none⟩, ⟨(some 3), (.mv (.t 8)), none⟩])
 (.seq (.reg [⟨(some 9), (.call (.c (.func (.func 7) #[] #[])) [(.c (.int .u64 253))]), none⟩, ⟨(some 10), (.bin .eql (.t 9) (.c (.string ⟨#[253, 253, 0]⟩))), none⟩, ⟨(some 11), (.mv (.t 10)), none⟩, ⟨(some 12), (.mv (.t 3)), (some (11, true))⟩, ⟨(some 13), (.bin .eql (.t 12) (.c (.int .i64 3))), (some (11, true))⟩, ⟨(some 14), (.pick (.t 11) (.t 13) (.c (.bool false))), none⟩, ⟨(some 0), (.mv (.t 14)), none⟩])
 .ret)))⟩
theorem ok4 : FOk alT Tryd.prog 1 4 ir4 := ⟨_, Tryd.func4, by kernel_rfl, by kernel_rfl⟩
-- 5 hatchway/compact.Next
def ir5 : AFn := ⟨41, [.t 2, .t 3, .t 4],
 (.seq (.reg [⟨(some 2), (.mv (.c (.int .u64 0))), none⟩, ⟨(some 3), (.mv (.c (.int .i64 0))), none⟩, ⟨(some 4), (.mv (.c (.int .i64 0))), none⟩])
 (.seq (.seq (.reg [⟨(some 9), (.mv (.t 0)), none⟩, ⟨(some 10), (.bin .eql (.t 9) (.c (.string ⟨#[]⟩))), none⟩])
 (.cond (.t 10) (.seq (.reg [⟨(some 2), (.mv (.c (.int .u64 0))), none⟩, ⟨(some 3), (.mv (.c (.int .i64 0))), none⟩, ⟨(some 4), (.mv (.c (.int .i64 2))), none⟩])
 .ret)
 .skip))
 (.seq (.reg [⟨(some 11), (.mv (.t 0)), none⟩, ⟨(some 12), (.ixs (.t 11) (.c (.int .i64 0))), none⟩, ⟨(some 13), (.conv .i64 (.t 12)), none⟩, ⟨(some 5), (.mv (.t 13)), none⟩])
 (.seq (.seq (.reg [⟨(some 14), (.mv (.t 5)), none⟩, ⟨(some 15), (.bin .lss (.t 14) (.c (.int .i64 253))), none⟩])
 (.cond (.t 15) (.seq (.reg [⟨(some 16), (.mv (.t 5)), none⟩, ⟨(some 17), (.conv .u64 (.t 16)), none⟩, ⟨(some 2), (.mv (.t 17)), none⟩, ⟨(some 3), (.mv (.c (.int .i64 1))), none⟩, ⟨(some 4), (.mv (.c (.int .i64 0))), none⟩])
 .ret)
 .skip))
 (.seq (.reg [⟨(some 18), (.mv (.t 5)), none⟩, ⟨(some 19), (.bin .sub (.t 18) (.c (.int .i64 253))), none⟩, ⟨(some 20), (.iaa 3 1 (.g 0) (.t 19)), none⟩, ⟨(some 21), (.ld (.t 20)), none⟩, ⟨(some 22), (.bin .add (.c (.int .i64 1)) (.t 21)), none⟩, ⟨(some 6), (.mv (.t 22)), none⟩])
 (.seq (.seq (.reg [⟨(some 23), (.mv (.t 0)), none⟩, ⟨(some 24), (.len 0 (.t 23)), none⟩, ⟨(some 25), (.mv (.t 6)), none⟩, ⟨(some 26), (.bin .lss (.t 24) (.t 25)), none⟩])
 (.cond (.t 26) (.seq (.reg [⟨(some 2), (.mv (.c (.int .u64 0))), none⟩, ⟨(some 3), (.mv (.c (.int .i64 0))), none⟩, ⟨(some 4), (.mv (.c (.int .i64 2))), none⟩])
 .ret)
 .skip))
 (.seq (.reg [⟨(some 28), (.mv (.t 0)), none⟩, ⟨(some 29), (.mv (.t 6)), none⟩, ⟨(some 30), (.cut (.t 28) (some (.c (.int .i64 1))) (some (.t 29))), none⟩, ⟨(some 31), (.call (.c (.func (.func 8) #[] #[])) [(.t 30)]), none⟩, ⟨(some 27), (.mv (.t 31)), none⟩, ⟨(some 32), (.ext 0 (.t 27)), none⟩, ⟨(some 33), (.ext 1 (.t 27)), none⟩, ⟨(some 7), (.mv (.t 32)), none⟩, ⟨(some 8), (.mv (.t 33)), none⟩])
 (.seq (.seq (.reg [⟨(some 34), (.mv (.t 7)), none⟩, ⟨(some 35), (.call (.c (.func (.func 7) #[] #[])) [(.t 34)]), none⟩, ⟨(some 36), (.len 0 (.t 35)), none⟩, ⟨(some 37), (.mv (.t 6)), none⟩, ⟨(some 38), (.bin .neq (.t 36) (.t 37)), none⟩])
 (.cond (.t 38) (.seq (.reg [⟨(some 2), (.mv (.c (.int .u64 0))), none⟩, ⟨(some 3), (.mv (.c (.int .i64 0))), none⟩, ⟨(some 4), (.mv (.c (.int .i64 3))), none⟩])
 .ret)
 .skip))
 (.seq (.reg [⟨(some 39), (.mv (.t 7)), none⟩, ⟨(some 40), (.mv (.t 6)), none⟩, ⟨(some 2), (.mv (.t 39)), none⟩, ⟨(some 3), (.mv (.t 40)), none⟩, ⟨(some 4), (.mv (.c (.int .i64 0))), none⟩])
 .ret)))))))))⟩
theorem ok5 : FOk alT Tryd.prog 1 5 ir5 := ⟨_, Tryd.func5, by kernel_rfl, by kernel_rfl⟩
-- 6 hatchway/hatchwayref04.Next
def ir6 : AFn := ⟨39, [.t 2, .t 3, .t 4],
 (.seq (.reg [⟨(some 2), (.mv (.c (.int .u64 0))), none⟩, ⟨(some 3), (.mv (.c (.int .i64 0))), none⟩, ⟨(some 4), (.mv (.c (.int .i64 0))), none⟩])
 (.seq (.seq (.reg [⟨(some 7), (.mv (.t 0)), none⟩, ⟨(some 8), (.bin .eql (.t 7) (.c (.string ⟨#[]⟩))), none⟩])
 (.cond (.t 8) (.seq (.reg [⟨(some 2), (.mv (.c (.int .u64 0))), none⟩, ⟨(some 3), (.mv (.c (.int .i64 0))), none⟩, ⟨(some 4), (.mv (.c (.int .i64 2))), none⟩])
 .ret)
 .skip))
 (.seq (.reg [⟨(some 5), (.mv (.c (.int .i64 1))), none⟩])
 (.seq (.seq (.reg [⟨(some 9), (.mv (.t 0)), none⟩, ⟨(some 10), (.ixs (.t 9) (.c (.int .i64 0))), none⟩])
 (.block 0 (.seq (.reg [⟨(some 12), (.bin .eql (.t 10) (.c (.int .u8 253))), none⟩, ⟨(some 11), (.mv (.t 12)), none⟩])
 (.cond (.t 11) (.reg [⟨(some 5), (.mv (.c (.int .i64 3))), none⟩])
 (.seq (.reg [⟨(some 14), (.bin .eql (.t 10) (.c (.int .u8 254))), none⟩, ⟨(some 13), (.mv (.t 14)), none⟩])
 (.cond (.t 13) (.reg [⟨(some 5), (.mv (.c (.int .i64 5))), none⟩])
 (.seq (.reg [⟨(some 16), (.bin .eql (.t 10) (.c (.int .u8 255))), none⟩, ⟨(some 15), (.mv (.t 16)), none⟩])
 (.cond (.t 15) (.reg [⟨(some 5), (.mv (.c (.int .i64 9))), none⟩])
 .skip))))))))
 (.seq (.seq (.reg [⟨(some 17), (.mv (.t 0)), none⟩, ⟨(some 18), (.len 0 (.t 17)), none⟩, ⟨(some 19), (.mv (.t 5)), none⟩, ⟨(some 20), (.bin .lss (.t 18) (.t 19)), none⟩])
 (.cond (.t 20) (.seq (.reg [⟨(some 2), (.mv (.c (.int .u64 0))), none⟩, ⟨(some 3), (.mv (.c (.int .i64 0))), none⟩, ⟨(some 4), (.mv (.c (.int .i64 2))), none⟩])
 .ret)
 .skip))
 (.seq (.reg [⟨(some 21), (.mv (.t 0)), none⟩, ⟨(some 22), (.ixs (.t 21) (.c (.int .i64 0))), none⟩, ⟨(some 23), (.conv .u64 (.t 22)), none⟩, ⟨(some 6), (.mv (.t 23)), none⟩])
 (.seq (.seq (.reg [⟨(some 24), (.mv (.t 5)), none⟩, ⟨(some 25), (.bin .gtr (.t 24) (.c (.int .i64 1))), none⟩])
 (.cond (.t 25) (.reg [⟨(some 26), (.mv (.t 0)), none⟩, ⟨(some 27), (.mv (.t 5)), none⟩, ⟨(some 28), (.cut (.t 26) (some (.c (.int .i64 1))) (some (.t 27))), none⟩, ⟨(some 29), (.call (.c (.func (.func 10) #[] #[])) [(.t 28)]), none⟩, ⟨(some 30), (.call (.c (.func (.func 9) #[] #[])) [(.t 29)]), none⟩, ⟨(some 6), (.mv (.t 30)), none⟩])
 .skip))
 (.seq (.seq (.drawD [⟨(some 31), (.mv (.t 6)), none⟩, ⟨(some 33), (.mv (.t 0)), none⟩, ⟨(some 34), (.mv (.t 5)), none⟩, ⟨(some 35), (.cut (.t 33) none (some (.t 34))), none⟩] [(⟨(some 32), (.call (.c (.func (.func 11) #[] #[])) [(.t 31)]), none⟩, []), (⟨(some 36), (.bin .neq (.t 32) (.t 35)), none⟩, [])])
 (.cond (.t 36) (.seq (.reg [⟨(some 2), (.mv (.c (.int .u64 0))), none⟩, ⟨(some 3), (.mv (.c (.int .i64 0))), none⟩, ⟨(some 4), (.mv (.c (.int .i64 3))), none⟩])
 .ret)
 .skip))
 (.seq (.reg [⟨(some 37), (.mv (.t 6)), none⟩, ⟨(some 38), (.mv (.t 5)), none⟩, ⟨(some 2), (.mv (.t 37)), none⟩, ⟨(some 3), (.mv (.t 38)), none⟩, ⟨(some 4), (.mv (.c (.int .i64 0))), none⟩])
 .ret)))))))))⟩
theorem ok6 : FOk alT Tryd.prog 1 6 ir6 := ⟨_, Tryd.func6, by kernel_rfl, by kernel_rfl⟩
-- 7 hatchway/compact.Put
def lp7_0 : ACode := (.seq (.reg [⟨(some 15), (.bin .lss (.t 14) (.c (.int .i64 3))), none⟩])
 (.seq (.cond (.t 15) .skip
 (.exit 0))
 (.seq (.block 1 (.seq (.reg [⟨(some 16), (.mv (.t 14)), none⟩, ⟨(some 17), (.ixa 3 1 none (.t 13) (.t 14)), none⟩, ⟨(some 3), (.mv (.t 16)), none⟩, ⟨(some 4), (.mv (.t 17)), none⟩])
 (.seq (.reg [⟨(some 19), (.mv (.t 0)), none⟩, ⟨(some 20), (.mv (.t 4)), none⟩, ⟨(some 21), (.call (.c (.func (.func 12) #[] #[])) [(.t 19), (.t 20)]), none⟩, ⟨(some 18), (.mv (.t 21)), none⟩, ⟨(some 22), (.ext 0 (.t 18)), none⟩, ⟨(some 23), (.ext 1 (.t 18)), none⟩, ⟨(some 5), (.mv (.t 22)), none⟩, ⟨(some 6), (.mv (.t 23)), none⟩])
 (.seq (.reg [⟨(some 24), (.mv (.t 6)), none⟩, ⟨(some 25), (.bin .eql (.t 24) (.c (.int .i64 0))), none⟩])
 (.cond (.t 25) (.seq (.reg [⟨(some 26), (.mv (.t 3)), none⟩, ⟨(some 27), (.bin .add (.c (.int .i64 253)) (.t 26)), none⟩, ⟨(some 28), (.conv .u8 (.t 27)), none⟩, ⟨(some 29), (.lit 5 [(.int .u8 0)] 1 1 [(0, 1, (.t 28))]), none⟩, ⟨(some 30), (.b2s (.t 29)), none⟩, ⟨(some 31), (.mv (.t 5)), none⟩, ⟨(some 32), (.bin .add (.t 30) (.t 31)), none⟩, ⟨(some 2), (.mv (.t 32)), none⟩])
 .ret)
 .skip)))))
 (.reg [⟨(some 33), (.bin .add (.t 14) (.c (.int .i64 1))), none⟩, ⟨(some 14), (.mv (.t 33)), none⟩]))))
def ir7 : AFn := ⟨34, [.t 2],
 (.seq (.reg [⟨(some 2), (.mv (.c (.string ⟨#[]⟩))), none⟩])
 (.seq (.seq (.reg [⟨(some 7), (.mv (.t 0)), none⟩, ⟨(some 8), (.bin .lss (.t 7) (.c (.int .u64 253))), none⟩])
 (.cond (.t 8) (.seq (.reg [⟨(some 9), (.mv (.t 0)), none⟩, ⟨(some 10), (.conv .u8 (.t 9)), none⟩, ⟨(some 11), (.lit 5 [(.int .u8 0)] 1 1 [(0, 1, (.t 10))]), none⟩, ⟨(some 12), (.b2s (.t 11)), none⟩, ⟨(some 2), (.mv (.t 12)), none⟩])
 .ret)
 .skip))
 (.seq (.seq (.reg [⟨(some 13), (.ldn 3 (.g 0)), none⟩, ⟨(some 14), (.mv (.c (.int .i64 0))), none⟩])
 (.block 0 (.loop lp7_0)))
 (.seq (.reg [⟨(some 2), (.mv (.c (.string ⟨#[]⟩))), none⟩])
 .ret))))⟩
theorem ok7 : FOk alT Tryd.prog 1 7 ir7 := ⟨_, Tryd.func7, by kernel_rfl, by kernel_rfl⟩
-- 8 hatchway/fixed.GetLittle
def ir8 : AFn := ⟨8, [.t 2, .t 3],
 (.seq (.reg [⟨(some 2), (.mv (.c (.int .u64 0))), none⟩, ⟨(some 3), (.mv (.c (.int .i64 0))), none⟩])
 (.seq (.reg [⟨(some 4), (.mv (.t 0)), none⟩, ⟨(some 5), (.call (.c (.func (.func 13) #[] #[])) [(.t 4), (.c (.func (.func 14) #[] #[]))]), none⟩, ⟨(some 6), (.ext 0 (.t 5)), none⟩, ⟨(some 7), (.ext 1 (.t 5)), none⟩, ⟨(some 2), (.mv (.t 6)), none⟩, ⟨(some 3), (.mv (.t 7)), none⟩])
 .ret))⟩
theorem ok8 : FOk alT Tryd.prog 1 8 ir8 := ⟨_, Tryd.func8, by kernel_rfl, by kernel_rfl⟩
-- 9 hatchway/hatchwayref02.Number
def lp9_0 : ACode := (.seq (.seq (.reg [⟨(some 5), (.mv (.t 4)), none⟩, ⟨(some 6), (.mv (.t 0)), none⟩, ⟨(some 7), (.len 0 (.t 6)), none⟩, ⟨(some 8), (.bin .lss (.t 5) (.t 7)), none⟩])
 (.cond (.t 8) .skip
 (.exit 0)))
 (.seq (.block 1 (.reg [⟨(some 11), (.mv (.t 3)), none⟩, ⟨(some 12), (.bin .mul (.c (.int .u64 256)) (.t 11)), none⟩, ⟨(some 13), (.mv (.t 0)), none⟩, ⟨(some 14), (.mv (.t 4)), none⟩, ⟨(some 15), (.ixs (.t 13) (.t 14)), none⟩, ⟨(some 16), (.conv .u64 (.t 15)), none⟩, ⟨(some 17), (.bin .add (.t 12) (.t 16)), none⟩, ⟨(some 3), (.mv (.t 17)), none⟩]))
 (.reg [⟨(some 9), (.mv (.t 4)), none⟩, ⟨(some 10), (.bin .add (.t 9) (.c (.int .i64 1))), none⟩, ⟨(some 4), (.mv (.t 10)), none⟩])))
def ir9 : AFn := ⟨19, [.t 2],
 (.seq (.reg [⟨(some 2), (.mv (.c (.int .u64 0))), none⟩])
 (.seq (.reg [⟨(some 3), (.mv (.c (.int .u64 0))), none⟩])
 (.seq (.seq (.reg [⟨(some 4), (.mv (.c (.int .i64 0))), none⟩])
 (.block 0 (.loop lp9_0)))
 (.seq (.reg [⟨(some 18), (.mv (.t 3)), none⟩, ⟨(some 2), (.mv (.t 18)), none⟩])
 .ret))))⟩
theorem ok9 : FOk alT Tryd.prog 1 9 ir9 := ⟨_, Tryd.func9, by kernel_rfl, by kernel_rfl⟩
-- 10 hatchway/hatchwayref02.Turned
def lp10_0 : ACode := (.seq (.seq (.reg [⟨(some 5), (.mv (.t 4)), none⟩, ⟨(some 6), (.mv (.t 0)), none⟩, ⟨(some 7), (.len 0 (.t 6)), none⟩, ⟨(some 8), (.bin .lss (.t 5) (.t 7)), none⟩])
 (.cond (.t 8) .skip
 (.exit 0)))
 (.seq (.block 1 (.reg [⟨(some 11), (.mv (.t 0)), none⟩, ⟨(some 12), (.mv (.t 4)), none⟩, ⟨(some 13), (.mv (.t 4)), none⟩, ⟨(some 14), (.bin .add (.t 13) (.c (.int .i64 1))), none⟩, ⟨(some 15), (.cut (.t 11) (some (.t 12)) (some (.t 14))), none⟩, ⟨(some 16), (.mv (.t 3)), none⟩, ⟨(some 17), (.bin .add (.t 15) (.t 16)), none⟩, ⟨(some 3), (.mv (.t 17)), none⟩]))
 (.reg [⟨(some 9), (.mv (.t 4)), none⟩, ⟨(some 10), (.bin .add (.t 9) (.c (.int .i64 1))), none⟩, ⟨(some 4), (.mv (.t 10)), none⟩])))
def ir10 : AFn := ⟨19, [.t 2],
 (.seq (.reg [⟨(some 2), (.mv (.c (.string ⟨#[]⟩))), none⟩])
 (.seq (.reg [⟨(some 3), (.mv (.c (.string ⟨#[]⟩))), none⟩])
 (.seq (.seq (.reg [⟨(some 4), (.mv (.c (.int .i64 0))), none⟩])
 (.block 0 (.loop lp10_0)))
 (.seq (.reg [⟨(some 18), (.mv (.t 3)), none⟩, ⟨(some 2), (.mv (.t 18)), none⟩])
 .ret))))⟩
theorem ok10 : FOk alT Tryd.prog 1 10 ir10 := ⟨_, Tryd.func10, by kernel_rfl, by kernel_rfl⟩
-- 11 hatchway/hatchwayref04.Put
def ir11 : AFn := ⟨22, [.t 2],
 (.seq (.reg [⟨(some 2), (.mv (.c (.string ⟨#[]⟩))), none⟩])
 (.seq (.seq (.reg [⟨(some 3), (.mv (.t 0)), none⟩, ⟨(some 4), (.bin .lss (.t 3) (.c (.int .u64 253))), none⟩])
 (.cond (.t 4) (.seq (.reg [⟨(some 5), (.mv (.t 0)), none⟩, ⟨(some 6), (.conv .u8 (.t 5)), none⟩, ⟨(some 7), (.lit 5 [(.int .u8 0)] 1 1 [(0, 1, (.t 6))]), none⟩, ⟨(some 8), (.b2s (.t 7)), none⟩, ⟨(some 2), (.mv (.t 8)), none⟩])
 .ret)
 .skip))
 (.seq (.seq (.reg [⟨(some 9), (.mv (.t 0)), none⟩, ⟨(some 10), (.bin .lss (.t 9) (.c (.int .u64 65536))), none⟩])
 (.cond (.t 10) (.seq (.reg [⟨(some 11), (.mv (.t 0)), none⟩, ⟨(some 12), (.call (.c (.func (.func 15) #[] #[])) [(.t 11), (.c (.int .i64 2))]), none⟩, ⟨(some 13), (.bin .add (.c (.string ⟨#[253]⟩)) (.t 12)), none⟩, ⟨(some 2), (.mv (.t 13)), none⟩])
 .ret)
 .skip))
 (.seq (.seq (.reg [⟨(some 14), (.mv (.t 0)), none⟩, ⟨(some 15), (.bin .lss (.t 14) (.c (.int .u64 4294967296))), none⟩])
 (.cond (.t 15) (.seq (.reg [⟨(some 16), (.mv (.t 0)), none⟩, ⟨(some 17), (.call (.c (.func (.func 15) #[] #[])) [(.t 16), (.c (.int .i64 4))]), none⟩, ⟨(some 18), (.bin .add (.c (.string ⟨#[254]⟩)) (.t 17)), none⟩, ⟨(some 2), (.mv (.t 18)), none⟩])
 .ret)
 .skip))
 (.seq (.reg [⟨(some 19), (.mv (.t 0)), none⟩, ⟨(some 20), (.call (.c (.func (.func 15) #[] #[])) [(.t 19), (.c (.int .i64 8))]), none⟩, ⟨(some 21), (.bin .add (.c (.string ⟨#[255]⟩)) (.t 20)), none⟩, ⟨(some 2), (.mv (.t 21)), none⟩])
 .ret)))))⟩
theorem ok11 : FOk alT Tryd.prog 1 11 ir11 := ⟨_, Tryd.func11, by kernel_rfl, by kernel_rfl⟩
-- 12 hatchway/fixed.Little
def ir12 : AFn := ⟨11, [.t 4, .t 5],
 (.seq (.reg [⟨(some 4), (.mv (.c (.string ⟨#[]⟩))), none⟩, ⟨(some 5), (.mv (.c (.int .i64 0))), none⟩])
 (.seq (.reg [⟨(some 6), (.mv (.t 0)), none⟩, ⟨(some 7), (.mv (.t 1)), none⟩, ⟨(some 8), (.call (.c (.func (.func 16) #[] #[])) [(.t 6), (.t 7), (.c (.func (.func 17) #[] #[]))]), none⟩, ⟨(some 9), (.ext 0 (.t 8)), none⟩, ⟨(some 10), (.ext 1 (.t 8)), none⟩, ⟨(some 4), (.mv (.t 9)), none⟩, ⟨(some 5), (.mv (.t 10)), none⟩])
 .ret))⟩
theorem ok12 : FOk alT Tryd.prog 1 12 ir12 := ⟨_, Tryd.func12, by kernel_rfl, by kernel_rfl⟩
-- 13 hatchway/fixed.get
def ir13 : AFn := ⟨21, [.t 4, .t 5],
 (.seq (.reg [⟨(some 4), (.mv (.c (.int .u64 0))), none⟩, ⟨(some 5), (.mv (.c (.int .i64 0))), none⟩])
 (.seq (.block 0 (.seq (.reg [⟨(some 8), (.mv (.t 0)), none⟩, ⟨(some 9), (.bin .eql (.t 8) (.c (.string ⟨#[]⟩))), none⟩, ⟨(some 7), (.mv (.t 9)), none⟩])
 (.cond (.t 7) (.seq (.reg [⟨(some 4), (.mv (.c (.int .u64 0))), none⟩, ⟨(some 5), (.mv (.c (.int .i64 1))), none⟩])
 .ret)
 (.seq (.reg [⟨(some 11), (.mv (.t 0)), none⟩, ⟨(some 12), (.len 0 (.t 11)), none⟩, ⟨(some 13), (.bin .gtr (.t 12) (.c (.int .i64 8))), none⟩, ⟨(some 10), (.mv (.t 13)), none⟩])
 (.cond (.t 10) (.seq (.reg [⟨(some 4), (.mv (.c (.int .u64 0))), none⟩, ⟨(some 5), (.mv (.c (.int .i64 5))), none⟩])
 .ret)
 .skip)))))
 (.seq (.reg [⟨(some 14), (.mv (.t 0)), none⟩, ⟨(some 15), (.s2b 5 (.t 14)), none⟩, ⟨(some 6), (.mv (.t 15)), none⟩])
 (.seq (.reg [⟨(some 16), (.mv (.t 1)), none⟩, ⟨(some 17), (.mv (.t 6)), none⟩, ⟨(some 18), (.call (.t 16) [(.t 17)]), none⟩])
 (.seq (.reg [⟨(some 19), (.mv (.t 6)), none⟩, ⟨(some 20), (.call (.c (.func (.func 18) #[] #[])) [(.t 19)]), none⟩, ⟨(some 4), (.mv (.t 20)), none⟩, ⟨(some 5), (.mv (.c (.int .i64 0))), none⟩])
 .ret)))))⟩
theorem ok13 : FOk alT Tryd.prog 1 13 ir13 := ⟨_, Tryd.func13, by kernel_rfl, by kernel_rfl⟩
-- 14 slices.Reverse[[]byte,byte]
def lp14_0 : ACode := (.seq (.seq (.reg [⟨(some 7), (.mv (.t 2)), none⟩, ⟨(some 8), (.mv (.t 3)), none⟩, ⟨(some 9), (.bin .lss (.t 7) (.t 8)), none⟩])
 (.cond (.t 9) .skip
 (.exit 0)))
 (.seq (.block 1 (.draw [⟨(some 14), (.mv (.t 0)), none⟩, ⟨(some 15), (.mv (.t 2)), none⟩, ⟨(some 16), (.mv (.t 0)), none⟩, ⟨(some 17), (.mv (.t 3)), none⟩, ⟨(some 18), (.mv (.t 0)), none⟩, ⟨(some 19), (.mv (.t 3)), none⟩, ⟨(some 20), (.ia 1 (.t 18) (.t 19)), none⟩, ⟨(some 21), (.ld (.t 20)), none⟩, ⟨(some 22), (.mv (.t 0)), none⟩, ⟨(some 23), (.mv (.t 2)), none⟩, ⟨(some 24), (.ia 1 (.t 22) (.t 23)), none⟩, ⟨(some 25), (.ld (.t 24)), none⟩, ⟨(some 26), (.ia 1 (.t 14) (.t 15)), none⟩, ⟨(some 27), (.ia 1 (.t 16) (.t 17)), none⟩] [⟨none, (.st 1 (.t 26) (.t 21)), none⟩, ⟨none, (.st 1 (.t 27) (.t 25)), none⟩]))
 (.reg [⟨(some 10), (.mv (.t 2)), none⟩, ⟨(some 11), (.bin .add (.t 10) (.c (.int .i64 1))), none⟩, ⟨(some 12), (.mv (.t 3)), none⟩, ⟨(some 13), (.bin .sub (.t 12) (.c (.int .i64 1))), none⟩, ⟨(some 2), (.mv (.t 11)), none⟩, ⟨(some 3), (.mv (.t 13)), none⟩])))
def ir14 : AFn := ⟨28, [],
 (.seq (.reg [⟨(some 4), (.mv (.t 0)), none⟩, ⟨(some 5), (.len 1 (.t 4)), none⟩, ⟨(some 6), (.bin .sub (.t 5) (.c (.int .i64 1))), none⟩, ⟨(some 2), (.mv (.c (.int .i64 0))), none⟩, ⟨(some 3), (.mv (.t 6)), none⟩])
 (.block 0 (.loop lp14_0)))⟩
theorem ok14 : FOk alT Tryd.prog 1 14 ir14 := ⟨_, Tryd.func14, by kernel_rfl, by kernel_rfl⟩
-- 15 hatchway/hatchwayref04.little
def ir15 : AFn := ⟨15, [.t 4],
 (.seq (.reg [⟨(some 4), (.mv (.c (.string ⟨#[]⟩))), none⟩])
 (.seq (.reg [⟨(some 8), (.mv (.t 0)), none⟩, ⟨(some 9), (.mv (.t 1)), none⟩, ⟨(some 10), (.call (.c (.func (.func 19) #[] #[])) [(.t 8), (.t 9)]), none⟩, ⟨(some 7), (.mv (.t 10)), none⟩, ⟨(some 11), (.ext 0 (.t 7)), none⟩, ⟨(some 12), (.ext 1 (.t 7)), none⟩, ⟨(some 5), (.mv (.t 11)), none⟩, ⟨(some 6), (.mv (.t 12)), none⟩])
 (.seq (.reg [⟨(some 13), (.mv (.t 5)), none⟩, ⟨(some 14), (.call (.c (.func (.func 10) #[] #[])) [(.t 13)]), none⟩, ⟨(some 4), (.mv (.t 14)), none⟩])
 .ret)))⟩
theorem ok15 : FOk alT Tryd.prog 1 15 ir15 := ⟨_, Tryd.func15, by kernel_rfl, by kernel_rfl⟩
-- 16 hatchway/fixed.put
def ir16 : AFn := ⟨29, [.t 6, .t 7],
 (.seq (.reg [⟨(some 6), (.mv (.c (.string ⟨#[]⟩))), none⟩, ⟨(some 7), (.mv (.c (.int .i64 0))), none⟩])
 (.seq (.block 0 (.seq (.reg [⟨(some 10), (.mv (.t 1)), none⟩, ⟨(some 11), (.bin .lss (.t 10) (.c (.int .i64 1))), none⟩, ⟨(some 12), (.mv (.t 11)), none⟩, ⟨(some 13), (.mv (.t 1)), (some (12, false))⟩, ⟨(some 14), (.bin .gtr (.t 13) (.c (.int .i64 8))), (some (12, false))⟩, ⟨(some 15), (.pick (.t 12) (.c (.bool true)) (.t 14)), none⟩, ⟨(some 9), (.mv (.t 15)), none⟩])
 (.cond (.t 9) (.seq (.reg [⟨(some 6), (.mv (.c (.string ⟨#[]⟩))), none⟩, ⟨(some 7), (.mv (.c (.int .i64 1))), none⟩])
 .ret)
 (.seq (.reg [⟨(some 17), (.mv (.t 0)), none⟩, ⟨(some 18), (.mv (.t 1)), none⟩, ⟨(some 19), (.call (.c (.func (.func 20) #[] #[])) [(.t 17), (.t 18)]), none⟩, ⟨(some 20), (.un .not (.t 19)), none⟩, ⟨(some 16), (.mv (.t 20)), none⟩])
 (.cond (.t 16) (.seq (.reg [⟨(some 6), (.mv (.c (.string ⟨#[]⟩))), none⟩, ⟨(some 7), (.mv (.c (.int .i64 5))), none⟩])
 .ret)
 .skip)))))
 (.seq (.reg [⟨(some 21), (.mv (.t 0)), none⟩, ⟨(some 22), (.mv (.t 1)), none⟩, ⟨(some 23), (.call (.c (.func (.func 21) #[] #[])) [(.t 21), (.t 22)]), none⟩, ⟨(some 8), (.mv (.t 23)), none⟩])
 (.seq (.reg [⟨(some 24), (.mv (.t 2)), none⟩, ⟨(some 25), (.mv (.t 8)), none⟩, ⟨(some 26), (.call (.t 24) [(.t 25)]), none⟩])
 (.seq (.reg [⟨(some 27), (.mv (.t 8)), none⟩, ⟨(some 28), (.b2s (.t 27)), none⟩, ⟨(some 6), (.mv (.t 28)), none⟩, ⟨(some 7), (.mv (.c (.int .i64 0))), none⟩])
 .ret)))))⟩
theorem ok16 : FOk alT Tryd.prog 1 16 ir16 := ⟨_, Tryd.func16, by kernel_rfl, by kernel_rfl⟩
-- 17 hatchway/fixed.keep
def ir17 : AFn := ⟨2, [],
 .skip⟩
theorem ok17 : FOk alT Tryd.prog 1 17 ir17 := ⟨_, Tryd.func17, by kernel_rfl, by kernel_rfl⟩
-- 18 hatchway/fixed.number
def lp18_0 : ACode := (.seq (.reg [⟨(some 9), (.bin .lss (.t 8) (.t 7)), none⟩])
 (.seq (.cond (.t 9) .skip
 (.exit 0))
 (.seq (.block 1 (.seq (.reg [⟨(some 10), (.ia 1 (.t 6) (.t 8)), none⟩, ⟨(some 11), (.ld (.t 10)), none⟩, ⟨(some 5), (.mv (.t 11)), none⟩])
 (.reg [⟨(some 12), (.mv (.t 3)), none⟩, ⟨(some 13), (.bin .shl (.t 12) (.c (.int .u64 8))), none⟩, ⟨(some 14), (.mv (.t 5)), none⟩, ⟨(some 15), (.conv .u64 (.t 14)), none⟩, ⟨(some 16), (.bin .or (.t 13) (.t 15)), none⟩, ⟨(some 3), (.mv (.t 16)), none⟩])))
 (.reg [⟨(some 17), (.bin .add (.t 8) (.c (.int .i64 1))), none⟩, ⟨(some 8), (.mv (.t 17)), none⟩]))))
def ir18 : AFn := ⟨19, [.t 2],
 (.seq (.reg [⟨(some 2), (.mv (.c (.int .u64 0))), none⟩])
 (.seq (.reg [⟨(some 3), (.mv (.c (.int .u64 0))), none⟩])
 (.seq (.seq (.reg [⟨(some 6), (.mv (.t 0)), none⟩, ⟨(some 7), (.len 1 (.t 6)), none⟩, ⟨(some 8), (.mv (.c (.int .i64 0))), none⟩])
 (.block 0 (.loop lp18_0)))
 (.seq (.reg [⟨(some 18), (.mv (.t 3)), none⟩, ⟨(some 2), (.mv (.t 18)), none⟩])
 .ret))))⟩
theorem ok18 : FOk alT Tryd.prog 1 18 ir18 := ⟨_, Tryd.func18, by kernel_rfl, by kernel_rfl⟩
-- 19 hatchway/hatchwayref02.Big
def lp19_0 : ACode := (.seq (.seq (.reg [⟨(some 13), (.mv (.t 6)), none⟩, ⟨(some 14), (.len 0 (.t 13)), none⟩, ⟨(some 15), (.mv (.t 1)), none⟩, ⟨(some 16), (.bin .lss (.t 14) (.t 15)), none⟩])
 (.cond (.t 16) .skip
 (.exit 0)))
 (.block 1 (.reg [⟨(some 17), (.mv (.t 6)), none⟩, ⟨(some 18), (.bin .add (.c (.string ⟨#[0]⟩)) (.t 17)), none⟩, ⟨(some 6), (.mv (.t 18)), none⟩])))
def ir19 : AFn := ⟨20, [.t 4, .t 5],
 (.seq (.reg [⟨(some 4), (.mv (.c (.string ⟨#[]⟩))), none⟩, ⟨(some 5), (.mv (.c (.bool false))), none⟩])
 (.seq (.reg [⟨(some 7), (.mv (.t 0)), none⟩, ⟨(some 8), (.call (.c (.func (.func 22) #[] #[])) [(.t 7)]), none⟩, ⟨(some 6), (.mv (.t 8)), none⟩])
 (.seq (.seq (.reg [⟨(some 9), (.mv (.t 6)), none⟩, ⟨(some 10), (.len 0 (.t 9)), none⟩, ⟨(some 11), (.mv (.t 1)), none⟩, ⟨(some 12), (.bin .gtr (.t 10) (.t 11)), none⟩])
 (.cond (.t 12) (.seq (.reg [⟨(some 4), (.mv (.c (.string ⟨#[]⟩))), none⟩, ⟨(some 5), (.mv (.c (.bool false))), none⟩])
 .ret)
 .skip))
 (.seq (.block 0 (.loop lp19_0))
 (.seq (.reg [⟨(some 19), (.mv (.t 6)), none⟩, ⟨(some 4), (.mv (.t 19)), none⟩, ⟨(some 5), (.mv (.c (.bool true))), none⟩])
 .ret)))))⟩
theorem ok19 : FOk alT Tryd.prog 1 19 ir19 := ⟨_, Tryd.func19, by kernel_rfl, by kernel_rfl⟩
-- 20 hatchway/fixed.fits
def ir20 : AFn := ⟨14, [.t 4],
 (.seq (.reg [⟨(some 4), (.mv (.c (.bool false))), none⟩])
 (.seq (.reg [⟨(some 5), (.mv (.t 1)), none⟩, ⟨(some 6), (.bin .geq (.t 5) (.c (.int .i64 8))), none⟩, ⟨(some 7), (.mv (.t 6)), none⟩, ⟨(some 8), (.mv (.t 0)), (some (7, false))⟩, ⟨(some 9), (.mv (.t 1)), (some (7, false))⟩, ⟨(some 10), (.bin .mul (.c (.int .i64 8)) (.t 9)), (some (7, false))⟩, ⟨(some 11), (.bin .shr (.t 8) (.t 10)), (some (7, false))⟩, ⟨(some 12), (.bin .eql (.t 11) (.c (.int .u64 0))), (some (7, false))⟩, ⟨(some 13), (.pick (.t 7) (.c (.bool true)) (.t 12)), none⟩, ⟨(some 4), (.mv (.t 13)), none⟩])
 .ret))⟩
theorem ok20 : FOk alT Tryd.prog 1 20 ir20 := ⟨_, Tryd.func20, by kernel_rfl, by kernel_rfl⟩
-- 21 hatchway/fixed.digits
def lp21_0 : ACode := (.seq (.reg [⟨(some 12), (.bin .lss (.t 11) (.t 10)), none⟩])
 (.seq (.cond (.t 12) .skip
 (.exit 0))
 (.seq (.block 1 (.seq (.reg [⟨(some 13), (.mv (.t 11)), none⟩, ⟨(some 6), (.mv (.t 13)), none⟩])
 (.reg [⟨(some 14), (.mv (.t 5)), none⟩, ⟨(some 15), (.mv (.t 6)), none⟩, ⟨(some 16), (.mv (.t 0)), none⟩, ⟨(some 17), (.mv (.t 6)), none⟩, ⟨(some 18), (.bin .mul (.c (.int .i64 8)) (.t 17)), none⟩, ⟨(some 19), (.bin .shr (.t 16) (.t 18)), none⟩, ⟨(some 20), (.conv .u8 (.t 19)), none⟩, ⟨(some 21), (.ia 1 (.t 14) (.t 15)), none⟩, ⟨none, (.st 1 (.t 21) (.t 20)), none⟩])))
 (.reg [⟨(some 22), (.bin .add (.t 11) (.c (.int .i64 1))), none⟩, ⟨(some 11), (.mv (.t 22)), none⟩]))))
def ir21 : AFn := ⟨24, [.t 4],
 (.seq (.reg [⟨(some 4), (.mv (.c (.slice none 0 0))), none⟩])
 (.seq (.reg [⟨(some 7), (.mv (.t 1)), none⟩, ⟨(some 8), (.mks 5 [(.int .u8 0)] 1 (.t 7) (.t 7)), none⟩, ⟨(some 5), (.mv (.t 8)), none⟩])
 (.seq (.seq (.reg [⟨(some 9), (.mv (.t 5)), none⟩, ⟨(some 10), (.len 1 (.t 9)), none⟩, ⟨(some 11), (.mv (.c (.int .i64 0))), none⟩])
 (.block 0 (.loop lp21_0)))
 (.seq (.reg [⟨(some 23), (.mv (.t 5)), none⟩, ⟨(some 4), (.mv (.t 23)), none⟩])
 .ret))))⟩
theorem ok21 : FOk alT Tryd.prog 1 21 ir21 := ⟨_, Tryd.func21, by kernel_rfl, by kernel_rfl⟩
-- 22 hatchway/hatchwayref02.Least
def lp22_0 : ACode := (.seq (.seq (.reg [⟨(some 4), (.mv (.t 0)), none⟩, ⟨(some 5), (.bin .gtr (.t 4) (.c (.int .u64 0))), none⟩])
 (.cond (.t 5) .skip
 (.exit 0)))
 (.block 1 (.seq (.reg [⟨(some 6), (.mv (.t 0)), none⟩, ⟨(some 7), (.bin .rem (.t 6) (.c (.int .u64 256))), none⟩, ⟨(some 8), (.conv .u8 (.t 7)), none⟩, ⟨(some 9), (.lit 5 [(.int .u8 0)] 1 1 [(0, 1, (.t 8))]), none⟩, ⟨(some 10), (.b2s (.t 9)), none⟩, ⟨(some 11), (.mv (.t 3)), none⟩, ⟨(some 12), (.bin .add (.t 10) (.t 11)), none⟩, ⟨(some 3), (.mv (.t 12)), none⟩])
 (.reg [⟨(some 13), (.mv (.t 0)), none⟩, ⟨(some 14), (.bin .quo (.t 13) (.c (.int .u64 256))), none⟩, ⟨(some 0), (.mv (.t 14)), none⟩]))))
def ir22 : AFn := ⟨16, [.t 2],
 (.seq (.reg [⟨(some 2), (.mv (.c (.string ⟨#[]⟩))), none⟩])
 (.seq (.reg [⟨(some 3), (.mv (.c (.string ⟨#[]⟩))), none⟩])
 (.seq (.block 0 (.loop lp22_0))
 (.seq (.reg [⟨(some 15), (.mv (.t 3)), none⟩, ⟨(some 2), (.mv (.t 15)), none⟩])
 .ret))))⟩
theorem ok22 : FOk alT Tryd.prog 1 22 ir22 := ⟨_, Tryd.func22, by kernel_rfl, by kernel_rfl⟩
def fnL : List (Nat × AFn) := [(3, ir3), (4, ir4), (5, ir5), (6, ir6), (7, ir7), (8, ir8), (9, ir9), (10, ir10), (11, ir11), (12, ir12), (13, ir13), (14, ir14), (15, ir15), (16, ir16), (17, ir17), (18, ir18), (19, ir19), (20, ir20), (21, ir21), (22, ir22)]
theorem fnL_ok : ∀ p ∈ fnL, FOk alT Tryd.prog 1 p.1 p.2 := (all_cons ok3 (all_cons ok4 (all_cons ok5 (all_cons ok6 (all_cons ok7 (all_cons ok8 (all_cons ok9 (all_cons ok10 (all_cons ok11 (all_cons ok12 (all_cons ok13 (all_cons ok14 (all_cons ok15 (all_cons ok16 (all_cons ok17 (all_cons ok18 (all_cons ok19 (all_cons ok20 (all_cons ok21 (all_cons ok22 all_nil))))))))))))))))))))
theorem fn3 : tab fnL 3 = some ir3 := rfl
theorem fn4 : tab fnL 4 = some ir4 := rfl
theorem fn5 : tab fnL 5 = some ir5 := rfl
theorem fn6 : tab fnL 6 = some ir6 := rfl
theorem fn7 : tab fnL 7 = some ir7 := rfl
theorem fn8 : tab fnL 8 = some ir8 := rfl
theorem fn9 : tab fnL 9 = some ir9 := rfl
theorem fn10 : tab fnL 10 = some ir10 := rfl
theorem fn11 : tab fnL 11 = some ir11 := rfl
theorem fn12 : tab fnL 12 = some ir12 := rfl
theorem fn13 : tab fnL 13 = some ir13 := rfl
theorem fn14 : tab fnL 14 = some ir14 := rfl
theorem fn15 : tab fnL 15 = some ir15 := rfl
theorem fn16 : tab fnL 16 = some ir16 := rfl
theorem fn17 : tab fnL 17 = some ir17 := rfl
theorem fn18 : tab fnL 18 = some ir18 := rfl
theorem fn19 : tab fnL 19 = some ir19 := rfl
theorem fn20 : tab fnL 20 = some ir20 := rfl
theorem fn21 : tab fnL 21 = some ir21 := rfl
theorem fn22 : tab fnL 22 = some ir22 := rfl
noncomputable def CX (X : FuncId → Option (List Value → Option Value)) (pol : FuncId → Pol) : Cf := ⟨Tryd.prog, 1, tab fnL, pol, alT, X⟩
theorem CX_fn (X : FuncId → Option (List Value → Option Value)) (pol : FuncId → Pol) (f : FuncId) : (CX X pol).fn f = tab fnL f := rfl
theorem CX_X (X : FuncId → Option (List Value → Option Value)) (pol : FuncId → Pol) (f : FuncId) : (CX X pol).X f = X f := rfl
theorem CX_pol (X : FuncId → Option (List Value → Option Value)) (pol : FuncId → Pol) (f : FuncId) : (CX X pol).pol f = pol f := rfl
theorem CX_ok {x : List (Nat × (List Value → Option Value))} {pol : FuncId → Pol} (hx : ∀ p ∈ x, XOk Tryd.prog p.1 p.2) (hal : ∀ k, alT k = true → (∃ g, xtab x k = some g) ∨ (xtab x k = none ∧ (pol k = .al ∨ pol k = .ro))) : (CX (xtab x) pol).Ok where
  mixed := by kernel_rfl
  alok := hal
  fn := tab_ok fnL_ok
  X := xtab_ok hx
end Cg
end Ev
end Go.Proofs.YtfbelnjchpffeaaDoor
