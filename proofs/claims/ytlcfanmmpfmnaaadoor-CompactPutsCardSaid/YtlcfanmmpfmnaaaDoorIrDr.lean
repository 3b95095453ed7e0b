/-
  The functions of the seat in the small language, and that they are their translation.
-/
import Derived.Test.YtlcfanmmpfmnaaaDoorProg
import Derived.Test.YtlcfanmmpfmnaaaDoorEvV
import Derived.KernelRfl
namespace Go.Proofs.YtlcfanmmpfmnaaaDoor
namespace Ev
set_option maxRecDepth 4000
def alT : FuncId → Bool := fun k => [].contains k
-- 17 hatchway/hatchwayref04.Put
def ir17 : AFn := ⟨22, [.t 2],
 (.seq (.reg [⟨(some 2), (.mv (.c (.string ⟨#[]⟩))), none⟩])
 (.seq (.seq (.reg [⟨(some 3), (.mv (.t 0)), none⟩, ⟨(some 4), (.bin .lss (.t 3) (.c (.int .u64 253))), none⟩])
 (.cond (.t 4) (.seq (.reg [⟨(some 5), (.mv (.t 0)), none⟩, ⟨(some 6), (.conv .u8 (.t 5)), none⟩, ⟨(some 7), (.lit 5 [(.int .u8 0)] 1 1 [(0, 1, (.t 6))]), none⟩, ⟨(some 8), (.b2s (.t 7)), none⟩, ⟨(some 2), (.mv (.t 8)), none⟩])
 .ret)
 .skip))
 (.seq (.seq (.reg [⟨(some 9), (.mv (.t 0)), none⟩, ⟨(some 10), (.bin .lss (.t 9) (.c (.int .u64 65536))), none⟩])
 (.cond (.t 10) (.seq (.reg [⟨(some 11), (.mv (.t 0)), none⟩, ⟨(some 12), (.call (.c (.func (.func 24) #[] #[])) [(.t 11), (.c (.int .i64 2))]), none⟩, ⟨(some 13), (.bin .add (.c (.string ⟨#[253]⟩)) (.t 12)), none⟩, ⟨(some 2), (.mv (.t 13)), none⟩])
 .ret)
 .skip))
 (.seq (.seq (.reg [⟨(some 14), (.mv (.t 0)), none⟩, ⟨(some 15), (.bin .lss (.t 14) (.c (.int .u64 4294967296))), none⟩])
 (.cond (.t 15) (.seq (.reg [⟨(some 16), (.mv (.t 0)), none⟩, ⟨(some 17), (.call (.c (.func (.func 24) #[] #[])) [(.t 16), (.c (.int .i64 4))]), none⟩, ⟨(some 18), (.bin .add (.c (.string ⟨#[254]⟩)) (.t 17)), none⟩, ⟨(some 2), (.mv (.t 18)), none⟩])
 .ret)
 .skip))
 (.seq (.reg [⟨(some 19), (.mv (.t 0)), none⟩, ⟨(some 20), (.call (.c (.func (.func 24) #[] #[])) [(.t 19), (.c (.int .i64 8))]), none⟩, ⟨(some 21), (.bin .add (.c (.string ⟨#[255]⟩)) (.t 20)), none⟩, ⟨(some 2), (.mv (.t 21)), none⟩])
 .ret)))))⟩
theorem ok17 : FOk alT Tryd.prog 0 17 ir17 := ⟨_, Tryd.func17, by kernel_rfl, by kernel_rfl⟩
-- 22 hatchway/fixed.Little
def ir22 : AFn := ⟨11, [.t 4, .t 5],
 (.seq (.reg [⟨(some 4), (.mv (.c (.string ⟨#[]⟩))), none⟩, ⟨(some 5), (.mv (.c (.int .i64 0))), none⟩])
 (.seq (.reg [⟨(some 6), (.mv (.t 0)), none⟩, ⟨(some 7), (.mv (.t 1)), none⟩, ⟨(some 8), (.call (.c (.func (.func 25) #[] #[])) [(.t 6), (.t 7), (.c (.func (.func 26) #[] #[]))]), none⟩, ⟨(some 9), (.ext 0 (.t 8)), none⟩, ⟨(some 10), (.ext 1 (.t 8)), none⟩, ⟨(some 4), (.mv (.t 9)), none⟩, ⟨(some 5), (.mv (.t 10)), none⟩])
 .ret))⟩
theorem ok22 : FOk alT Tryd.prog 0 22 ir22 := ⟨_, Tryd.func22, by kernel_rfl, by kernel_rfl⟩
-- 23 hatchway/fixed.GetLittle
def ir23 : AFn := ⟨8, [.t 2, .t 3],
 (.seq (.reg [⟨(some 2), (.mv (.c (.int .u64 0))), none⟩, ⟨(some 3), (.mv (.c (.int .i64 0))), none⟩])
 (.seq (.reg [⟨(some 4), (.mv (.t 0)), none⟩, ⟨(some 5), (.call (.c (.func (.func 27) #[] #[])) [(.t 4), (.c (.func (.func 28) #[] #[]))]), none⟩, ⟨(some 6), (.ext 0 (.t 5)), none⟩, ⟨(some 7), (.ext 1 (.t 5)), none⟩, ⟨(some 2), (.mv (.t 6)), none⟩, ⟨(some 3), (.mv (.t 7)), none⟩])
 .ret))⟩
theorem ok23 : FOk alT Tryd.prog 0 23 ir23 := ⟨_, Tryd.func23, by kernel_rfl, by kernel_rfl⟩
-- 24 hatchway/hatchwayref04.little
def ir24 : AFn := ⟨15, [.t 4],
 (.seq (.reg [⟨(some 4), (.mv (.c (.string ⟨#[]⟩))), none⟩])
 (.seq (.reg [⟨(some 8), (.mv (.t 0)), none⟩, ⟨(some 9), (.mv (.t 1)), none⟩, ⟨(some 10), (.call (.c (.func (.func 29) #[] #[])) [(.t 8), (.t 9)]), none⟩, ⟨(some 7), (.mv (.t 10)), none⟩, ⟨(some 11), (.ext 0 (.t 7)), none⟩, ⟨(some 12), (.ext 1 (.t 7)), none⟩, ⟨(some 5), (.mv (.t 11)), none⟩, ⟨(some 6), (.mv (.t 12)), none⟩])
 (.seq (.reg [⟨(some 13), (.mv (.t 5)), none⟩, ⟨(some 14), (.call (.c (.func (.func 30) #[] #[])) [(.t 13)]), none⟩, ⟨(some 4), (.mv (.t 14)), none⟩])
 .ret)))⟩
theorem ok24 : FOk alT Tryd.prog 0 24 ir24 := ⟨_, Tryd.func24, by kernel_rfl, by kernel_rfl⟩
-- 25 hatchway/fixed.put
def ir25 : AFn := ⟨29, [.t 6, .t 7],
 (.seq (.reg [⟨(some 6), (.mv (.c (.string ⟨#[]⟩))), none⟩, ⟨(some 7), (.mv (.c (.int .i64 0))), none⟩])
 (.seq (.block 0 (.seq (.reg [⟨(some 10), (.mv (.t 1)), none⟩, ⟨(some 11), (.bin .lss (.t 10) (.c (.int .i64 1))), none⟩, ⟨(some 12), (.mv (.t 11)), none⟩, ⟨(some 13), (.mv (.t 1)), (some (12, false))⟩, ⟨(some 14), (.bin .gtr (.t 13) (.c (.int .i64 8))), (some (12, false))⟩, ⟨(some 15), (.pick (.t 12) (.c (.bool true)) (.t 14)), none⟩, ⟨(some 9), (.mv (.t 15)), none⟩])
 (.cond (.t 9) (.seq (.reg [⟨(some 6), (.mv (.c (.string ⟨#[]⟩))), none⟩, ⟨(some 7), (.mv (.c (.int .i64 1))), none⟩])
 .ret)
 (.seq (.reg [⟨(some 17), (.mv (.t 0)), none⟩, ⟨(some 18), (.mv (.t 1)), none⟩, ⟨(some 19), (.call (.c (.func (.func 31) #[] #[])) [(.t 17), (.t 18)]), none⟩, ⟨(some 20), (.un .not (.t 19)), none⟩, ⟨(some 16), (.mv (.t 20)), none⟩])
 (.cond (.t 16) (.seq (.reg [⟨(some 6), (.mv (.c (.string ⟨#[]⟩))), none⟩, ⟨(some 7), (.mv (.c (.int .i64 5))), none⟩])
 .ret)
 .skip)))))
 (.seq (.reg [⟨(some 21), (.mv (.t 0)), none⟩, ⟨(some 22), (.mv (.t 1)), none⟩, ⟨(some 23), (.call (.c (.func (.func 32) #[] #[])) [(.t 21), (.t 22)]), none⟩, ⟨(some 8), (.mv (.t 23)), none⟩])
 (.seq (.reg [⟨(some 24), (.mv (.t 2)), none⟩, ⟨(some 25), (.mv (.t 8)), none⟩, ⟨(some 26), (.call (.t 24) [(.t 25)]), none⟩])
 (.seq (.reg [⟨(some 27), (.mv (.t 8)), none⟩, ⟨(some 28), (.b2s (.t 27)), none⟩, ⟨(some 6), (.mv (.t 28)), none⟩, ⟨(some 7), (.mv (.c (.int .i64 0))), none⟩])
 .ret)))))⟩
theorem ok25 : FOk alT Tryd.prog 0 25 ir25 := ⟨_, Tryd.func25, by kernel_rfl, by kernel_rfl⟩
-- 26 hatchway/fixed.keep
def ir26 : AFn := ⟨2, [],
 .skip⟩
theorem ok26 : FOk alT Tryd.prog 0 26 ir26 := ⟨_, Tryd.func26, by kernel_rfl, by kernel_rfl⟩
-- 27 hatchway/fixed.get
def ir27 : AFn := ⟨21, [.t 4, .t 5],
 (.seq (.reg [⟨(some 4), (.mv (.c (.int .u64 0))), none⟩, ⟨(some 5), (.mv (.c (.int .i64 0))), none⟩])
 (.seq (.block 0 (.seq (.reg [⟨(some 8), (.mv (.t 0)), none⟩, ⟨(some 9), (.bin .eql (.t 8) (.c (.string ⟨#[]⟩))), none⟩, ⟨(some 7), (.mv (.t 9)), none⟩])
 (.cond (.t 7) (.seq (.reg [⟨(some 4), (.mv (.c (.int .u64 0))), none⟩, ⟨(some 5), (.mv (.c (.int .i64 1))), none⟩])
 .ret)
 (.seq (.reg [⟨(some 11), (.mv (.t 0)), none⟩, ⟨(some 12), (.len 0 (.t 11)), none⟩, ⟨(some 13), (.bin .gtr (.t 12) (.c (.int .i64 8))), none⟩, ⟨(some 10), (.mv (.t 13)), none⟩])
 (.cond (.t 10) (.seq (.reg [⟨(some 4), (.mv (.c (.int .u64 0))), none⟩, ⟨(some 5), (.mv (.c (.int .i64 5))), none⟩])
 .ret)
 .skip)))))
 (.seq (.reg [⟨(some 14), (.mv (.t 0)), none⟩, ⟨(some 15), (.s2b 5 (.t 14)), none⟩, ⟨(some 6), (.mv (.t 15)), none⟩])
 (.seq (.reg [⟨(some 16), (.mv (.t 1)), none⟩, ⟨(some 17), (.mv (.t 6)), none⟩, ⟨(some 18), (.call (.t 16) [(.t 17)]), none⟩])
 (.seq (.reg [⟨(some 19), (.mv (.t 6)), none⟩, ⟨(some 20), (.call (.c (.func (.func 33) #[] #[])) [(.t 19)]), none⟩, ⟨(some 4), (.mv (.t 20)), none⟩, ⟨(some 5), (.mv (.c (.int .i64 0))), none⟩])
 .ret)))))⟩
theorem ok27 : FOk alT Tryd.prog 0 27 ir27 := ⟨_, Tryd.func27, by kernel_rfl, by kernel_rfl⟩
-- 28 slices.Reverse[[]byte,byte]
def lp28_0 : ACode := (.seq (.seq (.reg [⟨(some 7), (.mv (.t 2)), none⟩, ⟨(some 8), (.mv (.t 3)), none⟩, ⟨(some 9), (.bin .lss (.t 7) (.t 8)), none⟩])
 (.cond (.t 9) .skip
 (.exit 0)))
 (.seq (.block 1 (.draw [⟨(some 14), (.mv (.t 0)), none⟩, ⟨(some 15), (.mv (.t 2)), none⟩, ⟨(some 16), (.mv (.t 0)), none⟩, ⟨(some 17), (.mv (.t 3)), none⟩, ⟨(some 18), (.mv (.t 0)), none⟩, ⟨(some 19), (.mv (.t 3)), none⟩, ⟨(some 20), (.ia 1 (.t 18) (.t 19)), none⟩, ⟨(some 21), (.ld (.t 20)), none⟩, ⟨(some 22), (.mv (.t 0)), none⟩, ⟨(some 23), (.mv (.t 2)), none⟩, ⟨(some 24), (.ia 1 (.t 22) (.t 23)), none⟩, ⟨(some 25), (.ld (.t 24)), none⟩, ⟨(some 26), (.ia 1 (.t 14) (.t 15)), none⟩, ⟨(some 27), (.ia 1 (.t 16) (.t 17)), none⟩] [⟨none, (.st 1 (.t 26) (.t 21)), none⟩, ⟨none, (.st 1 (.t 27) (.t 25)), none⟩]))
 (.reg [⟨(some 10), (.mv (.t 2)), none⟩, ⟨(some 11), (.bin .add (.t 10) (.c (.int .i64 1))), none⟩, ⟨(some 12), (.mv (.t 3)), none⟩, ⟨(some 13), (.bin .sub (.t 12) (.c (.int .i64 1))), none⟩, ⟨(some 2), (.mv (.t 11)), none⟩, ⟨(some 3), (.mv (.t 13)), none⟩])))
def ir28 : AFn := ⟨28, [],
 (.seq (.reg [⟨(some 4), (.mv (.t 0)), none⟩, ⟨(some 5), (.len 1 (.t 4)), none⟩, ⟨(some 6), (.bin .sub (.t 5) (.c (.int .i64 1))), none⟩, ⟨(some 2), (.mv (.c (.int .i64 0))), none⟩, ⟨(some 3), (.mv (.t 6)), none⟩])
 (.block 0 (.loop lp28_0)))⟩
theorem ok28 : FOk alT Tryd.prog 0 28 ir28 := ⟨_, Tryd.func28, by kernel_rfl, by kernel_rfl⟩
-- 29 hatchway/hatchwayref02.Big
def lp29_0 : ACode := (.seq (.seq (.reg [⟨(some 13), (.mv (.t 6)), none⟩, ⟨(some 14), (.len 0 (.t 13)), none⟩, ⟨(some 15), (.mv (.t 1)), none⟩, ⟨(some 16), (.bin .lss (.t 14) (.t 15)), none⟩])
 (.cond (.t 16) .skip
 (.exit 0)))
 (.block 1 (.reg [⟨(some 17), (.mv (.t 6)), none⟩, ⟨(some 18), (.bin .add (.c (.string ⟨#[0]⟩)) (.t 17)), none⟩, ⟨(some 6), (.mv (.t 18)), none⟩])))
def ir29 : AFn := ⟨20, [.t 4, .t 5],
 (.seq (.reg [⟨(some 4), (.mv (.c (.string ⟨#[]⟩))), none⟩, ⟨(some 5), (.mv (.c (.bool false))), none⟩])
 (.seq (.reg [⟨(some 7), (.mv (.t 0)), none⟩, ⟨(some 8), (.call (.c (.func (.func 34) #[] #[])) [(.t 7)]), none⟩, ⟨(some 6), (.mv (.t 8)), none⟩])
 (.seq (.seq (.reg [⟨(some 9), (.mv (.t 6)), none⟩, ⟨(some 10), (.len 0 (.t 9)), none⟩, ⟨(some 11), (.mv (.t 1)), none⟩, ⟨(some 12), (.bin .gtr (.t 10) (.t 11)), none⟩])
 (.cond (.t 12) (.seq (.reg [⟨(some 4), (.mv (.c (.string ⟨#[]⟩))), none⟩, ⟨(some 5), (.mv (.c (.bool false))), none⟩])
 .ret)
 .skip))
 (.seq (.block 0 (.loop lp29_0))
 (.seq (.reg [⟨(some 19), (.mv (.t 6)), none⟩, ⟨(some 4), (.mv (.t 19)), none⟩, ⟨(some 5), (.mv (.c (.bool true))), none⟩])
 .ret)))))⟩
theorem ok29 : FOk alT Tryd.prog 0 29 ir29 := ⟨_, Tryd.func29, by kernel_rfl, by kernel_rfl⟩
-- 30 hatchway/hatchwayref02.Turned
def lp30_0 : ACode := (.seq (.seq (.reg [⟨(some 5), (.mv (.t 4)), none⟩, ⟨(some 6), (.mv (.t 0)), none⟩, ⟨(some 7), (.len 0 (.t 6)), none⟩, ⟨(some 8), (.bin .lss (.t 5) (.t 7)), none⟩])
 (.cond (.t 8) .skip
 (.exit 0)))
 (.seq (.block 1 (.reg [⟨(some 11), (.mv (.t 0)), none⟩, ⟨(some 12), (.mv (.t 4)), none⟩, ⟨(some 13), (.mv (.t 4)), none⟩, ⟨(some 14), (.bin .add (.t 13) (.c (.int .i64 1))), none⟩, ⟨(some 15), (.cut (.t 11) (some (.t 12)) (some (.t 14))), none⟩, ⟨(some 16), (.mv (.t 3)), none⟩, ⟨(some 17), (.bin .add (.t 15) (.t 16)), none⟩, ⟨(some 3), (.mv (.t 17)), none⟩]))
 (.reg [⟨(some 9), (.mv (.t 4)), none⟩, ⟨(some 10), (.bin .add (.t 9) (.c (.int .i64 1))), none⟩, ⟨(some 4), (.mv (.t 10)), none⟩])))
def ir30 : AFn := ⟨19, [.t 2],
 (.seq (.reg [⟨(some 2), (.mv (.c (.string ⟨#[]⟩))), none⟩])
 (.seq (.reg [⟨(some 3), (.mv (.c (.string ⟨#[]⟩))), none⟩])
 (.seq (.seq (.reg [⟨(some 4), (.mv (.c (.int .i64 0))), none⟩])
 (.block 0 (.loop lp30_0)))
 (.seq (.reg [⟨(some 18), (.mv (.t 3)), none⟩, ⟨(some 2), (.mv (.t 18)), none⟩])
 .ret))))⟩
theorem ok30 : FOk alT Tryd.prog 0 30 ir30 := ⟨_, Tryd.func30, by kernel_rfl, by kernel_rfl⟩
-- 31 hatchway/fixed.fits
def ir31 : AFn := ⟨14, [.t 4],
 (.seq (.reg [⟨(some 4), (.mv (.c (.bool false))), none⟩])
 (.seq (.reg [⟨(some 5), (.mv (.t 1)), none⟩, ⟨(some 6), (.bin .geq (.t 5) (.c (.int .i64 8))), none⟩, ⟨(some 7), (.mv (.t 6)), none⟩, ⟨(some 8), (.mv (.t 0)), (some (7, false))⟩, ⟨(some 9), (.mv (.t 1)), (some (7, false))⟩, ⟨(some 10), (.bin .mul (.c (.int .i64 8)) (.t 9)), (some (7, false))⟩, ⟨(some 11), (.bin .shr (.t 8) (.t 10)), (some (7, false))⟩, ⟨(some 12), (.bin .eql (.t 11) (.c (.int .u64 0))), (some (7, false))⟩, ⟨(some 13), (.pick (.t 7) (.c (.bool true)) (.t 12)), none⟩, ⟨(some 4), (.mv (.t 13)), none⟩])
 .ret))⟩
theorem ok31 : FOk alT Tryd.prog 0 31 ir31 := ⟨_, Tryd.func31, by kernel_rfl, by kernel_rfl⟩
-- 32 hatchway/fixed.digits
def lp32_0 : ACode := (.seq (.reg [⟨(some 12), (.bin .lss (.t 11) (.t 10)), none⟩])
 (.seq (.cond (.t 12) .skip
 (.exit 0))
 (.seq (.block 1 (.seq (.reg [⟨(some 13), (.mv (.t 11)), none⟩, ⟨(some 6), (.mv (.t 13)), none⟩])
 (.reg [⟨(some 14), (.mv (.t 5)), none⟩, ⟨(some 15), (.mv (.t 6)), none⟩, ⟨(some 16), (.mv (.t 0)), none⟩, ⟨(some 17), (.mv (.t 6)), none⟩, ⟨(some 18), (.bin .mul (.c (.int .i64 8)) (.t 17)), none⟩, ⟨(some 19), (.bin .shr (.t 16) (.t 18)), none⟩, ⟨(some 20), (.conv .u8 (.t 19)), none⟩, ⟨(some 21), (.ia 1 (.t 14) (.t 15)), none⟩, ⟨none, (.st 1 (.t 21) (.t 20)), none⟩])))
 (.reg [⟨(some 22), (.bin .add (.t 11) (.c (.int .i64 1))), none⟩, ⟨(some 11), (.mv (.t 22)), none⟩]))))
def ir32 : AFn := ⟨24, [.t 4],
 (.seq (.reg [⟨(some 4), (.mv (.c (.slice none 0 0))), none⟩])
 (.seq (.reg [⟨(some 7), (.mv (.t 1)), none⟩, ⟨(some 8), (.mks 5 [(.int .u8 0)] 1 (.t 7) (.t 7)), none⟩, ⟨(some 5), (.mv (.t 8)), none⟩])
 (.seq (.seq (.reg [⟨(some 9), (.mv (.t 5)), none⟩, ⟨(some 10), (.len 1 (.t 9)), none⟩, ⟨(some 11), (.mv (.c (.int .i64 0))), none⟩])
 (.block 0 (.loop lp32_0)))
 (.seq (.reg [⟨(some 23), (.mv (.t 5)), none⟩, ⟨(some 4), (.mv (.t 23)), none⟩])
 .ret))))⟩
theorem ok32 : FOk alT Tryd.prog 0 32 ir32 := ⟨_, Tryd.func32, by kernel_rfl, by kernel_rfl⟩
-- 33 hatchway/fixed.number
def lp33_0 : ACode := (.seq (.reg [⟨(some 9), (.bin .lss (.t 8) (.t 7)), none⟩])
 (.seq (.cond (.t 9) .skip
 (.exit 0))
 (.seq (.block 1 (.seq (.reg [⟨(some 10), (.ia 1 (.t 6) (.t 8)), none⟩, ⟨(some 11), (.ld (.t 10)), none⟩, ⟨(some 5), (.mv (.t 11)), none⟩])
 (.reg [⟨(some 12), (.mv (.t 3)), none⟩, ⟨(some 13), (.bin .shl (.t 12) (.c (.int .u64 8))), none⟩, ⟨(some 14), (.mv (.t 5)), none⟩, ⟨(some 15), (.conv .u64 (.t 14)), none⟩, ⟨(some 16), (.bin .or (.t 13) (.t 15)), none⟩, ⟨(some 3), (.mv (.t 16)), none⟩])))
 (.reg [⟨(some 17), (.bin .add (.t 8) (.c (.int .i64 1))), none⟩, ⟨(some 8), (.mv (.t 17)), none⟩]))))
def ir33 : AFn := ⟨19, [.t 2],
 (.seq (.reg [⟨(some 2), (.mv (.c (.int .u64 0))), none⟩])
 (.seq (.reg [⟨(some 3), (.mv (.c (.int .u64 0))), none⟩])
 (.seq (.seq (.reg [⟨(some 6), (.mv (.t 0)), none⟩, ⟨(some 7), (.len 1 (.t 6)), none⟩, ⟨(some 8), (.mv (.c (.int .i64 0))), none⟩])
 (.block 0 (.loop lp33_0)))
 (.seq (.reg [⟨(some 18), (.mv (.t 3)), none⟩, ⟨(some 2), (.mv (.t 18)), none⟩])
 .ret))))⟩
theorem ok33 : FOk alT Tryd.prog 0 33 ir33 := ⟨_, Tryd.func33, by kernel_rfl, by kernel_rfl⟩
-- 34 hatchway/hatchwayref02.Least
def lp34_0 : ACode := (.seq (.seq (.reg [⟨(some 4), (.mv (.t 0)), none⟩, ⟨(some 5), (.bin .gtr (.t 4) (.c (.int .u64 0))), none⟩])
 (.cond (.t 5) .skip
 (.exit 0)))
 (.block 1 (.seq (.reg [⟨(some 6), (.mv (.t 0)), none⟩, ⟨(some 7), (.bin .rem (.t 6) (.c (.int .u64 256))), none⟩, ⟨(some 8), (.conv .u8 (.t 7)), none⟩, ⟨(some 9), (.lit 5 [(.int .u8 0)] 1 1 [(0, 1, (.t 8))]), none⟩, ⟨(some 10), (.b2s (.t 9)), none⟩, ⟨(some 11), (.mv (.t 3)), none⟩, ⟨(some 12), (.bin .add (.t 10) (.t 11)), none⟩, ⟨(some 3), (.mv (.t 12)), none⟩])
 (.reg [⟨(some 13), (.mv (.t 0)), none⟩, ⟨(some 14), (.bin .quo (.t 13) (.c (.int .u64 256))), none⟩, ⟨(some 0), (.mv (.t 14)), none⟩]))))
def ir34 : AFn := ⟨16, [.t 2],
 (.seq (.reg [⟨(some 2), (.mv (.c (.string ⟨#[]⟩))), none⟩])
 (.seq (.reg [⟨(some 3), (.mv (.c (.string ⟨#[]⟩))), none⟩])
 (.seq (.block 0 (.loop lp34_0))
 (.seq (.reg [⟨(some 15), (.mv (.t 3)), none⟩, ⟨(some 2), (.mv (.t 15)), none⟩])
 .ret))))⟩
theorem ok34 : FOk alT Tryd.prog 0 34 ir34 := ⟨_, Tryd.func34, by kernel_rfl, by kernel_rfl⟩
def fnL : List (Nat × AFn) := [(17, ir17), (22, ir22), (23, ir23), (24, ir24), (25, ir25), (26, ir26), (27, ir27), (28, ir28), (29, ir29), (30, ir30), (31, ir31), (32, ir32), (33, ir33), (34, ir34)]
theorem fnL_ok : ∀ p ∈ fnL, FOk alT Tryd.prog 0 p.1 p.2 := (all_cons ok17 (all_cons ok22 (all_cons ok23 (all_cons ok24 (all_cons ok25 (all_cons ok26 (all_cons ok27 (all_cons ok28 (all_cons ok29 (all_cons ok30 (all_cons ok31 (all_cons ok32 (all_cons ok33 (all_cons ok34 all_nil))))))))))))))
theorem fn17 : tab fnL 17 = some ir17 := rfl
theorem fn22 : tab fnL 22 = some ir22 := rfl
theorem fn23 : tab fnL 23 = some ir23 := rfl
theorem fn24 : tab fnL 24 = some ir24 := rfl
theorem fn25 : tab fnL 25 = some ir25 := rfl
theorem fn26 : tab fnL 26 = some ir26 := rfl
theorem fn27 : tab fnL 27 = some ir27 := rfl
theorem fn28 : tab fnL 28 = some ir28 := rfl
theorem fn29 : tab fnL 29 = some ir29 := rfl
theorem fn30 : tab fnL 30 = some ir30 := rfl
theorem fn31 : tab fnL 31 = some ir31 := rfl
theorem fn32 : tab fnL 32 = some ir32 := rfl
theorem fn33 : tab fnL 33 = some ir33 := rfl
theorem fn34 : tab fnL 34 = some ir34 := rfl
noncomputable def CX (X : FuncId → Option (List Value → Option Value)) (pol : FuncId → Pol) : Cf := ⟨Tryd.prog, 0, tab fnL, pol, alT, X⟩
theorem CX_fn (X : FuncId → Option (List Value → Option Value)) (pol : FuncId → Pol) (f : FuncId) : (CX X pol).fn f = tab fnL f := rfl
theorem CX_X (X : FuncId → Option (List Value → Option Value)) (pol : FuncId → Pol) (f : FuncId) : (CX X pol).X f = X f := rfl
theorem CX_pol (X : FuncId → Option (List Value → Option Value)) (pol : FuncId → Pol) (f : FuncId) : (CX X pol).pol f = pol f := rfl
theorem CX_ok {x : List (Nat × (List Value → Option Value))} {pol : FuncId → Pol} (hx : ∀ p ∈ x, XOk Tryd.prog p.1 p.2) (hal : ∀ k, alT k = true → (∃ g, xtab x k = some g) ∨ (xtab x k = none ∧ (pol k = .al ∨ pol k = .ro))) : (CX (xtab x) pol).Ok where
  mixed := by kernel_rfl
  alok := hal
  fn := tab_ok fnL_ok
  X := xtab_ok hx
end Ev
end Go.Proofs.YtlcfanmmpfmnaaaDoor
