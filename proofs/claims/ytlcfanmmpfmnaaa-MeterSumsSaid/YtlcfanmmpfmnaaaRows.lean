/-
  No cell of these rows narrows 'for every input' (looked for: loops, veiled, ifaces, maps, wideKeys, modest, calm, conditions, laid).
  DERIVED. THE GIVEN ROWS OF THIS SEAT. 9 by the template 'for every input the law returns true; each argument reads behind the call as it read before'; 0 by the template 'total and deterministic' (their statements: YtlcfanmmpfmnaaaTotals.lean).
  GIVEN WITH THE SEED: the statements are not yours to turn. If you find one false, say at which input.
  Laid BY PROGRAM, IN A SANDBOX (cutbox-rows.mjs): the forced cells as the released guide's own fill.sh prints them over the translation 6c4513bc5deb6997… (all of the seat's roots in one cut). By AI agents, Wed Nov 11 2026. No macro, syntax, notation, axiom, sorry.
-/
import Derived.Test.YtlcfanmmpfmnaaaChecked
import GoSem.Claim
import GoSem.ClaimJoined
import GoSem.ClaimMapViews
import Derived.JoinedTies
import Derived.KernelRfl
namespace Go.Proofs.Ytlcfanmmpfmnaaa
/- THE CELL 'sum', in the pinned program and in every row, IS THE sha256 OF THE DUMP (.gsa) THAT YtlcfanmmpfmnaaaProg.lean LOADS. Nothing in Lean hashes anything: it is a label: what it is worth is what the hold of that sum in a sandbox is worth. -/
noncomputable def Try.pinned : Pinned := { name := "ytlcfanmmpfmnaaa", sum := "6c4513bc5deb6997721af8dbd139a5bc8ad0d9e67dd0e58a390a0c41b878f069", checked := Try.checked }
namespace Rows
def none {H : Type} : Left H := { results := [], args := [] }

/-- 'hatchwaylaw03.LebReads': WHATEVER THE INPUT: true; the input reads as it did. -/
def lebReadsSpec : ChangeSpec := { name := "lebReads", fn := fun _ => fun
  | [d] => { results := [.lit (.bool true)], args := [d] }
  | _ => none }
def lebReadsRow : OpenClaim := { program := "ytlcfanmmpfmnaaa", sum := "6c4513bc5deb6997721af8dbd139a5bc8ad0d9e67dd0e58a390a0c41b878f069", func := "hatchway/hatchwaylaw03.LebReads", spec := "lebReads", apart := false }
def LebReadsSaid : Prop := lebReadsRow.holds Try.pinned (OpenSpec.ofChange lebReadsSpec)

/-- ITS FALSE NEIGHBOUR: 'it returns false'. Refute it at one input. -/
def lebReadsWrong : ChangeSpec := { name := "lebReads", fn := fun _ => fun
  | [d] => { results := [.lit (.bool false)], args := [d] }
  | _ => none }
def LebReadsWrongFalsely : Prop := lebReadsRow.holds Try.pinned (OpenSpec.ofChange lebReadsWrong)

/-- 'hatchwaylaw03.LebShort': WHATEVER THE INPUT: true; the input reads as it did. -/
def lebShortSpec : ChangeSpec := { name := "lebShort", fn := fun _ => fun
  | [d1, d2] => { results := [.lit (.bool true)], args := [d1, d2] }
  | _ => none }
def lebShortRow : OpenClaim := { program := "ytlcfanmmpfmnaaa", sum := "6c4513bc5deb6997721af8dbd139a5bc8ad0d9e67dd0e58a390a0c41b878f069", func := "hatchway/hatchwaylaw03.LebShort", spec := "lebShort", apart := false }
def LebShortSaid : Prop := lebShortRow.holds Try.pinned (OpenSpec.ofChange lebShortSpec)

/-- ITS FALSE NEIGHBOUR: 'it returns false'. Refute it at one input. -/
def lebShortWrong : ChangeSpec := { name := "lebShort", fn := fun _ => fun
  | [d1, d2] => { results := [.lit (.bool false)], args := [d1, d2] }
  | _ => none }
def LebShortWrongFalsely : Prop := lebShortRow.holds Try.pinned (OpenSpec.ofChange lebShortWrong)

/-- 'hatchwaylaw03.LebPuts': WHATEVER THE INPUT: true; the input reads as it did. -/
def lebPutsSpec : ChangeSpec := { name := "lebPuts", fn := fun _ => fun
  | [d1, d2] => { results := [.lit (.bool true)], args := [d1, d2] }
  | _ => none }
def lebPutsRow : OpenClaim := { program := "ytlcfanmmpfmnaaa", sum := "6c4513bc5deb6997721af8dbd139a5bc8ad0d9e67dd0e58a390a0c41b878f069", func := "hatchway/hatchwaylaw03.LebPuts", spec := "lebPuts", recurses := true, apart := false }
def LebPutsSaid : Prop := lebPutsRow.holds Try.pinned (OpenSpec.ofChange lebPutsSpec)

/-- ITS FALSE NEIGHBOUR: 'it returns false'. Refute it at one input. -/
def lebPutsWrong : ChangeSpec := { name := "lebPuts", fn := fun _ => fun
  | [d1, d2] => { results := [.lit (.bool false)], args := [d1, d2] }
  | _ => none }
def LebPutsWrongFalsely : Prop := lebPutsRow.holds Try.pinned (OpenSpec.ofChange lebPutsWrong)

/-- 'hatchwaylaw01.CursorWhole': WHATEVER THE INPUT: true; the input reads as it did. -/
def cursorWholeSpec : ChangeSpec := { name := "cursorWhole", fn := fun _ => fun
  | [d1, d2] => { results := [.lit (.bool true)], args := [d1, d2] }
  | _ => none }
def cursorWholeRow : OpenClaim := { program := "ytlcfanmmpfmnaaa", sum := "6c4513bc5deb6997721af8dbd139a5bc8ad0d9e67dd0e58a390a0c41b878f069", func := "hatchway/hatchwaylaw01.CursorWhole", spec := "cursorWhole", unfollowed := true, recurses := true, apart := false }
def CursorWholeSaid : Prop := cursorWholeRow.holds Try.pinned (OpenSpec.ofChange cursorWholeSpec)

/-- ITS FALSE NEIGHBOUR: 'it returns false'. Refute it at one input. -/
def cursorWholeWrong : ChangeSpec := { name := "cursorWhole", fn := fun _ => fun
  | [d1, d2] => { results := [.lit (.bool false)], args := [d1, d2] }
  | _ => none }
def CursorWholeWrongFalsely : Prop := cursorWholeRow.holds Try.pinned (OpenSpec.ofChange cursorWholeWrong)

/-- 'hatchwaylaw07.MeterSums': WHATEVER THE INPUT: true; the input reads as it did. -/
def meterSumsSpec : ChangeSpec := { name := "meterSums", fn := fun _ => fun
  | [d1, d2] => { results := [.lit (.bool true)], args := [d1, d2] }
  | _ => none }
def meterSumsRow : OpenClaim := { program := "ytlcfanmmpfmnaaa", sum := "6c4513bc5deb6997721af8dbd139a5bc8ad0d9e67dd0e58a390a0c41b878f069", func := "hatchway/hatchwaylaw07.MeterSums", spec := "meterSums", unfollowed := true, recurses := true, apart := false }
def MeterSumsSaid : Prop := meterSumsRow.holds Try.pinned (OpenSpec.ofChange meterSumsSpec)

/-- ITS FALSE NEIGHBOUR: 'it returns false'. Refute it at one input. -/
def meterSumsWrong : ChangeSpec := { name := "meterSums", fn := fun _ => fun
  | [d1, d2] => { results := [.lit (.bool false)], args := [d1, d2] }
  | _ => none }
def MeterSumsWrongFalsely : Prop := meterSumsRow.holds Try.pinned (OpenSpec.ofChange meterSumsWrong)

/-- 'hatchwaylaw02.FixedOrder': WHATEVER THE INPUT: true; the input reads as it did. -/
def fixedOrderSpec : ChangeSpec := { name := "fixedOrder", fn := fun _ => fun
  | [d1, d2] => { results := [.lit (.bool true)], args := [d1, d2] }
  | _ => none }
def fixedOrderRow : OpenClaim := { program := "ytlcfanmmpfmnaaa", sum := "6c4513bc5deb6997721af8dbd139a5bc8ad0d9e67dd0e58a390a0c41b878f069", func := "hatchway/hatchwaylaw02.FixedOrder", spec := "fixedOrder", unfollowed := true, recurses := true, apart := false }
def FixedOrderSaid : Prop := fixedOrderRow.holds Try.pinned (OpenSpec.ofChange fixedOrderSpec)

/-- ITS FALSE NEIGHBOUR: 'it returns false'. Refute it at one input. -/
def fixedOrderWrong : ChangeSpec := { name := "fixedOrder", fn := fun _ => fun
  | [d1, d2] => { results := [.lit (.bool false)], args := [d1, d2] }
  | _ => none }
def FixedOrderWrongFalsely : Prop := fixedOrderRow.holds Try.pinned (OpenSpec.ofChange fixedOrderWrong)

/-- 'hatchwaylaw07.MeterPlays': WHATEVER THE INPUT: true; the input reads as it did. -/
def meterPlaysSpec : ChangeSpec := { name := "meterPlays", fn := fun _ => fun
  | [d1, d2] => { results := [.lit (.bool true)], args := [d1, d2] }
  | _ => none }
def meterPlaysRow : OpenClaim := { program := "ytlcfanmmpfmnaaa", sum := "6c4513bc5deb6997721af8dbd139a5bc8ad0d9e67dd0e58a390a0c41b878f069", func := "hatchway/hatchwaylaw07.MeterPlays", spec := "meterPlays", unfollowed := true, recurses := true, apart := false }
def MeterPlaysSaid : Prop := meterPlaysRow.holds Try.pinned (OpenSpec.ofChange meterPlaysSpec)

/-- ITS FALSE NEIGHBOUR: 'it returns false'. Refute it at one input. -/
def meterPlaysWrong : ChangeSpec := { name := "meterPlays", fn := fun _ => fun
  | [d1, d2] => { results := [.lit (.bool false)], args := [d1, d2] }
  | _ => none }
def MeterPlaysWrongFalsely : Prop := meterPlaysRow.holds Try.pinned (OpenSpec.ofChange meterPlaysWrong)

/-- 'hatchwaylaw02.FixedPuts': WHATEVER THE INPUT: true; the input reads as it did. -/
def fixedPutsSpec : ChangeSpec := { name := "fixedPuts", fn := fun _ => fun
  | [d1, d2] => { results := [.lit (.bool true)], args := [d1, d2] }
  | _ => none }
def fixedPutsRow : OpenClaim := { program := "ytlcfanmmpfmnaaa", sum := "6c4513bc5deb6997721af8dbd139a5bc8ad0d9e67dd0e58a390a0c41b878f069", func := "hatchway/hatchwaylaw02.FixedPuts", spec := "fixedPuts", unfollowed := true, recurses := true, apart := false }
def FixedPutsSaid : Prop := fixedPutsRow.holds Try.pinned (OpenSpec.ofChange fixedPutsSpec)

/-- ITS FALSE NEIGHBOUR: 'it returns false'. Refute it at one input. -/
def fixedPutsWrong : ChangeSpec := { name := "fixedPuts", fn := fun _ => fun
  | [d1, d2] => { results := [.lit (.bool false)], args := [d1, d2] }
  | _ => none }
def FixedPutsWrongFalsely : Prop := fixedPutsRow.holds Try.pinned (OpenSpec.ofChange fixedPutsWrong)

/-- 'hatchwaylaw02.FixedGets': WHATEVER THE INPUT: true; the input reads as it did. -/
def fixedGetsSpec : ChangeSpec := { name := "fixedGets", fn := fun _ => fun
  | [d] => { results := [.lit (.bool true)], args := [d] }
  | _ => none }
def fixedGetsRow : OpenClaim := { program := "ytlcfanmmpfmnaaa", sum := "6c4513bc5deb6997721af8dbd139a5bc8ad0d9e67dd0e58a390a0c41b878f069", func := "hatchway/hatchwaylaw02.FixedGets", spec := "fixedGets", unfollowed := true, recurses := true, apart := false }
def FixedGetsSaid : Prop := fixedGetsRow.holds Try.pinned (OpenSpec.ofChange fixedGetsSpec)

/-- ITS FALSE NEIGHBOUR: 'it returns false'. Refute it at one input. -/
def fixedGetsWrong : ChangeSpec := { name := "fixedGets", fn := fun _ => fun
  | [d] => { results := [.lit (.bool false)], args := [d] }
  | _ => none }
def FixedGetsWrongFalsely : Prop := fixedGetsRow.holds Try.pinned (OpenSpec.ofChange fixedGetsWrong)

/- THE SECOND FORM. 'bulk': how many values and letters a reading holds, each counted each time it is reached (what is shared counts as often as it is met; a slice's spare places count too). A statement '..UptoSaid' is the law's where the arguments, and the package variables that the reading takes, are together of bulk at most 1048576: NARROWER than '..Said'. Prove '..Said' where nothing that the law and all that it calls make is longer than what came in: it says more and counts as full. Else prove '..UptoSaid'. A law counts once. -/
mutual
def uptoBulk {H : Type} : DataW H → Nat
  | .lit (.string bytes) => bytes.length + 1
  | .lit _ => 1
  | .nil => 1
  | .ptr d => uptoBulk d + 1
  | .slice elems spare => uptoBulkAll elems + uptoBulkAll spare + 1
  | .agg parts => uptoBulkAll parts + 1
  | .iface _ d => uptoBulk d + 1
  | .map entries => uptoBulkEntries entries + 1
  | .held _ => 1
def uptoBulkAll {H : Type} : List (DataW H) → Nat
  | [] => 0
  | d :: r => uptoBulk d + uptoBulkAll r
def uptoBulkEntries {H : Type} : List (Lit × DataW H) → Nat
  | [] => 0
  | x :: r => uptoBulkEntry x + uptoBulkEntries r
def uptoBulkEntry {H : Type} : Lit × DataW H → Nat
  | (.string bytes, d) => bytes.length + uptoBulk d + 1
  | (_, d) => uptoBulk d + 1
 end
def uptoSmall : (H : Type) → List (DataW H) → Bool := fun _ ds => decide (uptoBulkAll ds ≤ 1048576)
def OpenSpec.upto (s : _root_.Go.ChangeSpec) : _root_.Go.OpenSpec := { _root_.Go.OpenSpec.ofChange s with cond := some uptoSmall }

/-- 'hatchwaylaw03.LebReads', WHERE WHAT IT READS IS OF BULK AT MOST 1048576: true; the input reads as it did. -/
def lebReadsUptoRow : OpenClaim := { program := "ytlcfanmmpfmnaaa", sum := "6c4513bc5deb6997721af8dbd139a5bc8ad0d9e67dd0e58a390a0c41b878f069", func := "hatchway/hatchwaylaw03.LebReads", spec := "lebReads", apart := false, narrowed := true }
def LebReadsUptoSaid : Prop := lebReadsUptoRow.holds Try.pinned (OpenSpec.upto lebReadsSpec)

/-- 'hatchwaylaw03.LebShort', WHERE WHAT IT READS IS OF BULK AT MOST 1048576: true; the input reads as it did. -/
def lebShortUptoRow : OpenClaim := { program := "ytlcfanmmpfmnaaa", sum := "6c4513bc5deb6997721af8dbd139a5bc8ad0d9e67dd0e58a390a0c41b878f069", func := "hatchway/hatchwaylaw03.LebShort", spec := "lebShort", apart := false, narrowed := true }
def LebShortUptoSaid : Prop := lebShortUptoRow.holds Try.pinned (OpenSpec.upto lebShortSpec)

/-- 'hatchwaylaw03.LebPuts', WHERE WHAT IT READS IS OF BULK AT MOST 1048576: true; the input reads as it did. -/
def lebPutsUptoRow : OpenClaim := { program := "ytlcfanmmpfmnaaa", sum := "6c4513bc5deb6997721af8dbd139a5bc8ad0d9e67dd0e58a390a0c41b878f069", func := "hatchway/hatchwaylaw03.LebPuts", spec := "lebPuts", recurses := true, apart := false, narrowed := true }
def LebPutsUptoSaid : Prop := lebPutsUptoRow.holds Try.pinned (OpenSpec.upto lebPutsSpec)

/-- 'hatchwaylaw01.CursorWhole', WHERE WHAT IT READS IS OF BULK AT MOST 1048576: true; the input reads as it did. -/
def cursorWholeUptoRow : OpenClaim := { program := "ytlcfanmmpfmnaaa", sum := "6c4513bc5deb6997721af8dbd139a5bc8ad0d9e67dd0e58a390a0c41b878f069", func := "hatchway/hatchwaylaw01.CursorWhole", spec := "cursorWhole", unfollowed := true, recurses := true, apart := false, narrowed := true }
def CursorWholeUptoSaid : Prop := cursorWholeUptoRow.holds Try.pinned (OpenSpec.upto cursorWholeSpec)

/-- 'hatchwaylaw07.MeterSums', WHERE WHAT IT READS IS OF BULK AT MOST 1048576: true; the input reads as it did. -/
def meterSumsUptoRow : OpenClaim := { program := "ytlcfanmmpfmnaaa", sum := "6c4513bc5deb6997721af8dbd139a5bc8ad0d9e67dd0e58a390a0c41b878f069", func := "hatchway/hatchwaylaw07.MeterSums", spec := "meterSums", unfollowed := true, recurses := true, apart := false, narrowed := true }
def MeterSumsUptoSaid : Prop := meterSumsUptoRow.holds Try.pinned (OpenSpec.upto meterSumsSpec)

/-- 'hatchwaylaw02.FixedOrder', WHERE WHAT IT READS IS OF BULK AT MOST 1048576: true; the input reads as it did. -/
def fixedOrderUptoRow : OpenClaim := { program := "ytlcfanmmpfmnaaa", sum := "6c4513bc5deb6997721af8dbd139a5bc8ad0d9e67dd0e58a390a0c41b878f069", func := "hatchway/hatchwaylaw02.FixedOrder", spec := "fixedOrder", unfollowed := true, recurses := true, apart := false, narrowed := true }
def FixedOrderUptoSaid : Prop := fixedOrderUptoRow.holds Try.pinned (OpenSpec.upto fixedOrderSpec)

/-- 'hatchwaylaw07.MeterPlays', WHERE WHAT IT READS IS OF BULK AT MOST 1048576: true; the input reads as it did. -/
def meterPlaysUptoRow : OpenClaim := { program := "ytlcfanmmpfmnaaa", sum := "6c4513bc5deb6997721af8dbd139a5bc8ad0d9e67dd0e58a390a0c41b878f069", func := "hatchway/hatchwaylaw07.MeterPlays", spec := "meterPlays", unfollowed := true, recurses := true, apart := false, narrowed := true }
def MeterPlaysUptoSaid : Prop := meterPlaysUptoRow.holds Try.pinned (OpenSpec.upto meterPlaysSpec)

/-- 'hatchwaylaw02.FixedPuts', WHERE WHAT IT READS IS OF BULK AT MOST 1048576: true; the input reads as it did. -/
def fixedPutsUptoRow : OpenClaim := { program := "ytlcfanmmpfmnaaa", sum := "6c4513bc5deb6997721af8dbd139a5bc8ad0d9e67dd0e58a390a0c41b878f069", func := "hatchway/hatchwaylaw02.FixedPuts", spec := "fixedPuts", unfollowed := true, recurses := true, apart := false, narrowed := true }
def FixedPutsUptoSaid : Prop := fixedPutsUptoRow.holds Try.pinned (OpenSpec.upto fixedPutsSpec)

/-- 'hatchwaylaw02.FixedGets', WHERE WHAT IT READS IS OF BULK AT MOST 1048576: true; the input reads as it did. -/
def fixedGetsUptoRow : OpenClaim := { program := "ytlcfanmmpfmnaaa", sum := "6c4513bc5deb6997721af8dbd139a5bc8ad0d9e67dd0e58a390a0c41b878f069", func := "hatchway/hatchwaylaw02.FixedGets", spec := "fixedGets", unfollowed := true, recurses := true, apart := false, narrowed := true }
def FixedGetsUptoSaid : Prop := fixedGetsUptoRow.holds Try.pinned (OpenSpec.upto fixedGetsSpec)

end Rows
end Go.Proofs.Ytlcfanmmpfmnaaa
