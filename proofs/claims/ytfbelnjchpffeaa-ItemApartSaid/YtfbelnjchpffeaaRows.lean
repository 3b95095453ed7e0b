/-
  NARROWER THAN 'FOR EVERY INPUT', by the rows' own cells (each row's printed sentence says how): ItemApart: loops · ItemShows: loops.
  DERIVED. THE GIVEN ROWS OF THIS SEAT. 11 by the template 'for every input the law returns true; each argument reads behind the call as it read before'; 0 by the template 'total and deterministic' (their statements: YtfbelnjchpffeaaTotals.lean).
  GIVEN WITH THE SEED: the statements are not yours to turn. If you find one false, say at which input.
  Laid BY PROGRAM, IN A SANDBOX (cutbox-rows.mjs): the forced cells as the released guide's own fill.sh prints them over the translation f105e1fb9eb5843c… (all of the seat's roots in one cut). By AI agents, Wed Nov 11 2026. No macro, syntax, notation, axiom, sorry.
-/
import Derived.Test.YtfbelnjchpffeaaChecked
import GoSem.Claim
import GoSem.ClaimJoined
import GoSem.ClaimMapViews
import Derived.JoinedTies
import Derived.KernelRfl
namespace Go.Proofs.Ytfbelnjchpffeaa
/- THE CELL 'sum', in the pinned program and in every row, IS THE sha256 OF THE DUMP (.gsa) THAT YtfbelnjchpffeaaProg.lean LOADS. Nothing in Lean hashes anything: it is a label: what it is worth is what the hold of that sum in a sandbox is worth. -/
noncomputable def Try.pinned : Pinned := { name := "ytfbelnjchpffeaa", sum := "f105e1fb9eb5843c5dbdef9a4d3e91d051ad54847552c8656a9be1101eb04c4c", checked := Try.checked }
namespace Rows
def none {H : Type} : Left H := { results := [], args := [] }

/-- 'hatchwaylaw08.ItemApart': WHATEVER THE INPUT: true; the input reads as it did. -/
def itemApartSpec : ChangeSpec := { name := "itemApart", fn := fun _ => fun
  | [d] => { results := [.lit (.bool true)], args := [d] }
  | _ => none }
def itemApartRow : OpenClaim := { program := "ytfbelnjchpffeaa", sum := "f105e1fb9eb5843c5dbdef9a4d3e91d051ad54847552c8656a9be1101eb04c4c", func := "hatchway/hatchwaylaw08.ItemApart", spec := "itemApart", inPlace := ["internal/abi.NoEscape"], unfollowed := true, recurses := true, loops := true, apart := false }
def ItemApartSaid : Prop := itemApartRow.holds Try.pinned (OpenSpec.ofChange itemApartSpec)

/-- ITS FALSE NEIGHBOUR: 'it returns false'. Refute it at one input. -/
def itemApartWrong : ChangeSpec := { name := "itemApart", fn := fun _ => fun
  | [d] => { results := [.lit (.bool false)], args := [d] }
  | _ => none }
def ItemApartWrongFalsely : Prop := itemApartRow.holds Try.pinned (OpenSpec.ofChange itemApartWrong)

/-- 'hatchwaylaw27.HexesBytes': WHATEVER THE INPUT: true; the input reads as it did. -/
def hexesBytesSpec : ChangeSpec := { name := "hexesBytes", fn := fun _ => fun
  | [d1, d2] => { results := [.lit (.bool true)], args := [d1, d2] }
  | _ => none }
def hexesBytesRow : OpenClaim := { program := "ytfbelnjchpffeaa", sum := "f105e1fb9eb5843c5dbdef9a4d3e91d051ad54847552c8656a9be1101eb04c4c", func := "hatchway/hatchwaylaw27.HexesBytes", spec := "hexesBytes", inPlace := ["internal/abi.NoEscape", "internal/bytealg.IndexByteString"], unfollowed := true, recurses := true, apart := false }
def HexesBytesSaid : Prop := hexesBytesRow.holds Try.pinned (OpenSpec.ofChange hexesBytesSpec)

/-- ITS FALSE NEIGHBOUR: 'it returns false'. Refute it at one input. -/
def hexesBytesWrong : ChangeSpec := { name := "hexesBytes", fn := fun _ => fun
  | [d1, d2] => { results := [.lit (.bool false)], args := [d1, d2] }
  | _ => none }
def HexesBytesWrongFalsely : Prop := hexesBytesRow.holds Try.pinned (OpenSpec.ofChange hexesBytesWrong)

/-- 'hatchwaylaw32.HelloAgrees': WHATEVER THE INPUT: true; the input reads as it did. -/
def helloAgreesSpec : ChangeSpec := { name := "helloAgrees", fn := fun _ => fun
  | [d1, d2, d3] => { results := [.lit (.bool true)], args := [d1, d2, d3] }
  | _ => none }
def helloAgreesRow : OpenClaim := { program := "ytfbelnjchpffeaa", sum := "f105e1fb9eb5843c5dbdef9a4d3e91d051ad54847552c8656a9be1101eb04c4c", func := "hatchway/hatchwaylaw32.HelloAgrees", spec := "helloAgrees", inPlace := ["internal/bytealg.abigen_runtime_cmpstring"], unfollowed := true, recurses := true, apart := false }
def HelloAgreesSaid : Prop := helloAgreesRow.holds Try.pinned (OpenSpec.ofChange helloAgreesSpec)

/-- ITS FALSE NEIGHBOUR: 'it returns false'. Refute it at one input. -/
def helloAgreesWrong : ChangeSpec := { name := "helloAgrees", fn := fun _ => fun
  | [d1, d2, d3] => { results := [.lit (.bool false)], args := [d1, d2, d3] }
  | _ => none }
def HelloAgreesWrongFalsely : Prop := helloAgreesRow.holds Try.pinned (OpenSpec.ofChange helloAgreesWrong)

/-- 'hatchwaylaw30.PartsCuts': WHATEVER THE INPUT: true; the input reads as it did. -/
def partsCutsSpec : ChangeSpec := { name := "partsCuts", fn := fun _ => fun
  | [d1, d2, d3] => { results := [.lit (.bool true)], args := [d1, d2, d3] }
  | _ => none }
def partsCutsRow : OpenClaim := { program := "ytfbelnjchpffeaa", sum := "f105e1fb9eb5843c5dbdef9a4d3e91d051ad54847552c8656a9be1101eb04c4c", func := "hatchway/hatchwaylaw30.PartsCuts", spec := "partsCuts", inPlace := ["internal/abi.NoEscape"], unfollowed := true, recurses := true, apart := false }
def PartsCutsSaid : Prop := partsCutsRow.holds Try.pinned (OpenSpec.ofChange partsCutsSpec)

/-- ITS FALSE NEIGHBOUR: 'it returns false'. Refute it at one input. -/
def partsCutsWrong : ChangeSpec := { name := "partsCuts", fn := fun _ => fun
  | [d1, d2, d3] => { results := [.lit (.bool false)], args := [d1, d2, d3] }
  | _ => none }
def PartsCutsWrongFalsely : Prop := partsCutsRow.holds Try.pinned (OpenSpec.ofChange partsCutsWrong)

/-- 'hatchwaylaw15.PlainPuts': WHATEVER THE INPUT: true; the input reads as it did. -/
def plainPutsSpec : ChangeSpec := { name := "plainPuts", fn := fun _ => fun
  | [d1, d2, d3] => { results := [.lit (.bool true)], args := [d1, d2, d3] }
  | _ => none }
def plainPutsRow : OpenClaim := { program := "ytfbelnjchpffeaa", sum := "f105e1fb9eb5843c5dbdef9a4d3e91d051ad54847552c8656a9be1101eb04c4c", func := "hatchway/hatchwaylaw15.PlainPuts", spec := "plainPuts", unfollowed := true, recurses := true, apart := false }
def PlainPutsSaid : Prop := plainPutsRow.holds Try.pinned (OpenSpec.ofChange plainPutsSpec)

/-- ITS FALSE NEIGHBOUR: 'it returns false'. Refute it at one input. -/
def plainPutsWrong : ChangeSpec := { name := "plainPuts", fn := fun _ => fun
  | [d1, d2, d3] => { results := [.lit (.bool false)], args := [d1, d2, d3] }
  | _ => none }
def PlainPutsWrongFalsely : Prop := plainPutsRow.holds Try.pinned (OpenSpec.ofChange plainPutsWrong)

/-- 'hatchwaylaw15.PlainRow': WHATEVER THE INPUT: true; the input reads as it did. -/
def plainRowSpec : ChangeSpec := { name := "plainRow", fn := fun _ => fun
  | [d1, d2] => { results := [.lit (.bool true)], args := [d1, d2] }
  | _ => none }
def plainRowRow : OpenClaim := { program := "ytfbelnjchpffeaa", sum := "f105e1fb9eb5843c5dbdef9a4d3e91d051ad54847552c8656a9be1101eb04c4c", func := "hatchway/hatchwaylaw15.PlainRow", spec := "plainRow", unfollowed := true, recurses := true, apart := false }
def PlainRowSaid : Prop := plainRowRow.holds Try.pinned (OpenSpec.ofChange plainRowSpec)

/-- ITS FALSE NEIGHBOUR: 'it returns false'. Refute it at one input. -/
def plainRowWrong : ChangeSpec := { name := "plainRow", fn := fun _ => fun
  | [d1, d2] => { results := [.lit (.bool false)], args := [d1, d2] }
  | _ => none }
def PlainRowWrongFalsely : Prop := plainRowRow.holds Try.pinned (OpenSpec.ofChange plainRowWrong)

/-- 'hatchwaylaw08.ItemShows': WHATEVER THE INPUT: true; the input reads as it did. -/
def itemShowsSpec : ChangeSpec := { name := "itemShows", fn := fun _ => fun
  | [d] => { results := [.lit (.bool true)], args := [d] }
  | _ => none }
def itemShowsRow : OpenClaim := { program := "ytfbelnjchpffeaa", sum := "f105e1fb9eb5843c5dbdef9a4d3e91d051ad54847552c8656a9be1101eb04c4c", func := "hatchway/hatchwaylaw08.ItemShows", spec := "itemShows", inPlace := ["internal/abi.NoEscape", "internal/bytealg.IndexByteString"], unfollowed := true, recurses := true, loops := true, apart := false }
def ItemShowsSaid : Prop := itemShowsRow.holds Try.pinned (OpenSpec.ofChange itemShowsSpec)

/-- ITS FALSE NEIGHBOUR: 'it returns false'. Refute it at one input. -/
def itemShowsWrong : ChangeSpec := { name := "itemShows", fn := fun _ => fun
  | [d] => { results := [.lit (.bool false)], args := [d] }
  | _ => none }
def ItemShowsWrongFalsely : Prop := itemShowsRow.holds Try.pinned (OpenSpec.ofChange itemShowsWrong)

/-- 'hatchwaylaw08.ItemReads': WHATEVER THE INPUT: true; the input reads as it did. -/
def itemReadsSpec : ChangeSpec := { name := "itemReads", fn := fun _ => fun
  | [d] => { results := [.lit (.bool true)], args := [d] }
  | _ => none }
def itemReadsRow : OpenClaim := { program := "ytfbelnjchpffeaa", sum := "f105e1fb9eb5843c5dbdef9a4d3e91d051ad54847552c8656a9be1101eb04c4c", func := "hatchway/hatchwaylaw08.ItemReads", spec := "itemReads", inPlace := ["internal/abi.NoEscape", "internal/bytealg.IndexByteString"], unfollowed := true, recurses := true, apart := false }
def ItemReadsSaid : Prop := itemReadsRow.holds Try.pinned (OpenSpec.ofChange itemReadsSpec)

/-- ITS FALSE NEIGHBOUR: 'it returns false'. Refute it at one input. -/
def itemReadsWrong : ChangeSpec := { name := "itemReads", fn := fun _ => fun
  | [d] => { results := [.lit (.bool false)], args := [d] }
  | _ => none }
def ItemReadsWrongFalsely : Prop := itemReadsRow.holds Try.pinned (OpenSpec.ofChange itemReadsWrong)

/-- 'hatchwaylaw11.SnapUnpacks': WHATEVER THE INPUT: true; the input reads as it did. -/
def snapUnpacksSpec : ChangeSpec := { name := "snapUnpacks", fn := fun _ => fun
  | [d1, d2] => { results := [.lit (.bool true)], args := [d1, d2] }
  | _ => none }
def snapUnpacksRow : OpenClaim := { program := "ytfbelnjchpffeaa", sum := "f105e1fb9eb5843c5dbdef9a4d3e91d051ad54847552c8656a9be1101eb04c4c", func := "hatchway/hatchwaylaw11.SnapUnpacks", spec := "snapUnpacks", unfollowed := true, recurses := true, apart := false }
def SnapUnpacksSaid : Prop := snapUnpacksRow.holds Try.pinned (OpenSpec.ofChange snapUnpacksSpec)

/-- ITS FALSE NEIGHBOUR: 'it returns false'. Refute it at one input. -/
def snapUnpacksWrong : ChangeSpec := { name := "snapUnpacks", fn := fun _ => fun
  | [d1, d2] => { results := [.lit (.bool false)], args := [d1, d2] }
  | _ => none }
def SnapUnpacksWrongFalsely : Prop := snapUnpacksRow.holds Try.pinned (OpenSpec.ofChange snapUnpacksWrong)

/-- 'hatchwaylaw11.SnapPlain': WHATEVER THE INPUT: true; the input reads as it did. -/
def snapPlainSpec : ChangeSpec := { name := "snapPlain", fn := fun _ => fun
  | [d1, d2] => { results := [.lit (.bool true)], args := [d1, d2] }
  | _ => none }
def snapPlainRow : OpenClaim := { program := "ytfbelnjchpffeaa", sum := "f105e1fb9eb5843c5dbdef9a4d3e91d051ad54847552c8656a9be1101eb04c4c", func := "hatchway/hatchwaylaw11.SnapPlain", spec := "snapPlain", unfollowed := true, recurses := true, apart := false }
def SnapPlainSaid : Prop := snapPlainRow.holds Try.pinned (OpenSpec.ofChange snapPlainSpec)

/-- ITS FALSE NEIGHBOUR: 'it returns false'. Refute it at one input. -/
def snapPlainWrong : ChangeSpec := { name := "snapPlain", fn := fun _ => fun
  | [d1, d2] => { results := [.lit (.bool false)], args := [d1, d2] }
  | _ => none }
def SnapPlainWrongFalsely : Prop := snapPlainRow.holds Try.pinned (OpenSpec.ofChange snapPlainWrong)

/-- 'hatchwaylaw11.SnapRuns': WHATEVER THE INPUT: true; the input reads as it did. -/
def snapRunsSpec : ChangeSpec := { name := "snapRuns", fn := fun _ => fun
  | [d1, d2] => { results := [.lit (.bool true)], args := [d1, d2] }
  | _ => none }
def snapRunsRow : OpenClaim := { program := "ytfbelnjchpffeaa", sum := "f105e1fb9eb5843c5dbdef9a4d3e91d051ad54847552c8656a9be1101eb04c4c", func := "hatchway/hatchwaylaw11.SnapRuns", spec := "snapRuns", unfollowed := true, recurses := true, apart := false }
def SnapRunsSaid : Prop := snapRunsRow.holds Try.pinned (OpenSpec.ofChange snapRunsSpec)

/-- ITS FALSE NEIGHBOUR: 'it returns false'. Refute it at one input. -/
def snapRunsWrong : ChangeSpec := { name := "snapRuns", fn := fun _ => fun
  | [d1, d2] => { results := [.lit (.bool false)], args := [d1, d2] }
  | _ => none }
def SnapRunsWrongFalsely : Prop := snapRunsRow.holds Try.pinned (OpenSpec.ofChange snapRunsWrong)

/- THE SECOND FORM. 'bulk': how many values and letters a reading holds, each counted each time it is reached (what is shared counts as often as it is met; a slice's spare places count too). A statement '..UptoSaid' is the law's where the arguments, and the package variables that the reading takes, are together of bulk at most 1048576: NARROWER than '..Said'. Prove '..Said' where nothing that the law and all that it calls make is longer than what came in: it says more and counts as full. Else prove '..UptoSaid'. A law counts once. -/
mutual
def uptoBulk {H : Type} : DataW H → Nat
  | .lit (.string bytes) => bytes.length + 1
  | .lit _ => 1
  | .nil => 1
  | .ptr d => uptoBulk d + 1
  | .slice elems spare => uptoBulkAll elems + uptoBulkAll spare + 1
  | .agg parts => uptoBulkAll parts + 1
  | .iface _ d => uptoBulk d + 1
  | .map entries => uptoBulkEntries entries + 1
  | .held _ => 1
def uptoBulkAll {H : Type} : List (DataW H) → Nat
  | [] => 0
  | d :: r => uptoBulk d + uptoBulkAll r
def uptoBulkEntries {H : Type} : List (Lit × DataW H) → Nat
  | [] => 0
  | x :: r => uptoBulkEntry x + uptoBulkEntries r
def uptoBulkEntry {H : Type} : Lit × DataW H → Nat
  | (.string bytes, d) => bytes.length + uptoBulk d + 1
  | (_, d) => uptoBulk d + 1
 end
def uptoSmall : (H : Type) → List (DataW H) → Bool := fun _ ds => decide (uptoBulkAll ds ≤ 1048576)
def OpenSpec.upto (s : _root_.Go.ChangeSpec) : _root_.Go.OpenSpec := { _root_.Go.OpenSpec.ofChange s with cond := some uptoSmall }

/-- 'hatchwaylaw08.ItemApart', WHERE WHAT IT READS IS OF BULK AT MOST 1048576: true; the input reads as it did. -/
def itemApartUptoRow : OpenClaim := { program := "ytfbelnjchpffeaa", sum := "f105e1fb9eb5843c5dbdef9a4d3e91d051ad54847552c8656a9be1101eb04c4c", func := "hatchway/hatchwaylaw08.ItemApart", spec := "itemApart", inPlace := ["internal/abi.NoEscape"], unfollowed := true, recurses := true, loops := true, apart := false, narrowed := true }
def ItemApartUptoSaid : Prop := itemApartUptoRow.holds Try.pinned (OpenSpec.upto itemApartSpec)

/-- 'hatchwaylaw27.HexesBytes', WHERE WHAT IT READS IS OF BULK AT MOST 1048576: true; the input reads as it did. -/
def hexesBytesUptoRow : OpenClaim := { program := "ytfbelnjchpffeaa", sum := "f105e1fb9eb5843c5dbdef9a4d3e91d051ad54847552c8656a9be1101eb04c4c", func := "hatchway/hatchwaylaw27.HexesBytes", spec := "hexesBytes", inPlace := ["internal/abi.NoEscape", "internal/bytealg.IndexByteString"], unfollowed := true, recurses := true, apart := false, narrowed := true }
def HexesBytesUptoSaid : Prop := hexesBytesUptoRow.holds Try.pinned (OpenSpec.upto hexesBytesSpec)

/-- 'hatchwaylaw32.HelloAgrees', WHERE WHAT IT READS IS OF BULK AT MOST 1048576: true; the input reads as it did. -/
def helloAgreesUptoRow : OpenClaim := { program := "ytfbelnjchpffeaa", sum := "f105e1fb9eb5843c5dbdef9a4d3e91d051ad54847552c8656a9be1101eb04c4c", func := "hatchway/hatchwaylaw32.HelloAgrees", spec := "helloAgrees", inPlace := ["internal/bytealg.abigen_runtime_cmpstring"], unfollowed := true, recurses := true, apart := false, narrowed := true }
def HelloAgreesUptoSaid : Prop := helloAgreesUptoRow.holds Try.pinned (OpenSpec.upto helloAgreesSpec)

/-- 'hatchwaylaw30.PartsCuts', WHERE WHAT IT READS IS OF BULK AT MOST 1048576: true; the input reads as it did. -/
def partsCutsUptoRow : OpenClaim := { program := "ytfbelnjchpffeaa", sum := "f105e1fb9eb5843c5dbdef9a4d3e91d051ad54847552c8656a9be1101eb04c4c", func := "hatchway/hatchwaylaw30.PartsCuts", spec := "partsCuts", inPlace := ["internal/abi.NoEscape"], unfollowed := true, recurses := true, apart := false, narrowed := true }
def PartsCutsUptoSaid : Prop := partsCutsUptoRow.holds Try.pinned (OpenSpec.upto partsCutsSpec)

/-- 'hatchwaylaw15.PlainPuts', WHERE WHAT IT READS IS OF BULK AT MOST 1048576: true; the input reads as it did. -/
def plainPutsUptoRow : OpenClaim := { program := "ytfbelnjchpffeaa", sum := "f105e1fb9eb5843c5dbdef9a4d3e91d051ad54847552c8656a9be1101eb04c4c", func := "hatchway/hatchwaylaw15.PlainPuts", spec := "plainPuts", unfollowed := true, recurses := true, apart := false, narrowed := true }
def PlainPutsUptoSaid : Prop := plainPutsUptoRow.holds Try.pinned (OpenSpec.upto plainPutsSpec)

/-- 'hatchwaylaw15.PlainRow', WHERE WHAT IT READS IS OF BULK AT MOST 1048576: true; the input reads as it did. -/
def plainRowUptoRow : OpenClaim := { program := "ytfbelnjchpffeaa", sum := "f105e1fb9eb5843c5dbdef9a4d3e91d051ad54847552c8656a9be1101eb04c4c", func := "hatchway/hatchwaylaw15.PlainRow", spec := "plainRow", unfollowed := true, recurses := true, apart := false, narrowed := true }
def PlainRowUptoSaid : Prop := plainRowUptoRow.holds Try.pinned (OpenSpec.upto plainRowSpec)

/-- 'hatchwaylaw08.ItemShows', WHERE WHAT IT READS IS OF BULK AT MOST 1048576: true; the input reads as it did. -/
def itemShowsUptoRow : OpenClaim := { program := "ytfbelnjchpffeaa", sum := "f105e1fb9eb5843c5dbdef9a4d3e91d051ad54847552c8656a9be1101eb04c4c", func := "hatchway/hatchwaylaw08.ItemShows", spec := "itemShows", inPlace := ["internal/abi.NoEscape", "internal/bytealg.IndexByteString"], unfollowed := true, recurses := true, loops := true, apart := false, narrowed := true }
def ItemShowsUptoSaid : Prop := itemShowsUptoRow.holds Try.pinned (OpenSpec.upto itemShowsSpec)

/-- 'hatchwaylaw08.ItemReads', WHERE WHAT IT READS IS OF BULK AT MOST 1048576: true; the input reads as it did. -/
def itemReadsUptoRow : OpenClaim := { program := "ytfbelnjchpffeaa", sum := "f105e1fb9eb5843c5dbdef9a4d3e91d051ad54847552c8656a9be1101eb04c4c", func := "hatchway/hatchwaylaw08.ItemReads", spec := "itemReads", inPlace := ["internal/abi.NoEscape", "internal/bytealg.IndexByteString"], unfollowed := true, recurses := true, apart := false, narrowed := true }
def ItemReadsUptoSaid : Prop := itemReadsUptoRow.holds Try.pinned (OpenSpec.upto itemReadsSpec)

/-- 'hatchwaylaw11.SnapUnpacks', WHERE WHAT IT READS IS OF BULK AT MOST 1048576: true; the input reads as it did. -/
def snapUnpacksUptoRow : OpenClaim := { program := "ytfbelnjchpffeaa", sum := "f105e1fb9eb5843c5dbdef9a4d3e91d051ad54847552c8656a9be1101eb04c4c", func := "hatchway/hatchwaylaw11.SnapUnpacks", spec := "snapUnpacks", unfollowed := true, recurses := true, apart := false, narrowed := true }
def SnapUnpacksUptoSaid : Prop := snapUnpacksUptoRow.holds Try.pinned (OpenSpec.upto snapUnpacksSpec)

/-- 'hatchwaylaw11.SnapPlain', WHERE WHAT IT READS IS OF BULK AT MOST 1048576: true; the input reads as it did. -/
def snapPlainUptoRow : OpenClaim := { program := "ytfbelnjchpffeaa", sum := "f105e1fb9eb5843c5dbdef9a4d3e91d051ad54847552c8656a9be1101eb04c4c", func := "hatchway/hatchwaylaw11.SnapPlain", spec := "snapPlain", unfollowed := true, recurses := true, apart := false, narrowed := true }
def SnapPlainUptoSaid : Prop := snapPlainUptoRow.holds Try.pinned (OpenSpec.upto snapPlainSpec)

/-- 'hatchwaylaw11.SnapRuns', WHERE WHAT IT READS IS OF BULK AT MOST 1048576: true; the input reads as it did. -/
def snapRunsUptoRow : OpenClaim := { program := "ytfbelnjchpffeaa", sum := "f105e1fb9eb5843c5dbdef9a4d3e91d051ad54847552c8656a9be1101eb04c4c", func := "hatchway/hatchwaylaw11.SnapRuns", spec := "snapRuns", unfollowed := true, recurses := true, apart := false, narrowed := true }
def SnapRunsUptoSaid : Prop := snapRunsUptoRow.holds Try.pinned (OpenSpec.upto snapRunsSpec)

end Rows
end Go.Proofs.Ytfbelnjchpffeaa
