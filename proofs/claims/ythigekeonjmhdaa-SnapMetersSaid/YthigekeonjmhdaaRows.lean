/-
  NARROWER THAN 'FOR EVERY INPUT', by the rows' own cells (each row's printed sentence says how): WalkItems: loops · RlpCaps: loops · RlpCuts: loops · RlpPuts: loops.
  DERIVED. THE GIVEN ROWS OF THIS SEAT. 9 by the template 'for every input the law returns true; each argument reads behind the call as it read before'; 0 by the template 'total and deterministic' (their statements: YthigekeonjmhdaaTotals.lean).
  GIVEN WITH THE SEED: the statements are not yours to turn. If you find one false, say at which input.
  Laid BY PROGRAM, IN A SANDBOX (cutbox-rows.mjs): the forced cells as the released guide's own fill.sh prints them over the translation d97e125e0845a86e… (all of the seat's roots in one cut). By AI agents, Wed Nov 11 2026. No macro, syntax, notation, axiom, sorry.
-/
import Derived.Test.YthigekeonjmhdaaChecked
import GoSem.Claim
import GoSem.ClaimJoined
import GoSem.ClaimMapViews
import Derived.JoinedTies
import Derived.KernelRfl
namespace Go.Proofs.Ythigekeonjmhdaa
/- THE CELL 'sum', in the pinned program and in every row, IS THE sha256 OF THE DUMP (.gsa) THAT YthigekeonjmhdaaProg.lean LOADS. Nothing in Lean hashes anything: it is a label: what it is worth is what the hold of that sum in a sandbox is worth. -/
noncomputable def Try.pinned : Pinned := { name := "ythigekeonjmhdaa", sum := "d97e125e0845a86ee0eaeb1ca23087b7c7158e9b41986c55b9cd1d586bdb4a16", checked := Try.checked }
namespace Rows
def none {H : Type} : Left H := { results := [], args := [] }

/-- 'hatchwaylaw11.SnapMeters': WHATEVER THE INPUT: true; the input reads as it did. -/
def snapMetersSpec : ChangeSpec := { name := "snapMeters", fn := fun _ => fun
  | [d1, d2, d3] => { results := [.lit (.bool true)], args := [d1, d2, d3] }
  | _ => none }
def snapMetersRow : OpenClaim := { program := "ythigekeonjmhdaa", sum := "d97e125e0845a86ee0eaeb1ca23087b7c7158e9b41986c55b9cd1d586bdb4a16", func := "hatchway/hatchwaylaw11.SnapMeters", spec := "snapMeters", unfollowed := true, recurses := true, plainKeys := false, apart := false }
def SnapMetersSaid : Prop := snapMetersRow.holds Try.pinned (OpenSpec.ofChange snapMetersSpec)

/-- ITS FALSE NEIGHBOUR: 'it returns false'. Refute it at one input. -/
def snapMetersWrong : ChangeSpec := { name := "snapMeters", fn := fun _ => fun
  | [d1, d2, d3] => { results := [.lit (.bool false)], args := [d1, d2, d3] }
  | _ => none }
def SnapMetersWrongFalsely : Prop := snapMetersRow.holds Try.pinned (OpenSpec.ofChange snapMetersWrong)

/-- 'hatchwaylaw10.WalkItems': WHATEVER THE INPUT: true; the input reads as it did. -/
def walkItemsSpec : ChangeSpec := { name := "walkItems", fn := fun _ => fun
  | [d] => { results := [.lit (.bool true)], args := [d] }
  | _ => none }
def walkItemsRow : OpenClaim := { program := "ythigekeonjmhdaa", sum := "d97e125e0845a86ee0eaeb1ca23087b7c7158e9b41986c55b9cd1d586bdb4a16", func := "hatchway/hatchwaylaw10.WalkItems", spec := "walkItems", inPlace := ["internal/abi.NoEscape"], unfollowed := true, recurses := true, loops := true, plainKeys := false, apart := false }
def WalkItemsSaid : Prop := walkItemsRow.holds Try.pinned (OpenSpec.ofChange walkItemsSpec)

/-- ITS FALSE NEIGHBOUR: 'it returns false'. Refute it at one input. -/
def walkItemsWrong : ChangeSpec := { name := "walkItems", fn := fun _ => fun
  | [d] => { results := [.lit (.bool false)], args := [d] }
  | _ => none }
def WalkItemsWrongFalsely : Prop := walkItemsRow.holds Try.pinned (OpenSpec.ofChange walkItemsWrong)

/-- 'hatchwaylaw10.WalkBuilds': WHATEVER THE INPUT: true; the input reads as it did. -/
def walkBuildsSpec : ChangeSpec := { name := "walkBuilds", fn := fun _ => fun
  | [d] => { results := [.lit (.bool true)], args := [d] }
  | _ => none }
def walkBuildsRow : OpenClaim := { program := "ythigekeonjmhdaa", sum := "d97e125e0845a86ee0eaeb1ca23087b7c7158e9b41986c55b9cd1d586bdb4a16", func := "hatchway/hatchwaylaw10.WalkBuilds", spec := "walkBuilds", inPlace := ["internal/abi.NoEscape"], unfollowed := true, recurses := true, plainKeys := false, apart := false }
def WalkBuildsSaid : Prop := walkBuildsRow.holds Try.pinned (OpenSpec.ofChange walkBuildsSpec)

/-- ITS FALSE NEIGHBOUR: 'it returns false'. Refute it at one input. -/
def walkBuildsWrong : ChangeSpec := { name := "walkBuilds", fn := fun _ => fun
  | [d] => { results := [.lit (.bool false)], args := [d] }
  | _ => none }
def WalkBuildsWrongFalsely : Prop := walkBuildsRow.holds Try.pinned (OpenSpec.ofChange walkBuildsWrong)

/-- 'hatchwaylaw30.PartsBytes': WHATEVER THE INPUT: true; the input reads as it did. -/
def partsBytesSpec : ChangeSpec := { name := "partsBytes", fn := fun _ => fun
  | [d1, d2] => { results := [.lit (.bool true)], args := [d1, d2] }
  | _ => none }
def partsBytesRow : OpenClaim := { program := "ythigekeonjmhdaa", sum := "d97e125e0845a86ee0eaeb1ca23087b7c7158e9b41986c55b9cd1d586bdb4a16", func := "hatchway/hatchwaylaw30.PartsBytes", spec := "partsBytes", inPlace := ["internal/abi.NoEscape"], unfollowed := true, recurses := true, plainKeys := false, apart := false }
def PartsBytesSaid : Prop := partsBytesRow.holds Try.pinned (OpenSpec.ofChange partsBytesSpec)

/-- ITS FALSE NEIGHBOUR: 'it returns false'. Refute it at one input. -/
def partsBytesWrong : ChangeSpec := { name := "partsBytes", fn := fun _ => fun
  | [d1, d2] => { results := [.lit (.bool false)], args := [d1, d2] }
  | _ => none }
def PartsBytesWrongFalsely : Prop := partsBytesRow.holds Try.pinned (OpenSpec.ofChange partsBytesWrong)

/-- 'hatchwaylaw09.RlpCaps': WHATEVER THE INPUT: true; the input reads as it did. -/
def rlpCapsSpec : ChangeSpec := { name := "rlpCaps", fn := fun _ => fun
  | [d1, d2] => { results := [.lit (.bool true)], args := [d1, d2] }
  | _ => none }
def rlpCapsRow : OpenClaim := { program := "ythigekeonjmhdaa", sum := "d97e125e0845a86ee0eaeb1ca23087b7c7158e9b41986c55b9cd1d586bdb4a16", func := "hatchway/hatchwaylaw09.RlpCaps", spec := "rlpCaps", inPlace := ["internal/abi.NoEscape"], unfollowed := true, recurses := true, loops := true, plainKeys := false, apart := false }
def RlpCapsSaid : Prop := rlpCapsRow.holds Try.pinned (OpenSpec.ofChange rlpCapsSpec)

/-- ITS FALSE NEIGHBOUR: 'it returns false'. Refute it at one input. -/
def rlpCapsWrong : ChangeSpec := { name := "rlpCaps", fn := fun _ => fun
  | [d1, d2] => { results := [.lit (.bool false)], args := [d1, d2] }
  | _ => none }
def RlpCapsWrongFalsely : Prop := rlpCapsRow.holds Try.pinned (OpenSpec.ofChange rlpCapsWrong)

/-- 'hatchwaylaw09.RlpCuts': WHATEVER THE INPUT: true; the input reads as it did. -/
def rlpCutsSpec : ChangeSpec := { name := "rlpCuts", fn := fun _ => fun
  | [d1, d2, d3] => { results := [.lit (.bool true)], args := [d1, d2, d3] }
  | _ => none }
def rlpCutsRow : OpenClaim := { program := "ythigekeonjmhdaa", sum := "d97e125e0845a86ee0eaeb1ca23087b7c7158e9b41986c55b9cd1d586bdb4a16", func := "hatchway/hatchwaylaw09.RlpCuts", spec := "rlpCuts", inPlace := ["internal/abi.NoEscape"], unfollowed := true, recurses := true, loops := true, plainKeys := false, apart := false }
def RlpCutsSaid : Prop := rlpCutsRow.holds Try.pinned (OpenSpec.ofChange rlpCutsSpec)

/-- ITS FALSE NEIGHBOUR: 'it returns false'. Refute it at one input. -/
def rlpCutsWrong : ChangeSpec := { name := "rlpCuts", fn := fun _ => fun
  | [d1, d2, d3] => { results := [.lit (.bool false)], args := [d1, d2, d3] }
  | _ => none }
def RlpCutsWrongFalsely : Prop := rlpCutsRow.holds Try.pinned (OpenSpec.ofChange rlpCutsWrong)

/-- 'hatchwaylaw09.RlpPuts': WHATEVER THE INPUT: true; the input reads as it did. -/
def rlpPutsSpec : ChangeSpec := { name := "rlpPuts", fn := fun _ => fun
  | [d] => { results := [.lit (.bool true)], args := [d] }
  | _ => none }
def rlpPutsRow : OpenClaim := { program := "ythigekeonjmhdaa", sum := "d97e125e0845a86ee0eaeb1ca23087b7c7158e9b41986c55b9cd1d586bdb4a16", func := "hatchway/hatchwaylaw09.RlpPuts", spec := "rlpPuts", inPlace := ["internal/abi.NoEscape"], unfollowed := true, recurses := true, loops := true, plainKeys := false, apart := false }
def RlpPutsSaid : Prop := rlpPutsRow.holds Try.pinned (OpenSpec.ofChange rlpPutsSpec)

/-- ITS FALSE NEIGHBOUR: 'it returns false'. Refute it at one input. -/
def rlpPutsWrong : ChangeSpec := { name := "rlpPuts", fn := fun _ => fun
  | [d] => { results := [.lit (.bool false)], args := [d] }
  | _ => none }
def RlpPutsWrongFalsely : Prop := rlpPutsRow.holds Try.pinned (OpenSpec.ofChange rlpPutsWrong)

/-- 'hatchwaylaw12.SqueezeFar': WHATEVER THE INPUT: true; the input reads as it did. -/
def squeezeFarSpec : ChangeSpec := { name := "squeezeFar", fn := fun _ => fun
  | [d1, d2] => { results := [.lit (.bool true)], args := [d1, d2] }
  | _ => none }
def squeezeFarRow : OpenClaim := { program := "ythigekeonjmhdaa", sum := "d97e125e0845a86ee0eaeb1ca23087b7c7158e9b41986c55b9cd1d586bdb4a16", func := "hatchway/hatchwaylaw12.SqueezeFar", spec := "squeezeFar", unfollowed := true, recurses := true, plainKeys := false, apart := false }
def SqueezeFarSaid : Prop := squeezeFarRow.holds Try.pinned (OpenSpec.ofChange squeezeFarSpec)

/-- ITS FALSE NEIGHBOUR: 'it returns false'. Refute it at one input. -/
def squeezeFarWrong : ChangeSpec := { name := "squeezeFar", fn := fun _ => fun
  | [d1, d2] => { results := [.lit (.bool false)], args := [d1, d2] }
  | _ => none }
def SqueezeFarWrongFalsely : Prop := squeezeFarRow.holds Try.pinned (OpenSpec.ofChange squeezeFarWrong)

/-- 'hatchwaylaw12.SqueezePacks': WHATEVER THE INPUT: true; the input reads as it did. -/
def squeezePacksSpec : ChangeSpec := { name := "squeezePacks", fn := fun _ => fun
  | [d] => { results := [.lit (.bool true)], args := [d] }
  | _ => none }
def squeezePacksRow : OpenClaim := { program := "ythigekeonjmhdaa", sum := "d97e125e0845a86ee0eaeb1ca23087b7c7158e9b41986c55b9cd1d586bdb4a16", func := "hatchway/hatchwaylaw12.SqueezePacks", spec := "squeezePacks", unfollowed := true, recurses := true, plainKeys := false, apart := false }
def SqueezePacksSaid : Prop := squeezePacksRow.holds Try.pinned (OpenSpec.ofChange squeezePacksSpec)

/-- ITS FALSE NEIGHBOUR: 'it returns false'. Refute it at one input. -/
def squeezePacksWrong : ChangeSpec := { name := "squeezePacks", fn := fun _ => fun
  | [d] => { results := [.lit (.bool false)], args := [d] }
  | _ => none }
def SqueezePacksWrongFalsely : Prop := squeezePacksRow.holds Try.pinned (OpenSpec.ofChange squeezePacksWrong)

/- THE SECOND FORM. 'bulk': how many values and letters a reading holds, each counted each time it is reached (what is shared counts as often as it is met; a slice's spare places count too). A statement '..UptoSaid' is the law's where the arguments, and the package variables that the reading takes, are together of bulk at most 1048576: NARROWER than '..Said'. Prove '..Said' where nothing that the law and all that it calls make is longer than what came in: it says more and counts as full. Else prove '..UptoSaid'. A law counts once. -/
mutual
def uptoBulk {H : Type} : DataW H → Nat
  | .lit (.string bytes) => bytes.length + 1
  | .lit _ => 1
  | .nil => 1
  | .ptr d => uptoBulk d + 1
  | .slice elems spare => uptoBulkAll elems + uptoBulkAll spare + 1
  | .agg parts => uptoBulkAll parts + 1
  | .iface _ d => uptoBulk d + 1
  | .map entries => uptoBulkEntries entries + 1
  | .held _ => 1
def uptoBulkAll {H : Type} : List (DataW H) → Nat
  | [] => 0
  | d :: r => uptoBulk d + uptoBulkAll r
def uptoBulkEntries {H : Type} : List (Lit × DataW H) → Nat
  | [] => 0
  | x :: r => uptoBulkEntry x + uptoBulkEntries r
def uptoBulkEntry {H : Type} : Lit × DataW H → Nat
  | (.string bytes, d) => bytes.length + uptoBulk d + 1
  | (_, d) => uptoBulk d + 1
 end
def uptoSmall : (H : Type) → List (DataW H) → Bool := fun _ ds => decide (uptoBulkAll ds ≤ 1048576)
def OpenSpec.upto (s : _root_.Go.ChangeSpec) : _root_.Go.OpenSpec := { _root_.Go.OpenSpec.ofChange s with cond := some uptoSmall }

/-- 'hatchwaylaw11.SnapMeters', WHERE WHAT IT READS IS OF BULK AT MOST 1048576: true; the input reads as it did. -/
def snapMetersUptoRow : OpenClaim := { program := "ythigekeonjmhdaa", sum := "d97e125e0845a86ee0eaeb1ca23087b7c7158e9b41986c55b9cd1d586bdb4a16", func := "hatchway/hatchwaylaw11.SnapMeters", spec := "snapMeters", unfollowed := true, recurses := true, plainKeys := false, apart := false, narrowed := true }
def SnapMetersUptoSaid : Prop := snapMetersUptoRow.holds Try.pinned (OpenSpec.upto snapMetersSpec)

/-- 'hatchwaylaw10.WalkItems', WHERE WHAT IT READS IS OF BULK AT MOST 1048576: true; the input reads as it did. -/
def walkItemsUptoRow : OpenClaim := { program := "ythigekeonjmhdaa", sum := "d97e125e0845a86ee0eaeb1ca23087b7c7158e9b41986c55b9cd1d586bdb4a16", func := "hatchway/hatchwaylaw10.WalkItems", spec := "walkItems", inPlace := ["internal/abi.NoEscape"], unfollowed := true, recurses := true, loops := true, plainKeys := false, apart := false, narrowed := true }
def WalkItemsUptoSaid : Prop := walkItemsUptoRow.holds Try.pinned (OpenSpec.upto walkItemsSpec)

/-- 'hatchwaylaw10.WalkBuilds', WHERE WHAT IT READS IS OF BULK AT MOST 1048576: true; the input reads as it did. -/
def walkBuildsUptoRow : OpenClaim := { program := "ythigekeonjmhdaa", sum := "d97e125e0845a86ee0eaeb1ca23087b7c7158e9b41986c55b9cd1d586bdb4a16", func := "hatchway/hatchwaylaw10.WalkBuilds", spec := "walkBuilds", inPlace := ["internal/abi.NoEscape"], unfollowed := true, recurses := true, plainKeys := false, apart := false, narrowed := true }
def WalkBuildsUptoSaid : Prop := walkBuildsUptoRow.holds Try.pinned (OpenSpec.upto walkBuildsSpec)

/-- 'hatchwaylaw30.PartsBytes', WHERE WHAT IT READS IS OF BULK AT MOST 1048576: true; the input reads as it did. -/
def partsBytesUptoRow : OpenClaim := { program := "ythigekeonjmhdaa", sum := "d97e125e0845a86ee0eaeb1ca23087b7c7158e9b41986c55b9cd1d586bdb4a16", func := "hatchway/hatchwaylaw30.PartsBytes", spec := "partsBytes", inPlace := ["internal/abi.NoEscape"], unfollowed := true, recurses := true, plainKeys := false, apart := false, narrowed := true }
def PartsBytesUptoSaid : Prop := partsBytesUptoRow.holds Try.pinned (OpenSpec.upto partsBytesSpec)

/-- 'hatchwaylaw09.RlpCaps', WHERE WHAT IT READS IS OF BULK AT MOST 1048576: true; the input reads as it did. -/
def rlpCapsUptoRow : OpenClaim := { program := "ythigekeonjmhdaa", sum := "d97e125e0845a86ee0eaeb1ca23087b7c7158e9b41986c55b9cd1d586bdb4a16", func := "hatchway/hatchwaylaw09.RlpCaps", spec := "rlpCaps", inPlace := ["internal/abi.NoEscape"], unfollowed := true, recurses := true, loops := true, plainKeys := false, apart := false, narrowed := true }
def RlpCapsUptoSaid : Prop := rlpCapsUptoRow.holds Try.pinned (OpenSpec.upto rlpCapsSpec)

/-- 'hatchwaylaw09.RlpCuts', WHERE WHAT IT READS IS OF BULK AT MOST 1048576: true; the input reads as it did. -/
def rlpCutsUptoRow : OpenClaim := { program := "ythigekeonjmhdaa", sum := "d97e125e0845a86ee0eaeb1ca23087b7c7158e9b41986c55b9cd1d586bdb4a16", func := "hatchway/hatchwaylaw09.RlpCuts", spec := "rlpCuts", inPlace := ["internal/abi.NoEscape"], unfollowed := true, recurses := true, loops := true, plainKeys := false, apart := false, narrowed := true }
def RlpCutsUptoSaid : Prop := rlpCutsUptoRow.holds Try.pinned (OpenSpec.upto rlpCutsSpec)

/-- 'hatchwaylaw09.RlpPuts', WHERE WHAT IT READS IS OF BULK AT MOST 1048576: true; the input reads as it did. -/
def rlpPutsUptoRow : OpenClaim := { program := "ythigekeonjmhdaa", sum := "d97e125e0845a86ee0eaeb1ca23087b7c7158e9b41986c55b9cd1d586bdb4a16", func := "hatchway/hatchwaylaw09.RlpPuts", spec := "rlpPuts", inPlace := ["internal/abi.NoEscape"], unfollowed := true, recurses := true, loops := true, plainKeys := false, apart := false, narrowed := true }
def RlpPutsUptoSaid : Prop := rlpPutsUptoRow.holds Try.pinned (OpenSpec.upto rlpPutsSpec)

/-- 'hatchwaylaw12.SqueezeFar', WHERE WHAT IT READS IS OF BULK AT MOST 1048576: true; the input reads as it did. -/
def squeezeFarUptoRow : OpenClaim := { program := "ythigekeonjmhdaa", sum := "d97e125e0845a86ee0eaeb1ca23087b7c7158e9b41986c55b9cd1d586bdb4a16", func := "hatchway/hatchwaylaw12.SqueezeFar", spec := "squeezeFar", unfollowed := true, recurses := true, plainKeys := false, apart := false, narrowed := true }
def SqueezeFarUptoSaid : Prop := squeezeFarUptoRow.holds Try.pinned (OpenSpec.upto squeezeFarSpec)

/-- 'hatchwaylaw12.SqueezePacks', WHERE WHAT IT READS IS OF BULK AT MOST 1048576: true; the input reads as it did. -/
def squeezePacksUptoRow : OpenClaim := { program := "ythigekeonjmhdaa", sum := "d97e125e0845a86ee0eaeb1ca23087b7c7158e9b41986c55b9cd1d586bdb4a16", func := "hatchway/hatchwaylaw12.SqueezePacks", spec := "squeezePacks", unfollowed := true, recurses := true, plainKeys := false, apart := false, narrowed := true }
def SqueezePacksUptoSaid : Prop := squeezePacksUptoRow.holds Try.pinned (OpenSpec.upto squeezePacksSpec)

end Rows
end Go.Proofs.Ythigekeonjmhdaa
