/-
  NARROWER THAN 'FOR EVERY INPUT', by the rows' own cells (each row's printed sentence says how): ScoreFades: laid · ScoreBans: laid · CompactPuts: laid.
  DERIVED. THE GIVEN ROWS OF THIS SEAT. 3 by the template 'for every input the law returns true; each argument reads behind the call as it read before'; 0 by the template 'total and deterministic' (their statements: YtlcfanmmpfmnaaaDoorTotals.lean).
  GIVEN WITH THE SEED: the statements are not yours to turn. If you find one false, say at which input.
  Laid BY PROGRAM, IN A SANDBOX (cutbox-rows.mjs): the forced cells as the released guide's own fill.sh prints them over the translation 83c20fd08c96febd… (all of the seat's roots in one cut). By AI agents, Wed Nov 11 2026. No macro, syntax, notation, axiom, sorry.
-/
import Derived.Test.YtlcfanmmpfmnaaaDoorChecked
import GoSem.Claim
import GoSem.ClaimJoined
import GoSem.ClaimMapViews
import Derived.JoinedTies
import Derived.KernelRfl
namespace Go.Proofs.YtlcfanmmpfmnaaaDoor
/- THE CELL 'sum', in the pinned program and in every row, IS THE sha256 OF THE DUMP (.gsa) THAT YtlcfanmmpfmnaaaDoorProg.lean LOADS. Nothing in Lean hashes anything: it is a label: what it is worth is what the hold of that sum in a sandbox is worth. -/
noncomputable def Tryd.pinned : Pinned := { name := "ytlcfanmmpfmnaaadoor", sum := "83c20fd08c96febd8022b74ff71ec2d569b3c8e2c9c823e9095a7b27ea40dd1a", checked := Tryd.checked }
namespace Rows
def none {H : Type} : Left H := { results := [], args := [] }

/- WHAT THE LISTED PACKAGE-LEVEL VARIABLES READ AS WHEN THE CALL BEGINS. Each datum BY PROGRAM (the guide's laid-datum.mjs) off the statement by which the dump's own 'gosem.cut.vars' lays the variable. In a bare row this is a premise. The card (YtlcfanmmpfmnaaaDoorCards.lean) ties it to the program's text. -/
def laid_hatchway_score_points {H : Type} : DataW H := .agg [.lit (.int .i64 0), .lit (.int .i64 0), .lit (.int .i64 0), .lit (.int .i64 20), .lit (.int .i64 50), .lit (.int .i64 50), .lit (.int .i64 50), .lit (.int .i64 0), .lit (.int .i64 0), .lit (.int .i64 100), .lit (.int .i64 10), .lit (.int .i64 1), .lit (.int .i64 20)]
def laid_hatchway_compact_sizes {H : Type} : DataW H := .agg [.lit (.int .i64 2), .lit (.int .i64 4), .lit (.int .i64 8)]

/-- 'hatchwaylaw29.ScoreFades': WHATEVER THE INPUT: true; the input reads as it did. -/
def scoreFadesSpec : ChangeSpec := { name := "scoreFades", fn := fun _ => fun
  | [d1, d2, d3, d4] => { results := [.lit (.bool true)], args := [d1, d2, d3, d4] }
  | _ => none }
def scoreFadesRow : OpenClaim := { program := "ytlcfanmmpfmnaaadoor", sum := "83c20fd08c96febd8022b74ff71ec2d569b3c8e2c9c823e9095a7b27ea40dd1a", func := "hatchway/hatchwaylaw29.ScoreFades", spec := "scoreFades", unfollowed := true, recurses := true, named := ["hatchway/score.points"], apart := false, laid := [("hatchway/score.points", laid_hatchway_score_points)] }
def ScoreFadesSaid : Prop := scoreFadesRow.holds Tryd.pinned (OpenSpec.ofChange scoreFadesSpec)

/-- ITS FALSE NEIGHBOUR: 'it returns false'. Refute it at one input. -/
def scoreFadesWrong : ChangeSpec := { name := "scoreFades", fn := fun _ => fun
  | [d1, d2, d3, d4] => { results := [.lit (.bool false)], args := [d1, d2, d3, d4] }
  | _ => none }
def ScoreFadesWrongFalsely : Prop := scoreFadesRow.holds Tryd.pinned (OpenSpec.ofChange scoreFadesWrong)

/-- 'hatchwaylaw29.ScoreBans': WHATEVER THE INPUT: true; the input reads as it did. -/
def scoreBansSpec : ChangeSpec := { name := "scoreBans", fn := fun _ => fun
  | [d1, d2, d3, d4] => { results := [.lit (.bool true)], args := [d1, d2, d3, d4] }
  | _ => none }
def scoreBansRow : OpenClaim := { program := "ytlcfanmmpfmnaaadoor", sum := "83c20fd08c96febd8022b74ff71ec2d569b3c8e2c9c823e9095a7b27ea40dd1a", func := "hatchway/hatchwaylaw29.ScoreBans", spec := "scoreBans", unfollowed := true, recurses := true, named := ["hatchway/score.points"], apart := false, laid := [("hatchway/score.points", laid_hatchway_score_points)] }
def ScoreBansSaid : Prop := scoreBansRow.holds Tryd.pinned (OpenSpec.ofChange scoreBansSpec)

/-- ITS FALSE NEIGHBOUR: 'it returns false'. Refute it at one input. -/
def scoreBansWrong : ChangeSpec := { name := "scoreBans", fn := fun _ => fun
  | [d1, d2, d3, d4] => { results := [.lit (.bool false)], args := [d1, d2, d3, d4] }
  | _ => none }
def ScoreBansWrongFalsely : Prop := scoreBansRow.holds Tryd.pinned (OpenSpec.ofChange scoreBansWrong)

/-- 'hatchwaylaw04.CompactPuts': WHATEVER THE INPUT: true; the input reads as it did. -/
def compactPutsSpec : ChangeSpec := { name := "compactPuts", fn := fun _ => fun
  | [d1, d2] => { results := [.lit (.bool true)], args := [d1, d2] }
  | _ => none }
def compactPutsRow : OpenClaim := { program := "ytlcfanmmpfmnaaadoor", sum := "83c20fd08c96febd8022b74ff71ec2d569b3c8e2c9c823e9095a7b27ea40dd1a", func := "hatchway/hatchwaylaw04.CompactPuts", spec := "compactPuts", unfollowed := true, recurses := true, named := ["hatchway/compact.sizes"], apart := false, laid := [("hatchway/compact.sizes", laid_hatchway_compact_sizes)] }
def CompactPutsSaid : Prop := compactPutsRow.holds Tryd.pinned (OpenSpec.ofChange compactPutsSpec)

/-- ITS FALSE NEIGHBOUR: 'it returns false'. Refute it at one input. -/
def compactPutsWrong : ChangeSpec := { name := "compactPuts", fn := fun _ => fun
  | [d1, d2] => { results := [.lit (.bool false)], args := [d1, d2] }
  | _ => none }
def CompactPutsWrongFalsely : Prop := compactPutsRow.holds Tryd.pinned (OpenSpec.ofChange compactPutsWrong)

/- THE SECOND FORM. 'bulk': how many values and letters a reading holds, each counted each time it is reached (what is shared counts as often as it is met; a slice's spare places count too). A statement '..UptoSaid' is the law's where the arguments, and the package variables that the reading takes, are together of bulk at most 1048576: NARROWER than '..Said'. Prove '..Said' where nothing that the law and all that it calls make is longer than what came in: it says more and counts as full. Else prove '..UptoSaid'. A law counts once. -/
mutual
def uptoBulk {H : Type} : DataW H → Nat
  | .lit (.string bytes) => bytes.length + 1
  | .lit _ => 1
  | .nil => 1
  | .ptr d => uptoBulk d + 1
  | .slice elems spare => uptoBulkAll elems + uptoBulkAll spare + 1
  | .agg parts => uptoBulkAll parts + 1
  | .iface _ d => uptoBulk d + 1
  | .map entries => uptoBulkEntries entries + 1
  | .held _ => 1
def uptoBulkAll {H : Type} : List (DataW H) → Nat
  | [] => 0
  | d :: r => uptoBulk d + uptoBulkAll r
def uptoBulkEntries {H : Type} : List (Lit × DataW H) → Nat
  | [] => 0
  | x :: r => uptoBulkEntry x + uptoBulkEntries r
def uptoBulkEntry {H : Type} : Lit × DataW H → Nat
  | (.string bytes, d) => bytes.length + uptoBulk d + 1
  | (_, d) => uptoBulk d + 1
 end
def uptoSmall : (H : Type) → List (DataW H) → Bool := fun _ ds => decide (uptoBulkAll ds ≤ 1048576)
def OpenSpec.upto (s : _root_.Go.ChangeSpec) : _root_.Go.OpenSpec := { _root_.Go.OpenSpec.ofChange s with cond := some uptoSmall }

/-- 'hatchwaylaw29.ScoreFades', WHERE WHAT IT READS IS OF BULK AT MOST 1048576: true; the input reads as it did. -/
def scoreFadesUptoRow : OpenClaim := { program := "ytlcfanmmpfmnaaadoor", sum := "83c20fd08c96febd8022b74ff71ec2d569b3c8e2c9c823e9095a7b27ea40dd1a", func := "hatchway/hatchwaylaw29.ScoreFades", spec := "scoreFades", unfollowed := true, recurses := true, named := ["hatchway/score.points"], apart := false, laid := [("hatchway/score.points", laid_hatchway_score_points)], narrowed := true }
def ScoreFadesUptoSaid : Prop := scoreFadesUptoRow.holds Tryd.pinned (OpenSpec.upto scoreFadesSpec)

/-- 'hatchwaylaw29.ScoreBans', WHERE WHAT IT READS IS OF BULK AT MOST 1048576: true; the input reads as it did. -/
def scoreBansUptoRow : OpenClaim := { program := "ytlcfanmmpfmnaaadoor", sum := "83c20fd08c96febd8022b74ff71ec2d569b3c8e2c9c823e9095a7b27ea40dd1a", func := "hatchway/hatchwaylaw29.ScoreBans", spec := "scoreBans", unfollowed := true, recurses := true, named := ["hatchway/score.points"], apart := false, laid := [("hatchway/score.points", laid_hatchway_score_points)], narrowed := true }
def ScoreBansUptoSaid : Prop := scoreBansUptoRow.holds Tryd.pinned (OpenSpec.upto scoreBansSpec)

/-- 'hatchwaylaw04.CompactPuts', WHERE WHAT IT READS IS OF BULK AT MOST 1048576: true; the input reads as it did. -/
def compactPutsUptoRow : OpenClaim := { program := "ytlcfanmmpfmnaaadoor", sum := "83c20fd08c96febd8022b74ff71ec2d569b3c8e2c9c823e9095a7b27ea40dd1a", func := "hatchway/hatchwaylaw04.CompactPuts", spec := "compactPuts", unfollowed := true, recurses := true, named := ["hatchway/compact.sizes"], apart := false, laid := [("hatchway/compact.sizes", laid_hatchway_compact_sizes)], narrowed := true }
def CompactPutsUptoSaid : Prop := compactPutsUptoRow.holds Tryd.pinned (OpenSpec.upto compactPutsSpec)

end Rows
end Go.Proofs.YtlcfanmmpfmnaaaDoor
