/-
  DERIVED. GIVEN WITH THE SEED: THE CARDS: each row of YtlcfanmmpfmnaaaDoorRows.lean that lists a variable, with what it lists TIED to the program's text (the seventh form; the later family's looks); each row that meets fmt, with fmt's text TOLD by the authors' own Lean function (tested against real Go, not proved from fmt's source: count such statements apart). THE CARD IS WHAT COUNTS. Prove the row's statement (the work); the ties are given (YtlcfanmmpfmnaaaDoorTie.lean); close each card by the builder's one call (the guide's Derived/Test/ToyasCard.lean, 'card_holds'). Laid BY PROGRAM, IN A SANDBOX (cutbox-door.mjs). By AI agents, Wed Nov 11 2026. No macro, syntax, notation, axiom, sorry.
-/
import Derived.Test.YtlcfanmmpfmnaaaDoorRows
import GoSem.ClaimSeven
namespace Go.Proofs.YtlcfanmmpfmnaaaDoor
namespace Rows

/-- THE TIED CARD OF 'hatchwaylaw29.ScoreFades'. -/
def scoreFadesCard : Claim7 := { stood := { row := scoreFadesRow, standIns := [], harness := (true, "2155fee73b12f18672eb4c8d2e233629b8c73fbcac08639ab1babfa384ccd3a5"), looks := false }, kinds := [], alts := [], laidByText := true, laidKinds := [.data], laidTests := true, laidLooks := .later }
def ScoreFadesCardSaid : Prop := Claim7.holds Tryd.pinned (.plain (OpenSpec.ofChange scoreFadesSpec)) scoreFadesCard

/-- THE TIED CARD OF 'hatchwaylaw29.ScoreBans'. -/
def scoreBansCard : Claim7 := { stood := { row := scoreBansRow, standIns := [], harness := (true, "2155fee73b12f18672eb4c8d2e233629b8c73fbcac08639ab1babfa384ccd3a5"), looks := false }, kinds := [], alts := [], laidByText := true, laidKinds := [.data], laidTests := true, laidLooks := .later }
def ScoreBansCardSaid : Prop := Claim7.holds Tryd.pinned (.plain (OpenSpec.ofChange scoreBansSpec)) scoreBansCard

/-- THE TIED CARD OF 'hatchwaylaw04.CompactPuts'. -/
def compactPutsCard : Claim7 := { stood := { row := compactPutsRow, standIns := [], harness := (true, "2155fee73b12f18672eb4c8d2e233629b8c73fbcac08639ab1babfa384ccd3a5"), looks := false }, kinds := [], alts := [], laidByText := true, laidKinds := [.data], laidTests := true, laidLooks := .later }
def CompactPutsCardSaid : Prop := Claim7.holds Tryd.pinned (.plain (OpenSpec.ofChange compactPutsSpec)) compactPutsCard

/-- THE SECOND FORM's CARD OF 'hatchwaylaw29.ScoreFades'. -/
def scoreFadesUptoCard : Claim7 := { stood := { row := scoreFadesUptoRow, standIns := [], harness := (true, "2155fee73b12f18672eb4c8d2e233629b8c73fbcac08639ab1babfa384ccd3a5"), looks := false }, kinds := [], alts := [], laidByText := true, laidKinds := [.data], laidTests := true, laidLooks := .later }
def ScoreFadesUptoCardSaid : Prop := Claim7.holds Tryd.pinned (.plain (OpenSpec.upto scoreFadesSpec)) scoreFadesUptoCard

/-- THE SECOND FORM's CARD OF 'hatchwaylaw29.ScoreBans'. -/
def scoreBansUptoCard : Claim7 := { stood := { row := scoreBansUptoRow, standIns := [], harness := (true, "2155fee73b12f18672eb4c8d2e233629b8c73fbcac08639ab1babfa384ccd3a5"), looks := false }, kinds := [], alts := [], laidByText := true, laidKinds := [.data], laidTests := true, laidLooks := .later }
def ScoreBansUptoCardSaid : Prop := Claim7.holds Tryd.pinned (.plain (OpenSpec.upto scoreBansSpec)) scoreBansUptoCard

/-- THE SECOND FORM's CARD OF 'hatchwaylaw04.CompactPuts'. -/
def compactPutsUptoCard : Claim7 := { stood := { row := compactPutsUptoRow, standIns := [], harness := (true, "2155fee73b12f18672eb4c8d2e233629b8c73fbcac08639ab1babfa384ccd3a5"), looks := false }, kinds := [], alts := [], laidByText := true, laidKinds := [.data], laidTests := true, laidLooks := .later }
def CompactPutsUptoCardSaid : Prop := Claim7.holds Tryd.pinned (.plain (OpenSpec.upto compactPutsSpec)) compactPutsUptoCard
end Rows
end Go.Proofs.YtlcfanmmpfmnaaaDoor
