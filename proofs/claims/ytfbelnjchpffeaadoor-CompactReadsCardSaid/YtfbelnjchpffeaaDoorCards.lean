/-
  DERIVED. GIVEN WITH THE SEED: THE CARDS: each row of YtfbelnjchpffeaaDoorRows.lean that lists a variable, with what it lists TIED to the program's text (the seventh form; the later family's looks); each row that meets fmt, with fmt's text TOLD by the authors' own Lean function (tested against real Go, not proved from fmt's source: count such statements apart). THE CARD IS WHAT COUNTS. Prove the row's statement (the work); the ties are given (YtfbelnjchpffeaaDoorTie.lean); close each card by the builder's one call (the guide's Derived/Test/ToyasCard.lean, 'card_holds'). Laid BY PROGRAM, IN A SANDBOX (cutbox-door.mjs). By AI agents, Wed Nov 11 2026. No macro, syntax, notation, axiom, sorry.
-/
import Derived.Test.YtfbelnjchpffeaaDoorRows
import GoSem.ClaimSeven
namespace Go.Proofs.YtfbelnjchpffeaaDoor
namespace Rows

/-- THE TIED CARD OF 'hatchwaylaw04.CompactReads'. -/
def compactReadsCard : Claim7 := { stood := { row := compactReadsRow, standIns := [], harness := (true, "b957c707fdaa33d68374bb0a1a79761ffa4e9b4a6a3009029df63d5265d64312"), looks := false }, kinds := [], alts := [], laidByText := true, laidKinds := [.data], laidTests := true, laidLooks := .later }
def CompactReadsCardSaid : Prop := Claim7.holds Tryd.pinned (.plain (OpenSpec.ofChange compactReadsSpec)) compactReadsCard

/-- THE SECOND FORM's CARD OF 'hatchwaylaw04.CompactReads'. -/
def compactReadsUptoCard : Claim7 := { stood := { row := compactReadsUptoRow, standIns := [], harness := (true, "b957c707fdaa33d68374bb0a1a79761ffa4e9b4a6a3009029df63d5265d64312"), looks := false }, kinds := [], alts := [], laidByText := true, laidKinds := [.data], laidTests := true, laidLooks := .later }
def CompactReadsUptoCardSaid : Prop := Claim7.holds Tryd.pinned (.plain (OpenSpec.upto compactReadsSpec)) compactReadsUptoCard
end Rows
end Go.Proofs.YtfbelnjchpffeaaDoor
