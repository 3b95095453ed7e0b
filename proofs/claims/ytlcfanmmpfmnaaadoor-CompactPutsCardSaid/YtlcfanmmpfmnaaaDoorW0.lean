/-
  What the package compact is to do.
-/
import Derived.Test.YtlcfanmmpfmnaaaDoorV1
namespace Go.Proofs.YtlcfanmmpfmnaaaDoor
namespace Ev
namespace Cg
open F4 (dg nm lsts)
/-- The bytes of a compact number. -/
def cput (N : Nat) : List Nat := if N < 253 then [N] else if N < 65536 then 253 :: dg N 2 else if N < 4294967296 then 254 :: dg N 4 else 255 :: dg N 8
def cw (b : Nat) : Nat := if b = 253 then 2 else if b = 254 then 4 else 8
/-- The number that bytes begin with, how many bytes it has, and the error. -/
def cnx (s : ByteArray) : Nat × Nat × Nat :=
  if s.size = 0 then (0, 0, 2) else if bAt s 0 < 253 then (bAt s 0, 1, 0)
  else if s.size < 1 + cw (bAt s 0) then (0, 0, 2)
  else if (cput (nm (bl (s.extract 1 (1 + cw (bAt s 0)))).reverse)).length = 1 + cw (bAt s 0) then (nm (bl (s.extract 1 (1 + cw (bAt s 0)))).reverse, 1 + cw (bAt s 0), 0) else (0, 0, 3)
def cnV (r : Nat × Nat × Nat) : Value := .tuple #[.int .u64 (r.1 : Int), .int .i64 (r.2.1 : Int), .int .i64 (r.2.2 : Int)]
end Cg
end Ev
end Go.Proofs.YtlcfanmmpfmnaaaDoor
