/-
  The document's compact numbers.
-/
import Derived.Test.YtlcfanmmpfmnaaaDoorW0
namespace Go.Proofs.YtlcfanmmpfmnaaaDoor
namespace Ev
namespace F4
open Tag (mk)
open Cg (cput cw cnx cnV)
set_option linter.unusedSimpArgs false
set_option linter.unusedVariables false
set_option maxRecDepth 4000
set_option maxHeartbeats 4000000
theorem big_dg (N sz : Nat) (hs : sz ≤ 8) (hN : N < 2 ^ 64) (h : N < 2 ^ (8 * sz)) : XRBig [.int .u64 (N : Int), .int .i64 (sz : Int)] = some (.tuple #[.string (bs (dg N sz).reverse), .bool true]) := by
  have := (lsts_fit N sz hs hN).2 h
  rw [XRBig_eq, if_pos (by omega), Int.toNat_natCast, bigV, if_neg (by omega), dg_pad N sz hs hN h, Int.toNat_natCast]; rfl
theorem bl_bs_lt (l : List Nat) (h : ∀ b ∈ l, b < 256) : bl (bs l) = l := by
  rw [bl_bs']
  conv => rhs; rw [← List.map_id l]
  apply List.map_congr_left
  intro b hb
  exact Nat.mod_eq_of_lt (h b hb)
theorem turned_dg (N sz : Nat) (hs : sz ≤ 8) : XTurned [.string (bs (dg N sz).reverse)] = some (.string (bs (dg N sz))) := by
  rw [XTurned_eq, if_pos (by rw [bs_size, List.length_reverse, dg_length]; omega), bl_bs_lt _ (fun b hb => dg_lt N sz b (by simpa using hb)), List.reverse_reverse]
noncomputable def D3 : Cf := CX (xtab [(29, XRBig), (30, XTurned)]) (polt [])
theorem D3_ok : D3.Ok := CX_ok (all_cons x44 (all_cons x47 all_nil)) al_no
theorem wPut4 (N : Nat) (hN : N < 2 ^ 64) : Run (fun v _ => v = .string (bs (cput N))) mk (acall D3 20 17 [.int .u64 (N : Int)] [] ⟨0, 0⟩) := by
  refine Run_call (F := ir17) rfl (Nat.le_of_ble_eq_true rfl) ?_
  have a3 : ({ data := #[253] } : ByteArray).size = 1 := rfl
  have a4 : ({ data := #[254] } : ByteArray).size = 1 := rfl
  have a5 : ({ data := #[255] } : ByteArray).size = 1 := rfl
  by_cases h1 : N < 253
  · have hb : ((N : Nat) : Int) % 256 = (N : Int) := by omega
    simp only [ir17, D3]
    (repeat' first
    | (refine CondV_dec (fun _ => ?_) (fun _ => ?_) <;> try (exfalso; omega))
    | (refine GuardV_td (fun _ => ?_) (fun _ => ?_) <;> try (exfalso; omega))
    | (refine GuardV_fd (fun _ => ?_) (fun _ => ?_) <;> try (exfalso; omega))
    | (refine CondV_split (fun _ => ?_) (fun _ => ?_))
    | (refine Need_of (by first | omega | decide) ?_)
    | refine WpK_cons ?_ ?_
    | refine WpK_guard ?_
    | simp (disch := first | omega | simp only [List.length_append, List.length_set, List.length_cons, List.length_nil] <;> omega | fail) only [evA, ↓evB, ↓astep, ↓aop, aBin, aInt, aStr, aUn, aNil, aMax, aresults, ares, aPack, ↓reduceIte, ↓reduceCtorEq, Nat.reduceEqDiff, Nat.reduceAdd, env0, aLoad, aLoadN, cellsOf, Int.reduceEq, Int.reduceLT, Int.reduceLE, Nat.reduceLeDiff, oneC, aop.fillL, setL, aApp, aAppC_nil, aAppC_own, xop, eqCells, eqCell, rowOf, ↓acallop, aBound, aIntOf, flat, flatN, CX_fn, CX_X, CX_pol, aStore, Nat.reduceBEq, List.size_toArray, Int.sub_zero, Int.zero_add, Int.add_zero, Int.toNat_zero, Int.reduceAdd, Int.reduceSub, Int.reduceMul, Int.reduceNeg, Int.reduceToNat, Nat.reduceSub, Nat.reduceMul, Int.natCast_zero, Int.reduceDiv, Int.reduceMod, Int.toNat_natCast, fdiv_nn, min_bits_i, Int.reducePow, Nat.reducePow, Nat.reduceDiv, Nat.reduceMod, mb_i, mb_u, WpC_drawD, WpT_nil, WpT_cons, WpT_guard, WpK_nil, scal, hb])
    all_goals (rw [cput, if_pos h1]; rfl)
  by_cases h2 : N < 65536
  · have t1 : XRBig [.int .u64 (N : Int), .int .i64 2] = _ := big_dg N 2 (by decide) hN (by omega)
    have t2 := turned_dg N 2 (by decide)
    simp only [ir17, D3]
    (repeat' first
    | (refine CondV_dec (fun _ => ?_) (fun _ => ?_) <;> try (exfalso; omega))
    | (refine GuardV_td (fun _ => ?_) (fun _ => ?_) <;> try (exfalso; omega))
    | (refine GuardV_fd (fun _ => ?_) (fun _ => ?_) <;> try (exfalso; omega))
    | (refine CondV_split (fun _ => ?_) (fun _ => ?_))
    | (refine Need_of (by first | omega | decide) ?_)
    | refine WpK_cons ?_ ?_
    | refine WpK_guard ?_
    | simp (disch := first | omega | simp only [List.length_append, List.length_set, List.length_cons, List.length_nil] <;> omega | fail) only [evA, ↓evB, ↓astep, ↓aop, aBin, aInt, aStr, aUn, aNil, aMax, aresults, ares, aPack, ↓reduceIte, ↓reduceCtorEq, Nat.reduceEqDiff, Nat.reduceAdd, env0, aLoad, aLoadN, cellsOf, Int.reduceEq, Int.reduceLT, Int.reduceLE, Nat.reduceLeDiff, oneC, aop.fillL, setL, aApp, aAppC_nil, aAppC_own, xop, eqCells, eqCell, rowOf, ↓acallop, aBound, aIntOf, flat, flatN, CX_fn, CX_X, CX_pol, aStore, Nat.reduceBEq, List.size_toArray, Int.sub_zero, Int.zero_add, Int.add_zero, Int.toNat_zero, Int.reduceAdd, Int.reduceSub, Int.reduceMul, Int.reduceNeg, Int.reduceToNat, Nat.reduceSub, Nat.reduceMul, Int.natCast_zero, Int.reduceDiv, Int.reduceMod, Int.toNat_natCast, fdiv_nn, min_bits_i, Int.reducePow, Nat.reducePow, Nat.reduceDiv, Nat.reduceMod, mb_i, mb_u, WpC_drawD, WpT_nil, WpT_cons, WpT_guard, WpK_nil, scal, fn24, ir24, t1, t2, dg_length, a3])
    all_goals (rw [cput, if_neg h1, if_pos h2]; exact congrArg Value.string (bs_cons 253 _))
  by_cases h3 : N < 4294967296
  · have t1 : XRBig [.int .u64 (N : Int), .int .i64 4] = _ := big_dg N 4 (by decide) hN (by omega)
    have t2 := turned_dg N 4 (by decide)
    simp only [ir17, D3]
    (repeat' first
    | (refine CondV_dec (fun _ => ?_) (fun _ => ?_) <;> try (exfalso; omega))
    | (refine GuardV_td (fun _ => ?_) (fun _ => ?_) <;> try (exfalso; omega))
    | (refine GuardV_fd (fun _ => ?_) (fun _ => ?_) <;> try (exfalso; omega))
    | (refine CondV_split (fun _ => ?_) (fun _ => ?_))
    | (refine Need_of (by first | omega | decide) ?_)
    | refine WpK_cons ?_ ?_
    | refine WpK_guard ?_
    | simp (disch := first | omega | simp only [List.length_append, List.length_set, List.length_cons, List.length_nil] <;> omega | fail) only [evA, ↓evB, ↓astep, ↓aop, aBin, aInt, aStr, aUn, aNil, aMax, aresults, ares, aPack, ↓reduceIte, ↓reduceCtorEq, Nat.reduceEqDiff, Nat.reduceAdd, env0, aLoad, aLoadN, cellsOf, Int.reduceEq, Int.reduceLT, Int.reduceLE, Nat.reduceLeDiff, oneC, aop.fillL, setL, aApp, aAppC_nil, aAppC_own, xop, eqCells, eqCell, rowOf, ↓acallop, aBound, aIntOf, flat, flatN, CX_fn, CX_X, CX_pol, aStore, Nat.reduceBEq, List.size_toArray, Int.sub_zero, Int.zero_add, Int.add_zero, Int.toNat_zero, Int.reduceAdd, Int.reduceSub, Int.reduceMul, Int.reduceNeg, Int.reduceToNat, Nat.reduceSub, Nat.reduceMul, Int.natCast_zero, Int.reduceDiv, Int.reduceMod, Int.toNat_natCast, fdiv_nn, min_bits_i, Int.reducePow, Nat.reducePow, Nat.reduceDiv, Nat.reduceMod, mb_i, mb_u, WpC_drawD, WpT_nil, WpT_cons, WpT_guard, WpK_nil, scal, fn24, ir24, t1, t2, dg_length, a4])
    all_goals (rw [cput, if_neg h1, if_neg h2, if_pos h3]; exact congrArg Value.string (bs_cons 254 _))
  · have t1 : XRBig [.int .u64 (N : Int), .int .i64 8] = _ := big_dg N 8 (by decide) hN (by omega)
    have t2 := turned_dg N 8 (by decide)
    simp only [ir17, D3]
    (repeat' first
    | (refine CondV_dec (fun _ => ?_) (fun _ => ?_) <;> try (exfalso; omega))
    | (refine GuardV_td (fun _ => ?_) (fun _ => ?_) <;> try (exfalso; omega))
    | (refine GuardV_fd (fun _ => ?_) (fun _ => ?_) <;> try (exfalso; omega))
    | (refine CondV_split (fun _ => ?_) (fun _ => ?_))
    | (refine Need_of (by first | omega | decide) ?_)
    | refine WpK_cons ?_ ?_
    | refine WpK_guard ?_
    | simp (disch := first | omega | simp only [List.length_append, List.length_set, List.length_cons, List.length_nil] <;> omega | fail) only [evA, ↓evB, ↓astep, ↓aop, aBin, aInt, aStr, aUn, aNil, aMax, aresults, ares, aPack, ↓reduceIte, ↓reduceCtorEq, Nat.reduceEqDiff, Nat.reduceAdd, env0, aLoad, aLoadN, cellsOf, Int.reduceEq, Int.reduceLT, Int.reduceLE, Nat.reduceLeDiff, oneC, aop.fillL, setL, aApp, aAppC_nil, aAppC_own, xop, eqCells, eqCell, rowOf, ↓acallop, aBound, aIntOf, flat, flatN, CX_fn, CX_X, CX_pol, aStore, Nat.reduceBEq, List.size_toArray, Int.sub_zero, Int.zero_add, Int.add_zero, Int.toNat_zero, Int.reduceAdd, Int.reduceSub, Int.reduceMul, Int.reduceNeg, Int.reduceToNat, Nat.reduceSub, Nat.reduceMul, Int.natCast_zero, Int.reduceDiv, Int.reduceMod, Int.toNat_natCast, fdiv_nn, min_bits_i, Int.reducePow, Nat.reducePow, Nat.reduceDiv, Nat.reduceMod, mb_i, mb_u, WpC_drawD, WpT_nil, WpT_cons, WpT_guard, WpK_nil, scal, fn24, ir24, t1, t2, dg_length, a5])
    all_goals (rw [cput, if_neg h1, if_neg h2, if_neg h3]; exact congrArg Value.string (bs_cons 255 _))
def XPut4 (args : List Value) : Option Value :=
  match args with
  | [.int .u64 n] => if 0 ≤ n ∧ n < 2 ^ 64 then some (.string (bs (cput n.toNat))) else none
  | _ => none
theorem XPut4_eq (n : Int) : XPut4 [.int .u64 n] = if 0 ≤ n ∧ n < 2 ^ 64 then some (.string (bs (cput n.toNat))) else none := rfl
theorem xput4 : XOk Tryd.prog 17 XPut4 := .of D3_ok rfl ok17 fun args v h => by
  unfold XPut4 at h
  split at h
  · rename_i n
    split at h
    · rename_i hn
      cases h
      have := wPut4 n.toNat (by omega)
      rw [Int.toNat_of_nonneg hn.1] at this
      exact ⟨rfl, rfl, 20, 0, this⟩
    · cases h
  · cases h
end F4
end Ev
end Go.Proofs.YtlcfanmmpfmnaaaDoor
