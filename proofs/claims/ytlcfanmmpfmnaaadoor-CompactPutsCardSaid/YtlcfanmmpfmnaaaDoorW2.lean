/-
  The package compact: what Next answers.
-/
import Derived.Test.YtlcfanmmpfmnaaaDoorW1
namespace Go.Proofs.YtlcfanmmpfmnaaaDoor
namespace Ev
namespace Cg
open Tag (mk)
open F4 (dg nm lsts putV seV getV neV XPutF XGetF XTurned XRBig XPutF_eq XGetF_eq XTurned_eq XRBig_eq empty_eq bs_append bs_cons bs_one bs_eq bl_bs')
set_option linter.unusedSimpArgs false
set_option linter.unusedVariables false
set_option maxRecDepth 4000
set_option maxHeartbeats 4000000
theorem bs_len (l : List Nat) : (bs l).size = l.length := bs_size l
theorem wNext (s : ByteArray) (hs : s.size < 2 ^ 63) (H : Heap) (T : TypeId) (h0 : H[0]? = some (.cells szs T false)) (m : Ev.Mode) (hl : m.lim ≤ H.length) (hf : m.fb ≤ H.length) (k : Nat) (hk : 12 < k) :
    Run (fun v _ => v = cnV (cnx s)) mk (acall D1 (k + 1) 16 [.string s] H m) := by
  have hlen := lt_of_get h0
  have hb := bAt_lt s 0
  refine Run_call (F := ir16) rfl (Nat.le_of_ble_eq_true rfl) ?_
  by_cases hz : s.size = 0
  · simp only [ir16, D1]
    (repeat' first
    | (refine CondV_dec (fun _ => ?_) (fun _ => ?_) <;> try (exfalso; omega))
    | (refine GuardV_td (fun _ => ?_) (fun _ => ?_) <;> try (exfalso; omega))
    | (refine GuardV_fd (fun _ => ?_) (fun _ => ?_) <;> try (exfalso; omega))
    | (refine CondV_split (fun _ => ?_) (fun _ => ?_))
    | (refine Need_of (by first | omega | decide) ?_)
    | refine WpK_cons ?_ ?_
    | refine WpK_guard ?_
    | simp (disch := first | omega | simp only [List.length_append, List.length_set, List.length_cons, List.length_nil] <;> omega | fail) only [evA, ↓evB, ↓astep, ↓aop, aBin, aInt, aStr, aUn, aNil, aMax, aresults, ares, aPack, ↓reduceIte, ↓reduceCtorEq, Nat.reduceEqDiff, Nat.reduceAdd, env0, aLoad, aLoadN, cellsOf, Int.reduceEq, Int.reduceLT, Int.reduceLE, Nat.reduceLeDiff, oneC, aop.fillL, setL, aApp, aAppC_nil, aAppC_own, xop, eqCells, eqCell, rowOf, ↓acallop, aBound, aIntOf, flat, flatN, CX_fn, CX_X, CX_pol, aStore, Nat.reduceBEq, List.size_toArray, Int.sub_zero, Int.zero_add, Int.add_zero, Int.toNat_zero, Int.reduceAdd, Int.reduceSub, Int.reduceMul, Int.reduceNeg, Int.reduceToNat, Nat.reduceSub, Nat.reduceMul, Int.natCast_zero, Int.reduceDiv, Int.reduceMod, Int.toNat_natCast, fdiv_nn, min_bits_i, Int.reducePow, Nat.reducePow, Nat.reduceDiv, Nat.reduceMod, mb_i, mb_u, WpC_drawD, WpT_nil, WpT_cons, WpT_guard, WpK_nil, scal, empty_eq, hz])
    all_goals (rw [cnx, if_pos hz]; rfl)
  by_cases hn : bAt s 0 < 253
  · simp only [ir16, D1]
    (repeat' first
    | (refine CondV_dec (fun _ => ?_) (fun _ => ?_) <;> try (exfalso; omega))
    | (refine GuardV_td (fun _ => ?_) (fun _ => ?_) <;> try (exfalso; omega))
    | (refine GuardV_fd (fun _ => ?_) (fun _ => ?_) <;> try (exfalso; omega))
    | (refine CondV_split (fun _ => ?_) (fun _ => ?_))
    | (refine Need_of (by first | omega | decide) ?_)
    | refine WpK_cons ?_ ?_
    | refine WpK_guard ?_
    | simp (disch := first | omega | simp only [List.length_append, List.length_set, List.length_cons, List.length_nil] <;> omega | fail) only [evA, ↓evB, ↓astep, ↓aop, aBin, aInt, aStr, aUn, aNil, aMax, aresults, ares, aPack, ↓reduceIte, ↓reduceCtorEq, Nat.reduceEqDiff, Nat.reduceAdd, env0, aLoad, aLoadN, cellsOf, Int.reduceEq, Int.reduceLT, Int.reduceLE, Nat.reduceLeDiff, oneC, aop.fillL, setL, aApp, aAppC_nil, aAppC_own, xop, eqCells, eqCell, rowOf, ↓acallop, aBound, aIntOf, flat, flatN, CX_fn, CX_X, CX_pol, aStore, Nat.reduceBEq, List.size_toArray, Int.sub_zero, Int.zero_add, Int.add_zero, Int.toNat_zero, Int.reduceAdd, Int.reduceSub, Int.reduceMul, Int.reduceNeg, Int.reduceToNat, Nat.reduceSub, Nat.reduceMul, Int.natCast_zero, Int.reduceDiv, Int.reduceMod, Int.toNat_natCast, fdiv_nn, min_bits_i, Int.reducePow, Nat.reducePow, Nat.reduceDiv, Nat.reduceMod, mb_i, mb_u, WpC_drawD, WpT_nil, WpT_cons, WpT_guard, WpK_nil, scal, empty_eq, hz])
    all_goals (rw [cnx, if_neg hz, if_pos hn]; rfl)
  have hc : bAt s 0 = 253 ∨ bAt s 0 = 254 ∨ bAt s 0 = 255 := by omega
  have h0' := h0
  simp only [szs] at h0'
  have key : ∀ w, w = cw (bAt s 0) → 1 + w ≤ s.size → w ≤ 8 → XGetF List.reverse [.string (s.extract 1 (1 + w))] = some (.tuple #[.int .u64 (nm (bl (s.extract 1 (1 + w))).reverse : Int), .int .i64 0]) ∧ nm (bl (s.extract 1 (1 + w))).reverse < 2 ^ 64 := fun w hw h1 h8 => by
    have hsz : (s.extract 1 (1 + w)).size = w := by rw [ByteArray.size_extract]; omega
    have hw1 : 1 ≤ w := by
      rw [hw, cw]
      split
      · decide
      · split <;> decide
    constructor
    · rw [XGetF_eq, if_pos (by omega), getV, if_neg (by omega), if_neg (by omega)]; rfl
    · have := F4.nm_lt (bl (s.extract 1 (1 + w))).reverse (fun b hb => bl_lt _ b (by simpa using hb))
      refine Nat.lt_of_lt_of_le this ?_
      rw [List.length_reverse, bl_length, hsz]
      calc 256 ^ w ≤ 256 ^ 8 := Nat.pow_le_pow_right (by decide) h8
        _ = 2 ^ 64 := by decide
  rcases hc with hc | hc | hc
  · have hcw : cw (bAt s 0) = 2 := by rw [hc]; rfl
    have hi0 : ((bAt s 0 : Nat) : Int) = 253 := by omega
    have hi1 : (253 : Int) - 253 = 0 := rfl
    have hi2 : Int.toNat 0 = 0 := rfl
    have hi3 : (1 : Int) + 2 = 3 := rfl
    have hi4 : Int.toNat 3 = 3 := rfl
    by_cases hs2 : s.size < 3
    · simp only [ir16, D1]
      (repeat' first
    | (refine CondV_dec (fun _ => ?_) (fun _ => ?_) <;> try (exfalso; omega))
    | (refine GuardV_td (fun _ => ?_) (fun _ => ?_) <;> try (exfalso; omega))
    | (refine GuardV_fd (fun _ => ?_) (fun _ => ?_) <;> try (exfalso; omega))
    | (refine CondV_split (fun _ => ?_) (fun _ => ?_))
    | (refine Need_of (by first | omega | decide) ?_)
    | refine WpK_cons ?_ ?_
    | refine WpK_guard ?_
    | simp (disch := first | omega | simp only [List.length_append, List.length_set, List.length_cons, List.length_nil] <;> omega | fail) only [evA, ↓evB, ↓astep, ↓aop, aBin, aInt, aStr, aUn, aNil, aMax, aresults, ares, aPack, ↓reduceIte, ↓reduceCtorEq, Nat.reduceEqDiff, Nat.reduceAdd, env0, aLoad, aLoadN, cellsOf, Int.reduceEq, Int.reduceLT, Int.reduceLE, Nat.reduceLeDiff, oneC, aop.fillL, setL, aApp, aAppC_nil, aAppC_own, xop, eqCells, eqCell, rowOf, ↓acallop, aBound, aIntOf, flat, flatN, CX_fn, CX_X, CX_pol, aStore, Nat.reduceBEq, List.size_toArray, Int.sub_zero, Int.zero_add, Int.add_zero, Int.toNat_zero, Int.reduceAdd, Int.reduceSub, Int.reduceMul, Int.reduceNeg, Int.reduceToNat, Nat.reduceSub, Nat.reduceMul, Int.natCast_zero, Int.reduceDiv, Int.reduceMod, Int.toNat_natCast, fdiv_nn, min_bits_i, Int.reducePow, Nat.reducePow, Nat.reduceDiv, Nat.reduceMod, mb_i, mb_u, WpC_drawD, WpT_nil, WpT_cons, WpT_guard, WpK_nil, scal, empty_eq, hz, oev_g, h0', hi0, hi1, hi2, hi3, hi4])
      all_goals (rw [cnx, if_neg hz, if_neg hn, if_pos (by omega)]; rfl)
    · obtain ⟨k1, k2⟩ := key 2 hcw.symm (by omega) (by decide)
      rw [show 1 + 2 = 3 from rfl] at k1 k2
      obtain ⟨N, hN⟩ : ∃ N, N = nm (bl (s.extract 1 3)).reverse := ⟨_, rfl⟩
      rw [← hN] at k1 k2
      obtain ⟨v, H', hE, rfl⟩ := Run_get (wPut N k2 H T h0 ⟨H.length, H.length⟩ (Nat.le_refl _) (Nat.le_refl _) 6 (by decide))
      simp only [D1] at hE
      simp only [ir16, D1]
      (repeat' first
    | (refine CondV_dec (fun _ => ?_) (fun _ => ?_) <;> try (exfalso; omega))
    | (refine GuardV_td (fun _ => ?_) (fun _ => ?_) <;> try (exfalso; omega))
    | (refine GuardV_fd (fun _ => ?_) (fun _ => ?_) <;> try (exfalso; omega))
    | (refine CondV_split (fun _ => ?_) (fun _ => ?_))
    | (refine Need_of (by first | omega | decide) ?_)
    | refine WpK_cons ?_ ?_
    | refine WpK_guard ?_
    | simp (disch := first | omega | simp only [List.length_append, List.length_set, List.length_cons, List.length_nil] <;> omega | fail) only [evA, ↓evB, ↓astep, ↓aop, aBin, aInt, aStr, aUn, aNil, aMax, aresults, ares, aPack, ↓reduceIte, ↓reduceCtorEq, Nat.reduceEqDiff, Nat.reduceAdd, env0, aLoad, aLoadN, cellsOf, Int.reduceEq, Int.reduceLT, Int.reduceLE, Nat.reduceLeDiff, oneC, aop.fillL, setL, aApp, aAppC_nil, aAppC_own, xop, eqCells, eqCell, rowOf, ↓acallop, aBound, aIntOf, flat, flatN, CX_fn, CX_X, CX_pol, aStore, Nat.reduceBEq, List.size_toArray, Int.sub_zero, Int.zero_add, Int.add_zero, Int.toNat_zero, Int.reduceAdd, Int.reduceSub, Int.reduceMul, Int.reduceNeg, Int.reduceToNat, Nat.reduceSub, Nat.reduceMul, Int.natCast_zero, Int.reduceDiv, Int.reduceMod, Int.toNat_natCast, fdiv_nn, min_bits_i, Int.reducePow, Nat.reducePow, Nat.reduceDiv, Nat.reduceMod, mb_i, mb_u, WpC_drawD, WpT_nil, WpT_cons, WpT_guard, WpK_nil, scal, empty_eq, hz, oev_g, h0', hi0, hi1, hi2, hi3, hi4, Int.toNat_one, k1, hE, bs_len])
      all_goals (
        rename_i q
        have hcx : cnx s = if (cput N).length = 1 + 2 then (N, 1 + 2, 0) else (0, 0, 3) := by
          subst hN
          rw [cnx, if_neg hz, if_neg hn, hcw, if_neg (by omega)] <;> rfl
        rw [hcx]
        first | (rw [if_pos (by omega)]; rfl) | (rw [if_neg (by omega)]; rfl))
  · have hcw : cw (bAt s 0) = 4 := by rw [hc]; rfl
    have hi0 : ((bAt s 0 : Nat) : Int) = 254 := by omega
    have hi1 : (254 : Int) - 253 = 1 := rfl
    have hi2 : Int.toNat 1 = 1 := rfl
    have hi3 : (1 : Int) + 4 = 5 := rfl
    have hi4 : Int.toNat 5 = 5 := rfl
    by_cases hs2 : s.size < 5
    · simp only [ir16, D1]
      (repeat' first
    | (refine CondV_dec (fun _ => ?_) (fun _ => ?_) <;> try (exfalso; omega))
    | (refine GuardV_td (fun _ => ?_) (fun _ => ?_) <;> try (exfalso; omega))
    | (refine GuardV_fd (fun _ => ?_) (fun _ => ?_) <;> try (exfalso; omega))
    | (refine CondV_split (fun _ => ?_) (fun _ => ?_))
    | (refine Need_of (by first | omega | decide) ?_)
    | refine WpK_cons ?_ ?_
    | refine WpK_guard ?_
    | simp (disch := first | omega | simp only [List.length_append, List.length_set, List.length_cons, List.length_nil] <;> omega | fail) only [evA, ↓evB, ↓astep, ↓aop, aBin, aInt, aStr, aUn, aNil, aMax, aresults, ares, aPack, ↓reduceIte, ↓reduceCtorEq, Nat.reduceEqDiff, Nat.reduceAdd, env0, aLoad, aLoadN, cellsOf, Int.reduceEq, Int.reduceLT, Int.reduceLE, Nat.reduceLeDiff, oneC, aop.fillL, setL, aApp, aAppC_nil, aAppC_own, xop, eqCells, eqCell, rowOf, ↓acallop, aBound, aIntOf, flat, flatN, CX_fn, CX_X, CX_pol, aStore, Nat.reduceBEq, List.size_toArray, Int.sub_zero, Int.zero_add, Int.add_zero, Int.toNat_zero, Int.reduceAdd, Int.reduceSub, Int.reduceMul, Int.reduceNeg, Int.reduceToNat, Nat.reduceSub, Nat.reduceMul, Int.natCast_zero, Int.reduceDiv, Int.reduceMod, Int.toNat_natCast, fdiv_nn, min_bits_i, Int.reducePow, Nat.reducePow, Nat.reduceDiv, Nat.reduceMod, mb_i, mb_u, WpC_drawD, WpT_nil, WpT_cons, WpT_guard, WpK_nil, scal, empty_eq, hz, oev_g, h0', hi0, hi1, hi2, hi3, hi4])
      all_goals (rw [cnx, if_neg hz, if_neg hn, if_pos (by omega)]; rfl)
    · obtain ⟨k1, k2⟩ := key 4 hcw.symm (by omega) (by decide)
      rw [show 1 + 4 = 5 from rfl] at k1 k2
      obtain ⟨N, hN⟩ : ∃ N, N = nm (bl (s.extract 1 5)).reverse := ⟨_, rfl⟩
      rw [← hN] at k1 k2
      obtain ⟨v, H', hE, rfl⟩ := Run_get (wPut N k2 H T h0 ⟨H.length, H.length⟩ (Nat.le_refl _) (Nat.le_refl _) 6 (by decide))
      simp only [D1] at hE
      simp only [ir16, D1]
      (repeat' first
    | (refine CondV_dec (fun _ => ?_) (fun _ => ?_) <;> try (exfalso; omega))
    | (refine GuardV_td (fun _ => ?_) (fun _ => ?_) <;> try (exfalso; omega))
    | (refine GuardV_fd (fun _ => ?_) (fun _ => ?_) <;> try (exfalso; omega))
    | (refine CondV_split (fun _ => ?_) (fun _ => ?_))
    | (refine Need_of (by first | omega | decide) ?_)
    | refine WpK_cons ?_ ?_
    | refine WpK_guard ?_
    | simp (disch := first | omega | simp only [List.length_append, List.length_set, List.length_cons, List.length_nil] <;> omega | fail) only [evA, ↓evB, ↓astep, ↓aop, aBin, aInt, aStr, aUn, aNil, aMax, aresults, ares, aPack, ↓reduceIte, ↓reduceCtorEq, Nat.reduceEqDiff, Nat.reduceAdd, env0, aLoad, aLoadN, cellsOf, Int.reduceEq, Int.reduceLT, Int.reduceLE, Nat.reduceLeDiff, oneC, aop.fillL, setL, aApp, aAppC_nil, aAppC_own, xop, eqCells, eqCell, rowOf, ↓acallop, aBound, aIntOf, flat, flatN, CX_fn, CX_X, CX_pol, aStore, Nat.reduceBEq, List.size_toArray, Int.sub_zero, Int.zero_add, Int.add_zero, Int.toNat_zero, Int.reduceAdd, Int.reduceSub, Int.reduceMul, Int.reduceNeg, Int.reduceToNat, Nat.reduceSub, Nat.reduceMul, Int.natCast_zero, Int.reduceDiv, Int.reduceMod, Int.toNat_natCast, fdiv_nn, min_bits_i, Int.reducePow, Nat.reducePow, Nat.reduceDiv, Nat.reduceMod, mb_i, mb_u, WpC_drawD, WpT_nil, WpT_cons, WpT_guard, WpK_nil, scal, empty_eq, hz, oev_g, h0', hi0, hi1, hi2, hi3, hi4, Int.toNat_one, k1, hE, bs_len])
      all_goals (
        rename_i q
        have hcx : cnx s = if (cput N).length = 1 + 4 then (N, 1 + 4, 0) else (0, 0, 3) := by
          subst hN
          rw [cnx, if_neg hz, if_neg hn, hcw, if_neg (by omega)] <;> rfl
        rw [hcx]
        first | (rw [if_pos (by omega)]; rfl) | (rw [if_neg (by omega)]; rfl))
  · have hcw : cw (bAt s 0) = 8 := by rw [hc]; rfl
    have hi0 : ((bAt s 0 : Nat) : Int) = 255 := by omega
    have hi1 : (255 : Int) - 253 = 2 := rfl
    have hi2 : Int.toNat 2 = 2 := rfl
    have hi3 : (1 : Int) + 8 = 9 := rfl
    have hi4 : Int.toNat 9 = 9 := rfl
    by_cases hs2 : s.size < 9
    · simp only [ir16, D1]
      (repeat' first
    | (refine CondV_dec (fun _ => ?_) (fun _ => ?_) <;> try (exfalso; omega))
    | (refine GuardV_td (fun _ => ?_) (fun _ => ?_) <;> try (exfalso; omega))
    | (refine GuardV_fd (fun _ => ?_) (fun _ => ?_) <;> try (exfalso; omega))
    | (refine CondV_split (fun _ => ?_) (fun _ => ?_))
    | (refine Need_of (by first | omega | decide) ?_)
    | refine WpK_cons ?_ ?_
    | refine WpK_guard ?_
    | simp (disch := first | omega | simp only [List.length_append, List.length_set, List.length_cons, List.length_nil] <;> omega | fail) only [evA, ↓evB, ↓astep, ↓aop, aBin, aInt, aStr, aUn, aNil, aMax, aresults, ares, aPack, ↓reduceIte, ↓reduceCtorEq, Nat.reduceEqDiff, Nat.reduceAdd, env0, aLoad, aLoadN, cellsOf, Int.reduceEq, Int.reduceLT, Int.reduceLE, Nat.reduceLeDiff, oneC, aop.fillL, setL, aApp, aAppC_nil, aAppC_own, xop, eqCells, eqCell, rowOf, ↓acallop, aBound, aIntOf, flat, flatN, CX_fn, CX_X, CX_pol, aStore, Nat.reduceBEq, List.size_toArray, Int.sub_zero, Int.zero_add, Int.add_zero, Int.toNat_zero, Int.reduceAdd, Int.reduceSub, Int.reduceMul, Int.reduceNeg, Int.reduceToNat, Nat.reduceSub, Nat.reduceMul, Int.natCast_zero, Int.reduceDiv, Int.reduceMod, Int.toNat_natCast, fdiv_nn, min_bits_i, Int.reducePow, Nat.reducePow, Nat.reduceDiv, Nat.reduceMod, mb_i, mb_u, WpC_drawD, WpT_nil, WpT_cons, WpT_guard, WpK_nil, scal, empty_eq, hz, oev_g, h0', hi0, hi1, hi2, hi3, hi4])
      all_goals (rw [cnx, if_neg hz, if_neg hn, if_pos (by omega)]; rfl)
    · obtain ⟨k1, k2⟩ := key 8 hcw.symm (by omega) (by decide)
      rw [show 1 + 8 = 9 from rfl] at k1 k2
      obtain ⟨N, hN⟩ : ∃ N, N = nm (bl (s.extract 1 9)).reverse := ⟨_, rfl⟩
      rw [← hN] at k1 k2
      obtain ⟨v, H', hE, rfl⟩ := Run_get (wPut N k2 H T h0 ⟨H.length, H.length⟩ (Nat.le_refl _) (Nat.le_refl _) 6 (by decide))
      simp only [D1] at hE
      simp only [ir16, D1]
      (repeat' first
    | (refine CondV_dec (fun _ => ?_) (fun _ => ?_) <;> try (exfalso; omega))
    | (refine GuardV_td (fun _ => ?_) (fun _ => ?_) <;> try (exfalso; omega))
    | (refine GuardV_fd (fun _ => ?_) (fun _ => ?_) <;> try (exfalso; omega))
    | (refine CondV_split (fun _ => ?_) (fun _ => ?_))
    | (refine Need_of (by first | omega | decide) ?_)
    | refine WpK_cons ?_ ?_
    | refine WpK_guard ?_
    | simp (disch := first | omega | simp only [List.length_append, List.length_set, List.length_cons, List.length_nil] <;> omega | fail) only [evA, ↓evB, ↓astep, ↓aop, aBin, aInt, aStr, aUn, aNil, aMax, aresults, ares, aPack, ↓reduceIte, ↓reduceCtorEq, Nat.reduceEqDiff, Nat.reduceAdd, env0, aLoad, aLoadN, cellsOf, Int.reduceEq, Int.reduceLT, Int.reduceLE, Nat.reduceLeDiff, oneC, aop.fillL, setL, aApp, aAppC_nil, aAppC_own, xop, eqCells, eqCell, rowOf, ↓acallop, aBound, aIntOf, flat, flatN, CX_fn, CX_X, CX_pol, aStore, Nat.reduceBEq, List.size_toArray, Int.sub_zero, Int.zero_add, Int.add_zero, Int.toNat_zero, Int.reduceAdd, Int.reduceSub, Int.reduceMul, Int.reduceNeg, Int.reduceToNat, Nat.reduceSub, Nat.reduceMul, Int.natCast_zero, Int.reduceDiv, Int.reduceMod, Int.toNat_natCast, fdiv_nn, min_bits_i, Int.reducePow, Nat.reducePow, Nat.reduceDiv, Nat.reduceMod, mb_i, mb_u, WpC_drawD, WpT_nil, WpT_cons, WpT_guard, WpK_nil, scal, empty_eq, hz, oev_g, h0', hi0, hi1, hi2, hi3, hi4, Int.toNat_one, k1, hE, bs_len])
      all_goals (
        rename_i q
        have hcx : cnx s = if (cput N).length = 1 + 8 then (N, 1 + 8, 0) else (0, 0, 3) := by
          subst hN
          rw [cnx, if_neg hz, if_neg hn, hcw, if_neg (by omega)] <;> rfl
        rw [hcx]
        first | (rw [if_pos (by omega)]; rfl) | (rw [if_neg (by omega)]; rfl))
end Cg
end Ev
end Go.Proofs.YtlcfanmmpfmnaaaDoor
