/-
  The document's reading of a compact number.
-/
import Derived.Test.YtfbelnjchpffeaaDoorF2
namespace Go.Proofs.YtfbelnjchpffeaaDoor
namespace Ev
namespace F4
open Tag (mk)
open Cg (cput cw cnx cnV)
set_option linter.unusedSimpArgs false
set_option linter.unusedVariables false
set_option maxRecDepth 4000
set_option maxHeartbeats 4000000
theorem cw_cases {b : Nat} (h : 253 ≤ b) (h2 : b < 256) : (b = 253 ∧ cw b = 2) ∨ (b = 254 ∧ cw b = 4) ∨ (b = 255 ∧ cw b = 8) := by
  obtain rfl | rfl | rfl : b = 253 ∨ b = 254 ∨ b = 255 := by omega
  · exact .inl ⟨rfl, rfl⟩
  · exact .inr (.inl ⟨rfl, rfl⟩)
  · exact .inr (.inr ⟨rfl, rfl⟩)
theorem cput_of_len {N b w : Nat} (h : 253 ≤ b) (h2 : b < 256) (hw : w = cw b) (hl : (cput N).length = 1 + w) (hN : N < 2 ^ 64) : cput N = b :: dg N w ∧ N < 2 ^ (8 * w) := by
  have hc := cw_cases h h2
  rw [cput] at hl ⊢
  split at hl
  · simp at hl; omega
  · split at hl
    · simp [dg_length] at hl
      obtain ⟨rfl, hc⟩ | ⟨rfl, hc⟩ | ⟨rfl, hc⟩ := hc <;> rw [← hw] at hc <;> subst hc <;> first | omega | skip
      rename_i h1 h3
      rw [if_neg h1, if_pos h3]; exact ⟨rfl, by omega⟩
    · split at hl
      · simp [dg_length] at hl
        obtain ⟨rfl, hc⟩ | ⟨rfl, hc⟩ | ⟨rfl, hc⟩ := hc <;> rw [← hw] at hc <;> subst hc <;> first | omega | skip
        rename_i h1 h3 h4
        rw [if_neg h1, if_neg h3, if_pos h4]; exact ⟨rfl, by omega⟩
      · simp [dg_length] at hl
        obtain ⟨rfl, hc⟩ | ⟨rfl, hc⟩ | ⟨rfl, hc⟩ := hc <;> rw [← hw] at hc <;> subst hc <;> first | omega | skip
        rename_i h1 h3 h4
        rw [if_neg h1, if_neg h3, if_neg h4]; exact ⟨rfl, by omega⟩
theorem bl_head (s : ByteArray) (w : Nat) (h : 1 + w ≤ s.size) : bl (s.extract 0 (1 + w)) = bAt s 0 :: bl (s.extract 1 (1 + w)) := by
  rw [bl_extract, bl_extract, bAt_bl]
  have hl : (bl s).length = s.size := bl_length s
  cases hx : bl s with
  | nil => rw [hx] at hl; simp at hl; omega
  | cons x r => rw [Nat.add_comm 1 w]; simp
theorem cput_iff (s : ByteArray) (N w : Nat) (h : 253 ≤ bAt s 0) (hw : w = cw (bAt s 0)) (hs : 1 + w ≤ s.size) (hN : N = nm (bl (s.extract 1 (1 + w))).reverse) (h64 : N < 2 ^ 64) :
    bs (cput N) = s.extract 0 (1 + w) ↔ (cput N).length = 1 + w := by
  constructor
  · intro e
    have := congrArg ByteArray.size e
    rw [bs_size, ByteArray.size_extract] at this
    omega
  · intro hl
    obtain ⟨e, hN2⟩ := cput_of_len h (bAt_lt s 0) hw hl h64
    have hsz : (bl (s.extract 1 (1 + w))).length = w := by rw [bl_length, ByteArray.size_extract]; omega
    have hd : dg N w = bl (s.extract 1 (1 + w)) := by
      have := nm_inj (dg N w).reverse (bl (s.extract 1 (1 + w))).reverse (by rw [List.length_reverse, List.length_reverse, dg_length, hsz]) (fun b hb => dg_lt N w b (by simpa using hb)) (fun b hb => bl_lt _ b (by simpa using hb)) (by rw [dg_nm w N hN2, hN])
      exact List.reverse_inj.1 this
    rw [e, hd, ← bl_head s w hs, bs_bl]
theorem cput_small (s : ByteArray) (hz : s.size ≠ 0) (h : bAt s 0 < 253) : bs (cput (bAt s 0)) = s.extract 0 1 := by
  have := bl_head s 0 (by omega)
  have h1 : bl (s.extract 1 (1 + 0)) = [] := by rw [bl_extract]; simp
  rw [h1] at this
  rw [cput, if_pos h, ← this, bs_bl]
noncomputable def D4 : Cf := CX (xtab [(11, XPut4), (10, XTurned), (9, XNumber)]) (polt [])
theorem D4_ok : D4.Ok := CX_ok (all_cons xput4 (all_cons x47 (all_cons x48 all_nil))) al_no
theorem wNext4 (s : ByteArray) (hs : s.size < 2 ^ 62) : Run (fun v _ => v = cnV (cnx s)) mk (acall D4 20 6 [.string s] [] ⟨0, 0⟩) := by
  refine Run_call (F := ir6) rfl (Nat.le_of_ble_eq_true rfl) ?_
  by_cases hz : s.size = 0
  · simp only [ir6, D4]
    (repeat' first
    | (refine CondV_dec (fun _ => ?_) (fun _ => ?_) <;> try (exfalso; omega))
    | (refine GuardV_td (fun _ => ?_) (fun _ => ?_) <;> try (exfalso; omega))
    | (refine GuardV_fd (fun _ => ?_) (fun _ => ?_) <;> try (exfalso; omega))
    | (refine CondV_split (fun _ => ?_) (fun _ => ?_))
    | (refine Need_of (by first | omega | decide) ?_)
    | refine WpK_cons ?_ ?_
    | refine WpK_guard ?_
    | simp (disch := first | omega | simp only [List.length_append, List.length_set, List.length_cons, List.length_nil] <;> omega | fail) only [evA, ↓evB, ↓astep, ↓aop, aBin, aInt, aStr, aUn, aNil, aMax, aresults, ares, aPack, ↓reduceIte, ↓reduceCtorEq, Nat.reduceEqDiff, Nat.reduceAdd, env0, aLoad, aLoadN, cellsOf, Int.reduceEq, Int.reduceLT, Int.reduceLE, Nat.reduceLeDiff, oneC, aop.fillL, setL, aApp, aAppC_nil, aAppC_own, xop, eqCells, eqCell, rowOf, ↓acallop, aBound, aIntOf, flat, flatN, CX_fn, CX_X, CX_pol, aStore, Nat.reduceBEq, List.size_toArray, Int.sub_zero, Int.zero_add, Int.add_zero, Int.toNat_zero, Int.reduceAdd, Int.reduceSub, Int.reduceMul, Int.reduceNeg, Int.reduceToNat, Nat.reduceSub, Nat.reduceMul, Int.natCast_zero, Int.reduceDiv, Int.reduceMod, Int.toNat_natCast, fdiv_nn, min_bits_i, Int.reducePow, Nat.reducePow, Nat.reduceDiv, Nat.reduceMod, mb_i, mb_u, WpC_drawD, WpT_nil, WpT_cons, WpT_guard, WpK_nil, scal, empty_eq, hz])
    all_goals (rw [cnx, if_pos hz]; rfl)
  have hb := bAt_lt s 0
  by_cases hn : bAt s 0 < 253
  · have hp := XPut4_eq (bAt s 0 : Int)
    rw [if_pos (by omega), Int.toNat_natCast, cput_small s hz hn] at hp
    simp only [ir6, D4]
    (repeat' first
    | (refine CondV_dec (fun _ => ?_) (fun _ => ?_) <;> try (exfalso; omega))
    | (refine GuardV_td (fun _ => ?_) (fun _ => ?_) <;> try (exfalso; omega))
    | (refine GuardV_fd (fun _ => ?_) (fun _ => ?_) <;> try (exfalso; omega))
    | (refine CondV_split (fun _ => ?_) (fun _ => ?_))
    | (refine Need_of (by first | omega | decide) ?_)
    | refine WpK_cons ?_ ?_
    | refine WpK_guard ?_
    | simp (disch := first | omega | simp only [List.length_append, List.length_set, List.length_cons, List.length_nil] <;> omega | fail) only [evA, ↓evB, ↓astep, ↓aop, aBin, aInt, aStr, aUn, aNil, aMax, aresults, ares, aPack, ↓reduceIte, ↓reduceCtorEq, Nat.reduceEqDiff, Nat.reduceAdd, env0, aLoad, aLoadN, cellsOf, Int.reduceEq, Int.reduceLT, Int.reduceLE, Nat.reduceLeDiff, oneC, aop.fillL, setL, aApp, aAppC_nil, aAppC_own, xop, eqCells, eqCell, rowOf, ↓acallop, aBound, aIntOf, flat, flatN, CX_fn, CX_X, CX_pol, aStore, Nat.reduceBEq, List.size_toArray, Int.sub_zero, Int.zero_add, Int.add_zero, Int.toNat_zero, Int.reduceAdd, Int.reduceSub, Int.reduceMul, Int.reduceNeg, Int.reduceToNat, Nat.reduceSub, Nat.reduceMul, Int.natCast_zero, Int.reduceDiv, Int.reduceMod, Int.toNat_natCast, fdiv_nn, min_bits_i, Int.reducePow, Nat.reducePow, Nat.reduceDiv, Nat.reduceMod, mb_i, mb_u, WpC_drawD, WpT_nil, WpT_cons, WpT_guard, WpK_nil, scal, empty_eq, hz, hp, Int.toNat_one, Int.toNat_zero])
    all_goals trace_state
    all_goals (rw [cnx, if_neg hz, if_pos hn]; rfl)
  have hcw := cw_cases (by omega : 253 ≤ bAt s 0) hb
  have key : ∀ w, w = cw (bAt s 0) → 1 + w ≤ s.size → w ≤ 8 → ∃ N, N = nm (bl (s.extract 1 (1 + w))).reverse ∧ N < 2 ^ 64 ∧ XTurned [.string (s.extract 1 (1 + w))] = some (.string (bs (bl (s.extract 1 (1 + w))).reverse)) ∧
      XNumber [.string (bs (bl (s.extract 1 (1 + w))).reverse)] = some (.int .u64 (N : Int)) ∧ XPut4 [.int .u64 (N : Int)] = some (.string (bs (cput N))) ∧
      ((bs (cput N) = s.extract 0 (1 + w)) = ((cput N).length = 1 + w)) ∧ cnx s = (if (cput N).length = 1 + w then (N, 1 + w, 0) else (0, 0, 3)) := fun w hw h1 h8 => by
    have hsz : (s.extract 1 (1 + w)).size = w := by rw [ByteArray.size_extract]; omega
    have hlt : nm (bl (s.extract 1 (1 + w))).reverse < 2 ^ 64 := by
      have := nm_lt (bl (s.extract 1 (1 + w))).reverse (fun b hb => bl_lt _ b (by simpa using hb))
      refine Nat.lt_of_lt_of_le this ?_
      rw [List.length_reverse, bl_length, hsz]
      calc 256 ^ w ≤ 256 ^ 8 := Nat.pow_le_pow_right (by decide) h8
        _ = 2 ^ 64 := by decide
    have hrl : (bs (bl (s.extract 1 (1 + w))).reverse).size = w := by rw [bs_size, List.length_reverse, bl_length, hsz]
    refine ⟨_, rfl, hlt, ?_, ?_, ?_, propext (cput_iff s _ w (by omega) hw h1 rfl hlt), ?_⟩
    · rw [XTurned_eq, if_pos (by omega)]
    · rw [XNumber_eq, if_pos (by omega), bl_bs_lt _ (fun b hb => bl_lt _ b (by simpa using hb))]
    · rw [XPut4_eq, if_pos (by omega), Int.toNat_natCast]
    · rw [cnx, if_neg hz, if_neg hn, ← hw, if_neg (by omega)]
  rcases hcw with ⟨hc, hw⟩ | ⟨hc, hw⟩ | ⟨hc, hw⟩
  · have hi0 : ((bAt s 0 : Nat) : Int) = 253 := by omega
    have hi4 : Int.toNat 3 = 3 := rfl
    by_cases hs2 : s.size < 3
    · simp only [ir6, D4]
      (repeat' first
    | (refine CondV_dec (fun _ => ?_) (fun _ => ?_) <;> try (exfalso; omega))
    | (refine GuardV_td (fun _ => ?_) (fun _ => ?_) <;> try (exfalso; omega))
    | (refine GuardV_fd (fun _ => ?_) (fun _ => ?_) <;> try (exfalso; omega))
    | (refine CondV_split (fun _ => ?_) (fun _ => ?_))
    | (refine Need_of (by first | omega | decide) ?_)
    | refine WpK_cons ?_ ?_
    | refine WpK_guard ?_
    | simp (disch := first | omega | simp only [List.length_append, List.length_set, List.length_cons, List.length_nil] <;> omega | fail) only [evA, ↓evB, ↓astep, ↓aop, aBin, aInt, aStr, aUn, aNil, aMax, aresults, ares, aPack, ↓reduceIte, ↓reduceCtorEq, Nat.reduceEqDiff, Nat.reduceAdd, env0, aLoad, aLoadN, cellsOf, Int.reduceEq, Int.reduceLT, Int.reduceLE, Nat.reduceLeDiff, oneC, aop.fillL, setL, aApp, aAppC_nil, aAppC_own, xop, eqCells, eqCell, rowOf, ↓acallop, aBound, aIntOf, flat, flatN, CX_fn, CX_X, CX_pol, aStore, Nat.reduceBEq, List.size_toArray, Int.sub_zero, Int.zero_add, Int.add_zero, Int.toNat_zero, Int.reduceAdd, Int.reduceSub, Int.reduceMul, Int.reduceNeg, Int.reduceToNat, Nat.reduceSub, Nat.reduceMul, Int.natCast_zero, Int.reduceDiv, Int.reduceMod, Int.toNat_natCast, fdiv_nn, min_bits_i, Int.reducePow, Nat.reducePow, Nat.reduceDiv, Nat.reduceMod, mb_i, mb_u, WpC_drawD, WpT_nil, WpT_cons, WpT_guard, WpK_nil, scal, empty_eq, hz, hi0])
      all_goals (rw [cnx, if_neg hz, if_neg hn, if_pos (by omega)]; rfl)
    · obtain ⟨N, hN, h64, k1, k2, k3, k4, k5⟩ := key 2 hw.symm (by omega) (by decide)
      rw [show 1 + 2 = 3 from rfl] at k1 k2 k4 k5
      rw [k5]
      simp only [ir6, D4]
      (repeat' first
    | (refine CondV_dec (fun _ => ?_) (fun _ => ?_) <;> try (exfalso; omega))
    | (refine GuardV_td (fun _ => ?_) (fun _ => ?_) <;> try (exfalso; omega))
    | (refine GuardV_fd (fun _ => ?_) (fun _ => ?_) <;> try (exfalso; omega))
    | (refine CondV_split (fun _ => ?_) (fun _ => ?_))
    | (refine Need_of (by first | omega | decide) ?_)
    | refine WpK_cons ?_ ?_
    | refine WpK_guard ?_
    | simp (disch := first | omega | simp only [List.length_append, List.length_set, List.length_cons, List.length_nil] <;> omega | fail) only [evA, ↓evB, ↓astep, ↓aop, aBin, aInt, aStr, aUn, aNil, aMax, aresults, ares, aPack, ↓reduceIte, ↓reduceCtorEq, Nat.reduceEqDiff, Nat.reduceAdd, env0, aLoad, aLoadN, cellsOf, Int.reduceEq, Int.reduceLT, Int.reduceLE, Nat.reduceLeDiff, oneC, aop.fillL, setL, aApp, aAppC_nil, aAppC_own, xop, eqCells, eqCell, rowOf, ↓acallop, aBound, aIntOf, flat, flatN, CX_fn, CX_X, CX_pol, aStore, Nat.reduceBEq, List.size_toArray, Int.sub_zero, Int.zero_add, Int.add_zero, Int.toNat_zero, Int.reduceAdd, Int.reduceSub, Int.reduceMul, Int.reduceNeg, Int.reduceToNat, Nat.reduceSub, Nat.reduceMul, Int.natCast_zero, Int.reduceDiv, Int.reduceMod, Int.toNat_natCast, fdiv_nn, min_bits_i, Int.reducePow, Nat.reducePow, Nat.reduceDiv, Nat.reduceMod, mb_i, mb_u, WpC_drawD, WpT_nil, WpT_cons, WpT_guard, WpK_nil, scal, empty_eq, hz, hi0, hi4, Int.toNat_one, Int.toNat_zero, k1, k2, k3, k4])
      all_goals (rename_i q; first | (rw [if_pos (by omega)]; rfl) | (rw [if_neg (by omega)]; rfl))
  · have hi0 : ((bAt s 0 : Nat) : Int) = 254 := by omega
    have hi4 : Int.toNat 5 = 5 := rfl
    by_cases hs2 : s.size < 5
    · simp only [ir6, D4]
      (repeat' first
    | (refine CondV_dec (fun _ => ?_) (fun _ => ?_) <;> try (exfalso; omega))
    | (refine GuardV_td (fun _ => ?_) (fun _ => ?_) <;> try (exfalso; omega))
    | (refine GuardV_fd (fun _ => ?_) (fun _ => ?_) <;> try (exfalso; omega))
    | (refine CondV_split (fun _ => ?_) (fun _ => ?_))
    | (refine Need_of (by first | omega | decide) ?_)
    | refine WpK_cons ?_ ?_
    | refine WpK_guard ?_
    | simp (disch := first | omega | simp only [List.length_append, List.length_set, List.length_cons, List.length_nil] <;> omega | fail) only [evA, ↓evB, ↓astep, ↓aop, aBin, aInt, aStr, aUn, aNil, aMax, aresults, ares, aPack, ↓reduceIte, ↓reduceCtorEq, Nat.reduceEqDiff, Nat.reduceAdd, env0, aLoad, aLoadN, cellsOf, Int.reduceEq, Int.reduceLT, Int.reduceLE, Nat.reduceLeDiff, oneC, aop.fillL, setL, aApp, aAppC_nil, aAppC_own, xop, eqCells, eqCell, rowOf, ↓acallop, aBound, aIntOf, flat, flatN, CX_fn, CX_X, CX_pol, aStore, Nat.reduceBEq, List.size_toArray, Int.sub_zero, Int.zero_add, Int.add_zero, Int.toNat_zero, Int.reduceAdd, Int.reduceSub, Int.reduceMul, Int.reduceNeg, Int.reduceToNat, Nat.reduceSub, Nat.reduceMul, Int.natCast_zero, Int.reduceDiv, Int.reduceMod, Int.toNat_natCast, fdiv_nn, min_bits_i, Int.reducePow, Nat.reducePow, Nat.reduceDiv, Nat.reduceMod, mb_i, mb_u, WpC_drawD, WpT_nil, WpT_cons, WpT_guard, WpK_nil, scal, empty_eq, hz, hi0])
      all_goals (rw [cnx, if_neg hz, if_neg hn, if_pos (by omega)]; rfl)
    · obtain ⟨N, hN, h64, k1, k2, k3, k4, k5⟩ := key 4 hw.symm (by omega) (by decide)
      rw [show 1 + 4 = 5 from rfl] at k1 k2 k4 k5
      rw [k5]
      simp only [ir6, D4]
      (repeat' first
    | (refine CondV_dec (fun _ => ?_) (fun _ => ?_) <;> try (exfalso; omega))
    | (refine GuardV_td (fun _ => ?_) (fun _ => ?_) <;> try (exfalso; omega))
    | (refine GuardV_fd (fun _ => ?_) (fun _ => ?_) <;> try (exfalso; omega))
    | (refine CondV_split (fun _ => ?_) (fun _ => ?_))
    | (refine Need_of (by first | omega | decide) ?_)
    | refine WpK_cons ?_ ?_
    | refine WpK_guard ?_
    | simp (disch := first | omega | simp only [List.length_append, List.length_set, List.length_cons, List.length_nil] <;> omega | fail) only [evA, ↓evB, ↓astep, ↓aop, aBin, aInt, aStr, aUn, aNil, aMax, aresults, ares, aPack, ↓reduceIte, ↓reduceCtorEq, Nat.reduceEqDiff, Nat.reduceAdd, env0, aLoad, aLoadN, cellsOf, Int.reduceEq, Int.reduceLT, Int.reduceLE, Nat.reduceLeDiff, oneC, aop.fillL, setL, aApp, aAppC_nil, aAppC_own, xop, eqCells, eqCell, rowOf, ↓acallop, aBound, aIntOf, flat, flatN, CX_fn, CX_X, CX_pol, aStore, Nat.reduceBEq, List.size_toArray, Int.sub_zero, Int.zero_add, Int.add_zero, Int.toNat_zero, Int.reduceAdd, Int.reduceSub, Int.reduceMul, Int.reduceNeg, Int.reduceToNat, Nat.reduceSub, Nat.reduceMul, Int.natCast_zero, Int.reduceDiv, Int.reduceMod, Int.toNat_natCast, fdiv_nn, min_bits_i, Int.reducePow, Nat.reducePow, Nat.reduceDiv, Nat.reduceMod, mb_i, mb_u, WpC_drawD, WpT_nil, WpT_cons, WpT_guard, WpK_nil, scal, empty_eq, hz, hi0, hi4, Int.toNat_one, Int.toNat_zero, k1, k2, k3, k4])
      all_goals (rename_i q; first | (rw [if_pos (by omega)]; rfl) | (rw [if_neg (by omega)]; rfl))
  · have hi0 : ((bAt s 0 : Nat) : Int) = 255 := by omega
    have hi4 : Int.toNat 9 = 9 := rfl
    by_cases hs2 : s.size < 9
    · simp only [ir6, D4]
      (repeat' first
    | (refine CondV_dec (fun _ => ?_) (fun _ => ?_) <;> try (exfalso; omega))
    | (refine GuardV_td (fun _ => ?_) (fun _ => ?_) <;> try (exfalso; omega))
    | (refine GuardV_fd (fun _ => ?_) (fun _ => ?_) <;> try (exfalso; omega))
    | (refine CondV_split (fun _ => ?_) (fun _ => ?_))
    | (refine Need_of (by first | omega | decide) ?_)
    | refine WpK_cons ?_ ?_
    | refine WpK_guard ?_
    | simp (disch := first | omega | simp only [List.length_append, List.length_set, List.length_cons, List.length_nil] <;> omega | fail) only [evA, ↓evB, ↓astep, ↓aop, aBin, aInt, aStr, aUn, aNil, aMax, aresults, ares, aPack, ↓reduceIte, ↓reduceCtorEq, Nat.reduceEqDiff, Nat.reduceAdd, env0, aLoad, aLoadN, cellsOf, Int.reduceEq, Int.reduceLT, Int.reduceLE, Nat.reduceLeDiff, oneC, aop.fillL, setL, aApp, aAppC_nil, aAppC_own, xop, eqCells, eqCell, rowOf, ↓acallop, aBound, aIntOf, flat, flatN, CX_fn, CX_X, CX_pol, aStore, Nat.reduceBEq, List.size_toArray, Int.sub_zero, Int.zero_add, Int.add_zero, Int.toNat_zero, Int.reduceAdd, Int.reduceSub, Int.reduceMul, Int.reduceNeg, Int.reduceToNat, Nat.reduceSub, Nat.reduceMul, Int.natCast_zero, Int.reduceDiv, Int.reduceMod, Int.toNat_natCast, fdiv_nn, min_bits_i, Int.reducePow, Nat.reducePow, Nat.reduceDiv, Nat.reduceMod, mb_i, mb_u, WpC_drawD, WpT_nil, WpT_cons, WpT_guard, WpK_nil, scal, empty_eq, hz, hi0])
      all_goals (rw [cnx, if_neg hz, if_neg hn, if_pos (by omega)]; rfl)
    · obtain ⟨N, hN, h64, k1, k2, k3, k4, k5⟩ := key 8 hw.symm (by omega) (by decide)
      rw [show 1 + 8 = 9 from rfl] at k1 k2 k4 k5
      rw [k5]
      simp only [ir6, D4]
      (repeat' first
    | (refine CondV_dec (fun _ => ?_) (fun _ => ?_) <;> try (exfalso; omega))
    | (refine GuardV_td (fun _ => ?_) (fun _ => ?_) <;> try (exfalso; omega))
    | (refine GuardV_fd (fun _ => ?_) (fun _ => ?_) <;> try (exfalso; omega))
    | (refine CondV_split (fun _ => ?_) (fun _ => ?_))
    | (refine Need_of (by first | omega | decide) ?_)
    | refine WpK_cons ?_ ?_
    | refine WpK_guard ?_
    | simp (disch := first | omega | simp only [List.length_append, List.length_set, List.length_cons, List.length_nil] <;> omega | fail) only [evA, ↓evB, ↓astep, ↓aop, aBin, aInt, aStr, aUn, aNil, aMax, aresults, ares, aPack, ↓reduceIte, ↓reduceCtorEq, Nat.reduceEqDiff, Nat.reduceAdd, env0, aLoad, aLoadN, cellsOf, Int.reduceEq, Int.reduceLT, Int.reduceLE, Nat.reduceLeDiff, oneC, aop.fillL, setL, aApp, aAppC_nil, aAppC_own, xop, eqCells, eqCell, rowOf, ↓acallop, aBound, aIntOf, flat, flatN, CX_fn, CX_X, CX_pol, aStore, Nat.reduceBEq, List.size_toArray, Int.sub_zero, Int.zero_add, Int.add_zero, Int.toNat_zero, Int.reduceAdd, Int.reduceSub, Int.reduceMul, Int.reduceNeg, Int.reduceToNat, Nat.reduceSub, Nat.reduceMul, Int.natCast_zero, Int.reduceDiv, Int.reduceMod, Int.toNat_natCast, fdiv_nn, min_bits_i, Int.reducePow, Nat.reducePow, Nat.reduceDiv, Nat.reduceMod, mb_i, mb_u, WpC_drawD, WpT_nil, WpT_cons, WpT_guard, WpK_nil, scal, empty_eq, hz, hi0, hi4, Int.toNat_one, Int.toNat_zero, k1, k2, k3, k4])
      all_goals (rename_i q; first | (rw [if_pos (by omega)]; rfl) | (rw [if_neg (by omega)]; rfl))
def XNext4 (args : List Value) : Option Value :=
  match args with
  | [.string s] => if s.size < 2 ^ 62 then some (cnV (cnx s)) else none
  | _ => none
theorem XNext4_eq (s : ByteArray) : XNext4 [.string s] = if s.size < 2 ^ 62 then some (cnV (cnx s)) else none := rfl
theorem xnext4 : XOk Tryd.prog 6 XNext4 := .of D4_ok rfl ok6 fun args v h => by
  unfold XNext4 at h
  split at h
  · rename_i s
    split at h
    · rename_i hn; cases h; exact ⟨rfl, rfl, 20, 0, wNext4 s hn⟩
    · cases h
  · cases h
end F4
end Ev
end Go.Proofs.YtfbelnjchpffeaaDoor
