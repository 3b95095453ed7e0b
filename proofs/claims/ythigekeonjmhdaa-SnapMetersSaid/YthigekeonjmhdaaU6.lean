/-
  The package snap: Unpack, and its plain law.
-/
import Derived.Test.YthigekeonjmhdaaU5
namespace Go.Proofs.Ythigekeonjmhdaa
namespace Ev
namespace L11
open Tag (mk)
open L15
set_option linter.unusedSimpArgs false
set_option linter.unusedVariables false
set_option maxRecDepth 4000
set_option maxHeartbeats 4000000
theorem nx_spec : ∀ (l : List Nat) (i a : Nat), i ≤ 9 → a < 2 ^ (7 * i) → (∀ b ∈ l, b < 256) → (nx l i a).1 < 2 ^ 64 ∧ (nx l i a).2.1 ≤ i + l.length ∧ (nx l i a).2.2 ≤ 3
  | [], i, a, _, _, _ => ⟨by simp [nx], by simp [nx], by simp [nx]⟩
  | b :: l, i, a, hi, ha, hb => by
    have hb0 := hb b (List.mem_cons_self ..)
    rw [nx]
    split
    · exact ⟨by simp, by simp, by simp⟩
    · rename_i hc
      have hp := (put7 a i b ha hi hb0 (by omega)).2
      split
      · rename_i h128
        refine ⟨?_, by simp, by simp⟩
        show a + b % 128 * 2 ^ (7 * i) < 2 ^ 64
        rcases Nat.lt_or_ge i 9 with h | h
        · exact Nat.lt_of_lt_of_le hp (Nat.pow_le_pow_right (by omega) (by omega))
        · obtain rfl : i = 9 := by omega
          have hb1 : b ≤ 1 := by
            rcases Nat.lt_or_ge 1 b with h | h
            · exact absurd (Or.inl ⟨rfl, h⟩) hc
            · exact h
          simp only [Nat.reduceMul, Nat.reducePow] at ha ⊢
          omega
      · rename_i h128
        have h9 : i ≠ 9 := by intro h; subst h; omega
        obtain ⟨q1, q2, q3⟩ := nx_spec l (i + 1) (a + b % 128 * 2 ^ (7 * i)) (by omega) hp (fun x hx => hb x (List.mem_cons_of_mem _ hx))
        exact ⟨q1, by simp at q2 ⊢; omega, q3⟩
/-- What bytes unpack to, by a cap. -/
def unpV (s : ByteArray) (most : Int) : ByteArray × Nat :=
  if (nx (bl s) 0 0).2.2 ≠ 0 then (⟨#[]⟩, (nx (bl s) 0 0).2.2)
  else if 4294967295 < (nx (bl s) 0 0).1 then (⟨#[]⟩, 5)
  else if most < (nx (bl s) 0 0).1 then (⟨#[]⟩, 5)
  else if (elsS (s.extract (nx (bl s) 0 0).2.1 s.size) (nx (bl s) 0 0).1 ((s.extract (nx (bl s) 0 0).2.1 s.size).size + 2) 0 []).1 ≠ 0 then (⟨#[]⟩, (elsS (s.extract (nx (bl s) 0 0).2.1 s.size) (nx (bl s) 0 0).1 ((s.extract (nx (bl s) 0 0).2.1 s.size).size + 2) 0 []).1)
  else (bs (elsS (s.extract (nx (bl s) 0 0).2.1 s.size) (nx (bl s) 0 0).1 ((s.extract (nx (bl s) 0 0).2.1 s.size).size + 2) 0 []).2, 0)
def strErr (r : ByteArray × Nat) : Value := .tuple #[.string r.1, .int .i64 (r.2 : Int)]
theorem w49 (s : ByteArray) (most : Int) (hs : s.size < 50000) (hm : -9223372036854775808 ≤ most ∧ most ≤ 9223372036854775807) (hcap : (nx (bl s) 0 0).1 ≤ 4294967295 → ((nx (bl s) 0 0).1 : Int) ≤ most → (nx (bl s) 0 0).1 ≤ 50000) :
    Run (fun v _ => v = strErr (unpV s most)) mk (acall D1 61001 15 [.string s, .int .i64 most, .pointer none] [] ⟨0, 0⟩) := by
  obtain ⟨q1, q2, q3⟩ := nx_spec (bl s) 0 0 (by omega) (by decide) (bl_lt s)
  obtain ⟨r, hr⟩ : ∃ r, r = unpV s most := ⟨_, rfl⟩
  rw [← hr]
  rw [unpV] at hr
  obtain ⟨n, k, f, hx⟩ : ∃ n k f, nx (bl s) 0 0 = (n, k, f) := ⟨_, _, _, rfl⟩
  rw [hx] at q1 q2 q3 hcap hr
  simp only at q1 q2 q3 hcap hr
  rw [bl_length] at q2
  refine Run_call (F := ir15) rfl (Nat.le_of_ble_eq_true rfl) ?_
  by_cases hf : f = 0
  · subst hf
    rw [if_neg (by simp)] at hr
    by_cases h32 : 4294967295 < n
    · rw [if_pos h32] at hr; subst hr
      simp only [ir15, D1]
      (repeat' first
    | (refine CondV_dec (fun _ => ?_) (fun _ => ?_) <;> try (exfalso; omega))
    | (refine GuardV_td (fun _ => ?_) (fun _ => ?_) <;> try (exfalso; omega))
    | (refine GuardV_fd (fun _ => ?_) (fun _ => ?_) <;> try (exfalso; omega))
    | (refine CondV_split (fun _ => ?_) (fun _ => ?_))
    | (refine Need_of (by first | omega | decide) ?_)
    | refine WpK_cons ?_ ?_
    | refine WpK_guard ?_
    | simp (disch := first | omega | simp only [List.length_append, List.length_set, List.length_cons, List.length_nil] <;> omega | fail) only [evA, ↓evB, ↓astep, ↓aop, aBin, aInt, aStr, aUn, aNil, aMax, aresults, ares, aPack, ↓reduceIte, ↓reduceCtorEq, Nat.reduceEqDiff, Nat.reduceAdd, env0, aLoad, aLoadN, cellsOf, Int.reduceEq, Int.reduceLT, Int.reduceLE, Nat.reduceLeDiff, oneC, aop.fillL, setL, aApp, aAppC_nil, aAppC_own, xop, eqCells, eqCell, rowOf, ↓acallop, aBound, aIntOf, flat, flatN, CX_fn, CX_X, CX_pol, aStore, Nat.reduceBEq, List.size_toArray, Int.sub_zero, Int.zero_add, Int.add_zero, Int.toNat_zero, Int.reduceAdd, Int.reduceSub, Int.reduceMul, Int.reduceNeg, Int.reduceToNat, Nat.reduceSub, Nat.reduceMul, Int.natCast_zero, Int.reduceDiv, Int.reduceMod, Int.toNat_natCast, fdiv_nn, min_bits_i, Int.reducePow, Nat.reducePow, Nat.reduceDiv, Nat.reduceMod, mb_i, mb_u, WpC_drawD, WpT_nil, WpT_cons, WpT_guard, WpK_nil, scal, fn54, ir54, XNext_eq, nxV, hx, Int.natCast_zero])
      all_goals rfl
    · rw [if_neg h32] at hr
      by_cases hmo : most < n
      · rw [if_pos hmo] at hr; subst hr
        simp only [ir15, D1]
        (repeat' first
    | (refine CondV_dec (fun _ => ?_) (fun _ => ?_) <;> try (exfalso; omega))
    | (refine GuardV_td (fun _ => ?_) (fun _ => ?_) <;> try (exfalso; omega))
    | (refine GuardV_fd (fun _ => ?_) (fun _ => ?_) <;> try (exfalso; omega))
    | (refine CondV_split (fun _ => ?_) (fun _ => ?_))
    | (refine Need_of (by first | omega | decide) ?_)
    | refine WpK_cons ?_ ?_
    | refine WpK_guard ?_
    | simp (disch := first | omega | simp only [List.length_append, List.length_set, List.length_cons, List.length_nil] <;> omega | fail) only [evA, ↓evB, ↓astep, ↓aop, aBin, aInt, aStr, aUn, aNil, aMax, aresults, ares, aPack, ↓reduceIte, ↓reduceCtorEq, Nat.reduceEqDiff, Nat.reduceAdd, env0, aLoad, aLoadN, cellsOf, Int.reduceEq, Int.reduceLT, Int.reduceLE, Nat.reduceLeDiff, oneC, aop.fillL, setL, aApp, aAppC_nil, aAppC_own, xop, eqCells, eqCell, rowOf, ↓acallop, aBound, aIntOf, flat, flatN, CX_fn, CX_X, CX_pol, aStore, Nat.reduceBEq, List.size_toArray, Int.sub_zero, Int.zero_add, Int.add_zero, Int.toNat_zero, Int.reduceAdd, Int.reduceSub, Int.reduceMul, Int.reduceNeg, Int.reduceToNat, Nat.reduceSub, Nat.reduceMul, Int.natCast_zero, Int.reduceDiv, Int.reduceMod, Int.toNat_natCast, fdiv_nn, min_bits_i, Int.reducePow, Nat.reducePow, Nat.reduceDiv, Nat.reduceMod, mb_i, mb_u, WpC_drawD, WpT_nil, WpT_cons, WpT_guard, WpK_nil, scal, fn54, ir54, XNext_eq, nxV, hx, Int.natCast_zero])
        all_goals rfl
      · rw [if_neg hmo] at hr
        have hn := hcap (by omega) (by omega)
        obtain ⟨t, ht⟩ : ∃ t, t = s.extract k s.size := ⟨_, rfl⟩
        rw [← ht] at hr
        have hts : t.size < 50000 := by rw [ht, ext_size _ _ _ (Nat.le_refl _)]; omega
        simp only [ir15, D1]
        (repeat' first
    | (refine CondV_dec (fun _ => ?_) (fun _ => ?_) <;> try (exfalso; omega))
    | (refine GuardV_td (fun _ => ?_) (fun _ => ?_) <;> try (exfalso; omega))
    | (refine GuardV_fd (fun _ => ?_) (fun _ => ?_) <;> try (exfalso; omega))
    | (refine CondV_split (fun _ => ?_) (fun _ => ?_))
    | (refine Need_of (by first | omega | decide) ?_)
    | refine WpK_cons ?_ ?_
    | refine WpK_guard ?_
    | simp (disch := first | omega | simp only [List.length_append, List.length_set, List.length_cons, List.length_nil] <;> omega | fail) only [evA, ↓evB, ↓astep, ↓aop, aBin, aInt, aStr, aUn, aNil, aMax, aresults, ares, aPack, ↓reduceIte, ↓reduceCtorEq, Nat.reduceEqDiff, Nat.reduceAdd, env0, aLoad, aLoadN, cellsOf, Int.reduceEq, Int.reduceLT, Int.reduceLE, Nat.reduceLeDiff, oneC, aop.fillL, setL, aApp, aAppC_nil, aAppC_own, xop, eqCells, eqCell, rowOf, ↓acallop, aBound, aIntOf, flat, flatN, CX_fn, CX_X, CX_pol, aStore, Nat.reduceBEq, List.size_toArray, Int.sub_zero, Int.zero_add, Int.add_zero, Int.toNat_zero, Int.reduceAdd, Int.reduceSub, Int.reduceMul, Int.reduceNeg, Int.reduceToNat, Nat.reduceSub, Nat.reduceMul, Int.natCast_zero, Int.reduceDiv, Int.reduceMod, Int.toNat_natCast, fdiv_nn, min_bits_i, Int.reducePow, Nat.reducePow, Nat.reduceDiv, Nat.reduceMod, mb_i, mb_u, WpC_drawD, WpT_nil, WpT_cons, WpT_guard, WpK_nil, scal, fn54, ir54, fn56, ir56, XNext_eq, nxV, hx, Int.natCast_zero, ← ht])
        refine unp_loop (U := 1) (R := 0) (s := t) (size := n) (a := none) (c := 0) (by (first | rfl | (simp only [Env_put_some, Env_put_none, ↓Env_set_at, ↓reduceIte, Nat.reduceEqDiff] <;> rfl))) (by (first | rfl | (simp only [Env_put_some, Env_put_none, ↓Env_set_at, ↓reduceIte, Nat.reduceEqDiff] <;> rfl))) ⟨rfl, rfl, .inl ⟨rfl, rfl, rfl⟩, by decide, by omega, by omega, by simp, hn⟩ hts (fun e' H' p f out a' c' _ g12 g8 hu hlt hf3 hcase => ?_)
        have huu := hu.u
        rw [unC] at huu
        have hrr := hu.r
        rw [rdC] at hrr
        have hul := hu.lt
        rcases hcase with ⟨rfl, hres⟩ | ⟨hf0, hres⟩
        · rw [hres] at hr
          by_cases hlen : out.length < n
          · rw [if_pos hlen, if_pos (by simp)] at hr
            subst hr
            (repeat' first
    | (refine CondV_dec (fun _ => ?_) (fun _ => ?_) <;> try (exfalso; omega))
    | (refine GuardV_td (fun _ => ?_) (fun _ => ?_) <;> try (exfalso; omega))
    | (refine GuardV_fd (fun _ => ?_) (fun _ => ?_) <;> try (exfalso; omega))
    | (refine CondV_split (fun _ => ?_) (fun _ => ?_))
    | (refine Need_of (by first | omega | decide) ?_)
    | refine WpK_cons ?_ ?_
    | refine WpK_guard ?_
    | simp (disch := first | omega | simp only [List.length_append, List.length_set, List.length_cons, List.length_nil] <;> omega | fail) only [evA, ↓evB, ↓astep, ↓aop, aBin, aInt, aStr, aUn, aNil, aMax, aresults, ares, aPack, ↓reduceIte, ↓reduceCtorEq, Nat.reduceEqDiff, Nat.reduceAdd, env0, aLoad, aLoadN, cellsOf, Int.reduceEq, Int.reduceLT, Int.reduceLE, Nat.reduceLeDiff, oneC, aop.fillL, setL, aApp, aAppC_nil, aAppC_own, xop, eqCells, eqCell, rowOf, ↓acallop, aBound, aIntOf, flat, flatN, CX_fn, CX_X, CX_pol, aStore, Nat.reduceBEq, List.size_toArray, Int.sub_zero, Int.zero_add, Int.add_zero, Int.toNat_zero, Int.reduceAdd, Int.reduceSub, Int.reduceMul, Int.reduceNeg, Int.reduceToNat, Nat.reduceSub, Nat.reduceMul, Int.natCast_zero, Int.reduceDiv, Int.reduceMod, Int.toNat_natCast, fdiv_nn, min_bits_i, Int.reducePow, Nat.reducePow, Nat.reduceDiv, Nat.reduceMod, mb_i, mb_u, WpC_drawD, WpT_nil, WpT_cons, WpT_guard, WpK_nil, scal, fn60, ir60, fn58, ir58, g12, g8, huu, hrr, Int.natCast_zero])
            all_goals rfl
          · rw [if_neg hlen, if_neg (by simp)] at hr
            subst hr
            rcases hu.o with ⟨rfl, rfl, rfl⟩ | ⟨j, rfl, rfl, hj⟩
            · have hn0 : n = 0 := by simpa using hlen
              subst hn0
              have hab : allBytes [] = some [] := rfl
              (repeat' first
    | (refine CondV_dec (fun _ => ?_) (fun _ => ?_) <;> try (exfalso; omega))
    | (refine GuardV_td (fun _ => ?_) (fun _ => ?_) <;> try (exfalso; omega))
    | (refine GuardV_fd (fun _ => ?_) (fun _ => ?_) <;> try (exfalso; omega))
    | (refine CondV_split (fun _ => ?_) (fun _ => ?_))
    | (refine Need_of (by first | omega | decide) ?_)
    | refine WpK_cons ?_ ?_
    | refine WpK_guard ?_
    | simp (disch := first | omega | simp only [List.length_append, List.length_set, List.length_cons, List.length_nil] <;> omega | fail) only [evA, ↓evB, ↓astep, ↓aop, aBin, aInt, aStr, aUn, aNil, aMax, aresults, ares, aPack, ↓reduceIte, ↓reduceCtorEq, Nat.reduceEqDiff, Nat.reduceAdd, env0, aLoad, aLoadN, cellsOf, Int.reduceEq, Int.reduceLT, Int.reduceLE, Nat.reduceLeDiff, oneC, aop.fillL, setL, aApp, aAppC_nil, aAppC_own, xop, eqCells, eqCell, rowOf, ↓acallop, aBound, aIntOf, flat, flatN, CX_fn, CX_X, CX_pol, aStore, Nat.reduceBEq, List.size_toArray, Int.sub_zero, Int.zero_add, Int.add_zero, Int.toNat_zero, Int.reduceAdd, Int.reduceSub, Int.reduceMul, Int.reduceNeg, Int.reduceToNat, Nat.reduceSub, Nat.reduceMul, Int.natCast_zero, Int.reduceDiv, Int.reduceMod, Int.toNat_natCast, fdiv_nn, min_bits_i, Int.reducePow, Nat.reducePow, Nat.reduceDiv, Nat.reduceMod, mb_i, mb_u, WpC_drawD, WpT_nil, WpT_cons, WpT_guard, WpK_nil, scal, fn60, ir60, fn58, ir58, g12, g8, huu, hrr, Int.natCast_zero, hab])
              all_goals rfl
            · (repeat' first
    | (refine CondV_dec (fun _ => ?_) (fun _ => ?_) <;> try (exfalso; omega))
    | (refine GuardV_td (fun _ => ?_) (fun _ => ?_) <;> try (exfalso; omega))
    | (refine GuardV_fd (fun _ => ?_) (fun _ => ?_) <;> try (exfalso; omega))
    | (refine CondV_split (fun _ => ?_) (fun _ => ?_))
    | (refine Need_of (by first | omega | decide) ?_)
    | refine WpK_cons ?_ ?_
    | refine WpK_guard ?_
    | simp (disch := first | omega | simp only [List.length_append, List.length_set, List.length_cons, List.length_nil] <;> omega | fail) only [evA, ↓evB, ↓astep, ↓aop, aBin, aInt, aStr, aUn, aNil, aMax, aresults, ares, aPack, ↓reduceIte, ↓reduceCtorEq, Nat.reduceEqDiff, Nat.reduceAdd, env0, aLoad, aLoadN, cellsOf, Int.reduceEq, Int.reduceLT, Int.reduceLE, Nat.reduceLeDiff, oneC, aop.fillL, setL, aApp, aAppC_nil, aAppC_own, xop, eqCells, eqCell, rowOf, ↓acallop, aBound, aIntOf, flat, flatN, CX_fn, CX_X, CX_pol, aStore, Nat.reduceBEq, List.size_toArray, Int.sub_zero, Int.zero_add, Int.add_zero, Int.toNat_zero, Int.reduceAdd, Int.reduceSub, Int.reduceMul, Int.reduceNeg, Int.reduceToNat, Nat.reduceSub, Nat.reduceMul, Int.natCast_zero, Int.reduceDiv, Int.reduceMod, Int.toNat_natCast, fdiv_nn, min_bits_i, Int.reducePow, Nat.reducePow, Nat.reduceDiv, Nat.reduceMod, mb_i, mb_u, WpC_drawD, WpT_nil, WpT_cons, WpT_guard, WpK_nil, scal, fn60, ir60, fn58, ir58, g12, g8, huu, hrr, Int.natCast_zero, hj])
              all_goals rfl
        · rw [hres, if_pos hf0] at hr
          subst hr
          have hfi : ¬ (f : Int) = 0 := by omega
          (repeat' first
    | (refine CondV_dec (fun _ => ?_) (fun _ => ?_) <;> try (exfalso; omega))
    | (refine GuardV_td (fun _ => ?_) (fun _ => ?_) <;> try (exfalso; omega))
    | (refine GuardV_fd (fun _ => ?_) (fun _ => ?_) <;> try (exfalso; omega))
    | (refine CondV_split (fun _ => ?_) (fun _ => ?_))
    | (refine Need_of (by first | omega | decide) ?_)
    | refine WpK_cons ?_ ?_
    | refine WpK_guard ?_
    | simp (disch := first | omega | simp only [List.length_append, List.length_set, List.length_cons, List.length_nil] <;> omega | fail) only [evA, ↓evB, ↓astep, ↓aop, aBin, aInt, aStr, aUn, aNil, aMax, aresults, ares, aPack, ↓reduceIte, ↓reduceCtorEq, Nat.reduceEqDiff, Nat.reduceAdd, env0, aLoad, aLoadN, cellsOf, Int.reduceEq, Int.reduceLT, Int.reduceLE, Nat.reduceLeDiff, oneC, aop.fillL, setL, aApp, aAppC_nil, aAppC_own, xop, eqCells, eqCell, rowOf, ↓acallop, aBound, aIntOf, flat, flatN, CX_fn, CX_X, CX_pol, aStore, Nat.reduceBEq, List.size_toArray, Int.sub_zero, Int.zero_add, Int.add_zero, Int.toNat_zero, Int.reduceAdd, Int.reduceSub, Int.reduceMul, Int.reduceNeg, Int.reduceToNat, Nat.reduceSub, Nat.reduceMul, Int.natCast_zero, Int.reduceDiv, Int.reduceMod, Int.toNat_natCast, fdiv_nn, min_bits_i, Int.reducePow, Nat.reducePow, Nat.reduceDiv, Nat.reduceMod, mb_i, mb_u, WpC_drawD, WpT_nil, WpT_cons, WpT_guard, WpK_nil, scal, fn60, ir60, fn58, ir58, g12, g8, huu, hrr, hfi])
          all_goals rfl
  · rw [if_pos hf] at hr; subst hr
    have hfi : ¬ (f : Int) = 0 := by omega
    simp only [ir15, D1]
    (repeat' first
    | (refine CondV_dec (fun _ => ?_) (fun _ => ?_) <;> try (exfalso; omega))
    | (refine GuardV_td (fun _ => ?_) (fun _ => ?_) <;> try (exfalso; omega))
    | (refine GuardV_fd (fun _ => ?_) (fun _ => ?_) <;> try (exfalso; omega))
    | (refine CondV_split (fun _ => ?_) (fun _ => ?_))
    | (refine Need_of (by first | omega | decide) ?_)
    | refine WpK_cons ?_ ?_
    | refine WpK_guard ?_
    | simp (disch := first | omega | simp only [List.length_append, List.length_set, List.length_cons, List.length_nil] <;> omega | fail) only [evA, ↓evB, ↓astep, ↓aop, aBin, aInt, aStr, aUn, aNil, aMax, aresults, ares, aPack, ↓reduceIte, ↓reduceCtorEq, Nat.reduceEqDiff, Nat.reduceAdd, env0, aLoad, aLoadN, cellsOf, Int.reduceEq, Int.reduceLT, Int.reduceLE, Nat.reduceLeDiff, oneC, aop.fillL, setL, aApp, aAppC_nil, aAppC_own, xop, eqCells, eqCell, rowOf, ↓acallop, aBound, aIntOf, flat, flatN, CX_fn, CX_X, CX_pol, aStore, Nat.reduceBEq, List.size_toArray, Int.sub_zero, Int.zero_add, Int.add_zero, Int.toNat_zero, Int.reduceAdd, Int.reduceSub, Int.reduceMul, Int.reduceNeg, Int.reduceToNat, Nat.reduceSub, Nat.reduceMul, Int.natCast_zero, Int.reduceDiv, Int.reduceMod, Int.toNat_natCast, fdiv_nn, min_bits_i, Int.reducePow, Nat.reducePow, Nat.reduceDiv, Nat.reduceMod, mb_i, mb_u, WpC_drawD, WpT_nil, WpT_cons, WpT_guard, WpK_nil, scal, fn54, ir54, XNext_eq, nxV, hx, hfi])
    all_goals rfl
end L11
end Ev
end Go.Proofs.Ythigekeonjmhdaa
