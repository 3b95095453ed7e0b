/-
  The laws of the package snap.
-/
import Derived.Test.YthigekeonjmhdaaU7
namespace Go.Proofs.Ythigekeonjmhdaa
namespace Ev
namespace L11
open Tag (mk)
open L15
set_option linter.unusedSimpArgs false
set_option linter.unusedVariables false
set_option maxRecDepth 4000
set_option maxHeartbeats 4000000
noncomputable def D4 : Cf := CX (xtab [(93, XNext), (53, XNext)]) (polt [])
theorem D4_ok : D4.Ok := CX_ok (all_cons x13 (all_cons x14 all_nil)) al_no
theorem wsz (s : ByteArray) (hs : s.size < 50000) (g : Nat) (hg : g = 54 ∨ g = 13) : Run (fun v _ => v = szT (szV s)) mk (acall D4 10 g [.string s] [] ⟨0, 0⟩) := by
  obtain ⟨q1, q2, q3⟩ := nx_spec (bl s) 0 0 (by omega) (by decide) (bl_lt s)
  obtain ⟨r, hr⟩ : ∃ r, r = szV s := ⟨_, rfl⟩
  rw [← hr]
  rw [szV] at hr
  obtain ⟨n, k, f, hx⟩ : ∃ n k f, nx (bl s) 0 0 = (n, k, f) := ⟨_, _, _, rfl⟩
  rw [hx] at q1 q2 q3 hr
  simp only at q1 q2 q3 hr
  rw [bl_length] at q2
  by_cases hf : f = 0
  · subst hf
    rw [if_neg (by simp)] at hr
    by_cases h32 : 4294967295 < n
    · rw [if_pos h32] at hr; subst hr
      rcases hg with rfl | rfl
      · refine Run_call (F := ir54) rfl (Nat.le_of_ble_eq_true rfl) ?_
        simp only [ir54, D4]
        (repeat' first
    | (refine CondV_dec (fun _ => ?_) (fun _ => ?_) <;> try (exfalso; omega))
    | (refine GuardV_td (fun _ => ?_) (fun _ => ?_) <;> try (exfalso; omega))
    | (refine GuardV_fd (fun _ => ?_) (fun _ => ?_) <;> try (exfalso; omega))
    | (refine CondV_split (fun _ => ?_) (fun _ => ?_))
    | (refine Need_of (by first | omega | decide) ?_)
    | refine WpK_cons ?_ ?_
    | refine WpK_guard ?_
    | simp (disch := first | omega | simp only [List.length_append, List.length_set, List.length_cons, List.length_nil] <;> omega | fail) only [evA, ↓evB, ↓astep, ↓aop, aBin, aInt, aStr, aUn, aNil, aMax, aresults, ares, aPack, ↓reduceIte, ↓reduceCtorEq, Nat.reduceEqDiff, Nat.reduceAdd, env0, aLoad, aLoadN, cellsOf, Int.reduceEq, Int.reduceLT, Int.reduceLE, Nat.reduceLeDiff, oneC, aop.fillL, setL, aApp, aAppC_nil, aAppC_own, xop, eqCells, eqCell, rowOf, ↓acallop, aBound, aIntOf, flat, flatN, CX_fn, CX_X, CX_pol, aStore, Nat.reduceBEq, List.size_toArray, Int.sub_zero, Int.zero_add, Int.add_zero, Int.toNat_zero, Int.reduceAdd, Int.reduceSub, Int.reduceMul, Int.reduceNeg, Int.reduceToNat, Nat.reduceSub, Nat.reduceMul, Int.natCast_zero, Int.reduceDiv, Int.reduceMod, Int.toNat_natCast, fdiv_nn, min_bits_i, Int.reducePow, Nat.reducePow, Nat.reduceDiv, Nat.reduceMod, mb_i, mb_u, WpC_drawD, WpT_nil, WpT_cons, WpT_guard, WpK_nil, scal, XNext_eq, nxV, hx, Int.natCast_zero])
        all_goals rfl
      · refine Run_call (F := ir13) rfl (Nat.le_of_ble_eq_true rfl) ?_
        simp only [ir13, D4]
        (repeat' first
    | (refine CondV_dec (fun _ => ?_) (fun _ => ?_) <;> try (exfalso; omega))
    | (refine GuardV_td (fun _ => ?_) (fun _ => ?_) <;> try (exfalso; omega))
    | (refine GuardV_fd (fun _ => ?_) (fun _ => ?_) <;> try (exfalso; omega))
    | (refine CondV_split (fun _ => ?_) (fun _ => ?_))
    | (refine Need_of (by first | omega | decide) ?_)
    | refine WpK_cons ?_ ?_
    | refine WpK_guard ?_
    | simp (disch := first | omega | simp only [List.length_append, List.length_set, List.length_cons, List.length_nil] <;> omega | fail) only [evA, ↓evB, ↓astep, ↓aop, aBin, aInt, aStr, aUn, aNil, aMax, aresults, ares, aPack, ↓reduceIte, ↓reduceCtorEq, Nat.reduceEqDiff, Nat.reduceAdd, env0, aLoad, aLoadN, cellsOf, Int.reduceEq, Int.reduceLT, Int.reduceLE, Nat.reduceLeDiff, oneC, aop.fillL, setL, aApp, aAppC_nil, aAppC_own, xop, eqCells, eqCell, rowOf, ↓acallop, aBound, aIntOf, flat, flatN, CX_fn, CX_X, CX_pol, aStore, Nat.reduceBEq, List.size_toArray, Int.sub_zero, Int.zero_add, Int.add_zero, Int.toNat_zero, Int.reduceAdd, Int.reduceSub, Int.reduceMul, Int.reduceNeg, Int.reduceToNat, Nat.reduceSub, Nat.reduceMul, Int.natCast_zero, Int.reduceDiv, Int.reduceMod, Int.toNat_natCast, fdiv_nn, min_bits_i, Int.reducePow, Nat.reducePow, Nat.reduceDiv, Nat.reduceMod, mb_i, mb_u, WpC_drawD, WpT_nil, WpT_cons, WpT_guard, WpK_nil, scal, XNext_eq, nxV, hx, Int.natCast_zero])
        all_goals rfl
    · rw [if_neg h32] at hr; subst hr
      rcases hg with rfl | rfl
      · refine Run_call (F := ir54) rfl (Nat.le_of_ble_eq_true rfl) ?_
        simp only [ir54, D4]
        (repeat' first
    | (refine CondV_dec (fun _ => ?_) (fun _ => ?_) <;> try (exfalso; omega))
    | (refine GuardV_td (fun _ => ?_) (fun _ => ?_) <;> try (exfalso; omega))
    | (refine GuardV_fd (fun _ => ?_) (fun _ => ?_) <;> try (exfalso; omega))
    | (refine CondV_split (fun _ => ?_) (fun _ => ?_))
    | (refine Need_of (by first | omega | decide) ?_)
    | refine WpK_cons ?_ ?_
    | refine WpK_guard ?_
    | simp (disch := first | omega | simp only [List.length_append, List.length_set, List.length_cons, List.length_nil] <;> omega | fail) only [evA, ↓evB, ↓astep, ↓aop, aBin, aInt, aStr, aUn, aNil, aMax, aresults, ares, aPack, ↓reduceIte, ↓reduceCtorEq, Nat.reduceEqDiff, Nat.reduceAdd, env0, aLoad, aLoadN, cellsOf, Int.reduceEq, Int.reduceLT, Int.reduceLE, Nat.reduceLeDiff, oneC, aop.fillL, setL, aApp, aAppC_nil, aAppC_own, xop, eqCells, eqCell, rowOf, ↓acallop, aBound, aIntOf, flat, flatN, CX_fn, CX_X, CX_pol, aStore, Nat.reduceBEq, List.size_toArray, Int.sub_zero, Int.zero_add, Int.add_zero, Int.toNat_zero, Int.reduceAdd, Int.reduceSub, Int.reduceMul, Int.reduceNeg, Int.reduceToNat, Nat.reduceSub, Nat.reduceMul, Int.natCast_zero, Int.reduceDiv, Int.reduceMod, Int.toNat_natCast, fdiv_nn, min_bits_i, Int.reducePow, Nat.reducePow, Nat.reduceDiv, Nat.reduceMod, mb_i, mb_u, WpC_drawD, WpT_nil, WpT_cons, WpT_guard, WpK_nil, scal, XNext_eq, nxV, hx, Int.natCast_zero])
        all_goals rfl
      · refine Run_call (F := ir13) rfl (Nat.le_of_ble_eq_true rfl) ?_
        simp only [ir13, D4]
        (repeat' first
    | (refine CondV_dec (fun _ => ?_) (fun _ => ?_) <;> try (exfalso; omega))
    | (refine GuardV_td (fun _ => ?_) (fun _ => ?_) <;> try (exfalso; omega))
    | (refine GuardV_fd (fun _ => ?_) (fun _ => ?_) <;> try (exfalso; omega))
    | (refine CondV_split (fun _ => ?_) (fun _ => ?_))
    | (refine Need_of (by first | omega | decide) ?_)
    | refine WpK_cons ?_ ?_
    | refine WpK_guard ?_
    | simp (disch := first | omega | simp only [List.length_append, List.length_set, List.length_cons, List.length_nil] <;> omega | fail) only [evA, ↓evB, ↓astep, ↓aop, aBin, aInt, aStr, aUn, aNil, aMax, aresults, ares, aPack, ↓reduceIte, ↓reduceCtorEq, Nat.reduceEqDiff, Nat.reduceAdd, env0, aLoad, aLoadN, cellsOf, Int.reduceEq, Int.reduceLT, Int.reduceLE, Nat.reduceLeDiff, oneC, aop.fillL, setL, aApp, aAppC_nil, aAppC_own, xop, eqCells, eqCell, rowOf, ↓acallop, aBound, aIntOf, flat, flatN, CX_fn, CX_X, CX_pol, aStore, Nat.reduceBEq, List.size_toArray, Int.sub_zero, Int.zero_add, Int.add_zero, Int.toNat_zero, Int.reduceAdd, Int.reduceSub, Int.reduceMul, Int.reduceNeg, Int.reduceToNat, Nat.reduceSub, Nat.reduceMul, Int.natCast_zero, Int.reduceDiv, Int.reduceMod, Int.toNat_natCast, fdiv_nn, min_bits_i, Int.reducePow, Nat.reducePow, Nat.reduceDiv, Nat.reduceMod, mb_i, mb_u, WpC_drawD, WpT_nil, WpT_cons, WpT_guard, WpK_nil, scal, XNext_eq, nxV, hx, Int.natCast_zero])
        all_goals rfl
  · rw [if_pos hf] at hr; subst hr
    have hfi : ¬ (f : Int) = 0 := by omega
    rcases hg with rfl | rfl
    · refine Run_call (F := ir54) rfl (Nat.le_of_ble_eq_true rfl) ?_
      simp only [ir54, D4]
      (repeat' first
    | (refine CondV_dec (fun _ => ?_) (fun _ => ?_) <;> try (exfalso; omega))
    | (refine GuardV_td (fun _ => ?_) (fun _ => ?_) <;> try (exfalso; omega))
    | (refine GuardV_fd (fun _ => ?_) (fun _ => ?_) <;> try (exfalso; omega))
    | (refine CondV_split (fun _ => ?_) (fun _ => ?_))
    | (refine Need_of (by first | omega | decide) ?_)
    | refine WpK_cons ?_ ?_
    | refine WpK_guard ?_
    | simp (disch := first | omega | simp only [List.length_append, List.length_set, List.length_cons, List.length_nil] <;> omega | fail) only [evA, ↓evB, ↓astep, ↓aop, aBin, aInt, aStr, aUn, aNil, aMax, aresults, ares, aPack, ↓reduceIte, ↓reduceCtorEq, Nat.reduceEqDiff, Nat.reduceAdd, env0, aLoad, aLoadN, cellsOf, Int.reduceEq, Int.reduceLT, Int.reduceLE, Nat.reduceLeDiff, oneC, aop.fillL, setL, aApp, aAppC_nil, aAppC_own, xop, eqCells, eqCell, rowOf, ↓acallop, aBound, aIntOf, flat, flatN, CX_fn, CX_X, CX_pol, aStore, Nat.reduceBEq, List.size_toArray, Int.sub_zero, Int.zero_add, Int.add_zero, Int.toNat_zero, Int.reduceAdd, Int.reduceSub, Int.reduceMul, Int.reduceNeg, Int.reduceToNat, Nat.reduceSub, Nat.reduceMul, Int.natCast_zero, Int.reduceDiv, Int.reduceMod, Int.toNat_natCast, fdiv_nn, min_bits_i, Int.reducePow, Nat.reducePow, Nat.reduceDiv, Nat.reduceMod, mb_i, mb_u, WpC_drawD, WpT_nil, WpT_cons, WpT_guard, WpK_nil, scal, XNext_eq, nxV, hx, hfi])
      all_goals rfl
    · refine Run_call (F := ir13) rfl (Nat.le_of_ble_eq_true rfl) ?_
      simp only [ir13, D4]
      (repeat' first
    | (refine CondV_dec (fun _ => ?_) (fun _ => ?_) <;> try (exfalso; omega))
    | (refine GuardV_td (fun _ => ?_) (fun _ => ?_) <;> try (exfalso; omega))
    | (refine GuardV_fd (fun _ => ?_) (fun _ => ?_) <;> try (exfalso; omega))
    | (refine CondV_split (fun _ => ?_) (fun _ => ?_))
    | (refine Need_of (by first | omega | decide) ?_)
    | refine WpK_cons ?_ ?_
    | refine WpK_guard ?_
    | simp (disch := first | omega | simp only [List.length_append, List.length_set, List.length_cons, List.length_nil] <;> omega | fail) only [evA, ↓evB, ↓astep, ↓aop, aBin, aInt, aStr, aUn, aNil, aMax, aresults, ares, aPack, ↓reduceIte, ↓reduceCtorEq, Nat.reduceEqDiff, Nat.reduceAdd, env0, aLoad, aLoadN, cellsOf, Int.reduceEq, Int.reduceLT, Int.reduceLE, Nat.reduceLeDiff, oneC, aop.fillL, setL, aApp, aAppC_nil, aAppC_own, xop, eqCells, eqCell, rowOf, ↓acallop, aBound, aIntOf, flat, flatN, CX_fn, CX_X, CX_pol, aStore, Nat.reduceBEq, List.size_toArray, Int.sub_zero, Int.zero_add, Int.add_zero, Int.toNat_zero, Int.reduceAdd, Int.reduceSub, Int.reduceMul, Int.reduceNeg, Int.reduceToNat, Nat.reduceSub, Nat.reduceMul, Int.natCast_zero, Int.reduceDiv, Int.reduceMod, Int.toNat_natCast, fdiv_nn, min_bits_i, Int.reducePow, Nat.reducePow, Nat.reduceDiv, Nat.reduceMod, mb_i, mb_u, WpC_drawD, WpT_nil, WpT_cons, WpT_guard, WpK_nil, scal, XNext_eq, nxV, hx, hfi])
      all_goals rfl
theorem xsz (g : Nat) (hg : g = 54 ∨ g = 13) (F : AFn) (hF : FOk alT Try.prog 0 g F) : XOk Try.prog g XSz := .of D4_ok rfl hF fun args v h => by
  unfold XSz at h
  split at h
  · split at h
    · rename_i hs; cases h; exact ⟨rfl, rfl, 10, 0, wsz _ hs g hg⟩
    · cases h
  · cases h
theorem xels : XOk Try.prog 61 XEls := .of D3_ok rfl ok61 fun args v h => by
  unfold XEls at h
  split at h
  · rename_i s n
    split at h
    · rename_i hs; cases h
      have := w90 s n.toNat hs.1 (by omega)
      rw [show ((n.toNat : Nat) : Int) = n by omega] at this
      exact ⟨rfl, rfl, 61001, 0, this⟩
    · cases h
  · cases h
theorem D1_ok : D1.Ok := CX_ok (all_cons x13 (all_cons xalive11 (all_cons (xsz _ (.inr rfl) _ ok13) (all_cons xels all_nil)))) al_no
/-- Is all within what the words speak of? -/
def XUnp (args : List Value) : Option Value :=
  match args with
  | [.string s, .int .i64 most, .pointer none] => if s.size < 50000 ∧ (-9223372036854775808 ≤ most ∧ most ≤ 9223372036854775807) ∧ ((nx (bl s) 0 0).1 ≤ 4294967295 → ((nx (bl s) 0 0).1 : Int) ≤ most → (nx (bl s) 0 0).1 ≤ 50000) then some (strErr (unpV s most)) else none
  | _ => none
theorem XUnp_eq (s : ByteArray) (most : Int) : XUnp [.string s, .int .i64 most, .pointer none] = if s.size < 50000 ∧ (-9223372036854775808 ≤ most ∧ most ≤ 9223372036854775807) ∧ ((nx (bl s) 0 0).1 ≤ 4294967295 → ((nx (bl s) 0 0).1 : Int) ≤ most → (nx (bl s) 0 0).1 ≤ 50000) then some (strErr (unpV s most)) else none := rfl
theorem x49 : XOk Try.prog 15 XUnp := .of D1_ok rfl ok15 fun args v h => by
  unfold XUnp at h
  split at h
  · rename_i s most
    split at h
    · rename_i hc
      cases h
      exact ⟨rfl, rfl, 61001, 0, w49 s most hc.1 hc.2.1 hc.2.2⟩
    · cases h
  · cases h
/-- One round more changes nothing. -/
theorem elsS_more : ∀ (q : Nat) (s : ByteArray) (size p : Nat) (out : List Nat), (∀ b ∈ out, b < 256) → s.size - p + 1 ≤ q → elsS s size (q + 1) p out = elsS s size q p out
  | 0, _, _, _, _, _, h => by omega
  | q + 1, s, size, p, out, hlt, h => by
    rw [elsS, elsS.eq_2 s size p out q]
    obtain ⟨g1, g2, g3⟩ := elS_spec (s := s) (size := size) (p := p) hlt
    by_cases hp : p < s.size
    · rw [if_pos hp, if_pos hp]
      by_cases h0 : (elS s size p out).1 = 0
      · rw [if_pos h0, if_pos h0]
        have := g1 h0
        exact elsS_more q s size _ _ g2 (by omega)
      · rw [if_neg h0, if_neg h0]
    · rw [if_neg hp, if_neg hp]
theorem nx_err : ∀ (l : List Nat) (i a : Nat), (nx l i a).2.2 ≠ 0 → (nx l i a).1 = 0 ∧ (nx l i a).2.1 = 0
  | [], i, a, _ => ⟨rfl, rfl⟩
  | b :: l, i, a, h => by
    rw [nx] at h ⊢
    split
    · exact ⟨rfl, rfl⟩
    · rename_i hc
      rw [if_neg hc] at h
      split
      · rename_i h1; rw [if_pos h1] at h; exact absurd rfl h
      · rename_i h1; rw [if_neg h1] at h; exact nx_err l _ _ h
theorem litE_len {s : ByteArray} {size p : Nat} {out : List Nat} {n : Nat} (h : out.length ≤ size) : (litE s size p out n).2.2.length ≤ size := by
  unfold litE
  split
  · exact h
  · split
    · exact h
    · show (out ++ byt s p n).length ≤ size
      rw [List.length_append, byt_len _ _ _ (by omega)]; omega
theorem cpS_len {size p : Nat} {out : List Nat} {n back : Nat} (h : out.length ≤ size) : (cpS size p out n back).2.2.length ≤ size := by
  unfold cpS
  split
  · exact h
  · show (cpy n back out).length ≤ size
    rw [cpy_len]; omega
theorem farS_len {s : ByteArray} {size p : Nat} {out : List Nat} {k n hi : Nat} (h : out.length ≤ size) : (farS s size p out k n hi).2.2.length ≤ size := by
  unfold farS
  split
  · exact cpS_len h
  · exact h
theorem elS_len {s : ByteArray} {size p : Nat} {out : List Nat} (h : out.length ≤ size) : (elS s size p out).2.2.length ≤ size := by
  unfold elS
  dsimp only
  split
  · unfold litS
    split
    · exact litE_len h
    · split
      · exact litE_len h
      · exact h
  · split
    · exact farS_len h
    · split
      · exact farS_len h
      · exact farS_len h
theorem elsS_len : ∀ (q : Nat) (s : ByteArray) (size p : Nat) (out : List Nat), out.length ≤ size → s.size - p + 1 ≤ q → (∀ b ∈ out, b < 256) → (elsS s size q p out).1 = 0 → (elsS s size q p out).2.length = size
  | 0, _, _, _, _, _, h, _, _ => by omega
  | q + 1, s, size, p, out, ho, h, hlt, h0 => by
    rw [elsS] at h0 ⊢
    obtain ⟨g1, g2, g3⟩ := elS_spec (s := s) (size := size) (p := p) hlt
    by_cases hp : p < s.size
    · rw [if_pos hp] at h0 ⊢
      by_cases h1 : (elS s size p out).1 = 0
      · rw [if_pos h1] at h0 ⊢
        have := g1 h1
        exact elsS_len q s size _ _ (elS_len ho) (by omega) g2 h0
      · rw [if_neg h1] at h0 ⊢
        exact absurd h0 h1
    · rw [if_neg hp] at h0 ⊢
      by_cases h1 : out.length < size
      · rw [if_pos h1] at h0; cases h0
      · rw [if_neg h1]; show out.length = size; omega
end L11
end Ev
end Go.Proofs.Ythigekeonjmhdaa
