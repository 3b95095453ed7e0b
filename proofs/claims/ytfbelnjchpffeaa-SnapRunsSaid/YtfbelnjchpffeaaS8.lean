/-
  The laws of the package snap.
-/
import Derived.Test.YtfbelnjchpffeaaS7
namespace Go.Proofs.Ytfbelnjchpffeaa
namespace Ev
namespace L11
open Tag (mk)
open L15
set_option linter.unusedSimpArgs false
set_option linter.unusedVariables false
set_option maxRecDepth 4000
set_option maxHeartbeats 4000000
theorem alive11 : Ans (acall D0 30 46 [] [] ⟨0, 0⟩) (.bool true) := by unfold Ans; kernel_rfl
theorem xalive11 : XOk Try.prog 46 XAlive := .of D0_ok rfl ok46 fun args v h => by
  unfold XAlive at h
  split at h
  · cases h; exact ⟨rfl, rfl, 30, 0, alive11.run⟩
  · cases h

/-- The size a block tells. -/
def szV (s : ByteArray) : Nat × Nat × Nat := if (nx (bl s) 0 0).2.2 ≠ 0 then (0, 0, (nx (bl s) 0 0).2.2) else if 4294967295 < (nx (bl s) 0 0).1 then (0, 0, 5) else ((nx (bl s) 0 0).1, (nx (bl s) 0 0).2.1, 0)
def szT (r : Nat × Nat × Nat) : Value := .tuple #[.int .i64 (r.1 : Int), .int .i64 (r.2.1 : Int), .int .i64 (r.2.2 : Int)]
noncomputable def D4 : Cf := CX (xtab [(84, XNext), (85, XNext)]) (polt [])
theorem D4_ok : D4.Ok := CX_ok (all_cons x13 (all_cons x14 all_nil)) al_no
theorem wsz (s : ByteArray) (hs : s.size < 50000) (g : Nat) (hg : g = 47 ∨ g = 48) : Run (fun v _ => v = szT (szV s)) mk (acall D4 10 g [.string s] [] ⟨0, 0⟩) := by
  obtain ⟨q1, q2, q3⟩ := nx_spec (bl s) 0 0 (by omega) (by decide) (bl_lt s)
  obtain ⟨r, hr⟩ : ∃ r, r = szV s := ⟨_, rfl⟩
  rw [← hr]
  rw [szV] at hr
  obtain ⟨n, k, f, hx⟩ : ∃ n k f, nx (bl s) 0 0 = (n, k, f) := ⟨_, _, _, rfl⟩
  rw [hx] at q1 q2 q3 hr
  simp only at q1 q2 q3 hr
  rw [bl_length] at q2
  by_cases hf : f = 0
  · subst hf
    rw [if_neg (by simp)] at hr
    by_cases h32 : 4294967295 < n
    · rw [if_pos h32] at hr; subst hr
      rcases hg with rfl | rfl
      · refine Run_call (F := ir47) rfl (Nat.le_of_ble_eq_true rfl) ?_
        simp only [ir47, D4]
        (repeat' first
    | (refine CondV_dec (fun _ => ?_) (fun _ => ?_) <;> try (exfalso; omega))
    | (refine GuardV_td (fun _ => ?_) (fun _ => ?_) <;> try (exfalso; omega))
    | (refine GuardV_fd (fun _ => ?_) (fun _ => ?_) <;> try (exfalso; omega))
    | (refine CondV_split (fun _ => ?_) (fun _ => ?_))
    | (refine Need_of (by first | omega | decide) ?_)
    | refine WpK_cons ?_ ?_
    | refine WpK_guard ?_
    | simp (disch := first | omega | simp only [List.length_append, List.length_set, List.length_cons, List.length_nil] <;> omega | fail) only [evA, ↓evB, ↓astep, ↓aop, aBin, aInt, aStr, aUn, aNil, aMax, aresults, ares, aPack, ↓reduceIte, ↓reduceCtorEq, Nat.reduceEqDiff, Nat.reduceAdd, env0, aLoad, aLoadN, cellsOf, Int.reduceEq, Int.reduceLT, Int.reduceLE, Nat.reduceLeDiff, oneC, aop.fillL, setL, aApp, aAppC_nil, aAppC_own, xop, eqCells, eqCell, rowOf, ↓acallop, aBound, aIntOf, flat, flatN, CX_fn, CX_X, CX_pol, aStore, Nat.reduceBEq, List.size_toArray, Int.sub_zero, Int.zero_add, Int.add_zero, Int.toNat_zero, Int.reduceAdd, Int.reduceSub, Int.reduceMul, Int.reduceNeg, Int.reduceToNat, Nat.reduceSub, Nat.reduceMul, Int.natCast_zero, Int.reduceDiv, Int.reduceMod, Int.toNat_natCast, fdiv_nn, min_bits_i, Int.reducePow, Nat.reducePow, Nat.reduceDiv, Nat.reduceMod, mb_i, mb_u, WpC_drawD, WpT_nil, WpT_cons, WpT_guard, WpK_nil, scal, XNext_eq, nxV, hx, Int.natCast_zero])
        all_goals rfl
      · refine Run_call (F := ir48) rfl (Nat.le_of_ble_eq_true rfl) ?_
        simp only [ir48, D4]
        (repeat' first
    | (refine CondV_dec (fun _ => ?_) (fun _ => ?_) <;> try (exfalso; omega))
    | (refine GuardV_td (fun _ => ?_) (fun _ => ?_) <;> try (exfalso; omega))
    | (refine GuardV_fd (fun _ => ?_) (fun _ => ?_) <;> try (exfalso; omega))
    | (refine CondV_split (fun _ => ?_) (fun _ => ?_))
    | (refine Need_of (by first | omega | decide) ?_)
    | refine WpK_cons ?_ ?_
    | refine WpK_guard ?_
    | simp (disch := first | omega | simp only [List.length_append, List.length_set, List.length_cons, List.length_nil] <;> omega | fail) only [evA, ↓evB, ↓astep, ↓aop, aBin, aInt, aStr, aUn, aNil, aMax, aresults, ares, aPack, ↓reduceIte, ↓reduceCtorEq, Nat.reduceEqDiff, Nat.reduceAdd, env0, aLoad, aLoadN, cellsOf, Int.reduceEq, Int.reduceLT, Int.reduceLE, Nat.reduceLeDiff, oneC, aop.fillL, setL, aApp, aAppC_nil, aAppC_own, xop, eqCells, eqCell, rowOf, ↓acallop, aBound, aIntOf, flat, flatN, CX_fn, CX_X, CX_pol, aStore, Nat.reduceBEq, List.size_toArray, Int.sub_zero, Int.zero_add, Int.add_zero, Int.toNat_zero, Int.reduceAdd, Int.reduceSub, Int.reduceMul, Int.reduceNeg, Int.reduceToNat, Nat.reduceSub, Nat.reduceMul, Int.natCast_zero, Int.reduceDiv, Int.reduceMod, Int.toNat_natCast, fdiv_nn, min_bits_i, Int.reducePow, Nat.reducePow, Nat.reduceDiv, Nat.reduceMod, mb_i, mb_u, WpC_drawD, WpT_nil, WpT_cons, WpT_guard, WpK_nil, scal, XNext_eq, nxV, hx, Int.natCast_zero])
        all_goals rfl
    · rw [if_neg h32] at hr; subst hr
      rcases hg with rfl | rfl
      · refine Run_call (F := ir47) rfl (Nat.le_of_ble_eq_true rfl) ?_
        simp only [ir47, D4]
        (repeat' first
    | (refine CondV_dec (fun _ => ?_) (fun _ => ?_) <;> try (exfalso; omega))
    | (refine GuardV_td (fun _ => ?_) (fun _ => ?_) <;> try (exfalso; omega))
    | (refine GuardV_fd (fun _ => ?_) (fun _ => ?_) <;> try (exfalso; omega))
    | (refine CondV_split (fun _ => ?_) (fun _ => ?_))
    | (refine Need_of (by first | omega | decide) ?_)
    | refine WpK_cons ?_ ?_
    | refine WpK_guard ?_
    | simp (disch := first | omega | simp only [List.length_append, List.length_set, List.length_cons, List.length_nil] <;> omega | fail) only [evA, ↓evB, ↓astep, ↓aop, aBin, aInt, aStr, aUn, aNil, aMax, aresults, ares, aPack, ↓reduceIte, ↓reduceCtorEq, Nat.reduceEqDiff, Nat.reduceAdd, env0, aLoad, aLoadN, cellsOf, Int.reduceEq, Int.reduceLT, Int.reduceLE, Nat.reduceLeDiff, oneC, aop.fillL, setL, aApp, aAppC_nil, aAppC_own, xop, eqCells, eqCell, rowOf, ↓acallop, aBound, aIntOf, flat, flatN, CX_fn, CX_X, CX_pol, aStore, Nat.reduceBEq, List.size_toArray, Int.sub_zero, Int.zero_add, Int.add_zero, Int.toNat_zero, Int.reduceAdd, Int.reduceSub, Int.reduceMul, Int.reduceNeg, Int.reduceToNat, Nat.reduceSub, Nat.reduceMul, Int.natCast_zero, Int.reduceDiv, Int.reduceMod, Int.toNat_natCast, fdiv_nn, min_bits_i, Int.reducePow, Nat.reducePow, Nat.reduceDiv, Nat.reduceMod, mb_i, mb_u, WpC_drawD, WpT_nil, WpT_cons, WpT_guard, WpK_nil, scal, XNext_eq, nxV, hx, Int.natCast_zero])
        all_goals rfl
      · refine Run_call (F := ir48) rfl (Nat.le_of_ble_eq_true rfl) ?_
        simp only [ir48, D4]
        (repeat' first
    | (refine CondV_dec (fun _ => ?_) (fun _ => ?_) <;> try (exfalso; omega))
    | (refine GuardV_td (fun _ => ?_) (fun _ => ?_) <;> try (exfalso; omega))
    | (refine GuardV_fd (fun _ => ?_) (fun _ => ?_) <;> try (exfalso; omega))
    | (refine CondV_split (fun _ => ?_) (fun _ => ?_))
    | (refine Need_of (by first | omega | decide) ?_)
    | refine WpK_cons ?_ ?_
    | refine WpK_guard ?_
    | simp (disch := first | omega | simp only [List.length_append, List.length_set, List.length_cons, List.length_nil] <;> omega | fail) only [evA, ↓evB, ↓astep, ↓aop, aBin, aInt, aStr, aUn, aNil, aMax, aresults, ares, aPack, ↓reduceIte, ↓reduceCtorEq, Nat.reduceEqDiff, Nat.reduceAdd, env0, aLoad, aLoadN, cellsOf, Int.reduceEq, Int.reduceLT, Int.reduceLE, Nat.reduceLeDiff, oneC, aop.fillL, setL, aApp, aAppC_nil, aAppC_own, xop, eqCells, eqCell, rowOf, ↓acallop, aBound, aIntOf, flat, flatN, CX_fn, CX_X, CX_pol, aStore, Nat.reduceBEq, List.size_toArray, Int.sub_zero, Int.zero_add, Int.add_zero, Int.toNat_zero, Int.reduceAdd, Int.reduceSub, Int.reduceMul, Int.reduceNeg, Int.reduceToNat, Nat.reduceSub, Nat.reduceMul, Int.natCast_zero, Int.reduceDiv, Int.reduceMod, Int.toNat_natCast, fdiv_nn, min_bits_i, Int.reducePow, Nat.reducePow, Nat.reduceDiv, Nat.reduceMod, mb_i, mb_u, WpC_drawD, WpT_nil, WpT_cons, WpT_guard, WpK_nil, scal, XNext_eq, nxV, hx, Int.natCast_zero])
        all_goals rfl
  · rw [if_pos hf] at hr; subst hr
    have hfi : ¬ (f : Int) = 0 := by omega
    rcases hg with rfl | rfl
    · refine Run_call (F := ir47) rfl (Nat.le_of_ble_eq_true rfl) ?_
      simp only [ir47, D4]
      (repeat' first
    | (refine CondV_dec (fun _ => ?_) (fun _ => ?_) <;> try (exfalso; omega))
    | (refine GuardV_td (fun _ => ?_) (fun _ => ?_) <;> try (exfalso; omega))
    | (refine GuardV_fd (fun _ => ?_) (fun _ => ?_) <;> try (exfalso; omega))
    | (refine CondV_split (fun _ => ?_) (fun _ => ?_))
    | (refine Need_of (by first | omega | decide) ?_)
    | refine WpK_cons ?_ ?_
    | refine WpK_guard ?_
    | simp (disch := first | omega | simp only [List.length_append, List.length_set, List.length_cons, List.length_nil] <;> omega | fail) only [evA, ↓evB, ↓astep, ↓aop, aBin, aInt, aStr, aUn, aNil, aMax, aresults, ares, aPack, ↓reduceIte, ↓reduceCtorEq, Nat.reduceEqDiff, Nat.reduceAdd, env0, aLoad, aLoadN, cellsOf, Int.reduceEq, Int.reduceLT, Int.reduceLE, Nat.reduceLeDiff, oneC, aop.fillL, setL, aApp, aAppC_nil, aAppC_own, xop, eqCells, eqCell, rowOf, ↓acallop, aBound, aIntOf, flat, flatN, CX_fn, CX_X, CX_pol, aStore, Nat.reduceBEq, List.size_toArray, Int.sub_zero, Int.zero_add, Int.add_zero, Int.toNat_zero, Int.reduceAdd, Int.reduceSub, Int.reduceMul, Int.reduceNeg, Int.reduceToNat, Nat.reduceSub, Nat.reduceMul, Int.natCast_zero, Int.reduceDiv, Int.reduceMod, Int.toNat_natCast, fdiv_nn, min_bits_i, Int.reducePow, Nat.reducePow, Nat.reduceDiv, Nat.reduceMod, mb_i, mb_u, WpC_drawD, WpT_nil, WpT_cons, WpT_guard, WpK_nil, scal, XNext_eq, nxV, hx, hfi])
      all_goals rfl
    · refine Run_call (F := ir48) rfl (Nat.le_of_ble_eq_true rfl) ?_
      simp only [ir48, D4]
      (repeat' first
    | (refine CondV_dec (fun _ => ?_) (fun _ => ?_) <;> try (exfalso; omega))
    | (refine GuardV_td (fun _ => ?_) (fun _ => ?_) <;> try (exfalso; omega))
    | (refine GuardV_fd (fun _ => ?_) (fun _ => ?_) <;> try (exfalso; omega))
    | (refine CondV_split (fun _ => ?_) (fun _ => ?_))
    | (refine Need_of (by first | omega | decide) ?_)
    | refine WpK_cons ?_ ?_
    | refine WpK_guard ?_
    | simp (disch := first | omega | simp only [List.length_append, List.length_set, List.length_cons, List.length_nil] <;> omega | fail) only [evA, ↓evB, ↓astep, ↓aop, aBin, aInt, aStr, aUn, aNil, aMax, aresults, ares, aPack, ↓reduceIte, ↓reduceCtorEq, Nat.reduceEqDiff, Nat.reduceAdd, env0, aLoad, aLoadN, cellsOf, Int.reduceEq, Int.reduceLT, Int.reduceLE, Nat.reduceLeDiff, oneC, aop.fillL, setL, aApp, aAppC_nil, aAppC_own, xop, eqCells, eqCell, rowOf, ↓acallop, aBound, aIntOf, flat, flatN, CX_fn, CX_X, CX_pol, aStore, Nat.reduceBEq, List.size_toArray, Int.sub_zero, Int.zero_add, Int.add_zero, Int.toNat_zero, Int.reduceAdd, Int.reduceSub, Int.reduceMul, Int.reduceNeg, Int.reduceToNat, Nat.reduceSub, Nat.reduceMul, Int.natCast_zero, Int.reduceDiv, Int.reduceMod, Int.toNat_natCast, fdiv_nn, min_bits_i, Int.reducePow, Nat.reducePow, Nat.reduceDiv, Nat.reduceMod, mb_i, mb_u, WpC_drawD, WpT_nil, WpT_cons, WpT_guard, WpK_nil, scal, XNext_eq, nxV, hx, hfi])
      all_goals rfl
def XSz (args : List Value) : Option Value :=
  match args with
  | [.string s] => if s.size < 50000 then some (szT (szV s)) else none
  | _ => none
theorem XSz_eq (s : ByteArray) : XSz [.string s] = if s.size < 50000 then some (szT (szV s)) else none := rfl
theorem xsz (g : Nat) (hg : g = 47 ∨ g = 48) (F : AFn) (hF : FOk alT Try.prog 0 g F) : XOk Try.prog g XSz := .of D4_ok rfl hF fun args v h => by
  unfold XSz at h
  split at h
  · split at h
    · rename_i hs; cases h; exact ⟨rfl, rfl, 10, 0, wsz _ hs g hg⟩
    · cases h
  · cases h
def XEls (args : List Value) : Option Value :=
  match args with
  | [.string s, .int .i64 n] => if s.size < 50000 ∧ 0 ≤ n ∧ n ≤ 50000 then some (elsV (elsS s n.toNat (s.size + 1) 0 [])) else none
  | _ => none
theorem XEls_eq (s : ByteArray) (n : Int) : XEls [.string s, .int .i64 n] = if s.size < 50000 ∧ 0 ≤ n ∧ n ≤ 50000 then some (elsV (elsS s n.toNat (s.size + 1) 0 [])) else none := rfl
theorem xels : XOk Try.prog 90 XEls := .of D3_ok rfl ok90 fun args v h => by
  unfold XEls at h
  split at h
  · rename_i s n
    split at h
    · rename_i hs; cases h
      have := w90 s n.toNat hs.1 (by omega)
      rw [show ((n.toNat : Nat) : Int) = n by omega] at this
      exact ⟨rfl, rfl, 61001, 0, this⟩
    · cases h
  · cases h
/-- One round more changes nothing. -/
theorem elsS_more : ∀ (q : Nat) (s : ByteArray) (size p : Nat) (out : List Nat), (∀ b ∈ out, b < 256) → s.size - p + 1 ≤ q → elsS s size (q + 1) p out = elsS s size q p out
  | 0, _, _, _, _, _, h => by omega
  | q + 1, s, size, p, out, hlt, h => by
    rw [elsS, elsS.eq_2 s size p out q]
    obtain ⟨g1, g2, g3⟩ := elS_spec (s := s) (size := size) (p := p) hlt
    by_cases hp : p < s.size
    · rw [if_pos hp, if_pos hp]
      by_cases h0 : (elS s size p out).1 = 0
      · rw [if_pos h0, if_pos h0]
        have := g1 h0
        exact elsS_more q s size _ _ g2 (by omega)
      · rw [if_neg h0, if_neg h0]
    · rw [if_neg hp, if_neg hp]
theorem nx_err : ∀ (l : List Nat) (i a : Nat), (nx l i a).2.2 ≠ 0 → (nx l i a).1 = 0 ∧ (nx l i a).2.1 = 0
  | [], i, a, _ => ⟨rfl, rfl⟩
  | b :: l, i, a, h => by
    rw [nx] at h ⊢
    split
    · exact ⟨rfl, rfl⟩
    · rename_i hc
      rw [if_neg hc] at h
      split
      · rename_i h1; rw [if_pos h1] at h; exact absurd rfl h
      · rename_i h1; rw [if_neg h1] at h; exact nx_err l _ _ h
theorem litE_len {s : ByteArray} {size p : Nat} {out : List Nat} {n : Nat} (h : out.length ≤ size) : (litE s size p out n).2.2.length ≤ size := by
  unfold litE
  split
  · exact h
  · split
    · exact h
    · show (out ++ byt s p n).length ≤ size
      rw [List.length_append, byt_len _ _ _ (by omega)]; omega
theorem cpS_len {size p : Nat} {out : List Nat} {n back : Nat} (h : out.length ≤ size) : (cpS size p out n back).2.2.length ≤ size := by
  unfold cpS
  split
  · exact h
  · show (cpy n back out).length ≤ size
    rw [cpy_len]; omega
theorem farS_len {s : ByteArray} {size p : Nat} {out : List Nat} {k n hi : Nat} (h : out.length ≤ size) : (farS s size p out k n hi).2.2.length ≤ size := by
  unfold farS
  split
  · exact cpS_len h
  · exact h
theorem elS_len {s : ByteArray} {size p : Nat} {out : List Nat} (h : out.length ≤ size) : (elS s size p out).2.2.length ≤ size := by
  unfold elS
  dsimp only
  split
  · unfold litS
    split
    · exact litE_len h
    · split
      · exact litE_len h
      · exact h
  · split
    · exact farS_len h
    · split
      · exact farS_len h
      · exact farS_len h
theorem elsS_len : ∀ (q : Nat) (s : ByteArray) (size p : Nat) (out : List Nat), out.length ≤ size → s.size - p + 1 ≤ q → (∀ b ∈ out, b < 256) → (elsS s size q p out).1 = 0 → (elsS s size q p out).2.length = size
  | 0, _, _, _, _, _, h, _, _ => by omega
  | q + 1, s, size, p, out, ho, h, hlt, h0 => by
    rw [elsS] at h0 ⊢
    obtain ⟨g1, g2, g3⟩ := elS_spec (s := s) (size := size) (p := p) hlt
    by_cases hp : p < s.size
    · rw [if_pos hp] at h0 ⊢
      by_cases h1 : (elS s size p out).1 = 0
      · rw [if_pos h1] at h0 ⊢
        have := g1 h1
        exact elsS_len q s size _ _ (elS_len ho) (by omega) g2 h0
      · rw [if_neg h1] at h0 ⊢
        exact absurd h0 h1
    · rw [if_neg hp] at h0 ⊢
      by_cases h1 : out.length < size
      · rw [if_pos h1] at h0; cases h0
      · rw [if_neg h1]; show out.length = size; omega
noncomputable def D5 : Cf := CX (xtab [(46, XAlive), (47, XSz), (48, XSz), (49, XUnp), (90, XEls)]) (polt [])
theorem D5_ok : D5.Ok := CX_ok (all_cons xalive11 (all_cons (xsz _ (.inl rfl) _ ok47) (all_cons (xsz _ (.inr rfl) _ ok48) (all_cons x49 (all_cons xels all_nil))))) al_no
theorem wUnpacks (s : ByteArray) (most : Int) (hs : s.size < 2 ^ 63) (hm : -9223372036854775808 ≤ most ∧ most ≤ 9223372036854775807) : Run (fun v _ => v = .bool true) mk (acall D5 50 11 [.string s, .int .i64 most] [] ⟨0, 0⟩) := by
  refine Run_call (F := ir11) rfl (Nat.le_of_ble_eq_true rfl) ?_
  by_cases hbig : 1500 < s.size
  · simp only [ir11, D5]
    (repeat' first
    | (refine CondV_dec (fun _ => ?_) (fun _ => ?_) <;> try (exfalso; omega))
    | (refine GuardV_td (fun _ => ?_) (fun _ => ?_) <;> try (exfalso; omega))
    | (refine GuardV_fd (fun _ => ?_) (fun _ => ?_) <;> try (exfalso; omega))
    | (refine CondV_split (fun _ => ?_) (fun _ => ?_))
    | (refine Need_of (by first | omega | decide) ?_)
    | refine WpK_cons ?_ ?_
    | refine WpK_guard ?_
    | simp (disch := first | omega | simp only [List.length_append, List.length_set, List.length_cons, List.length_nil] <;> omega | fail) only [evA, ↓evB, ↓astep, ↓aop, aBin, aInt, aStr, aUn, aNil, aMax, aresults, ares, aPack, ↓reduceIte, ↓reduceCtorEq, Nat.reduceEqDiff, Nat.reduceAdd, env0, aLoad, aLoadN, cellsOf, Int.reduceEq, Int.reduceLT, Int.reduceLE, Nat.reduceLeDiff, oneC, aop.fillL, setL, aApp, aAppC_nil, aAppC_own, xop, eqCells, eqCell, rowOf, ↓acallop, aBound, aIntOf, flat, flatN, CX_fn, CX_X, CX_pol, aStore, Nat.reduceBEq, List.size_toArray, Int.sub_zero, Int.zero_add, Int.add_zero, Int.toNat_zero, Int.reduceAdd, Int.reduceSub, Int.reduceMul, Int.reduceNeg, Int.reduceToNat, Nat.reduceSub, Nat.reduceMul, Int.natCast_zero, Int.reduceDiv, Int.reduceMod, Int.toNat_natCast, fdiv_nn, min_bits_i, Int.reducePow, Nat.reducePow, Nat.reduceDiv, Nat.reduceMod, mb_i, mb_u, WpC_drawD, WpT_nil, WpT_cons, WpT_guard, WpK_nil, scal, XAlive_eq])
  obtain ⟨q1, q2, q3⟩ := nx_spec (bl s) 0 0 (by omega) (by decide) (bl_lt s)
  have hu := XUnp_eq s most
  have hz := XSz_eq s
  rw [if_pos (by omega), szV, szT] at hz
  rw [unpV] at hu
  obtain ⟨n, k, f, hx⟩ : ∃ n k f, nx (bl s) 0 0 = (n, k, f) := ⟨_, _, _, rfl⟩
  rw [hx] at q1 q2 q3 hu hz
  simp only at q1 q2 q3 hu hz
  rw [bl_length] at q2
  by_cases hf : f = 0
  · subst hf
    simp only [ne_eq, not_true_eq_false, if_false] at hz hu
    by_cases h32 : 4294967295 < n
    · simp only [if_pos h32, strErr] at hz hu
      rw [if_pos (by omega)] at hu
      simp only [ir11, D5]
      (repeat' first
    | (refine CondV_dec (fun _ => ?_) (fun _ => ?_) <;> try (exfalso; omega))
    | (refine GuardV_td (fun _ => ?_) (fun _ => ?_) <;> try (exfalso; omega))
    | (refine GuardV_fd (fun _ => ?_) (fun _ => ?_) <;> try (exfalso; omega))
    | (refine CondV_split (fun _ => ?_) (fun _ => ?_))
    | (refine Need_of (by first | omega | decide) ?_)
    | refine WpK_cons ?_ ?_
    | refine WpK_guard ?_
    | simp (disch := first | omega | simp only [List.length_append, List.length_set, List.length_cons, List.length_nil] <;> omega | fail) only [evA, ↓evB, ↓astep, ↓aop, aBin, aInt, aStr, aUn, aNil, aMax, aresults, ares, aPack, ↓reduceIte, ↓reduceCtorEq, Nat.reduceEqDiff, Nat.reduceAdd, env0, aLoad, aLoadN, cellsOf, Int.reduceEq, Int.reduceLT, Int.reduceLE, Nat.reduceLeDiff, oneC, aop.fillL, setL, aApp, aAppC_nil, aAppC_own, xop, eqCells, eqCell, rowOf, ↓acallop, aBound, aIntOf, flat, flatN, CX_fn, CX_X, CX_pol, aStore, Nat.reduceBEq, List.size_toArray, Int.sub_zero, Int.zero_add, Int.add_zero, Int.toNat_zero, Int.reduceAdd, Int.reduceSub, Int.reduceMul, Int.reduceNeg, Int.reduceToNat, Nat.reduceSub, Nat.reduceMul, Int.natCast_zero, Int.reduceDiv, Int.reduceMod, Int.toNat_natCast, fdiv_nn, min_bits_i, Int.reducePow, Nat.reducePow, Nat.reduceDiv, Nat.reduceMod, mb_i, mb_u, WpC_drawD, WpT_nil, WpT_cons, WpT_guard, WpK_nil, scal, fn50, ir50, XAlive_eq, hz, hu, Int.natCast_zero])
    · simp only [if_neg h32] at hz hu
      by_cases hg : (20000 : Int) < most ∧ 20000 < n
      · simp only [ir11, D5]
        (repeat' first
    | (refine CondV_dec (fun _ => ?_) (fun _ => ?_) <;> try (exfalso; omega))
    | (refine GuardV_td (fun _ => ?_) (fun _ => ?_) <;> try (exfalso; omega))
    | (refine GuardV_fd (fun _ => ?_) (fun _ => ?_) <;> try (exfalso; omega))
    | (refine CondV_split (fun _ => ?_) (fun _ => ?_))
    | (refine Need_of (by first | omega | decide) ?_)
    | refine WpK_cons ?_ ?_
    | refine WpK_guard ?_
    | simp (disch := first | omega | simp only [List.length_append, List.length_set, List.length_cons, List.length_nil] <;> omega | fail) only [evA, ↓evB, ↓astep, ↓aop, aBin, aInt, aStr, aUn, aNil, aMax, aresults, ares, aPack, ↓reduceIte, ↓reduceCtorEq, Nat.reduceEqDiff, Nat.reduceAdd, env0, aLoad, aLoadN, cellsOf, Int.reduceEq, Int.reduceLT, Int.reduceLE, Nat.reduceLeDiff, oneC, aop.fillL, setL, aApp, aAppC_nil, aAppC_own, xop, eqCells, eqCell, rowOf, ↓acallop, aBound, aIntOf, flat, flatN, CX_fn, CX_X, CX_pol, aStore, Nat.reduceBEq, List.size_toArray, Int.sub_zero, Int.zero_add, Int.add_zero, Int.toNat_zero, Int.reduceAdd, Int.reduceSub, Int.reduceMul, Int.reduceNeg, Int.reduceToNat, Nat.reduceSub, Nat.reduceMul, Int.natCast_zero, Int.reduceDiv, Int.reduceMod, Int.toNat_natCast, fdiv_nn, min_bits_i, Int.reducePow, Nat.reducePow, Nat.reduceDiv, Nat.reduceMod, mb_i, mb_u, WpC_drawD, WpT_nil, WpT_cons, WpT_guard, WpK_nil, scal, XAlive_eq, hz, Int.natCast_zero])
      · rw [if_pos (by omega)] at hu
        by_cases hmo : most < n
        · simp only [if_pos hmo, strErr] at hu
          simp only [ir11, D5]
          (repeat' first
    | (refine CondV_dec (fun _ => ?_) (fun _ => ?_) <;> try (exfalso; omega))
    | (refine GuardV_td (fun _ => ?_) (fun _ => ?_) <;> try (exfalso; omega))
    | (refine GuardV_fd (fun _ => ?_) (fun _ => ?_) <;> try (exfalso; omega))
    | (refine CondV_split (fun _ => ?_) (fun _ => ?_))
    | (refine Need_of (by first | omega | decide) ?_)
    | refine WpK_cons ?_ ?_
    | refine WpK_guard ?_
    | simp (disch := first | omega | simp only [List.length_append, List.length_set, List.length_cons, List.length_nil] <;> omega | fail) only [evA, ↓evB, ↓astep, ↓aop, aBin, aInt, aStr, aUn, aNil, aMax, aresults, ares, aPack, ↓reduceIte, ↓reduceCtorEq, Nat.reduceEqDiff, Nat.reduceAdd, env0, aLoad, aLoadN, cellsOf, Int.reduceEq, Int.reduceLT, Int.reduceLE, Nat.reduceLeDiff, oneC, aop.fillL, setL, aApp, aAppC_nil, aAppC_own, xop, eqCells, eqCell, rowOf, ↓acallop, aBound, aIntOf, flat, flatN, CX_fn, CX_X, CX_pol, aStore, Nat.reduceBEq, List.size_toArray, Int.sub_zero, Int.zero_add, Int.add_zero, Int.toNat_zero, Int.reduceAdd, Int.reduceSub, Int.reduceMul, Int.reduceNeg, Int.reduceToNat, Nat.reduceSub, Nat.reduceMul, Int.natCast_zero, Int.reduceDiv, Int.reduceMod, Int.toNat_natCast, fdiv_nn, min_bits_i, Int.reducePow, Nat.reducePow, Nat.reduceDiv, Nat.reduceMod, mb_i, mb_u, WpC_drawD, WpT_nil, WpT_cons, WpT_guard, WpK_nil, scal, fn50, ir50, XAlive_eq, hz, hu, Int.natCast_zero])
        · simp only [if_neg hmo] at hu
          obtain ⟨t, ht⟩ : ∃ t, t = s.extract k s.size := ⟨_, rfl⟩
          rw [← ht] at hu
          have hts : t.size ≤ 1500 := by rw [ht, ext_size _ _ _ (Nat.le_refl _)]; omega
          have he := XEls_eq t n
          rw [if_pos (by omega), Int.toNat_natCast] at he
          rw [elsS_more (t.size + 1) t n 0 [] (by simp) (by omega)] at hu
          have hlen := elsS_len (t.size + 1) t n 0 [] (by simp) (by omega) (by simp)
          obtain ⟨q, hq⟩ : ∃ q, q = elsS t n (t.size + 1) 0 [] := ⟨_, rfl⟩
          rw [← hq] at hu he hlen
          rw [elsV] at he
          by_cases hq0 : q.1 = 0
          · simp only [hq0, not_true_eq_false, if_false, if_true, strErr] at hu he hlen
            have hl2 := hlen trivial
            simp only [ir11, D5]
            (repeat' first
    | (refine CondV_dec (fun _ => ?_) (fun _ => ?_) <;> try (exfalso; omega))
    | (refine GuardV_td (fun _ => ?_) (fun _ => ?_) <;> try (exfalso; omega))
    | (refine GuardV_fd (fun _ => ?_) (fun _ => ?_) <;> try (exfalso; omega))
    | (refine CondV_split (fun _ => ?_) (fun _ => ?_))
    | (refine Need_of (by first | omega | decide) ?_)
    | refine WpK_cons ?_ ?_
    | refine WpK_guard ?_
    | simp (disch := first | omega | simp only [List.length_append, List.length_set, List.length_cons, List.length_nil] <;> omega | fail) only [evA, ↓evB, ↓astep, ↓aop, aBin, aInt, aStr, aUn, aNil, aMax, aresults, ares, aPack, ↓reduceIte, ↓reduceCtorEq, Nat.reduceEqDiff, Nat.reduceAdd, env0, aLoad, aLoadN, cellsOf, Int.reduceEq, Int.reduceLT, Int.reduceLE, Nat.reduceLeDiff, oneC, aop.fillL, setL, aApp, aAppC_nil, aAppC_own, xop, eqCells, eqCell, rowOf, ↓acallop, aBound, aIntOf, flat, flatN, CX_fn, CX_X, CX_pol, aStore, Nat.reduceBEq, List.size_toArray, Int.sub_zero, Int.zero_add, Int.add_zero, Int.toNat_zero, Int.reduceAdd, Int.reduceSub, Int.reduceMul, Int.reduceNeg, Int.reduceToNat, Nat.reduceSub, Nat.reduceMul, Int.natCast_zero, Int.reduceDiv, Int.reduceMod, Int.toNat_natCast, fdiv_nn, min_bits_i, Int.reducePow, Nat.reducePow, Nat.reduceDiv, Nat.reduceMod, mb_i, mb_u, WpC_drawD, WpT_nil, WpT_cons, WpT_guard, WpK_nil, scal, fn50, ir50, XAlive_eq, hz, hu, he, ← ht, hl2, Int.natCast_zero])
            all_goals (rw [decide_eq_true (by omega)])
          · simp only [hq0, not_false_eq_true, if_false, if_true, strErr] at hu he
            have hqi : ¬ (q.1 : Int) = 0 := by omega
            simp only [ir11, D5]
            (repeat' first
    | (refine CondV_dec (fun _ => ?_) (fun _ => ?_) <;> try (exfalso; omega))
    | (refine GuardV_td (fun _ => ?_) (fun _ => ?_) <;> try (exfalso; omega))
    | (refine GuardV_fd (fun _ => ?_) (fun _ => ?_) <;> try (exfalso; omega))
    | (refine CondV_split (fun _ => ?_) (fun _ => ?_))
    | (refine Need_of (by first | omega | decide) ?_)
    | refine WpK_cons ?_ ?_
    | refine WpK_guard ?_
    | simp (disch := first | omega | simp only [List.length_append, List.length_set, List.length_cons, List.length_nil] <;> omega | fail) only [evA, ↓evB, ↓astep, ↓aop, aBin, aInt, aStr, aUn, aNil, aMax, aresults, ares, aPack, ↓reduceIte, ↓reduceCtorEq, Nat.reduceEqDiff, Nat.reduceAdd, env0, aLoad, aLoadN, cellsOf, Int.reduceEq, Int.reduceLT, Int.reduceLE, Nat.reduceLeDiff, oneC, aop.fillL, setL, aApp, aAppC_nil, aAppC_own, xop, eqCells, eqCell, rowOf, ↓acallop, aBound, aIntOf, flat, flatN, CX_fn, CX_X, CX_pol, aStore, Nat.reduceBEq, List.size_toArray, Int.sub_zero, Int.zero_add, Int.add_zero, Int.toNat_zero, Int.reduceAdd, Int.reduceSub, Int.reduceMul, Int.reduceNeg, Int.reduceToNat, Nat.reduceSub, Nat.reduceMul, Int.natCast_zero, Int.reduceDiv, Int.reduceMod, Int.toNat_natCast, fdiv_nn, min_bits_i, Int.reducePow, Nat.reducePow, Nat.reduceDiv, Nat.reduceMod, mb_i, mb_u, WpC_drawD, WpT_nil, WpT_cons, WpT_guard, WpK_nil, scal, fn50, ir50, XAlive_eq, hz, hu, he, ← ht, hqi, Int.natCast_zero])
  · have hn0 : n = 0 ∧ k = 0 := by
      have := nx_err (bl s) 0 0 (by rw [hx]; exact hf)
      rw [hx] at this; exact this
    obtain ⟨rfl, rfl⟩ := hn0
    simp only [ne_eq, hf, not_false_eq_true, if_true, strErr] at hz hu
    rw [if_pos (by omega)] at hu
    have hfi : ¬ (f : Int) = 0 := by omega
    simp only [ir11, D5]
    (repeat' first
    | (refine CondV_dec (fun _ => ?_) (fun _ => ?_) <;> try (exfalso; omega))
    | (refine GuardV_td (fun _ => ?_) (fun _ => ?_) <;> try (exfalso; omega))
    | (refine GuardV_fd (fun _ => ?_) (fun _ => ?_) <;> try (exfalso; omega))
    | (refine CondV_split (fun _ => ?_) (fun _ => ?_))
    | (refine Need_of (by first | omega | decide) ?_)
    | refine WpK_cons ?_ ?_
    | refine WpK_guard ?_
    | simp (disch := first | omega | simp only [List.length_append, List.length_set, List.length_cons, List.length_nil] <;> omega | fail) only [evA, ↓evB, ↓astep, ↓aop, aBin, aInt, aStr, aUn, aNil, aMax, aresults, ares, aPack, ↓reduceIte, ↓reduceCtorEq, Nat.reduceEqDiff, Nat.reduceAdd, env0, aLoad, aLoadN, cellsOf, Int.reduceEq, Int.reduceLT, Int.reduceLE, Nat.reduceLeDiff, oneC, aop.fillL, setL, aApp, aAppC_nil, aAppC_own, xop, eqCells, eqCell, rowOf, ↓acallop, aBound, aIntOf, flat, flatN, CX_fn, CX_X, CX_pol, aStore, Nat.reduceBEq, List.size_toArray, Int.sub_zero, Int.zero_add, Int.add_zero, Int.toNat_zero, Int.reduceAdd, Int.reduceSub, Int.reduceMul, Int.reduceNeg, Int.reduceToNat, Nat.reduceSub, Nat.reduceMul, Int.natCast_zero, Int.reduceDiv, Int.reduceMod, Int.toNat_natCast, fdiv_nn, min_bits_i, Int.reducePow, Nat.reducePow, Nat.reduceDiv, Nat.reduceMod, mb_i, mb_u, WpC_drawD, WpT_nil, WpT_cons, WpT_guard, WpK_nil, scal, fn50, ir50, XAlive_eq, hz, hu, hfi, Int.natCast_zero])
theorem wf_i64 {n : Int} (h : (Lit.int .i64 n).wf = true) : -9223372036854775808 ≤ n ∧ n ≤ 9223372036854775807 := by
  simp [Lit.wf, IntKind.min, IntKind.max, IntKind.signed, IntKind.bits] at h
  omega
theorem main_SnapUnpacks (args : List Value) (h : IsVs Try.prog [] Try.f11.params.toList args) : ∃ k, Run (fun v' _ => v' = .bool true) mk (acall D5 k 11 args [] ⟨0, 0⟩) := by
  rw [Try.params11] at h
  obtain ⟨v0, r0, rfl, h0, h⟩ := args_cons h
  obtain ⟨v1, r1, rfl, h1, h⟩ := args_cons h
  obtain rfl := args_nil h
  obtain ⟨s, rfl, hs⟩ := isv_string Try.underlying9 h0
  obtain ⟨n, rfl, w0⟩ := isv_int Try.underlying3 h1
  exact ⟨50, wUnpacks s n (by unfold maxLen at hs; omega) (wf_i64 w0)⟩
end L11
end Ev
end Go.Proofs.Ytfbelnjchpffeaa
