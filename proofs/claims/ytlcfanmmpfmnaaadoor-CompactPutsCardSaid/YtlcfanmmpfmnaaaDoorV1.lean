/-
  Numbers of bytes: what the plain functions answer, and their laws.
-/
import Derived.Test.YtlcfanmmpfmnaaaDoorV0
namespace Go.Proofs.YtlcfanmmpfmnaaaDoor
namespace Ev
namespace F4
open Tag (mk)
set_option linter.unusedSimpArgs false
set_option linter.unusedVariables false
set_option maxRecDepth 4000
set_option maxHeartbeats 4000000
noncomputable def C8 : Cf := CX (xtab []) (polt [])
theorem C8_ok : C8.Ok := CX_ok all_nil al_no
theorem C8_X (f : FuncId) : C8.X f = none := rfl
theorem C8_pol (f : FuncId) : C8.pol f = .gen := rfl
theorem bs_append (a b : List Nat) : bs a ++ bs b = bs (a ++ b) := bl_inj (by rw [bl_append, bl_bs', bl_bs', bl_bs']; simp)

def I43 (N : Nat) (n : Nat) (e : Env) (H : Heap) : Prop :=
  ∃ (i M : Nat) (acc : List Nat), i + n = 9 ∧ M < 2 ^ (8 * (8 - i)) ∧ acc.length ≤ i ∧ i ≤ 8 ∧ lsts 8 N = lsts (8 - i) M ++ acc ∧ e 0 = .int .u64 (M : Int) ∧ e 3 = .string (bs acc)
theorem w43 (N : Nat) (hN : N < 2 ^ 64) (k : Nat) (hk : 20 < k) : Run (fun v H' => v = .string (bs (lsts 8 N))) mk (acall C8 (k + 1) 34 [.int .u64 (N : Int)] [] ⟨0, 0⟩) := by
  refine Run_call (F := ir34) rfl (Nat.le_of_ble_eq_true rfl) ?_
  simp only [ir34, evA, ↓evB, ↓astep, ↓aop, aBin, aInt, aStr, aUn, aNil, aMax, aresults, ares, aPack, ↓reduceIte, ↓reduceCtorEq, Nat.reduceEqDiff, Nat.reduceAdd, env0, aLoad, aLoadN, cellsOf, Int.reduceEq, Int.reduceLT, Int.reduceLE, Nat.reduceLeDiff, oneC, aop.fillL, setL, aApp, aAppC_nil, aAppC_own, xop, eqCells, eqCell, rowOf, ↓acallop, aBound, aIntOf, flat, flatN, CX_fn, CX_X, CX_pol, aStore, Nat.reduceBEq, List.size_toArray, Int.sub_zero, Int.zero_add, Int.add_zero, Int.toNat_zero, Int.reduceAdd, Int.reduceSub, Int.reduceMul, Int.reduceNeg, Int.reduceToNat, Nat.reduceSub, Nat.reduceMul, Int.natCast_zero, Int.reduceDiv, Int.reduceMod, Int.toNat_natCast, fdiv_nn, min_bits_i, Int.reducePow, Nat.reducePow, Nat.reduceDiv, Nat.reduceMod, mb_i, mb_u, WpC_drawD, WpT_nil, WpT_cons, WpT_guard, WpK_nil, scal]
  refine WpC_loop (I43 N) ?_ (n := 9) (by omega) ?_
  · rintro n e H ⟨i, M, acc, hi, hM, hacc, hi8, hl, h0, h3⟩
    have e1 : 0 < M → ((M : Int) % 256) = ((M % 256 : Nat) : Int) := fun _ => by omega
    have hM64 : M < 2 ^ 64 := Nat.lt_of_lt_of_le hM (Nat.pow_le_pow_right (by omega) (by omega))
    simp only [lp34_0, evA, ↓evB, ↓astep, ↓aop, aBin, aInt, aStr, aUn, aNil, aMax, aresults, ares, aPack, ↓reduceIte, ↓reduceCtorEq, Nat.reduceEqDiff, Nat.reduceAdd, env0, aLoad, aLoadN, cellsOf, Int.reduceEq, Int.reduceLT, Int.reduceLE, Nat.reduceLeDiff, oneC, aop.fillL, setL, aApp, aAppC_nil, aAppC_own, xop, eqCells, eqCell, rowOf, ↓acallop, aBound, aIntOf, flat, flatN, CX_fn, CX_X, CX_pol, aStore, Nat.reduceBEq, List.size_toArray, Int.sub_zero, Int.zero_add, Int.add_zero, Int.toNat_zero, Int.reduceAdd, Int.reduceSub, Int.reduceMul, Int.reduceNeg, Int.reduceToNat, Nat.reduceSub, Nat.reduceMul, Int.natCast_zero, Int.reduceDiv, Int.reduceMod, Int.toNat_natCast, fdiv_nn, min_bits_i, Int.reducePow, Nat.reducePow, Nat.reduceDiv, Nat.reduceMod, mb_i, mb_u, WpC_drawD, WpT_nil, WpT_cons, WpT_guard, WpK_nil, scal, h0, h3]
    refine CondV_dec (fun hc => ?_) (fun hc => ?_)
    · have e1 := e1 (by omega)
      have h8 : i ≠ 8 := by
        intro h; subst h; simp at hM; omega
      obtain ⟨j, hj⟩ : ∃ j, 8 - i = j + 1 := ⟨7 - i, by omega⟩
      have hj' : 8 - (i + 1) = j := by omega
      have hp : 2 ^ (8 * (j + 1)) = 2 ^ (8 * j) * 256 := by rw [show 8 * (j + 1) = 8 * j + 8 by omega, Nat.pow_add]
      rw [hj] at hM hl
      (repeat' first
    | (refine CondV_dec (fun _ => ?_) (fun _ => ?_) <;> try (exfalso; omega))
    | (refine GuardV_td (fun _ => ?_) (fun _ => ?_) <;> try (exfalso; omega))
    | (refine GuardV_fd (fun _ => ?_) (fun _ => ?_) <;> try (exfalso; omega))
    | (refine CondV_split (fun _ => ?_) (fun _ => ?_))
    | (refine Need_of (by first | omega | decide) ?_)
    | refine WpK_cons ?_ ?_
    | refine WpK_guard ?_
    | simp (disch := first | omega | simp only [List.length_append, List.length_set, List.length_cons, List.length_nil] <;> omega | fail) only [evA, ↓evB, ↓astep, ↓aop, aBin, aInt, aStr, aUn, aNil, aMax, aresults, ares, aPack, ↓reduceIte, ↓reduceCtorEq, Nat.reduceEqDiff, Nat.reduceAdd, env0, aLoad, aLoadN, cellsOf, Int.reduceEq, Int.reduceLT, Int.reduceLE, Nat.reduceLeDiff, oneC, aop.fillL, setL, aApp, aAppC_nil, aAppC_own, xop, eqCells, eqCell, rowOf, ↓acallop, aBound, aIntOf, flat, flatN, CX_fn, CX_X, CX_pol, aStore, Nat.reduceBEq, List.size_toArray, Int.sub_zero, Int.zero_add, Int.add_zero, Int.toNat_zero, Int.reduceAdd, Int.reduceSub, Int.reduceMul, Int.reduceNeg, Int.reduceToNat, Nat.reduceSub, Nat.reduceMul, Int.natCast_zero, Int.reduceDiv, Int.reduceMod, Int.toNat_natCast, fdiv_nn, min_bits_i, Int.reducePow, Nat.reducePow, Nat.reduceDiv, Nat.reduceMod, mb_i, mb_u, WpC_drawD, WpT_nil, WpT_cons, WpT_guard, WpK_nil, scal, h0, h3, e1, bs_one, bs_append])
      refine ⟨n - 1, by omega, i + 1, M / 256, [M % 256] ++ acc, by omega, by rw [hj']; omega, by simp; omega, by omega, ?_, ?_, ?_⟩
      · rw [hl, hj', lsts, if_neg (by omega), List.append_assoc]
      · (first | rfl | (simp only [Env_put_some, Env_put_none, ↓Env_set_at, ↓reduceIte, Nat.reduceEqDiff] <;> rfl))
      · (first | rfl | (simp only [Env_put_some, Env_put_none, ↓Env_set_at, ↓reduceIte, Nat.reduceEqDiff] <;> rfl))
    · (repeat' first
    | (refine CondV_dec (fun _ => ?_) (fun _ => ?_) <;> try (exfalso; omega))
    | (refine GuardV_td (fun _ => ?_) (fun _ => ?_) <;> try (exfalso; omega))
    | (refine GuardV_fd (fun _ => ?_) (fun _ => ?_) <;> try (exfalso; omega))
    | (refine CondV_split (fun _ => ?_) (fun _ => ?_))
    | (refine Need_of (by first | omega | decide) ?_)
    | refine WpK_cons ?_ ?_
    | refine WpK_guard ?_
    | simp (disch := first | omega | simp only [List.length_append, List.length_set, List.length_cons, List.length_nil] <;> omega | fail) only [evA, ↓evB, ↓astep, ↓aop, aBin, aInt, aStr, aUn, aNil, aMax, aresults, ares, aPack, ↓reduceIte, ↓reduceCtorEq, Nat.reduceEqDiff, Nat.reduceAdd, env0, aLoad, aLoadN, cellsOf, Int.reduceEq, Int.reduceLT, Int.reduceLE, Nat.reduceLeDiff, oneC, aop.fillL, setL, aApp, aAppC_nil, aAppC_own, xop, eqCells, eqCell, rowOf, ↓acallop, aBound, aIntOf, flat, flatN, CX_fn, CX_X, CX_pol, aStore, Nat.reduceBEq, List.size_toArray, Int.sub_zero, Int.zero_add, Int.add_zero, Int.toNat_zero, Int.reduceAdd, Int.reduceSub, Int.reduceMul, Int.reduceNeg, Int.reduceToNat, Nat.reduceSub, Nat.reduceMul, Int.natCast_zero, Int.reduceDiv, Int.reduceMod, Int.toNat_natCast, fdiv_nn, min_bits_i, Int.reducePow, Nat.reducePow, Nat.reduceDiv, Nat.reduceMod, mb_i, mb_u, WpC_drawD, WpT_nil, WpT_cons, WpT_guard, WpK_nil, scal, h0, h3])
      obtain rfl : M = 0 := by omega
      rw [hl]
      cases 8 - i with
      | zero => rfl
      | succ j => rfl
  · exact ⟨0, N, [], by omega, hN, by simp, by omega, by simp, rfl, rfl⟩

theorem lsts_len : ∀ (k N : Nat), (lsts k N).length ≤ k
  | 0, N => by simp [lsts]
  | k + 1, N => by
    rw [lsts]; split
    · simp
    · have := lsts_len k (N / 256); simp; omega

/-- The plain Big: with leading zeros up to the size. -/
def bigV (N : Nat) (size : Int) : ByteArray × Bool := if size < (lsts 8 N).length then (⟨#[]⟩, false) else (bs (List.replicate (size.toNat - (lsts 8 N).length) 0 ++ lsts 8 N), true)
def sbV (r : ByteArray × Bool) : Value := .tuple #[.string r.1, .bool r.2]
def I44 (N : Nat) (sz : Int) (n : Nat) (e : Env) (H : Heap) : Prop :=
  ∃ (i : Nat), ((lsts 8 N).length + i + n : Int) = sz ∧ e 1 = .int .i64 sz ∧ e 6 = .string (bs (List.replicate i 0 ++ lsts 8 N))
theorem w44 (N : Nat) (hN : N < 2 ^ 64) (sz : Int) (h0 : -9223372036854775808 ≤ sz) (h8 : sz ≤ 1000) (k : Nat) (hk : 1020 < k) : Run (fun v H' => v = sbV (bigV N sz)) mk (acall C8 (k + 1) 29 [.int .u64 (N : Int), .int .i64 sz] [] ⟨0, 0⟩) := by
  obtain ⟨k', rfl⟩ : ∃ k', k = k' + 1 := ⟨k - 1, by omega⟩
  obtain ⟨H1, e43⟩ := Run_ex (w43 N hN k' (by omega))
  have hll := lsts_len 8 N
  refine Run_call (F := ir29) rfl (Nat.le_of_ble_eq_true rfl) ?_
  simp only [ir29, evA, ↓evB, ↓astep, ↓aop, aBin, aInt, aStr, aUn, aNil, aMax, aresults, ares, aPack, ↓reduceIte, ↓reduceCtorEq, Nat.reduceEqDiff, Nat.reduceAdd, env0, aLoad, aLoadN, cellsOf, Int.reduceEq, Int.reduceLT, Int.reduceLE, Nat.reduceLeDiff, oneC, aop.fillL, setL, aApp, aAppC_nil, aAppC_own, xop, eqCells, eqCell, rowOf, ↓acallop, aBound, aIntOf, flat, flatN, CX_fn, CX_X, CX_pol, aStore, Nat.reduceBEq, List.size_toArray, Int.sub_zero, Int.zero_add, Int.add_zero, Int.toNat_zero, Int.reduceAdd, Int.reduceSub, Int.reduceMul, Int.reduceNeg, Int.reduceToNat, Nat.reduceSub, Nat.reduceMul, Int.natCast_zero, Int.reduceDiv, Int.reduceMod, Int.toNat_natCast, fdiv_nn, min_bits_i, Int.reducePow, Nat.reducePow, Nat.reduceDiv, Nat.reduceMod, mb_i, mb_u, WpC_drawD, WpT_nil, WpT_cons, WpT_guard, WpK_nil, scal, C8_X, C8_pol, e43]
  refine CondV_dec (fun hc => ?_) (fun hc => ?_)
  · (repeat' first
    | (refine CondV_dec (fun _ => ?_) (fun _ => ?_) <;> try (exfalso; omega))
    | (refine GuardV_td (fun _ => ?_) (fun _ => ?_) <;> try (exfalso; omega))
    | (refine GuardV_fd (fun _ => ?_) (fun _ => ?_) <;> try (exfalso; omega))
    | (refine CondV_split (fun _ => ?_) (fun _ => ?_))
    | (refine Need_of (by first | omega | decide) ?_)
    | refine WpK_cons ?_ ?_
    | refine WpK_guard ?_
    | simp (disch := first | omega | simp only [List.length_append, List.length_set, List.length_cons, List.length_nil] <;> omega | fail) only [evA, ↓evB, ↓astep, ↓aop, aBin, aInt, aStr, aUn, aNil, aMax, aresults, ares, aPack, ↓reduceIte, ↓reduceCtorEq, Nat.reduceEqDiff, Nat.reduceAdd, env0, aLoad, aLoadN, cellsOf, Int.reduceEq, Int.reduceLT, Int.reduceLE, Nat.reduceLeDiff, oneC, aop.fillL, setL, aApp, aAppC_nil, aAppC_own, xop, eqCells, eqCell, rowOf, ↓acallop, aBound, aIntOf, flat, flatN, CX_fn, CX_X, CX_pol, aStore, Nat.reduceBEq, List.size_toArray, Int.sub_zero, Int.zero_add, Int.add_zero, Int.toNat_zero, Int.reduceAdd, Int.reduceSub, Int.reduceMul, Int.reduceNeg, Int.reduceToNat, Nat.reduceSub, Nat.reduceMul, Int.natCast_zero, Int.reduceDiv, Int.reduceMod, Int.toNat_natCast, fdiv_nn, min_bits_i, Int.reducePow, Nat.reducePow, Nat.reduceDiv, Nat.reduceMod, mb_i, mb_u, WpC_drawD, WpT_nil, WpT_cons, WpT_guard, WpK_nil, scal, C8_X, C8_pol])
    rw [bigV, if_pos hc]; rfl
  · simp only [evA, ↓evB, ↓astep, ↓aop, aBin, aInt, aStr, aUn, aNil, aMax, aresults, ares, aPack, ↓reduceIte, ↓reduceCtorEq, Nat.reduceEqDiff, Nat.reduceAdd, env0, aLoad, aLoadN, cellsOf, Int.reduceEq, Int.reduceLT, Int.reduceLE, Nat.reduceLeDiff, oneC, aop.fillL, setL, aApp, aAppC_nil, aAppC_own, xop, eqCells, eqCell, rowOf, ↓acallop, aBound, aIntOf, flat, flatN, CX_fn, CX_X, CX_pol, aStore, Nat.reduceBEq, List.size_toArray, Int.sub_zero, Int.zero_add, Int.add_zero, Int.toNat_zero, Int.reduceAdd, Int.reduceSub, Int.reduceMul, Int.reduceNeg, Int.reduceToNat, Nat.reduceSub, Nat.reduceMul, Int.natCast_zero, Int.reduceDiv, Int.reduceMod, Int.toNat_natCast, fdiv_nn, min_bits_i, Int.reducePow, Nat.reducePow, Nat.reduceDiv, Nat.reduceMod, mb_i, mb_u, WpC_drawD, WpT_nil, WpT_cons, WpT_guard, WpK_nil, scal]
    refine WpC_loop (I44 N sz) ?_ (n := (sz - (lsts 8 N).length).toNat) (by omega) ?_
    · rintro n e H ⟨i, hi, h1, h6⟩
      have hb : bs [0] ++ bs (List.replicate i 0 ++ lsts 8 N) = bs (List.replicate (i + 1) 0 ++ lsts 8 N) := by rw [bs_append, List.replicate_succ]; rfl
      have hz : ({ data := #[0] } : ByteArray) = bs [0] := rfl
      simp only [lp29_0, evA, ↓evB, ↓astep, ↓aop, aBin, aInt, aStr, aUn, aNil, aMax, aresults, ares, aPack, ↓reduceIte, ↓reduceCtorEq, Nat.reduceEqDiff, Nat.reduceAdd, env0, aLoad, aLoadN, cellsOf, Int.reduceEq, Int.reduceLT, Int.reduceLE, Nat.reduceLeDiff, oneC, aop.fillL, setL, aApp, aAppC_nil, aAppC_own, xop, eqCells, eqCell, rowOf, ↓acallop, aBound, aIntOf, flat, flatN, CX_fn, CX_X, CX_pol, aStore, Nat.reduceBEq, List.size_toArray, Int.sub_zero, Int.zero_add, Int.add_zero, Int.toNat_zero, Int.reduceAdd, Int.reduceSub, Int.reduceMul, Int.reduceNeg, Int.reduceToNat, Nat.reduceSub, Nat.reduceMul, Int.natCast_zero, Int.reduceDiv, Int.reduceMod, Int.toNat_natCast, fdiv_nn, min_bits_i, Int.reducePow, Nat.reducePow, Nat.reduceDiv, Nat.reduceMod, mb_i, mb_u, WpC_drawD, WpT_nil, WpT_cons, WpT_guard, WpK_nil, scal, h1, h6, List.length_replicate]
      refine CondV_dec (fun hc => ?_) (fun hc => ?_)
      · (repeat' first
    | (refine CondV_dec (fun _ => ?_) (fun _ => ?_) <;> try (exfalso; omega))
    | (refine GuardV_td (fun _ => ?_) (fun _ => ?_) <;> try (exfalso; omega))
    | (refine GuardV_fd (fun _ => ?_) (fun _ => ?_) <;> try (exfalso; omega))
    | (refine CondV_split (fun _ => ?_) (fun _ => ?_))
    | (refine Need_of (by first | omega | decide) ?_)
    | refine WpK_cons ?_ ?_
    | refine WpK_guard ?_
    | simp (disch := first | omega | simp only [List.length_append, List.length_set, List.length_cons, List.length_nil] <;> omega | fail) only [evA, ↓evB, ↓astep, ↓aop, aBin, aInt, aStr, aUn, aNil, aMax, aresults, ares, aPack, ↓reduceIte, ↓reduceCtorEq, Nat.reduceEqDiff, Nat.reduceAdd, env0, aLoad, aLoadN, cellsOf, Int.reduceEq, Int.reduceLT, Int.reduceLE, Nat.reduceLeDiff, oneC, aop.fillL, setL, aApp, aAppC_nil, aAppC_own, xop, eqCells, eqCell, rowOf, ↓acallop, aBound, aIntOf, flat, flatN, CX_fn, CX_X, CX_pol, aStore, Nat.reduceBEq, List.size_toArray, Int.sub_zero, Int.zero_add, Int.add_zero, Int.toNat_zero, Int.reduceAdd, Int.reduceSub, Int.reduceMul, Int.reduceNeg, Int.reduceToNat, Nat.reduceSub, Nat.reduceMul, Int.natCast_zero, Int.reduceDiv, Int.reduceMod, Int.toNat_natCast, fdiv_nn, min_bits_i, Int.reducePow, Nat.reducePow, Nat.reduceDiv, Nat.reduceMod, mb_i, mb_u, WpC_drawD, WpT_nil, WpT_cons, WpT_guard, WpK_nil, scal, h1, h6, hz, hb, List.length_replicate])
        refine ⟨n - 1, by omega, i + 1, by omega, ?_, ?_⟩
        · (first | rfl | (simp only [Env_put_some, Env_put_none, ↓Env_set_at, ↓reduceIte, Nat.reduceEqDiff, h1] <;> rfl))
        · (first | rfl | (simp only [Env_put_some, Env_put_none, ↓Env_set_at, ↓reduceIte, Nat.reduceEqDiff] <;> rfl))
      · (repeat' first
    | (refine CondV_dec (fun _ => ?_) (fun _ => ?_) <;> try (exfalso; omega))
    | (refine GuardV_td (fun _ => ?_) (fun _ => ?_) <;> try (exfalso; omega))
    | (refine GuardV_fd (fun _ => ?_) (fun _ => ?_) <;> try (exfalso; omega))
    | (refine CondV_split (fun _ => ?_) (fun _ => ?_))
    | (refine Need_of (by first | omega | decide) ?_)
    | refine WpK_cons ?_ ?_
    | refine WpK_guard ?_
    | simp (disch := first | omega | simp only [List.length_append, List.length_set, List.length_cons, List.length_nil] <;> omega | fail) only [evA, ↓evB, ↓astep, ↓aop, aBin, aInt, aStr, aUn, aNil, aMax, aresults, ares, aPack, ↓reduceIte, ↓reduceCtorEq, Nat.reduceEqDiff, Nat.reduceAdd, env0, aLoad, aLoadN, cellsOf, Int.reduceEq, Int.reduceLT, Int.reduceLE, Nat.reduceLeDiff, oneC, aop.fillL, setL, aApp, aAppC_nil, aAppC_own, xop, eqCells, eqCell, rowOf, ↓acallop, aBound, aIntOf, flat, flatN, CX_fn, CX_X, CX_pol, aStore, Nat.reduceBEq, List.size_toArray, Int.sub_zero, Int.zero_add, Int.add_zero, Int.toNat_zero, Int.reduceAdd, Int.reduceSub, Int.reduceMul, Int.reduceNeg, Int.reduceToNat, Nat.reduceSub, Nat.reduceMul, Int.natCast_zero, Int.reduceDiv, Int.reduceMod, Int.toNat_natCast, fdiv_nn, min_bits_i, Int.reducePow, Nat.reducePow, Nat.reduceDiv, Nat.reduceMod, mb_i, mb_u, WpC_drawD, WpT_nil, WpT_cons, WpT_guard, WpK_nil, scal, h1, h6])
        rw [bigV, if_neg (by omega), show sz.toNat - (lsts 8 N).length = i by omega]; rfl
    · exact ⟨0, by omega, rfl, by simp; rfl⟩

/-- Turned round. -/
def I47 (s : ByteArray) (n : Nat) (e : Env) (H : Heap) : Prop :=
  ∃ (i : Nat), i + n = s.size ∧ e 0 = .string s ∧ e 4 = .int .i64 (i : Int) ∧ e 3 = .string (bs ((bl s).take i).reverse)
theorem w47 (s : ByteArray) (hs : s.size < 2 ^ 62) (k : Nat) (hk : s.size < k) : Run (fun v H' => v = .string (bs (bl s).reverse)) mk (acall C8 (k + 1) 30 [.string s] [] ⟨0, 0⟩) := by
  have hlb := bl_length s
  refine Run_call (F := ir30) rfl (Nat.le_of_ble_eq_true rfl) ?_
  simp only [ir30, evA, ↓evB, ↓astep, ↓aop, aBin, aInt, aStr, aUn, aNil, aMax, aresults, ares, aPack, ↓reduceIte, ↓reduceCtorEq, Nat.reduceEqDiff, Nat.reduceAdd, env0, aLoad, aLoadN, cellsOf, Int.reduceEq, Int.reduceLT, Int.reduceLE, Nat.reduceLeDiff, oneC, aop.fillL, setL, aApp, aAppC_nil, aAppC_own, xop, eqCells, eqCell, rowOf, ↓acallop, aBound, aIntOf, flat, flatN, CX_fn, CX_X, CX_pol, aStore, Nat.reduceBEq, List.size_toArray, Int.sub_zero, Int.zero_add, Int.add_zero, Int.toNat_zero, Int.reduceAdd, Int.reduceSub, Int.reduceMul, Int.reduceNeg, Int.reduceToNat, Nat.reduceSub, Nat.reduceMul, Int.natCast_zero, Int.reduceDiv, Int.reduceMod, Int.toNat_natCast, fdiv_nn, min_bits_i, Int.reducePow, Nat.reducePow, Nat.reduceDiv, Nat.reduceMod, mb_i, mb_u, WpC_drawD, WpT_nil, WpT_cons, WpT_guard, WpK_nil, scal]
  refine WpC_loop (I47 s) ?_ (n := s.size) hk ?_
  · rintro n e H ⟨i, hi, h0, h4, h3⟩
    simp only [lp30_0, evA, ↓evB, ↓astep, ↓aop, aBin, aInt, aStr, aUn, aNil, aMax, aresults, ares, aPack, ↓reduceIte, ↓reduceCtorEq, Nat.reduceEqDiff, Nat.reduceAdd, env0, aLoad, aLoadN, cellsOf, Int.reduceEq, Int.reduceLT, Int.reduceLE, Nat.reduceLeDiff, oneC, aop.fillL, setL, aApp, aAppC_nil, aAppC_own, xop, eqCells, eqCell, rowOf, ↓acallop, aBound, aIntOf, flat, flatN, CX_fn, CX_X, CX_pol, aStore, Nat.reduceBEq, List.size_toArray, Int.sub_zero, Int.zero_add, Int.add_zero, Int.toNat_zero, Int.reduceAdd, Int.reduceSub, Int.reduceMul, Int.reduceNeg, Int.reduceToNat, Nat.reduceSub, Nat.reduceMul, Int.natCast_zero, Int.reduceDiv, Int.reduceMod, Int.toNat_natCast, fdiv_nn, min_bits_i, Int.reducePow, Nat.reducePow, Nat.reduceDiv, Nat.reduceMod, mb_i, mb_u, WpC_drawD, WpT_nil, WpT_cons, WpT_guard, WpK_nil, scal, h0, h4, h3]
    refine CondV_dec (fun hc => ?_) (fun hc => ?_)
    · have hx : s.extract i (i + 1) ++ bs ((bl s).take i).reverse = bs ((bl s).take (i + 1)).reverse := by
        apply bl_inj
        rw [bl_append, bl_extract, bl_bs _ (fun b h => bl_lt s b (List.mem_of_mem_take (List.mem_reverse.1 h))), bl_bs _ (fun b h => bl_lt s b (List.mem_of_mem_take (List.mem_reverse.1 h)))]
        rw [List.take_succ_eq_append_getElem (by omega), List.drop_left' (by simp; omega), List.reverse_append]; rfl
      have e1 : ((i : Int) + 1).toNat = i + 1 := by omega
      (repeat' first
    | (refine CondV_dec (fun _ => ?_) (fun _ => ?_) <;> try (exfalso; omega))
    | (refine GuardV_td (fun _ => ?_) (fun _ => ?_) <;> try (exfalso; omega))
    | (refine GuardV_fd (fun _ => ?_) (fun _ => ?_) <;> try (exfalso; omega))
    | (refine CondV_split (fun _ => ?_) (fun _ => ?_))
    | (refine Need_of (by first | omega | decide) ?_)
    | refine WpK_cons ?_ ?_
    | refine WpK_guard ?_
    | simp (disch := first | omega | simp only [List.length_append, List.length_set, List.length_cons, List.length_nil] <;> omega | fail) only [evA, ↓evB, ↓astep, ↓aop, aBin, aInt, aStr, aUn, aNil, aMax, aresults, ares, aPack, ↓reduceIte, ↓reduceCtorEq, Nat.reduceEqDiff, Nat.reduceAdd, env0, aLoad, aLoadN, cellsOf, Int.reduceEq, Int.reduceLT, Int.reduceLE, Nat.reduceLeDiff, oneC, aop.fillL, setL, aApp, aAppC_nil, aAppC_own, xop, eqCells, eqCell, rowOf, ↓acallop, aBound, aIntOf, flat, flatN, CX_fn, CX_X, CX_pol, aStore, Nat.reduceBEq, List.size_toArray, Int.sub_zero, Int.zero_add, Int.add_zero, Int.toNat_zero, Int.reduceAdd, Int.reduceSub, Int.reduceMul, Int.reduceNeg, Int.reduceToNat, Nat.reduceSub, Nat.reduceMul, Int.natCast_zero, Int.reduceDiv, Int.reduceMod, Int.toNat_natCast, fdiv_nn, min_bits_i, Int.reducePow, Nat.reducePow, Nat.reduceDiv, Nat.reduceMod, mb_i, mb_u, WpC_drawD, WpT_nil, WpT_cons, WpT_guard, WpK_nil, scal, h0, h4, h3, e1, hx, List.length_reverse, List.length_take])
      exact ⟨n - 1, by omega, i + 1, by omega, by (first | rfl | (simp only [Env_put_some, Env_put_none, ↓Env_set_at, ↓reduceIte, Nat.reduceEqDiff, h0] <;> rfl)), by (first | rfl | (simp only [Env_put_some, Env_put_none, ↓Env_set_at, ↓reduceIte, Nat.reduceEqDiff] <;> rfl)), by (first | rfl | (simp only [Env_put_some, Env_put_none, ↓Env_set_at, ↓reduceIte, Nat.reduceEqDiff] <;> rfl))⟩
    · (repeat' first
    | (refine CondV_dec (fun _ => ?_) (fun _ => ?_) <;> try (exfalso; omega))
    | (refine GuardV_td (fun _ => ?_) (fun _ => ?_) <;> try (exfalso; omega))
    | (refine GuardV_fd (fun _ => ?_) (fun _ => ?_) <;> try (exfalso; omega))
    | (refine CondV_split (fun _ => ?_) (fun _ => ?_))
    | (refine Need_of (by first | omega | decide) ?_)
    | refine WpK_cons ?_ ?_
    | refine WpK_guard ?_
    | simp (disch := first | omega | simp only [List.length_append, List.length_set, List.length_cons, List.length_nil] <;> omega | fail) only [evA, ↓evB, ↓astep, ↓aop, aBin, aInt, aStr, aUn, aNil, aMax, aresults, ares, aPack, ↓reduceIte, ↓reduceCtorEq, Nat.reduceEqDiff, Nat.reduceAdd, env0, aLoad, aLoadN, cellsOf, Int.reduceEq, Int.reduceLT, Int.reduceLE, Nat.reduceLeDiff, oneC, aop.fillL, setL, aApp, aAppC_nil, aAppC_own, xop, eqCells, eqCell, rowOf, ↓acallop, aBound, aIntOf, flat, flatN, CX_fn, CX_X, CX_pol, aStore, Nat.reduceBEq, List.size_toArray, Int.sub_zero, Int.zero_add, Int.add_zero, Int.toNat_zero, Int.reduceAdd, Int.reduceSub, Int.reduceMul, Int.reduceNeg, Int.reduceToNat, Nat.reduceSub, Nat.reduceMul, Int.natCast_zero, Int.reduceDiv, Int.reduceMod, Int.toNat_natCast, fdiv_nn, min_bits_i, Int.reducePow, Nat.reducePow, Nat.reduceDiv, Nat.reduceMod, mb_i, mb_u, WpC_drawD, WpT_nil, WpT_cons, WpT_guard, WpK_nil, scal, h0, h4, h3])
      rw [List.take_of_length_le (by omega)]
  · exact ⟨0, by omega, rfl, rfl, rfl⟩

def XRBig (args : List Value) : Option Value :=
  match args with
  | [.int .u64 n, .int .i64 z] => if (0 ≤ n ∧ n < 2 ^ 64) ∧ -9223372036854775808 ≤ z ∧ z ≤ 1000 then some (sbV (bigV n.toNat z)) else none
  | _ => none
def XTurned (args : List Value) : Option Value :=
  match args with
  | [.string s] => if s.size < 2 ^ 62 then some (.string (bs (bl s).reverse)) else none
  | _ => none
theorem XRBig_eq (n z : Int) : XRBig [.int .u64 n, .int .i64 z] = if (0 ≤ n ∧ n < 2 ^ 64) ∧ -9223372036854775808 ≤ z ∧ z ≤ 1000 then some (sbV (bigV n.toNat z)) else none := rfl
theorem XTurned_eq (s : ByteArray) : XTurned [.string s] = if s.size < 2 ^ 62 then some (.string (bs (bl s).reverse)) else none := rfl
theorem x43 : XOk Tryd.prog 34 XLst := .of C8_ok rfl (f := 34) ok34 fun args v h => by
  unfold XLst at h
  split at h
  · rename_i n
    split at h
    · rename_i hs; cases h
      have := w43 n.toNat (by omega) 30 (by omega)
      rw [show ((n.toNat : Nat) : Int) = n by omega] at this
      exact ⟨rfl, rfl, 31, 0, this⟩
    · cases h
  · cases h
theorem x44 : XOk Tryd.prog 29 XRBig := .of C8_ok rfl (f := 29) ok29 fun args v h => by
  unfold XRBig at h
  split at h
  · rename_i n z
    split at h
    · rename_i hs; cases h
      have := w44 n.toNat (by omega) z (by omega) (by omega) 1030 (by omega)
      rw [show ((n.toNat : Nat) : Int) = n by omega] at this
      exact ⟨rfl, rfl, 1031, 0, this⟩
    · cases h
  · cases h
theorem x47 : XOk Tryd.prog 30 XTurned := .of C8_ok rfl (f := 30) ok30 fun args v h => by
  unfold XTurned at h
  split at h
  · rename_i s
    split at h
    · rename_i hs; cases h; exact ⟨rfl, rfl, s.size + 2, 0, w47 s hs (s.size + 1) (by omega)⟩
    · cases h
  · cases h
theorem nm_append (l : List Nat) (b : Nat) : nm (l ++ [b]) = nm l * 256 + b := by simp [nm]
theorem dg_nm : ∀ (sz N : Nat), N < 2 ^ (8 * sz) → nm (dg N sz).reverse = N
  | 0, N, h => by have : N = 0 := by simpa using h
                  subst this; rfl
  | sz + 1, N, h => by
    rw [dg_succ, List.reverse_cons, nm_append, dg_nm sz (N / 256) (by
      have : 2 ^ (8 * (sz + 1)) = 2 ^ (8 * sz) * 256 := by rw [show 8 * (sz + 1) = 8 * sz + 8 by omega, Nat.pow_add]
      omega)]
    omega

theorem nm_cons (b : Nat) (l : List Nat) : nm (b :: l) = b * 256 ^ l.length + nm l := by
  have key : ∀ (l : List Nat) (a : Nat), l.foldl (fun n b => n * 256 + b) a = a * 256 ^ l.length + nm l := by
    intro l
    induction l with
    | nil => intro a; simp [nm]
    | cons x l ih =>
      intro a
      simp only [nm, List.foldl_cons]
      rw [ih, ih (0 * 256 + x), List.length_cons, Nat.pow_succ, Nat.add_mul, Nat.mul_assoc, Nat.mul_comm 256]
      simp only [Nat.zero_mul, Nat.zero_add, Nat.add_assoc]
  have := key l b
  simp only [nm, List.foldl_cons]
  simp only [Nat.zero_mul, Nat.zero_add]
  exact this
theorem nm_lt : ∀ (l : List Nat), (∀ b ∈ l, b < 256) → nm l < 256 ^ l.length
  | [], _ => by simp [nm]
  | b :: l, h => by
    have h1 := nm_lt l (fun b hb => h b (by simp [hb]))
    have h0 := h b (by simp)
    rw [nm_cons, List.length_cons, Nat.pow_succ]
    have : (b + 1) * 256 ^ l.length ≤ 256 * 256 ^ l.length := Nat.mul_le_mul_right _ (by omega)
    rw [Nat.add_mul] at this
    omega
theorem lsts_nm : ∀ (k N : Nat), N < 2 ^ (8 * k) → nm (lsts k N) = N
  | 0, N, h => by have : N = 0 := by simpa using h
                  subst this; rfl
  | k + 1, N, h => by
    rw [lsts]
    split
    · rename_i h0; subst h0; rfl
    · rw [nm_append, lsts_nm k (N / 256) (by
        have : 2 ^ (8 * (k + 1)) = 2 ^ (8 * k) * 256 := by rw [show 8 * (k + 1) = 8 * k + 8 by omega, Nat.pow_add]
        omega)]
      omega
theorem lsts_byte : ∀ (k N : Nat), ∀ b ∈ lsts k N, b < 256
  | 0, N, b, h => by simp [lsts] at h
  | k + 1, N, b, h => by
    rw [lsts] at h
    split at h
    · simp at h
    · rcases List.mem_append.1 h with h | h
      · exact lsts_byte k _ b h
      · simp at h; omega
theorem lsts_head : ∀ (k N : Nat), N < 2 ^ (8 * k) → (lsts k N).head? ≠ some 0
  | 0, N, h => by simp [lsts]
  | k + 1, N, h => by
    have hq : N / 256 < 2 ^ (8 * k) := by
      have : 2 ^ (8 * (k + 1)) = 2 ^ (8 * k) * 256 := by rw [show 8 * (k + 1) = 8 * k + 8 by omega, Nat.pow_add]
      omega
    have ih := lsts_head k (N / 256) hq
    have hn := lsts_nm k (N / 256) hq
    rw [lsts]
    split
    · simp
    · cases hl : lsts k (N / 256) with
      | nil =>
        rw [hl] at hn
        have : N / 256 = 0 := by rw [← hn]; rfl
        simp; omega
      | cons b l => rw [hl] at ih; simpa using ih
theorem nm_inj : ∀ (l l' : List Nat), l.length = l'.length → (∀ b ∈ l, b < 256) → (∀ b ∈ l', b < 256) → nm l = nm l' → l = l'
  | [], [], _, _, _, _ => rfl
  | [], _ :: _, h, _, _, _ => by simp at h
  | _ :: _, [], h, _, _, _ => by simp at h
  | a :: l, b :: l', h, ha, hb, he => by
    have hl : l.length = l'.length := by simpa using h
    have q1 := nm_lt l (fun b h => ha b (by simp [h]))
    have q2 := nm_lt l' (fun b h => hb b (by simp [h]))
    rw [nm_cons, nm_cons, ← hl] at he
    rw [← hl] at q2
    have : a = b := by
      rcases Nat.lt_trichotomy a b with h1 | h1 | h1
      · exfalso
        have : (a + 1) * 256 ^ l.length ≤ b * 256 ^ l.length := Nat.mul_le_mul_right _ h1
        rw [Nat.add_mul] at this; omega
      · exact h1
      · exfalso
        have : (b + 1) * 256 ^ l.length ≤ a * 256 ^ l.length := Nat.mul_le_mul_right _ h1
        rw [Nat.add_mul] at this; omega
    subst this
    rw [nm_inj l l' hl (fun b h => ha b (by simp [h])) (fun b h => hb b (by simp [h])) (by omega)]
theorem nm_zeros : ∀ (k : Nat) (l : List Nat), nm (List.replicate k 0 ++ l) = nm l
  | 0, l => by simp
  | k + 1, l => by rw [List.replicate_succ, List.cons_append, nm_cons, nm_zeros k l]; simp
theorem lsts_fit (N sz : Nat) (hs : sz ≤ 8) (hN : N < 2 ^ 64) : (lsts 8 N).length ≤ sz ↔ N < 2 ^ (8 * sz) := by
  constructor
  · intro h
    have := nm_lt (lsts 8 N) (lsts_byte 8 N)
    rw [lsts_nm 8 N hN] at this
    refine Nat.lt_of_lt_of_le this ?_
    rw [Nat.pow_mul]
    exact Nat.pow_le_pow_right (by omega) h
  · intro h
    rw [lsts_le h hs]; exact lsts_len sz N
theorem dg_pad (N sz : Nat) (hs : sz ≤ 8) (hN : N < 2 ^ 64) (h : N < 2 ^ (8 * sz)) : (dg N sz).reverse = List.replicate (sz - (lsts 8 N).length) 0 ++ lsts 8 N := by
  have hl := (lsts_fit N sz hs hN).2 h
  refine nm_inj _ _ (by simp [dg_length]; omega) (fun b hb => dg_lt N sz b (by simpa using hb)) (fun b hb => ?_) ?_
  · rcases List.mem_append.1 hb with hb | hb
    · have := List.eq_of_mem_replicate hb; omega
    · exact lsts_byte 8 N b hb
  · rw [nm_zeros, dg_nm sz N h, lsts_nm 8 N hN]
theorem lsts_of_nm : ∀ (k : Nat) (l : List Nat), l.length ≤ k → (∀ b ∈ l, b < 256) → l.head? ≠ some 0 → lsts k (nm l) = l := by
  intro k
  induction k with
  | zero =>
    intro l hl _ _
    obtain rfl := List.length_eq_zero_iff.1 (show l.length = 0 by omega)
    rfl
  | succ k ih =>
    intro l hl hb hh
    rcases List.eq_nil_or_concat l with rfl | ⟨l', b, rfl⟩
    · rfl
    · rw [List.concat_eq_append] at *
      have hb0 := hb b (by simp)
      have hne : nm (l' ++ [b]) ≠ 0 := by
        cases l' with
        | nil => simp at hh; simp [nm]; omega
        | cons c l'' =>
          simp at hh
          rw [List.cons_append, nm_cons]
          have : 1 * 256 ^ (l'' ++ [b]).length ≤ c * 256 ^ (l'' ++ [b]).length := Nat.mul_le_mul_right _ (by omega)
          have : 0 < 256 ^ (l'' ++ [b]).length := Nat.pow_pos (by omega)
          omega
      rw [lsts, if_neg hne, nm_append, show (nm l' * 256 + b) / 256 = nm l' by omega, show (nm l' * 256 + b) % 256 = b by omega, ih l' (by simp at hl; omega) (fun b h => hb b (by simp [h])) (by
        cases l' with
        | nil => simp
        | cons c l'' => simpa using hh)]

end F4
end Ev
end Go.Proofs.YtlcfanmmpfmnaaaDoor
