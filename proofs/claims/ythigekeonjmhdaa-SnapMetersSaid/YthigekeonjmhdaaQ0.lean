/-
  The package leb, and what its plain functions answer.
-/
import Derived.Test.YthigekeonjmhdaaIrSm
namespace Go.Proofs.Ythigekeonjmhdaa
namespace Ev
namespace L15
open Tag (mk)
set_option linter.unusedSimpArgs false
set_option linter.unusedVariables false
set_option maxRecDepth 4000
set_option maxHeartbeats 4000000
noncomputable def D0 : Cf := CX (xtab []) (polt [])
theorem D0_ok : D0.Ok := CX_ok all_nil al_no
def XAlive (args : List Value) : Option Value := match args with
  | [] => some (.bool true)
  | _ => none
theorem XAlive_eq : XAlive [] = some (.bool true) := rfl

/-! ## LEB numbers -/
def nx : List Nat → Nat → Nat → Nat × Nat × Nat
  | [], _, _ => (0, 0, 2)
  | b :: l, i, n => if (i = 9 ∧ 1 < b) ∨ (b = 0 ∧ 0 < i) then (0, 0, 3) else if b < 128 then (n + (b % 128) * 2 ^ (7 * i), i + 1, 0) else nx l (i + 1) (n + (b % 128) * 2 ^ (7 * i))

def nxV (r : Nat × Nat × Nat) : Value := .tuple #[.int .u64 (r.1 : Int), .int .i64 (r.2.1 : Int), .int .i64 (r.2.2 : Int)]

theorem put7 (a i b : Nat) (ha : a < 2 ^ (7 * i)) (hi : i ≤ 9) (hb : b < 256) (h9 : i = 9 → b ≤ 1) :
    IntKind.u64.wrap ↑(BitVec.ofInt IntKind.u64.bits ↑a ||| BitVec.ofInt IntKind.u64.bits (IntKind.u64.wrap (↑b % 128 * 2 ^ (7 * ↑i : Int).toNat))).toNat = ((a + b % 128 * 2 ^ (7 * i) : Nat) : Int) ∧ a + b % 128 * 2 ^ (7 * i) < 2 ^ (7 * (i + 1)) := by
  have e1 : (7 * (i : Int)).toNat = 7 * i := by omega
  have hlt : b % 128 * 2 ^ (7 * i) + 2 ^ (7 * i) ≤ 2 ^ 64 := by
    have hcases : i = 0 ∨ i = 1 ∨ i = 2 ∨ i = 3 ∨ i = 4 ∨ i = 5 ∨ i = 6 ∨ i = 7 ∨ i = 8 ∨ i = 9 := by omega
    have := h9
    rcases hcases with h | h | h | h | h | h | h | h | h | h <;> subst h <;> omega
  have h2 : a + b % 128 * 2 ^ (7 * i) < 2 ^ (7 * (i + 1)) := by
    have : 2 ^ (7 * (i + 1)) = 128 * 2 ^ (7 * i) := by rw [show 7 * (i + 1) = 7 * i + 7 by omega, Nat.pow_add]; omega
    rw [this]
    have h3 : b % 128 + 1 ≤ 128 := by omega
    have := Nat.mul_le_mul_right (2 ^ (7 * i)) h3
    rw [Nat.add_mul] at this
    omega
  refine ⟨?_, h2⟩
  have e2 : ((b : Int) % 128 * 2 ^ (7 * (i : Int)).toNat) = ((b % 128 * 2 ^ (7 * i) : Nat) : Int) := by
    rw [e1]; push_cast; rfl
  rw [e2, wrap_u64 ((b % 128 * 2 ^ (7 * i) : Nat) : Int) (by omega) (by omega), wrap_or _ _ (by omega) (by omega) (by omega) (by omega)]
  simp only [Int.toNat_natCast]
  have := Nat.two_pow_add_eq_or_of_lt ha (b % 128)
  rw [Nat.or_comm, Nat.mul_comm (b % 128), ← this]
  congr 1
  omega

def put : Nat → Nat → List Nat
  | 0, _ => []
  | k + 1, n => if n < 128 then [n] else (n % 128 + 128) :: put k (n / 128)

theorem put_more : ∀ (n k : Nat), n < k → put k n = put (n + 1) n := by
  intro n
  induction n using Nat.strongRecOn with
  | _ n ih =>
    intro k hk
    cases k with
    | zero => omega
    | succ k =>
      simp only [put]
      split
      · rfl
      · rw [ih (n / 128) (by omega) k (by omega), ih (n / 128) (by omega) n (by omega)]

theorem put_lt : ∀ (k n : Nat), ∀ b ∈ put k n, b < 256
  | 0, n, b, h => by simp [put] at h
  | k + 1, n, b, h => by
    simp only [put] at h
    split at h
    · simp at h; omega
    · simp only [List.mem_cons] at h
      rcases h with h | h
      · omega
      · exact put_lt k _ b h

theorem bs_eq (l : List Nat) : ({ data := (l.map UInt8.ofNat).toArray } : ByteArray) = bs l := rfl

theorem put7b (i b : Nat) (hi : i ≤ 9) (hb : b < 256) : (i = 9 → b ≤ 1) → (b : Int) % 128 * ((2 ^ (7 * i) : Nat) : Int) + ((2 ^ (7 * i) : Nat) : Int) ≤ 18446744073709551616 := by
  intro h9
  have hcases : i = 0 ∨ i = 1 ∨ i = 2 ∨ i = 3 ∨ i = 4 ∨ i = 5 ∨ i = 6 ∨ i = 7 ∨ i = 8 ∨ i = 9 := by omega
  have := h9
  rcases hcases with h | h | h | h | h | h | h | h | h | h <;> subst h <;> simp only [Nat.reduceMul, Nat.reducePow] <;> omega

theorem putl_le : ∀ (k n j : Nat), n < 2 ^ j → (put k n).length ≤ j + 1
  | 0, n, j, h => by simp [put]
  | k + 1, n, j, h => by
    simp only [put]
    split
    · simp
    · rename_i hn
      have hj : 7 ≤ j := by
        rcases Nat.lt_or_ge j 7 with h' | h'
        · have : 2 ^ j ≤ 2 ^ 7 := Nat.pow_le_pow_right (by omega) (by omega)
          omega
        · exact h'
      have := putl_le k (n / 128) (j - 7) (by
        have : 2 ^ j = 2 ^ (j - 7) * 128 := by rw [show j = (j - 7) + 7 by omega, Nat.pow_add]; simp
        omega)
      simp only [List.length_cons]; omega

theorem bl_bs' (l : List Nat) : bl (bs l) = l.map (· % 256) := by
  simp only [bl, bs, List.toList_toArray, List.map_map]
  apply List.map_congr_left
  intro b _
  simp
theorem bs_one (b : Nat) : ({ data := #[UInt8.ofNat b] } : ByteArray) = bs [b] := rfl
theorem bs_cons (b : Nat) (l : List Nat) : bs [b] ++ bs l = bs (b :: l) := bl_inj (by rw [bl_append, bl_bs', bl_bs', bl_bs']; simp)

theorem nx_of_put : ∀ (n i a : Nat) (rest : List Nat), i ≤ 9 → a + n * 2 ^ (7 * i) < 2 ^ 64 → (0 < i → 0 < n) → nx (put (n + 1) n ++ rest) i a = (a + n * 2 ^ (7 * i), i + (put (n + 1) n).length, 0) := by
  intro n
  induction n using Nat.strongRecOn with
  | _ n ih =>
    intro i a rest hi hlt h0
    by_cases h : n < 128
    · rw [put, if_pos h]
      show nx (n :: rest) i a = _
      rw [nx, if_neg, if_pos h, Nat.mod_eq_of_lt h]
      · rfl
      · rintro (⟨rfl, h1⟩ | ⟨h1, h2⟩)
        · simp only [Nat.reduceMul, Nat.reducePow] at hlt; omega
        · have := h0 h2; omega
    · have hi8 : i ≤ 8 := by
        rcases Nat.lt_or_ge 8 i with h' | h'
        · obtain rfl : i = 9 := by omega
          simp only [Nat.reduceMul, Nat.reducePow] at hlt; omega
        · exact h'
      have hp : put (n + 1) n = (n % 128 + 128) :: put (n / 128 + 1) (n / 128) := by rw [put, if_neg h, put_more _ n (by omega)]
      rw [hp, List.cons_append, nx, if_neg (by omega), if_neg (by omega), show (n % 128 + 128) % 128 = n % 128 by omega]
      have e1 : a + n % 128 * 2 ^ (7 * i) + n / 128 * 2 ^ (7 * (i + 1)) = a + n * 2 ^ (7 * i) := by
        rw [show 7 * (i + 1) = 7 * i + 7 by omega, Nat.pow_add, Nat.mul_comm (2 ^ (7 * i)) (2 ^ 7), ← Nat.mul_assoc, Nat.add_assoc, ← Nat.add_mul]
        congr 2
        omega
      rw [ih (n / 128) (by omega) (i + 1) _ rest (by omega) (by rw [e1]; exact hlt) (by omega), e1]
      simp; omega

theorem nx_put_more (n : Nat) (hn : n < 2 ^ 64) (s : ByteArray) : nx (bl (bs (put (n + 1) n) ++ s)) 0 0 = (n, (put (n + 1) n).length, 0) := by
  rw [bl_append, bl_bs _ (put_lt _ _), nx_of_put n 0 0 _ (by omega) (by simpa using hn) (by omega)]
  simp


def XNext (args : List Value) : Option Value :=
  match args with
  | [.string s] => if s.size < 2 ^ 63 then some (nxV (nx (bl s) 0 0)) else none
  | _ => none
def XPut (args : List Value) : Option Value :=
  match args with
  | [.int .u64 n] => if 0 ≤ n ∧ n < 2 ^ 64 then some (.string (bs (put (n.toNat + 1) n.toNat))) else none
  | _ => none

theorem XNext_eq (s : ByteArray) : XNext [.string s] = if s.size < 2 ^ 63 then some (nxV (nx (bl s) 0 0)) else none := rfl
theorem XPut_eq (n : Int) : XPut [.int .u64 n] = if 0 ≤ n ∧ n < 2 ^ 64 then some (.string (bs (put (n.toNat + 1) n.toNat))) else none := rfl
def XSize (args : List Value) : Option Value :=
  match args with
  | [.int .u64 n] => if 0 ≤ n ∧ n < 2 ^ 64 then some (.int .i64 ((put (n.toNat + 1) n.toNat).length : Int)) else none
  | _ => none
theorem XSize_eq (n : Int) : XSize [.int .u64 n] = if 0 ≤ n ∧ n < 2 ^ 64 then some (.int .i64 ((put (n.toNat + 1) n.toNat).length : Int)) else none := rfl

def I13 (s : ByteArray) (n : Nat) (e : Env) (H : Heap) : Prop :=
  ∃ (i : Nat) (a : Nat), i + n = s.size ∧ i ≤ 9 ∧ e 10 = .slice (some ⟨0, 0, none⟩) s.size 1 ∧ e 11 = .int .i64 (s.size : Int) ∧ e 12 = .int .i64 (i : Int) ∧ e 5 = .int .u64 (a : Int) ∧ H = [.cells (bytesL s) 5 true] ∧
    a < 2 ^ (7 * i) ∧ nx ((bl s).drop i) i a = nx (bl s) 0 0

theorem w13 (s : ByteArray) (hs : s.size < 2 ^ 63) (k : Nat) (hk : s.size < k) : Run (fun v H' => v = nxV (nx (bl s) 0 0)) mk (acall D0 (k + 1) 93 [.string s] [] ⟨0, 0⟩) := by
  refine Run_call (F := ir93) rfl (Nat.le_of_ble_eq_true rfl) ?_
  simp only [ir93, evA, ↓evB, ↓astep, ↓aop, aBin, aInt, aStr, aUn, aNil, aMax, aresults, ares, aPack, ↓reduceIte, ↓reduceCtorEq, Nat.reduceEqDiff, Nat.reduceAdd, env0, aLoad, aLoadN, cellsOf, Int.reduceEq, Int.reduceLT, Int.reduceLE, Nat.reduceLeDiff, oneC, aop.fillL, setL, aApp, aAppC_nil, aAppC_own, xop, eqCells, eqCell, rowOf, ↓acallop, aBound, aIntOf, flat, flatN, CX_fn, CX_X, CX_pol, aStore, Nat.reduceBEq, List.size_toArray, Int.sub_zero, Int.zero_add, Int.add_zero, Int.toNat_zero, Int.reduceAdd, Int.reduceSub, Int.reduceMul, Int.reduceNeg, Int.reduceToNat, Nat.reduceSub, Nat.reduceMul, Int.natCast_zero, Int.reduceDiv, Int.reduceMod, Int.toNat_natCast, fdiv_nn, min_bits_i, Int.reducePow, Nat.reducePow, Nat.reduceDiv, Nat.reduceMod, mb_i, mb_u, WpC_drawD, WpT_nil, WpT_cons, WpT_guard, WpK_nil, scal]
  refine WpC_loop (I13 s) ?_ (n := s.size) hk ?_
  · rintro n e H ⟨i, a, hi, hi9, h10, h11, h12, h5, rfl, ha, hr⟩
    simp only [lp93_0, evA, ↓evB, ↓astep, ↓aop, aBin, aInt, aStr, aUn, aNil, aMax, aresults, ares, aPack, ↓reduceIte, ↓reduceCtorEq, Nat.reduceEqDiff, Nat.reduceAdd, env0, aLoad, aLoadN, cellsOf, Int.reduceEq, Int.reduceLT, Int.reduceLE, Nat.reduceLeDiff, oneC, aop.fillL, setL, aApp, aAppC_nil, aAppC_own, xop, eqCells, eqCell, rowOf, ↓acallop, aBound, aIntOf, flat, flatN, CX_fn, CX_X, CX_pol, aStore, Nat.reduceBEq, List.size_toArray, Int.sub_zero, Int.zero_add, Int.add_zero, Int.toNat_zero, Int.reduceAdd, Int.reduceSub, Int.reduceMul, Int.reduceNeg, Int.reduceToNat, Nat.reduceSub, Nat.reduceMul, Int.natCast_zero, Int.reduceDiv, Int.reduceMod, Int.toNat_natCast, fdiv_nn, min_bits_i, Int.reducePow, Nat.reducePow, Nat.reduceDiv, Nat.reduceMod, mb_i, mb_u, WpC_drawD, WpT_nil, WpT_cons, WpT_guard, WpK_nil, scal, h10, h11, h12, h5]
    (repeat' first
    | (refine CondV_dec (fun _ => ?_) (fun _ => ?_) <;> try (exfalso; omega))
    | (refine GuardV_td (fun _ => ?_) (fun _ => ?_) <;> try (exfalso; omega))
    | (refine GuardV_fd (fun _ => ?_) (fun _ => ?_) <;> try (exfalso; omega))
    | (refine CondV_split (fun _ => ?_) (fun _ => ?_))
    | (refine Need_of (by first | omega | decide) ?_)
    | refine WpK_cons ?_ ?_
    | refine WpK_guard ?_
    | simp (disch := first | omega | simp only [List.length_append, List.length_set, List.length_cons, List.length_nil] <;> omega | fail) only [evA, ↓evB, ↓astep, ↓aop, aBin, aInt, aStr, aUn, aNil, aMax, aresults, ares, aPack, ↓reduceIte, ↓reduceCtorEq, Nat.reduceEqDiff, Nat.reduceAdd, env0, aLoad, aLoadN, cellsOf, Int.reduceEq, Int.reduceLT, Int.reduceLE, Nat.reduceLeDiff, oneC, aop.fillL, setL, aApp, aAppC_nil, aAppC_own, xop, eqCells, eqCell, rowOf, ↓acallop, aBound, aIntOf, flat, flatN, CX_fn, CX_X, CX_pol, aStore, Nat.reduceBEq, List.size_toArray, Int.sub_zero, Int.zero_add, Int.add_zero, Int.toNat_zero, Int.reduceAdd, Int.reduceSub, Int.reduceMul, Int.reduceNeg, Int.reduceToNat, Nat.reduceSub, Nat.reduceMul, Int.natCast_zero, Int.reduceDiv, Int.reduceMod, Int.toNat_natCast, fdiv_nn, min_bits_i, Int.reducePow, Nat.reducePow, Nat.reduceDiv, Nat.reduceMod, mb_i, mb_u, WpC_drawD, WpT_nil, WpT_cons, WpT_guard, WpK_nil, scal, h10, h11, h12, h5])
    all_goals have hb := bAt_lt s i
    all_goals first
      | (rw [← hr, bl_drop s i (by omega), nx, if_pos (by omega)]; rfl)
      | (rw [← hr, bl_drop s i (by omega), nx, if_neg (by omega), if_pos (by omega), (put7 a i (bAt s i) ha hi9 hb (by omega)).1]; rfl)
      | (rw [← hr, bl_drop_all s i (by omega)]; rfl)
      | skip
    have hp := put7 a i (bAt s i) ha hi9 hb (by omega)
    refine ⟨n - 1, by omega, i + 1, a + bAt s i % 128 * 2 ^ (7 * i), by omega, by omega, ?_, ?_, ?_, ?_, rfl, hp.2, ?_⟩
    · simp only [evA, ↓evB, ↓astep, ↓aop, aBin, aInt, aStr, aUn, aNil, aMax, aresults, ares, aPack, ↓reduceIte, ↓reduceCtorEq, Nat.reduceEqDiff, Nat.reduceAdd, env0, aLoad, aLoadN, cellsOf, Int.reduceEq, Int.reduceLT, Int.reduceLE, Nat.reduceLeDiff, oneC, aop.fillL, setL, aApp, aAppC_nil, aAppC_own, xop, eqCells, eqCell, rowOf, ↓acallop, aBound, aIntOf, flat, flatN, CX_fn, CX_X, CX_pol, aStore, Nat.reduceBEq, List.size_toArray, Int.sub_zero, Int.zero_add, Int.add_zero, Int.toNat_zero, Int.reduceAdd, Int.reduceSub, Int.reduceMul, Int.reduceNeg, Int.reduceToNat, Nat.reduceSub, Nat.reduceMul, Int.natCast_zero, Int.reduceDiv, Int.reduceMod, Int.toNat_natCast, fdiv_nn, min_bits_i, Int.reducePow, Nat.reducePow, Nat.reduceDiv, Nat.reduceMod, mb_i, mb_u, WpC_drawD, WpT_nil, WpT_cons, WpT_guard, WpK_nil, scal, h10]
    · simp only [evA, ↓evB, ↓astep, ↓aop, aBin, aInt, aStr, aUn, aNil, aMax, aresults, ares, aPack, ↓reduceIte, ↓reduceCtorEq, Nat.reduceEqDiff, Nat.reduceAdd, env0, aLoad, aLoadN, cellsOf, Int.reduceEq, Int.reduceLT, Int.reduceLE, Nat.reduceLeDiff, oneC, aop.fillL, setL, aApp, aAppC_nil, aAppC_own, xop, eqCells, eqCell, rowOf, ↓acallop, aBound, aIntOf, flat, flatN, CX_fn, CX_X, CX_pol, aStore, Nat.reduceBEq, List.size_toArray, Int.sub_zero, Int.zero_add, Int.add_zero, Int.toNat_zero, Int.reduceAdd, Int.reduceSub, Int.reduceMul, Int.reduceNeg, Int.reduceToNat, Nat.reduceSub, Nat.reduceMul, Int.natCast_zero, Int.reduceDiv, Int.reduceMod, Int.toNat_natCast, fdiv_nn, min_bits_i, Int.reducePow, Nat.reducePow, Nat.reduceDiv, Nat.reduceMod, mb_i, mb_u, WpC_drawD, WpT_nil, WpT_cons, WpT_guard, WpK_nil, scal, h11]
    · simp only [evA, ↓evB, ↓astep, ↓aop, aBin, aInt, aStr, aUn, aNil, aMax, aresults, ares, aPack, ↓reduceIte, ↓reduceCtorEq, Nat.reduceEqDiff, Nat.reduceAdd, env0, aLoad, aLoadN, cellsOf, Int.reduceEq, Int.reduceLT, Int.reduceLE, Nat.reduceLeDiff, oneC, aop.fillL, setL, aApp, aAppC_nil, aAppC_own, xop, eqCells, eqCell, rowOf, ↓acallop, aBound, aIntOf, flat, flatN, CX_fn, CX_X, CX_pol, aStore, Nat.reduceBEq, List.size_toArray, Int.sub_zero, Int.zero_add, Int.add_zero, Int.toNat_zero, Int.reduceAdd, Int.reduceSub, Int.reduceMul, Int.reduceNeg, Int.reduceToNat, Nat.reduceSub, Nat.reduceMul, Int.natCast_zero, Int.reduceDiv, Int.reduceMod, Int.toNat_natCast, fdiv_nn, min_bits_i, Int.reducePow, Nat.reducePow, Nat.reduceDiv, Nat.reduceMod, mb_i, mb_u, WpC_drawD, WpT_nil, WpT_cons, WpT_guard, WpK_nil, scal]; rfl
    · simp only [evA, ↓evB, ↓astep, ↓aop, aBin, aInt, aStr, aUn, aNil, aMax, aresults, ares, aPack, ↓reduceIte, ↓reduceCtorEq, Nat.reduceEqDiff, Nat.reduceAdd, env0, aLoad, aLoadN, cellsOf, Int.reduceEq, Int.reduceLT, Int.reduceLE, Nat.reduceLeDiff, oneC, aop.fillL, setL, aApp, aAppC_nil, aAppC_own, xop, eqCells, eqCell, rowOf, ↓acallop, aBound, aIntOf, flat, flatN, CX_fn, CX_X, CX_pol, aStore, Nat.reduceBEq, List.size_toArray, Int.sub_zero, Int.zero_add, Int.add_zero, Int.toNat_zero, Int.reduceAdd, Int.reduceSub, Int.reduceMul, Int.reduceNeg, Int.reduceToNat, Nat.reduceSub, Nat.reduceMul, Int.natCast_zero, Int.reduceDiv, Int.reduceMod, Int.toNat_natCast, fdiv_nn, min_bits_i, Int.reducePow, Nat.reducePow, Nat.reduceDiv, Nat.reduceMod, mb_i, mb_u, WpC_drawD, WpT_nil, WpT_cons, WpT_guard, WpK_nil, scal]; rw [← hp.1]
    · rw [← hr, bl_drop s i (by omega), nx, if_neg (by omega), if_neg (by omega)]
  · exact ⟨0, 0, by omega, by omega, rfl, rfl, rfl, rfl, rfl, by decide, by simp⟩
theorem x13 : XOk Try.prog 93 XNext := .of D0_ok rfl (f := 93) ok93 fun args v h => by
  unfold XNext at h
  split at h
  · rename_i s
    split at h
    · rename_i hs; cases h
      exact ⟨rfl, rfl, s.size + 1 + 1, 0, w13 s hs _ (by omega)⟩
    · cases h
  · cases h

def I14 (s : ByteArray) (n : Nat) (e : Env) (H : Heap) : Prop :=
  ∃ (i : Nat) (a p : Nat), i + n = s.size ∧ i ≤ 9 ∧ e 0 = .string s ∧ e 7 = .int .i64 (i : Int) ∧ e 5 = .int .u64 (a : Int) ∧ e 6 = .int .u64 (p : Int) ∧ p = 2 ^ (7 * i) ∧
    a < 2 ^ (7 * i) ∧ nx ((bl s).drop i) i a = nx (bl s) 0 0

theorem w14 (s : ByteArray) (hs : s.size < 2 ^ 63) (k : Nat) (hk : s.size < k) : Run (fun v H' => v = nxV (nx (bl s) 0 0)) mk (acall D0 (k + 1) 53 [.string s] [] ⟨0, 0⟩) := by
  refine Run_call (F := ir53) rfl (Nat.le_of_ble_eq_true rfl) ?_
  simp only [ir53, evA, ↓evB, ↓astep, ↓aop, aBin, aInt, aStr, aUn, aNil, aMax, aresults, ares, aPack, ↓reduceIte, ↓reduceCtorEq, Nat.reduceEqDiff, Nat.reduceAdd, env0, aLoad, aLoadN, cellsOf, Int.reduceEq, Int.reduceLT, Int.reduceLE, Nat.reduceLeDiff, oneC, aop.fillL, setL, aApp, aAppC_nil, aAppC_own, xop, eqCells, eqCell, rowOf, ↓acallop, aBound, aIntOf, flat, flatN, CX_fn, CX_X, CX_pol, aStore, Nat.reduceBEq, List.size_toArray, Int.sub_zero, Int.zero_add, Int.add_zero, Int.toNat_zero, Int.reduceAdd, Int.reduceSub, Int.reduceMul, Int.reduceNeg, Int.reduceToNat, Nat.reduceSub, Nat.reduceMul, Int.natCast_zero, Int.reduceDiv, Int.reduceMod, Int.toNat_natCast, fdiv_nn, min_bits_i, Int.reducePow, Nat.reducePow, Nat.reduceDiv, Nat.reduceMod, mb_i, mb_u, WpC_drawD, WpT_nil, WpT_cons, WpT_guard, WpK_nil, scal]
  refine WpC_loop (I14 s) ?_ (n := s.size) hk ?_
  · rintro n e H ⟨i, a, p, hi, hi9, h0, h7, h5, h6, hp, ha, hr⟩
    have hb := bAt_lt s i
    have q1 := put7b i (bAt s i) hi9 hb
    rw [← hp] at q1 ha
    have q2 : (0 : Int) ≤ (bAt s i : Int) % 128 * (p : Int) := Int.mul_nonneg (by omega) (by omega)
    have q3 : i ≤ 8 → p ≤ 2 ^ 56 := fun h => by rw [hp]; exact Nat.pow_le_pow_right (by omega) (by omega)
    have q4 : p ≤ 2 ^ 63 := by rw [hp]; exact Nat.pow_le_pow_right (by omega) (by omega)
    have q5 : (bAt s i : Int) % 128 * (p : Int) = ((bAt s i % 128 * p : Nat) : Int) := by push_cast; rfl
    simp only [lp53_0, evA, ↓evB, ↓astep, ↓aop, aBin, aInt, aStr, aUn, aNil, aMax, aresults, ares, aPack, ↓reduceIte, ↓reduceCtorEq, Nat.reduceEqDiff, Nat.reduceAdd, env0, aLoad, aLoadN, cellsOf, Int.reduceEq, Int.reduceLT, Int.reduceLE, Nat.reduceLeDiff, oneC, aop.fillL, setL, aApp, aAppC_nil, aAppC_own, xop, eqCells, eqCell, rowOf, ↓acallop, aBound, aIntOf, flat, flatN, CX_fn, CX_X, CX_pol, aStore, Nat.reduceBEq, List.size_toArray, Int.sub_zero, Int.zero_add, Int.add_zero, Int.toNat_zero, Int.reduceAdd, Int.reduceSub, Int.reduceMul, Int.reduceNeg, Int.reduceToNat, Nat.reduceSub, Nat.reduceMul, Int.natCast_zero, Int.reduceDiv, Int.reduceMod, Int.toNat_natCast, fdiv_nn, min_bits_i, Int.reducePow, Nat.reducePow, Nat.reduceDiv, Nat.reduceMod, mb_i, mb_u, WpC_drawD, WpT_nil, WpT_cons, WpT_guard, WpK_nil, scal, h0, h7, h5, h6]
    (repeat' first
    | (refine CondV_dec (fun _ => ?_) (fun _ => ?_) <;> try (exfalso; omega))
    | (refine GuardV_td (fun _ => ?_) (fun _ => ?_) <;> try (exfalso; omega))
    | (refine GuardV_fd (fun _ => ?_) (fun _ => ?_) <;> try (exfalso; omega))
    | (refine CondV_split (fun _ => ?_) (fun _ => ?_))
    | (refine Need_of (by first | omega | decide) ?_)
    | refine WpK_cons ?_ ?_
    | refine WpK_guard ?_
    | simp (disch := first | omega | simp only [List.length_append, List.length_set, List.length_cons, List.length_nil] <;> omega | fail) only [evA, ↓evB, ↓astep, ↓aop, aBin, aInt, aStr, aUn, aNil, aMax, aresults, ares, aPack, ↓reduceIte, ↓reduceCtorEq, Nat.reduceEqDiff, Nat.reduceAdd, env0, aLoad, aLoadN, cellsOf, Int.reduceEq, Int.reduceLT, Int.reduceLE, Nat.reduceLeDiff, oneC, aop.fillL, setL, aApp, aAppC_nil, aAppC_own, xop, eqCells, eqCell, rowOf, ↓acallop, aBound, aIntOf, flat, flatN, CX_fn, CX_X, CX_pol, aStore, Nat.reduceBEq, List.size_toArray, Int.sub_zero, Int.zero_add, Int.add_zero, Int.toNat_zero, Int.reduceAdd, Int.reduceSub, Int.reduceMul, Int.reduceNeg, Int.reduceToNat, Nat.reduceSub, Nat.reduceMul, Int.natCast_zero, Int.reduceDiv, Int.reduceMod, Int.toNat_natCast, fdiv_nn, min_bits_i, Int.reducePow, Nat.reducePow, Nat.reduceDiv, Nat.reduceMod, mb_i, mb_u, WpC_drawD, WpT_nil, WpT_cons, WpT_guard, WpK_nil, scal, h0, h7, h5, h6])
    all_goals first
      | (rw [← hr, bl_drop s i (by omega), nx, if_pos (by omega)]; rfl)
      | (rw [← hr, bl_drop s i (by omega), nx, if_neg (by omega), if_pos (by omega), q5, hp]; rfl)
      | (rw [← hr, bl_drop_all s i (by omega)]; rfl)
      | skip
    all_goals
      have hp' := (put7 a i (bAt s i) (by rw [← hp]; exact ha) hi9 hb (by omega)).2
      refine ⟨n - 1, by omega, i + 1, a + bAt s i % 128 * p, p * 128, by omega, by omega, ?_, ?_, ?_, ?_, ?_, ?_, ?_⟩
      · (first | rfl | (simp only [Env_put_some, Env_put_none, ↓Env_set_at, ↓reduceIte, Nat.reduceEqDiff, h0] <;> rfl))
      · (first | rfl | (simp only [Env_put_some, Env_put_none, ↓Env_set_at, ↓reduceIte, Nat.reduceEqDiff, h7] <;> rfl))
      · rw [Int.natCast_add, ← q5]; (first | rfl | (simp only [Env_put_some, Env_put_none, ↓Env_set_at, ↓reduceIte, Nat.reduceEqDiff, h5] <;> rfl))
      · (first | rfl | (simp only [Env_put_some, Env_put_none, ↓Env_set_at, ↓reduceIte, Nat.reduceEqDiff, h6] <;> rfl))
      · rw [hp, show 7 * (i + 1) = 7 * i + 7 by omega, Nat.pow_add]
      · rw [hp]; exact hp'
      · rw [← hr, bl_drop s i (by omega), nx, if_neg (by omega), if_neg (by omega), hp]
  · exact ⟨0, 0, 1, by omega, by omega, rfl, rfl, rfl, rfl, by decide, by decide, by simp⟩


theorem x14 : XOk Try.prog 53 XNext := .of D0_ok rfl (f := 53) ok53 fun args v h => by
  unfold XNext at h
  split at h
  · rename_i s
    split at h
    · rename_i hs; cases h
      exact ⟨rfl, rfl, s.size + 1 + 1, 0, w14 s hs _ (by omega)⟩
    · cases h
  · cases h

end L15
end Ev
end Go.Proofs.Ythigekeonjmhdaa
