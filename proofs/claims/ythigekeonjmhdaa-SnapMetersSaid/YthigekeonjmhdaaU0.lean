/-
  Little numbers: the plain functions.
-/
import Derived.Test.YthigekeonjmhdaaQ0
namespace Go.Proofs.Ythigekeonjmhdaa
namespace Ev
namespace L11
open Tag (mk)
open L15
set_option linter.unusedSimpArgs false
set_option linter.unusedVariables false
set_option maxRecDepth 4000
set_option maxHeartbeats 4000000
theorem bs_append (a b : List Nat) : bs a ++ bs b = bs (a ++ b) := bl_inj (by rw [bl_append, bl_bs', bl_bs', bl_bs']; simp)
def nm (l : List Nat) : Nat := l.foldl (fun n b => n * 256 + b) 0
theorem nm_append (l : List Nat) (b : Nat) : nm (l ++ [b]) = nm l * 256 + b := by simp [nm]
theorem nm_cons (b : Nat) (l : List Nat) : nm (b :: l) = b * 256 ^ l.length + nm l := by
  have key : ∀ (l : List Nat) (a : Nat), l.foldl (fun n b => n * 256 + b) a = a * 256 ^ l.length + nm l := by
    intro l
    induction l with
    | nil => intro a; simp [nm]
    | cons x l ih =>
      intro a
      simp only [nm, List.foldl_cons]
      rw [ih, ih (0 * 256 + x), List.length_cons, Nat.pow_succ, Nat.add_mul, Nat.mul_assoc, Nat.mul_comm 256]
      simp only [Nat.zero_mul, Nat.zero_add, Nat.add_assoc]
  have := key l b
  simp only [nm, List.foldl_cons]
  simp only [Nat.zero_mul, Nat.zero_add]
  exact this
theorem nm_lt : ∀ (l : List Nat), (∀ b ∈ l, b < 256) → nm l < 256 ^ l.length
  | [], _ => by simp [nm]
  | b :: l, h => by
    have h1 := nm_lt l (fun b hb => h b (by simp [hb]))
    have h0 := h b (by simp)
    rw [nm_cons, List.length_cons, Nat.pow_succ]
    have : (b + 1) * 256 ^ l.length ≤ 256 * 256 ^ l.length := Nat.mul_le_mul_right _ (by omega)
    rw [Nat.add_mul] at this
    omega
theorem u8_lt {a b : Nat} (ha : a < 256) (hb : b < 256) : (UInt8.ofNat a < UInt8.ofNat b) = (a < b) := by
  rw [UInt8.lt_iff_toNat_lt]; simp [Nat.mod_eq_of_lt ha, Nat.mod_eq_of_lt hb]
theorem u8_eq {a b : Nat} (ha : a < 256) (hb : b < 256) : (UInt8.ofNat a == UInt8.ofNat b) = (a == b) := by
  rw [Bool.eq_iff_iff]
  simp only [beq_iff_eq]
  constructor
  · intro h
    have := congrArg UInt8.toNat h
    simpa [Nat.mod_eq_of_lt ha, Nat.mod_eq_of_lt hb] using this
  · rintro rfl; rfl
theorem less_nm : ∀ (l l' : List Nat), l.length = l'.length → (∀ b ∈ l, b < 256) → (∀ b ∈ l', b < 256) → Op.bytesLess (l.map UInt8.ofNat) (l'.map UInt8.ofNat) = decide (nm l < nm l')
  | [], [], _, _, _ => by simp [Op.bytesLess, nm]
  | [], _ :: _, h, _, _ => by simp at h
  | _ :: _, [], h, _, _ => by simp at h
  | a :: l, b :: l', h, ha, hb => by
    have hl : l.length = l'.length := by simpa using h
    have a0 := ha a (by simp)
    have b0 := hb b (by simp)
    have ih := less_nm l l' hl (fun b h => ha b (by simp [h])) (fun b h => hb b (by simp [h]))
    have q1 := nm_lt l (fun b h => ha b (by simp [h]))
    have q2 := nm_lt l' (fun b h => hb b (by simp [h]))
    rw [← hl] at q2
    simp only [List.map_cons, Op.bytesLess, u8_lt a0 b0, u8_eq a0 b0, ih, nm_cons, ← hl]
    rcases Nat.lt_trichotomy a b with h1 | h1 | h1
    · have : (a + 1) * 256 ^ l.length ≤ b * 256 ^ l.length := Nat.mul_le_mul_right _ h1
      rw [Nat.add_mul] at this
      have e2 : a * 256 ^ l.length + nm l < b * 256 ^ l.length + nm l' := by omega
      simp [h1, e2]
    · subst h1
      simp
    · have : (b + 1) * 256 ^ l.length ≤ a * 256 ^ l.length := Nat.mul_le_mul_right _ h1
      rw [Nat.add_mul] at this
      have e2 : ¬ a * 256 ^ l.length + nm l < b * 256 ^ l.length + nm l' := by omega
      have e3 : ¬ a < b := by omega
      have e4 : ¬ a = b := by omega
      simp [e2, e3, e4]
theorem bs_list (l : List Nat) : (bs l).toList = l.map UInt8.ofNat := by rw [ByteArray.toList_eq]; simp [bs]

/-- Turned round. -/
def I47 (s : ByteArray) (n : Nat) (e : Env) (H : Heap) : Prop :=
  ∃ (i : Nat), i + n = s.size ∧ e 0 = .string s ∧ e 4 = .int .i64 (i : Int) ∧ e 3 = .string (bs ((bl s).take i).reverse)
theorem w47 (s : ByteArray) (hs : s.size < 2 ^ 62) (k : Nat) (hk : s.size < k) : Run (fun v H' => v = .string (bs (bl s).reverse)) mk (acall D0 (k + 1) 128 [.string s] [] ⟨0, 0⟩) := by
  have hlb := bl_length s
  refine Run_call (F := ir128) rfl (Nat.le_of_ble_eq_true rfl) ?_
  simp only [ir128, evA, ↓evB, ↓astep, ↓aop, aBin, aInt, aStr, aUn, aNil, aMax, aresults, ares, aPack, ↓reduceIte, ↓reduceCtorEq, Nat.reduceEqDiff, Nat.reduceAdd, env0, aLoad, aLoadN, cellsOf, Int.reduceEq, Int.reduceLT, Int.reduceLE, Nat.reduceLeDiff, oneC, aop.fillL, setL, aApp, aAppC_nil, aAppC_own, xop, eqCells, eqCell, rowOf, ↓acallop, aBound, aIntOf, flat, flatN, CX_fn, CX_X, CX_pol, aStore, Nat.reduceBEq, List.size_toArray, Int.sub_zero, Int.zero_add, Int.add_zero, Int.toNat_zero, Int.reduceAdd, Int.reduceSub, Int.reduceMul, Int.reduceNeg, Int.reduceToNat, Nat.reduceSub, Nat.reduceMul, Int.natCast_zero, Int.reduceDiv, Int.reduceMod, Int.toNat_natCast, fdiv_nn, min_bits_i, Int.reducePow, Nat.reducePow, Nat.reduceDiv, Nat.reduceMod, mb_i, mb_u, WpC_drawD, WpT_nil, WpT_cons, WpT_guard, WpK_nil, scal]
  refine WpC_loop (I47 s) ?_ (n := s.size) hk ?_
  · rintro n e H ⟨i, hi, h0, h4, h3⟩
    simp only [lp128_0, evA, ↓evB, ↓astep, ↓aop, aBin, aInt, aStr, aUn, aNil, aMax, aresults, ares, aPack, ↓reduceIte, ↓reduceCtorEq, Nat.reduceEqDiff, Nat.reduceAdd, env0, aLoad, aLoadN, cellsOf, Int.reduceEq, Int.reduceLT, Int.reduceLE, Nat.reduceLeDiff, oneC, aop.fillL, setL, aApp, aAppC_nil, aAppC_own, xop, eqCells, eqCell, rowOf, ↓acallop, aBound, aIntOf, flat, flatN, CX_fn, CX_X, CX_pol, aStore, Nat.reduceBEq, List.size_toArray, Int.sub_zero, Int.zero_add, Int.add_zero, Int.toNat_zero, Int.reduceAdd, Int.reduceSub, Int.reduceMul, Int.reduceNeg, Int.reduceToNat, Nat.reduceSub, Nat.reduceMul, Int.natCast_zero, Int.reduceDiv, Int.reduceMod, Int.toNat_natCast, fdiv_nn, min_bits_i, Int.reducePow, Nat.reducePow, Nat.reduceDiv, Nat.reduceMod, mb_i, mb_u, WpC_drawD, WpT_nil, WpT_cons, WpT_guard, WpK_nil, scal, h0, h4, h3]
    refine CondV_dec (fun hc => ?_) (fun hc => ?_)
    · have hx : s.extract i (i + 1) ++ bs ((bl s).take i).reverse = bs ((bl s).take (i + 1)).reverse := by
        apply bl_inj
        rw [bl_append, bl_extract, bl_bs _ (fun b h => bl_lt s b (List.mem_of_mem_take (List.mem_reverse.1 h))), bl_bs _ (fun b h => bl_lt s b (List.mem_of_mem_take (List.mem_reverse.1 h)))]
        rw [List.take_succ_eq_append_getElem (by omega), List.drop_left' (by simp; omega), List.reverse_append]; rfl
      have e1 : ((i : Int) + 1).toNat = i + 1 := by omega
      (repeat' first
    | (refine CondV_dec (fun _ => ?_) (fun _ => ?_) <;> try (exfalso; omega))
    | (refine GuardV_td (fun _ => ?_) (fun _ => ?_) <;> try (exfalso; omega))
    | (refine GuardV_fd (fun _ => ?_) (fun _ => ?_) <;> try (exfalso; omega))
    | (refine CondV_split (fun _ => ?_) (fun _ => ?_))
    | (refine Need_of (by first | omega | decide) ?_)
    | refine WpK_cons ?_ ?_
    | refine WpK_guard ?_
    | simp (disch := first | omega | simp only [List.length_append, List.length_set, List.length_cons, List.length_nil] <;> omega | fail) only [evA, ↓evB, ↓astep, ↓aop, aBin, aInt, aStr, aUn, aNil, aMax, aresults, ares, aPack, ↓reduceIte, ↓reduceCtorEq, Nat.reduceEqDiff, Nat.reduceAdd, env0, aLoad, aLoadN, cellsOf, Int.reduceEq, Int.reduceLT, Int.reduceLE, Nat.reduceLeDiff, oneC, aop.fillL, setL, aApp, aAppC_nil, aAppC_own, xop, eqCells, eqCell, rowOf, ↓acallop, aBound, aIntOf, flat, flatN, CX_fn, CX_X, CX_pol, aStore, Nat.reduceBEq, List.size_toArray, Int.sub_zero, Int.zero_add, Int.add_zero, Int.toNat_zero, Int.reduceAdd, Int.reduceSub, Int.reduceMul, Int.reduceNeg, Int.reduceToNat, Nat.reduceSub, Nat.reduceMul, Int.natCast_zero, Int.reduceDiv, Int.reduceMod, Int.toNat_natCast, fdiv_nn, min_bits_i, Int.reducePow, Nat.reducePow, Nat.reduceDiv, Nat.reduceMod, mb_i, mb_u, WpC_drawD, WpT_nil, WpT_cons, WpT_guard, WpK_nil, scal, h0, h4, h3, e1, hx, List.length_reverse, List.length_take])
      exact ⟨n - 1, by omega, i + 1, by omega, by (first | rfl | (simp only [Env_put_some, Env_put_none, ↓Env_set_at, ↓reduceIte, Nat.reduceEqDiff, h0] <;> rfl)), by (first | rfl | (simp only [Env_put_some, Env_put_none, ↓Env_set_at, ↓reduceIte, Nat.reduceEqDiff] <;> rfl)), by (first | rfl | (simp only [Env_put_some, Env_put_none, ↓Env_set_at, ↓reduceIte, Nat.reduceEqDiff] <;> rfl))⟩
    · (repeat' first
    | (refine CondV_dec (fun _ => ?_) (fun _ => ?_) <;> try (exfalso; omega))
    | (refine GuardV_td (fun _ => ?_) (fun _ => ?_) <;> try (exfalso; omega))
    | (refine GuardV_fd (fun _ => ?_) (fun _ => ?_) <;> try (exfalso; omega))
    | (refine CondV_split (fun _ => ?_) (fun _ => ?_))
    | (refine Need_of (by first | omega | decide) ?_)
    | refine WpK_cons ?_ ?_
    | refine WpK_guard ?_
    | simp (disch := first | omega | simp only [List.length_append, List.length_set, List.length_cons, List.length_nil] <;> omega | fail) only [evA, ↓evB, ↓astep, ↓aop, aBin, aInt, aStr, aUn, aNil, aMax, aresults, ares, aPack, ↓reduceIte, ↓reduceCtorEq, Nat.reduceEqDiff, Nat.reduceAdd, env0, aLoad, aLoadN, cellsOf, Int.reduceEq, Int.reduceLT, Int.reduceLE, Nat.reduceLeDiff, oneC, aop.fillL, setL, aApp, aAppC_nil, aAppC_own, xop, eqCells, eqCell, rowOf, ↓acallop, aBound, aIntOf, flat, flatN, CX_fn, CX_X, CX_pol, aStore, Nat.reduceBEq, List.size_toArray, Int.sub_zero, Int.zero_add, Int.add_zero, Int.toNat_zero, Int.reduceAdd, Int.reduceSub, Int.reduceMul, Int.reduceNeg, Int.reduceToNat, Nat.reduceSub, Nat.reduceMul, Int.natCast_zero, Int.reduceDiv, Int.reduceMod, Int.toNat_natCast, fdiv_nn, min_bits_i, Int.reducePow, Nat.reducePow, Nat.reduceDiv, Nat.reduceMod, mb_i, mb_u, WpC_drawD, WpT_nil, WpT_cons, WpT_guard, WpK_nil, scal, h0, h4, h3])
      rw [List.take_of_length_le (by omega)]
  · exact ⟨0, by omega, rfl, rfl, rfl⟩

def I48 (s : ByteArray) (n : Nat) (e : Env) (H : Heap) : Prop :=
  ∃ (i a : Nat), i + n = s.size ∧ a < 2 ^ (8 * i) ∧ ((bl s).drop i).foldl (fun n b => n * 256 + b) a = nm (bl s) ∧ e 0 = .string s ∧ e 4 = .int .i64 (i : Int) ∧ e 3 = .int .u64 (a : Int)
theorem w48 (s : ByteArray) (hs : s.size ≤ 8) (k : Nat) (hk : s.size < k) : Run (fun v H' => v = .int .u64 (nm (bl s) : Int)) mk (acall D0 (k + 1) 127 [.string s] [] ⟨0, 0⟩) := by
  have hlb := bl_length s
  refine Run_call (F := ir127) rfl (Nat.le_of_ble_eq_true rfl) ?_
  simp only [ir127, evA, ↓evB, ↓astep, ↓aop, aBin, aInt, aStr, aUn, aNil, aMax, aresults, ares, aPack, ↓reduceIte, ↓reduceCtorEq, Nat.reduceEqDiff, Nat.reduceAdd, env0, aLoad, aLoadN, cellsOf, Int.reduceEq, Int.reduceLT, Int.reduceLE, Nat.reduceLeDiff, oneC, aop.fillL, setL, aApp, aAppC_nil, aAppC_own, xop, eqCells, eqCell, rowOf, ↓acallop, aBound, aIntOf, flat, flatN, CX_fn, CX_X, CX_pol, aStore, Nat.reduceBEq, List.size_toArray, Int.sub_zero, Int.zero_add, Int.add_zero, Int.toNat_zero, Int.reduceAdd, Int.reduceSub, Int.reduceMul, Int.reduceNeg, Int.reduceToNat, Nat.reduceSub, Nat.reduceMul, Int.natCast_zero, Int.reduceDiv, Int.reduceMod, Int.toNat_natCast, fdiv_nn, min_bits_i, Int.reducePow, Nat.reducePow, Nat.reduceDiv, Nat.reduceMod, mb_i, mb_u, WpC_drawD, WpT_nil, WpT_cons, WpT_guard, WpK_nil, scal]
  refine WpC_loop (I48 s) ?_ (n := s.size) hk ?_
  · rintro n e H ⟨i, a, hi, ha, hr, h0, h4, h3⟩
    have hb := bAt_lt s i
    simp only [lp127_0, evA, ↓evB, ↓astep, ↓aop, aBin, aInt, aStr, aUn, aNil, aMax, aresults, ares, aPack, ↓reduceIte, ↓reduceCtorEq, Nat.reduceEqDiff, Nat.reduceAdd, env0, aLoad, aLoadN, cellsOf, Int.reduceEq, Int.reduceLT, Int.reduceLE, Nat.reduceLeDiff, oneC, aop.fillL, setL, aApp, aAppC_nil, aAppC_own, xop, eqCells, eqCell, rowOf, ↓acallop, aBound, aIntOf, flat, flatN, CX_fn, CX_X, CX_pol, aStore, Nat.reduceBEq, List.size_toArray, Int.sub_zero, Int.zero_add, Int.add_zero, Int.toNat_zero, Int.reduceAdd, Int.reduceSub, Int.reduceMul, Int.reduceNeg, Int.reduceToNat, Nat.reduceSub, Nat.reduceMul, Int.natCast_zero, Int.reduceDiv, Int.reduceMod, Int.toNat_natCast, fdiv_nn, min_bits_i, Int.reducePow, Nat.reducePow, Nat.reduceDiv, Nat.reduceMod, mb_i, mb_u, WpC_drawD, WpT_nil, WpT_cons, WpT_guard, WpK_nil, scal, h0, h4, h3]
    refine CondV_dec (fun hc => ?_) (fun hc => ?_)
    · have ha56 : a < 2 ^ 56 := Nat.lt_of_lt_of_le ha (Nat.pow_le_pow_right (by omega) (by omega))
      (repeat' first
    | (refine CondV_dec (fun _ => ?_) (fun _ => ?_) <;> try (exfalso; omega))
    | (refine GuardV_td (fun _ => ?_) (fun _ => ?_) <;> try (exfalso; omega))
    | (refine GuardV_fd (fun _ => ?_) (fun _ => ?_) <;> try (exfalso; omega))
    | (refine CondV_split (fun _ => ?_) (fun _ => ?_))
    | (refine Need_of (by first | omega | decide) ?_)
    | refine WpK_cons ?_ ?_
    | refine WpK_guard ?_
    | simp (disch := first | omega | simp only [List.length_append, List.length_set, List.length_cons, List.length_nil] <;> omega | fail) only [evA, ↓evB, ↓astep, ↓aop, aBin, aInt, aStr, aUn, aNil, aMax, aresults, ares, aPack, ↓reduceIte, ↓reduceCtorEq, Nat.reduceEqDiff, Nat.reduceAdd, env0, aLoad, aLoadN, cellsOf, Int.reduceEq, Int.reduceLT, Int.reduceLE, Nat.reduceLeDiff, oneC, aop.fillL, setL, aApp, aAppC_nil, aAppC_own, xop, eqCells, eqCell, rowOf, ↓acallop, aBound, aIntOf, flat, flatN, CX_fn, CX_X, CX_pol, aStore, Nat.reduceBEq, List.size_toArray, Int.sub_zero, Int.zero_add, Int.add_zero, Int.toNat_zero, Int.reduceAdd, Int.reduceSub, Int.reduceMul, Int.reduceNeg, Int.reduceToNat, Nat.reduceSub, Nat.reduceMul, Int.natCast_zero, Int.reduceDiv, Int.reduceMod, Int.toNat_natCast, fdiv_nn, min_bits_i, Int.reducePow, Nat.reducePow, Nat.reduceDiv, Nat.reduceMod, mb_i, mb_u, WpC_drawD, WpT_nil, WpT_cons, WpT_guard, WpK_nil, scal, h0, h4, h3])
      have hlt : a * 256 + bAt s i < 2 ^ (8 * (i + 1)) := by
        rw [show 8 * (i + 1) = 8 * i + 8 by omega, Nat.pow_add]; omega
      refine ⟨n - 1, by omega, i + 1, a * 256 + bAt s i, by omega, hlt, ?_, ?_, ?_, ?_⟩
      · rw [← hr, bl_drop s i (by omega)]; rfl
      · (first | rfl | (simp only [Env_put_some, Env_put_none, ↓Env_set_at, ↓reduceIte, Nat.reduceEqDiff, h0] <;> rfl))
      · (first | rfl | (simp only [Env_put_some, Env_put_none, ↓Env_set_at, ↓reduceIte, Nat.reduceEqDiff] <;> rfl))
      · rw [show ((a * 256 + bAt s i : Nat) : Int) = 256 * (a : Int) + (bAt s i : Int) by omega]; (first | rfl | (simp only [Env_put_some, Env_put_none, ↓Env_set_at, ↓reduceIte, Nat.reduceEqDiff] <;> rfl))
    · (repeat' first
    | (refine CondV_dec (fun _ => ?_) (fun _ => ?_) <;> try (exfalso; omega))
    | (refine GuardV_td (fun _ => ?_) (fun _ => ?_) <;> try (exfalso; omega))
    | (refine GuardV_fd (fun _ => ?_) (fun _ => ?_) <;> try (exfalso; omega))
    | (refine CondV_split (fun _ => ?_) (fun _ => ?_))
    | (refine Need_of (by first | omega | decide) ?_)
    | refine WpK_cons ?_ ?_
    | refine WpK_guard ?_
    | simp (disch := first | omega | simp only [List.length_append, List.length_set, List.length_cons, List.length_nil] <;> omega | fail) only [evA, ↓evB, ↓astep, ↓aop, aBin, aInt, aStr, aUn, aNil, aMax, aresults, ares, aPack, ↓reduceIte, ↓reduceCtorEq, Nat.reduceEqDiff, Nat.reduceAdd, env0, aLoad, aLoadN, cellsOf, Int.reduceEq, Int.reduceLT, Int.reduceLE, Nat.reduceLeDiff, oneC, aop.fillL, setL, aApp, aAppC_nil, aAppC_own, xop, eqCells, eqCell, rowOf, ↓acallop, aBound, aIntOf, flat, flatN, CX_fn, CX_X, CX_pol, aStore, Nat.reduceBEq, List.size_toArray, Int.sub_zero, Int.zero_add, Int.add_zero, Int.toNat_zero, Int.reduceAdd, Int.reduceSub, Int.reduceMul, Int.reduceNeg, Int.reduceToNat, Nat.reduceSub, Nat.reduceMul, Int.natCast_zero, Int.reduceDiv, Int.reduceMod, Int.toNat_natCast, fdiv_nn, min_bits_i, Int.reducePow, Nat.reducePow, Nat.reduceDiv, Nat.reduceMod, mb_i, mb_u, WpC_drawD, WpT_nil, WpT_cons, WpT_guard, WpK_nil, scal, h0, h4, h3])
      rw [← hr, bl_drop_all s i (by omega)]; rfl
  · exact ⟨0, 0, by omega, by simp, rfl, rfl, rfl, rfl⟩

def XTurned (args : List Value) : Option Value :=
  match args with
  | [.string s] => if s.size < 2 ^ 62 then some (.string (bs (bl s).reverse)) else none
  | _ => none
def XNumber (args : List Value) : Option Value :=
  match args with
  | [.string s] => if s.size ≤ 8 then some (.int .u64 (nm (bl s) : Int)) else none
  | _ => none
theorem XTurned_eq (s : ByteArray) : XTurned [.string s] = if s.size < 2 ^ 62 then some (.string (bs (bl s).reverse)) else none := rfl
theorem XNumber_eq (s : ByteArray) : XNumber [.string s] = if s.size ≤ 8 then some (.int .u64 (nm (bl s) : Int)) else none := rfl
theorem x47 : XOk Try.prog 128 XTurned := .of D0_ok rfl (f := 128) ok128 fun args v h => by
  unfold XTurned at h
  split at h
  · rename_i s
    split at h
    · rename_i hs; cases h; exact ⟨rfl, rfl, s.size + 2, 0, w47 s hs (s.size + 1) (by omega)⟩
    · cases h
  · cases h
theorem x48 : XOk Try.prog 127 XNumber := .of D0_ok rfl (f := 127) ok127 fun args v h => by
  unfold XNumber at h
  split at h
  · rename_i s
    split at h
    · rename_i hs; cases h; exact ⟨rfl, rfl, s.size + 2, 0, w48 s hs (s.size + 1) (by omega)⟩
    · cases h
  · cases h


/-! ## What the package is to do -/
/-- Bytes of a string from a place on. -/
def byt (s : ByteArray) (p n : Nat) : List Nat := ((bl s).drop p).take n
/-- A little number of the next bytes. -/
def ltl (l : List Nat) : Nat := nm l.reverse
/-- What follows once the length of a literal is known. -/
def litE (s : ByteArray) (size : Nat) (p : Nat) (out : List Nat) (n : Nat) : Nat × Nat × List Nat :=
  if size < out.length + n then (3, p, out) else if s.size < p + n then (2, p, out) else (0, p + n, out ++ byt s p n)
def litS (s : ByteArray) (size : Nat) (p : Nat) (out : List Nat) (v : Nat) : Nat × Nat × List Nat :=
  if v < 60 then litE s size p out (v + 1)
  else if p + (v - 59) ≤ s.size then litE s size (p + (v - 59)) out (ltl (byt s p (v - 59)) + 1) else (2, p, out)
def cpy : Nat → Nat → List Nat → List Nat
  | 0, _, out => out
  | n + 1, back, out => cpy n back (out ++ [out.getD (out.length - back) 0])
/-- What a copy does. -/
def cpS (size p : Nat) (out : List Nat) (n back : Nat) : Nat × Nat × List Nat :=
  if back = 0 ∨ out.length < back ∨ size < out.length + n then (3, p, out) else (0, p, cpy n back out)
/-- A copy whose place stands in the next bytes: by the number of these, the length, the place's upper part. -/
def farS (s : ByteArray) (size p : Nat) (out : List Nat) (k n hi : Nat) : Nat × Nat × List Nat :=
  if p + k ≤ s.size then cpS size (p + k) out n (hi * 256 + ltl (byt s p k)) else (2, p, out)
/-- What an element does. -/
def elS (s : ByteArray) (size p : Nat) (out : List Nat) : Nat × Nat × List Nat :=
  let b := bAt s p
  if b % 4 = 0 then litS s size (p + 1) out (b / 4)
  else if b % 4 = 1 then farS s size (p + 1) out 1 (4 + b / 4 % 8) (b / 4 / 8)
  else if b % 4 = 2 then farS s size (p + 1) out 2 (b / 4 + 1) 0
  else farS s size (p + 1) out 4 (b / 4 + 1) 0
/-- All elements, one behind the other. -/
def elsS (s : ByteArray) (size : Nat) : Nat → Nat → List Nat → Nat × List Nat
  | 0, _, out => (0, out)
  | q + 1, p, out =>
    if p < s.size then (if (elS s size p out).1 = 0 then elsS s size q (elS s size p out).2.1 (elS s size p out).2.2 else ((elS s size p out).1, out))
    else if out.length < size then (2, out) else (0, out)
def elsV (r : Nat × List Nat) : Value := .tuple #[.string (if r.1 = 0 then bs r.2 else ⟨#[]⟩), .int .i64 (r.1 : Int)]
/-- The size a block tells. -/
def szV (s : ByteArray) : Nat × Nat × Nat := if (nx (bl s) 0 0).2.2 ≠ 0 then (0, 0, (nx (bl s) 0 0).2.2) else if 4294967295 < (nx (bl s) 0 0).1 then (0, 0, 5) else ((nx (bl s) 0 0).1, (nx (bl s) 0 0).2.1, 0)
def szT (r : Nat × Nat × Nat) : Value := .tuple #[.int .i64 (r.1 : Int), .int .i64 (r.2.1 : Int), .int .i64 (r.2.2 : Int)]
def XSz (args : List Value) : Option Value :=
  match args with
  | [.string s] => if s.size < 50000 then some (szT (szV s)) else none
  | _ => none
theorem XSz_eq (s : ByteArray) : XSz [.string s] = if s.size < 50000 then some (szT (szV s)) else none := rfl
def XEls (args : List Value) : Option Value :=
  match args with
  | [.string s, .int .i64 n] => if s.size < 50000 ∧ 0 ≤ n ∧ n ≤ 50000 then some (elsV (elsS s n.toNat (s.size + 1) 0 [])) else none
  | _ => none
theorem XEls_eq (s : ByteArray) (n : Int) : XEls [.string s, .int .i64 n] = if s.size < 50000 ∧ 0 ≤ n ∧ n ≤ 50000 then some (elsV (elsS s n.toNat (s.size + 1) 0 [])) else none := rfl
theorem alive11 : Ans (acall D0 30 12 [] [] ⟨0, 0⟩) (.bool true) := by unfold Ans; kernel_rfl
theorem xalive11 : XOk Try.prog 12 XAlive := .of D0_ok rfl ok12 fun args v h => by
  unfold XAlive at h
  split at h
  · cases h; exact ⟨rfl, rfl, 30, 0, alive11.run⟩
  · cases h

end L11
end Ev
end Go.Proofs.Ythigekeonjmhdaa
