/-
  The package plain, and the laws of layer 15.
-/
import Derived.Test.YtfbelnjchpffeaaP0
namespace Go.Proofs.Ytfbelnjchpffeaa
namespace Ev
namespace L15
open Tag (mk)
set_option linter.unusedSimpArgs false
set_option linter.unusedVariables false
set_option maxRecDepth 4000
set_option maxHeartbeats 4000000
theorem alive15 : Ans (acall D0 30 38 [] [] ⟨0, 0⟩) (.bool true) := by unfold Ans; kernel_rfl
theorem xalive15 : XOk Try.prog 38 XAlive := .of D0_ok rfl ok38 fun args v h => by
  unfold XAlive at h
  split at h
  · cases h; exact ⟨rfl, rfl, 30, 0, alive15.run⟩
  · cases h

noncomputable def D1 : Cf := CX (xtab [(38, XAlive), (84, XNext), (74, XPut), (73, XSize), (75, XPut)]) (polt [(103, .fw), (78, .fw), (80, .fw), (89, .fw), (41, .ro)])
theorem D1_ok : D1.Ok := CX_ok (all_cons xalive15 (all_cons x13 (all_cons x15 (all_cons x17 (all_cons x16 all_nil))))) al_no
/-! ## The cursor -/
def rdC (s : ByteArray) (at_ fault : Int) : AObj := .cells [.string s, .int .i64 at_, .int .i64 fault] 165 true
def rdOk (s : ByteArray) (at_ fault : Int) : Prop := 0 ≤ at_ ∧ at_ ≤ s.size ∧ s.size < 2 ^ 62 ∧ -9223372036854775808 ≤ fault ∧ fault ≤ 9223372036854775807
/-- The fault behind a Take. -/
def rdF (s : ByteArray) (at_ fault n : Int) : Int := if fault ≠ 0 then fault else if n < 0 then 1 else if s.size - at_ < n then 2 else 0
def rdA (s : ByteArray) (at_ fault n : Int) : Int := if rdF s at_ fault n = 0 then at_ + n else at_
def rdT (s : ByteArray) (at_ fault n : Int) : ByteArray := if rdF s at_ fault n = 0 then s.extract at_.toNat (at_ + n).toNat else ⟨#[]⟩
theorem rd_take {H : Heap} {i : Nat} {lim fb : Nat} {s : ByteArray} {at_ fault : Int} (n : Int) (h : H[i]? = some (rdC s at_ fault)) (hl : lim ≤ i)
    (h1 : rdOk s at_ fault) (h2 : -9223372036854775808 ≤ n ∧ n ≤ 9223372036854775807) :
    ∃ J, ∀ k, 5 ≤ k → acall D1 k 103 [.pointer (some ⟨i, 0, none⟩), .int .i64 n] H ⟨lim, fb⟩ = some (.string (rdT s at_ fault n), H.set i (rdC s (rdA s at_ fault n) (rdF s at_ fault n)) ++ J) := by
  have hi := lt_of_get h
  obtain ⟨m1, m2, m3, m4, m5⟩ := h1
  rw [rdC] at h
  have h0 := hset_same h
  refine Run_fuel (F := fun J => H.set i _ ++ J) ?_
  refine Run_exi (f := fun J => H.set i _ ++ J) ?_
  refine Run_call (F := ir103) rfl (Nat.le_of_ble_eq_true rfl) ?_
  simp only [ir103, D1, rdC, rdT, rdA, rdF]
  by_cases hf : fault = 0
  · subst hf
    by_cases hn : n < 0
    · simp only [ne_eq, not_true_eq_false, if_false, if_pos hn, Int.reduceEq]
      (repeat' first
    | (refine CondV_dec (fun _ => ?_) (fun _ => ?_) <;> try (exfalso; omega))
    | (refine GuardV_td (fun _ => ?_) (fun _ => ?_) <;> try (exfalso; omega))
    | (refine GuardV_fd (fun _ => ?_) (fun _ => ?_) <;> try (exfalso; omega))
    | (refine CondV_split (fun _ => ?_) (fun _ => ?_))
    | (refine Need_of (by first | omega | decide) ?_)
    | simp (disch := first | omega | simp only [List.length_append, List.length_set, List.length_cons, List.length_nil] <;> omega | fail) only [evA, ↓evB, ↓astep, ↓aop, aBin, aInt, aStr, aUn, aNil, aMax, aresults, ares, aPack, ↓reduceIte, ↓reduceCtorEq, Nat.reduceEqDiff, Nat.reduceAdd, env0, aLoad, aLoadN, cellsOf, Int.reduceEq, Int.reduceLT, Int.reduceLE, Nat.reduceLeDiff, oneC, aop.fillL, setL, aApp, aAppC, xop, eqCells, eqCell, rowOf, ↓acallop, aBound, aIntOf, flat, flatN, CX_fn, CX_X, CX_pol, aStore, Nat.reduceBEq, List.size_toArray, Int.sub_zero, Int.zero_add, Int.add_zero, Int.toNat_zero, Int.reduceAdd, Int.reduceSub, Int.reduceMul, Int.reduceNeg, Int.reduceToNat, Nat.reduceSub, Nat.reduceMul, Int.natCast_zero, Int.reduceDiv, Int.reduceMod, Int.toNat_natCast, fn128, ir128, fn89, ir89, fn79, ir79, fn87, ir87, h, hl, hn])
      all_goals first | exact ⟨trivial, _, rfl⟩ | exact ⟨_, rfl⟩
    · by_cases hb : (s.size : Int) - at_ < n
      · simp only [ne_eq, not_true_eq_false, if_false, if_neg hn, if_pos hb, Int.reduceEq]
        (repeat' first
    | (refine CondV_dec (fun _ => ?_) (fun _ => ?_) <;> try (exfalso; omega))
    | (refine GuardV_td (fun _ => ?_) (fun _ => ?_) <;> try (exfalso; omega))
    | (refine GuardV_fd (fun _ => ?_) (fun _ => ?_) <;> try (exfalso; omega))
    | (refine CondV_split (fun _ => ?_) (fun _ => ?_))
    | (refine Need_of (by first | omega | decide) ?_)
    | simp (disch := first | omega | simp only [List.length_append, List.length_set, List.length_cons, List.length_nil] <;> omega | fail) only [evA, ↓evB, ↓astep, ↓aop, aBin, aInt, aStr, aUn, aNil, aMax, aresults, ares, aPack, ↓reduceIte, ↓reduceCtorEq, Nat.reduceEqDiff, Nat.reduceAdd, env0, aLoad, aLoadN, cellsOf, Int.reduceEq, Int.reduceLT, Int.reduceLE, Nat.reduceLeDiff, oneC, aop.fillL, setL, aApp, aAppC, xop, eqCells, eqCell, rowOf, ↓acallop, aBound, aIntOf, flat, flatN, CX_fn, CX_X, CX_pol, aStore, Nat.reduceBEq, List.size_toArray, Int.sub_zero, Int.zero_add, Int.add_zero, Int.toNat_zero, Int.reduceAdd, Int.reduceSub, Int.reduceMul, Int.reduceNeg, Int.reduceToNat, Nat.reduceSub, Nat.reduceMul, Int.natCast_zero, Int.reduceDiv, Int.reduceMod, Int.toNat_natCast, fn128, ir128, fn89, ir89, fn79, ir79, fn87, ir87, h, hl, hn, hb])
        all_goals first | exact ⟨trivial, _, rfl⟩ | exact ⟨_, rfl⟩
      · simp only [ne_eq, not_true_eq_false, if_false, if_neg hn, if_neg hb, if_true]
        have e1 : at_ + n - n = at_ := by omega
        (repeat' first
    | (refine CondV_dec (fun _ => ?_) (fun _ => ?_) <;> try (exfalso; omega))
    | (refine GuardV_td (fun _ => ?_) (fun _ => ?_) <;> try (exfalso; omega))
    | (refine GuardV_fd (fun _ => ?_) (fun _ => ?_) <;> try (exfalso; omega))
    | (refine CondV_split (fun _ => ?_) (fun _ => ?_))
    | (refine Need_of (by first | omega | decide) ?_)
    | simp (disch := first | omega | simp only [List.length_append, List.length_set, List.length_cons, List.length_nil] <;> omega | fail) only [evA, ↓evB, ↓astep, ↓aop, aBin, aInt, aStr, aUn, aNil, aMax, aresults, ares, aPack, ↓reduceIte, ↓reduceCtorEq, Nat.reduceEqDiff, Nat.reduceAdd, env0, aLoad, aLoadN, cellsOf, Int.reduceEq, Int.reduceLT, Int.reduceLE, Nat.reduceLeDiff, oneC, aop.fillL, setL, aApp, aAppC, xop, eqCells, eqCell, rowOf, ↓acallop, aBound, aIntOf, flat, flatN, CX_fn, CX_X, CX_pol, aStore, Nat.reduceBEq, List.size_toArray, Int.sub_zero, Int.zero_add, Int.add_zero, Int.toNat_zero, Int.reduceAdd, Int.reduceSub, Int.reduceMul, Int.reduceNeg, Int.reduceToNat, Nat.reduceSub, Nat.reduceMul, Int.natCast_zero, Int.reduceDiv, Int.reduceMod, Int.toNat_natCast, fn128, ir128, fn89, ir89, fn79, ir79, fn87, ir87, h, hl, hn, hb, e1])
        all_goals first | exact ⟨trivial, _, rfl⟩ | exact ⟨_, rfl⟩
  · simp only [ne_eq, hf, not_false_eq_true, if_true, if_false]
    (repeat' first
    | (refine CondV_dec (fun _ => ?_) (fun _ => ?_) <;> try (exfalso; omega))
    | (refine GuardV_td (fun _ => ?_) (fun _ => ?_) <;> try (exfalso; omega))
    | (refine GuardV_fd (fun _ => ?_) (fun _ => ?_) <;> try (exfalso; omega))
    | (refine CondV_split (fun _ => ?_) (fun _ => ?_))
    | (refine Need_of (by first | omega | decide) ?_)
    | simp (disch := first | omega | simp only [List.length_append, List.length_set, List.length_cons, List.length_nil] <;> omega | fail) only [evA, ↓evB, ↓astep, ↓aop, aBin, aInt, aStr, aUn, aNil, aMax, aresults, ares, aPack, ↓reduceIte, ↓reduceCtorEq, Nat.reduceEqDiff, Nat.reduceAdd, env0, aLoad, aLoadN, cellsOf, Int.reduceEq, Int.reduceLT, Int.reduceLE, Nat.reduceLeDiff, oneC, aop.fillL, setL, aApp, aAppC, xop, eqCells, eqCell, rowOf, ↓acallop, aBound, aIntOf, flat, flatN, CX_fn, CX_X, CX_pol, aStore, Nat.reduceBEq, List.size_toArray, Int.sub_zero, Int.zero_add, Int.add_zero, Int.toNat_zero, Int.reduceAdd, Int.reduceSub, Int.reduceMul, Int.reduceNeg, Int.reduceToNat, Nat.reduceSub, Nat.reduceMul, Int.natCast_zero, Int.reduceDiv, Int.reduceMod, Int.toNat_natCast, fn128, ir128, fn89, ir89, fn79, ir79, fn87, ir87, h, hl, hf, h0])
    all_goals first | exact ⟨trivial, _, rfl⟩ | exact ⟨_, rfl⟩


theorem nx_take : ∀ (j : Nat) (l : List Nat) (i a : Nat), i + j = 9 → nx (l.take (10 - i)) i a = nx l i a
  | j, [], i, a, h => by simp
  | j, b :: l, i, a, h => by
    obtain ⟨q, hq⟩ : ∃ q, 10 - i = q + 1 := ⟨9 - i, by omega⟩
    rw [hq, List.take_succ_cons, nx, nx]
    split
    · rfl
    · rename_i hc
      split
      · rfl
      · cases j with
        | zero => omega
        | succ j =>
          have := nx_take j l (i + 1) (a + b % 128 * 2 ^ (7 * i)) (by omega)
          rw [show 10 - (i + 1) = q by omega] at this
          exact this
/-- What the reader of a number leaves: the number, the place, the fault. -/
theorem read_ok {H : Heap} {i : Nat} {lim fb : Nat} {s : ByteArray} {n k f : Nat} (h : H[i]? = some (rdC s 0 0)) (hl : lim ≤ i) (hs : s.size < 2 ^ 62) (hx : nx (bl s) 0 0 = (n, k, f)) (hk : f = 0 → k ≤ s.size) (hn : n < 2 ^ 64) (hf : f ≤ 3) :
    ∃ J, ∀ q, 7 ≤ q → acall D1 q 80 [.pointer (some ⟨i, 0, none⟩), .int .u64 18446744073709551615] H ⟨lim, fb⟩ = some (.int .u64 (if f = 0 then n else 0 : Nat), H.set i (rdC s (if f = 0 then k else 0 : Nat) f) ++ J) := by
  have hi := lt_of_get h
  have h0 := hset_same h
  have h00 := h0
  rw [rdC] at h00
  refine Run_fuel (F := fun J => H.set i _ ++ J) ?_
  refine Run_exi (f := fun J => H.set i _ ++ J) ?_
  refine Run_call (F := ir80) rfl (Nat.le_of_ble_eq_true rfl) ?_
  have hb : bl (s.extract 0 (min 10 s.size)) = (bl s).take 10 := by
    rw [bl_extract, List.drop_zero]
    by_cases hh : 10 ≤ s.size
    · rw [Nat.min_eq_left hh]
    · rw [Nat.min_eq_right (by omega), ← bl_length, List.take_length, List.take_of_length_le (by rw [bl_length]; omega)]
  have hx' : nx (bl (s.extract 0 (min 10 s.size))) 0 0 = (n, k, f) := by rw [hb, nx_take 9 _ 0 0 rfl]; exact hx
  obtain ⟨mm, hm⟩ : ∃ mm : Nat, mm = min 10 s.size := ⟨_, rfl⟩
  rw [← hm] at hx'
  have hmi : (if (s.size : Int) < 10 then (s.size : Int) else 10) = (mm : Int) := by split <;> omega
  by_cases hf0 : f = 0
  · subst hf0
    have hk := hk rfl
    have hF : rdF s (0 : Nat) 0 k = 0 := by simp only [rdF]; rw [if_neg (by simp), if_neg (by omega), if_neg (by omega)]
    obtain ⟨J, hJ⟩ := rd_take (lim := lim) (fb := H.length) (k : Int) h hl ⟨by omega, by omega, hs, by omega, by omega⟩ (by omega)
    simp only [D1, rdT, rdA, Int.natCast_zero, hF, if_true, rdC] at hJ
    have hF' : rdF s 0 0 k = 0 := hF
    simp only [hF', if_true, Int.zero_add] at hJ
    rw [rdC] at h
    simp only [ir80, D1, if_true, rdC]
    (repeat' first
    | (refine CondV_dec (fun _ => ?_) (fun _ => ?_) <;> try (exfalso; omega))
    | (refine GuardV_td (fun _ => ?_) (fun _ => ?_) <;> try (exfalso; omega))
    | (refine GuardV_fd (fun _ => ?_) (fun _ => ?_) <;> try (exfalso; omega))
    | (refine CondV_split (fun _ => ?_) (fun _ => ?_))
    | (refine Need_of (by first | omega | decide) ?_)
    | simp (disch := first | omega | simp only [List.length_append, List.length_set, List.length_cons, List.length_nil] <;> omega | fail) only [evA, ↓evB, ↓astep, ↓aop, aBin, aInt, aStr, aUn, aNil, aMax, aresults, ares, aPack, ↓reduceIte, ↓reduceCtorEq, Nat.reduceEqDiff, Nat.reduceAdd, env0, aLoad, aLoadN, cellsOf, Int.reduceEq, Int.reduceLT, Int.reduceLE, Nat.reduceLeDiff, oneC, aop.fillL, setL, aApp, aAppC, xop, eqCells, eqCell, rowOf, ↓acallop, aBound, aIntOf, flat, flatN, CX_fn, CX_X, CX_pol, aStore, Nat.reduceBEq, List.size_toArray, Int.sub_zero, Int.zero_add, Int.add_zero, Int.toNat_zero, Int.reduceAdd, Int.reduceSub, Int.reduceMul, Int.reduceNeg, Int.reduceToNat, Nat.reduceSub, Nat.reduceMul, Int.natCast_zero, Int.reduceDiv, Int.reduceMod, Int.toNat_natCast, fn79, ir79, fn104, ir104, fn87, ir87, fn89, ir89, h, hl, h00, hmi, XNext_eq, nxV, hx', hJ])
    all_goals try simp only [if_true, Int.natCast_zero]
    all_goals first | exact ⟨trivial, _, rfl⟩ | exact ⟨_, rfl⟩ | exact ⟨trivial, [], (List.append_nil _).symm⟩ | exact ⟨[], (List.append_nil _).symm⟩
  · rw [rdC] at h
    simp only [ir80, D1, if_neg hf0, rdC]
    have hfi : ¬ (f : Int) = 0 := by omega
    (repeat' first
    | (refine CondV_dec (fun _ => ?_) (fun _ => ?_) <;> try (exfalso; omega))
    | (refine GuardV_td (fun _ => ?_) (fun _ => ?_) <;> try (exfalso; omega))
    | (refine GuardV_fd (fun _ => ?_) (fun _ => ?_) <;> try (exfalso; omega))
    | (refine CondV_split (fun _ => ?_) (fun _ => ?_))
    | (refine Need_of (by first | omega | decide) ?_)
    | simp (disch := first | omega | simp only [List.length_append, List.length_set, List.length_cons, List.length_nil] <;> omega | fail) only [evA, ↓evB, ↓astep, ↓aop, aBin, aInt, aStr, aUn, aNil, aMax, aresults, ares, aPack, ↓reduceIte, ↓reduceCtorEq, Nat.reduceEqDiff, Nat.reduceAdd, env0, aLoad, aLoadN, cellsOf, Int.reduceEq, Int.reduceLT, Int.reduceLE, Nat.reduceLeDiff, oneC, aop.fillL, setL, aApp, aAppC, xop, eqCells, eqCell, rowOf, ↓acallop, aBound, aIntOf, flat, flatN, CX_fn, CX_X, CX_pol, aStore, Nat.reduceBEq, List.size_toArray, Int.sub_zero, Int.zero_add, Int.add_zero, Int.toNat_zero, Int.reduceAdd, Int.reduceSub, Int.reduceMul, Int.reduceNeg, Int.reduceToNat, Nat.reduceSub, Nat.reduceMul, Int.natCast_zero, Int.reduceDiv, Int.reduceMod, Int.toNat_natCast, fn79, ir79, fn104, ir104, fn87, ir87, fn89, ir89, h, hl, h00, hmi, XNext_eq, nxV, hx', hfi])
    all_goals try simp only [if_neg hf0, Int.natCast_zero]
    all_goals first | exact ⟨trivial, _, rfl⟩ | exact ⟨_, rfl⟩ | exact ⟨trivial, [], (List.append_nil _).symm⟩ | exact ⟨[], (List.append_nil _).symm⟩
/-- A frame that is told. -/
theorem next_ok {H : Heap} {lim fb : Nat} {most : Int} {s : ByteArray} {N k id sz : Nat} (hl : lim ≤ H.length) (hs : s.size < 2 ^ 62) (h1 : nx (bl s) 0 0 = (N, k, 0)) (hm : (N : Int) ≤ most) (hm2 : most < 2 ^ 62) (hk : k + N ≤ s.size)
    (h2 : nx (bl (s.extract k (k + N))) 0 0 = (id, sz, 0)) (hsz : sz ≤ N) (hid : id < 2 ^ 64) :
    ∃ H', ∀ q, 20 ≤ q → acall D1 q 41 [.int .i64 most, .string s] H ⟨lim, fb⟩ = some (.tuple #[.agg #[.int .u64 (id : Int), .string ⟨#[]⟩, .string ((s.extract k (k + N)).extract sz N)], .int .i64 ((k + N : Nat) : Int), .int .i64 0], H') := by
  refine Run_fuel (F := fun J => J) ?_
  refine Run_ex (t := mk) ?_
  refine Run_call (F := ir41) rfl (Nat.le_of_ble_eq_true rfl) ?_
  obtain ⟨t, ht⟩ : ∃ t, t = s.extract k (k + N) := ⟨_, rfl⟩
  have hts : t.size = N := by rw [ht, ByteArray.size_extract, Nat.min_eq_left hk]; omega
  rw [← ht] at h2
  obtain ⟨z, hz⟩ : ∃ z, z = AObj.cells [.int .u64 0, .string ⟨#[]⟩, .string ⟨#[]⟩] 74 true := ⟨_, rfl⟩
  obtain ⟨J, hJ⟩ := read_ok (lim := lim) (fb := H.length + 2) (H := H ++ [z, rdC t 0 0]) (i := H.length + 1) (by rw [happ_r]; rfl) (by omega) (by omega) h2 (by omega) hid (by omega)
  obtain ⟨J2, hJ2⟩ := rd_take (lim := lim) (fb := H.length + 3) (H := H ++ [z, rdC t sz 0, AObj.cells [.int .u64 (id : Int), .string ⟨#[]⟩, .string ⟨#[]⟩] 74 true]) (i := H.length + 1) (s := t) (at_ := sz) (fault := 0) ((t.size - sz : Nat) : Int) (by rw [happ_r]; rfl) (by omega) ⟨by omega, by omega, by omega, by omega, by omega⟩ (by omega)
  simp only [ir41, D1]
  simp only [D1, rdC, hz] at hJ hJ2
  have e1 : ¬ (s.size : Int) - k < N := by omega
  have hF : rdF t sz 0 ((t.size - sz : Nat) : Int) = 0 := by simp only [rdF]; rw [if_neg (by simp), if_neg (by omega), if_neg (by omega)]
  have e2 : ((t.size - sz : Nat) : Int) = (t.size : Int) - (sz : Int) := by omega
  have e3 : ((sz : Int) + ((t.size : Int) - (sz : Int))).toNat = N := by omega
  have e4 : ((k : Int) + (N : Int)).toNat = k + N := by omega
  have e5 : ((k + N : Nat) : Int) = (k : Int) + N := by omega
  rw [e2] at hJ2 hF
  simp only [rdT, hF, if_true, rdA, e3, Int.toNat_natCast] at hJ2
  simp only [if_true] at hJ
  (repeat' first
    | (refine CondV_dec (fun _ => ?_) (fun _ => ?_) <;> try (exfalso; omega))
    | (refine GuardV_td (fun _ => ?_) (fun _ => ?_) <;> try (exfalso; omega))
    | (refine GuardV_fd (fun _ => ?_) (fun _ => ?_) <;> try (exfalso; omega))
    | (refine CondV_split (fun _ => ?_) (fun _ => ?_))
    | (refine Need_of (by first | omega | decide) ?_)
    | simp (disch := first | omega | simp only [List.length_append, List.length_set, List.length_cons, List.length_nil] <;> omega | fail) only [evA, ↓evB, ↓astep, ↓aop, aBin, aInt, aStr, aUn, aNil, aMax, aresults, ares, aPack, ↓reduceIte, ↓reduceCtorEq, Nat.reduceEqDiff, Nat.reduceAdd, env0, aLoad, aLoadN, cellsOf, Int.reduceEq, Int.reduceLT, Int.reduceLE, Nat.reduceLeDiff, oneC, aop.fillL, setL, aApp, aAppC, xop, eqCells, eqCell, rowOf, ↓acallop, aBound, aIntOf, flat, flatN, CX_fn, CX_X, CX_pol, aStore, Nat.reduceBEq, List.size_toArray, Int.sub_zero, Int.zero_add, Int.add_zero, Int.toNat_zero, Int.reduceAdd, Int.reduceSub, Int.reduceMul, Int.reduceNeg, Int.reduceToNat, Nat.reduceSub, Nat.reduceMul, Int.natCast_zero, Int.reduceDiv, Int.reduceMod, Int.toNat_natCast, fn76, ir76, fn77, ir77, fn78, ir78, fn87, ir87, fn79, ir79, XNext_eq, nxV, h1, e1, e4, e5, ← ht, hJ, hJ2])
/-- A frame's bytes. -/
def pid (id : Nat) : ByteArray := bs (put (id + 1) id)
def pfr (id : Nat) (body : ByteArray) : ByteArray := pid ((pid id).size + body.size) ++ (pid id ++ body)
theorem pid_len (n : Nat) (h : n < 2 ^ 64) : (pid n).size ≤ 65 := by
  rw [pid, bs_size]; exact putl_le (n + 1) n 64 h
theorem ext_l (a b : ByteArray) : (a ++ b).extract 0 a.size = a := by
  apply bl_inj
  rw [bl_extract, bl_append, List.drop_zero, ← bl_length, List.take_left']
  rfl
theorem ext_r (a b : ByteArray) (n : Nat) (h : n = a.size + b.size) : (a ++ b).extract a.size n = b := by
  apply bl_inj
  rw [bl_extract, bl_append, List.take_of_length_le (by simp [bl_length, h]), ← bl_length, List.drop_left']
  rfl
theorem ext_m (a b c : ByteArray) : (a ++ (b ++ c)).extract a.size (a.size + b.size) = b := by
  apply bl_inj
  rw [bl_extract, bl_append, bl_append, List.take_append, List.take_of_length_le (by simp [bl_length]), List.drop_left' (by rw [bl_length]), bl_length, Nat.add_sub_cancel_left, ← bl_length, List.take_left']
  rfl
theorem next_put {H : Heap} {lim fb : Nat} {most : Int} {id : Nat} {body more : ByteArray} (hl : lim ≤ H.length) (hid : id < 2 ^ 64) (hb : body.size < 100000) (hmo : more.size < 2 ^ 50) (hm : (((pid id).size + body.size : Nat) : Int) ≤ most) (hm2 : most < 2 ^ 62) :
    ∃ H', ∀ q, 20 ≤ q → acall D1 q 41 [.int .i64 most, .string (pfr id body ++ more)] H ⟨lim, fb⟩ = some (.tuple #[.agg #[.int .u64 (id : Int), .string ⟨#[]⟩, .string body], .int .i64 ((pfr id body).size : Int), .int .i64 0], H') := by
  have l1 := pid_len id hid
  obtain ⟨n, hn⟩ : ∃ n, n = (pid id).size + body.size := ⟨_, rfl⟩
  have l2 := pid_len n (by omega)
  have e1 : pfr id body ++ more = pid n ++ ((pid id ++ body) ++ more) := by rw [pfr, ByteArray.append_assoc, hn]
  have hsz : (pid id ++ body).size = n := by rw [ByteArray.size_append, hn]
  have e2 : (pfr id body).size = (pid n).size + n := by rw [pfr, ByteArray.size_append, ByteArray.size_append, hn]
  have e3 : (pfr id body ++ more).extract (pid n).size ((pid n).size + n) = pid id ++ body := by
    rw [e1, ← hsz]; exact ext_m _ _ _
  have q1 : nx (bl (pfr id body ++ more)) 0 0 = (n, (pid n).size, 0) := by
    rw [e1, pid, bs_size]; exact nx_put_more n (by omega) _
  have q2 : nx (bl (pid id ++ body)) 0 0 = (id, (pid id).size, 0) := by
    rw [pid, bs_size]; exact nx_put_more id hid _
  have := next_ok (H := H) (lim := lim) (fb := fb) (most := most) hl (by rw [ByteArray.size_append, e2]; omega) q1 (by omega) hm2 (by rw [ByteArray.size_append, e2]; omega) (by rw [e3]; exact q2) (by omega) hid
  rw [e3, ext_r _ _ n hn] at this
  rw [e2]
  exact this
theorem w7 (id : Nat) (hid : id < 2 ^ 64) (body more : ByteArray) (hb : body.size < 2 ^ 63) (hmo : more.size < 2 ^ 63) :
    Run (fun v' _ => v' = .bool true) mk (acall D1 200 7 [.int .u64 (id : Int), .string body, .string more] [] ⟨0, 0⟩) := by
  refine Run_call (F := ir7) rfl (Nat.le_of_ble_eq_true rfl) ?_
  have l1 := pid_len id hid
  have x1 : XPut [.int .u64 (id : Int)] = some (.string (pid id)) := by rw [XPut_eq, if_pos (by omega)]; rfl
  have x2 : XSize [.int .u64 (id : Int)] = some (.int .i64 ((pid id).size : Int)) := by rw [XSize_eq, if_pos (by omega), pid, bs_size]; rfl
  have x3 : ∀ n : Nat, n < 2 ^ 64 → XPut [.int .u64 (n : Int)] = some (.string (pid n)) := fun n hn => by rw [XPut_eq, if_pos (by omega)]; rfl
  by_cases hbig : 100000 ≤ body.size
  · simp only [ir7, D1]
    (repeat' first
    | (refine CondV_dec (fun _ => ?_) (fun _ => ?_) <;> try (exfalso; omega))
    | (refine GuardV_td (fun _ => ?_) (fun _ => ?_) <;> try (exfalso; omega))
    | (refine GuardV_fd (fun _ => ?_) (fun _ => ?_) <;> try (exfalso; omega))
    | (refine CondV_split (fun _ => ?_) (fun _ => ?_))
    | (refine Need_of (by first | omega | decide) ?_)
    | simp (disch := first | omega | simp only [List.length_append, List.length_set, List.length_cons, List.length_nil] <;> omega | fail) only [evA, ↓evB, ↓astep, ↓aop, aBin, aInt, aStr, aUn, aNil, aMax, aresults, ares, aPack, ↓reduceIte, ↓reduceCtorEq, Nat.reduceEqDiff, Nat.reduceAdd, env0, aLoad, aLoadN, cellsOf, Int.reduceEq, Int.reduceLT, Int.reduceLE, Nat.reduceLeDiff, oneC, aop.fillL, setL, aApp, aAppC, xop, eqCells, eqCell, rowOf, ↓acallop, aBound, aIntOf, flat, flatN, CX_fn, CX_X, CX_pol, aStore, Nat.reduceBEq, List.size_toArray, Int.sub_zero, Int.zero_add, Int.add_zero, Int.toNat_zero, Int.reduceAdd, Int.reduceSub, Int.reduceMul, Int.reduceNeg, Int.reduceToNat, Nat.reduceSub, Nat.reduceMul, Int.natCast_zero, Int.reduceDiv, Int.reduceMod, Int.toNat_natCast, XAlive_eq])
  by_cases hmb : 1000 ≤ more.size
  · simp only [ir7, D1]
    (repeat' first
    | (refine CondV_dec (fun _ => ?_) (fun _ => ?_) <;> try (exfalso; omega))
    | (refine GuardV_td (fun _ => ?_) (fun _ => ?_) <;> try (exfalso; omega))
    | (refine GuardV_fd (fun _ => ?_) (fun _ => ?_) <;> try (exfalso; omega))
    | (refine CondV_split (fun _ => ?_) (fun _ => ?_))
    | (refine Need_of (by first | omega | decide) ?_)
    | simp (disch := first | omega | simp only [List.length_append, List.length_set, List.length_cons, List.length_nil] <;> omega | fail) only [evA, ↓evB, ↓astep, ↓aop, aBin, aInt, aStr, aUn, aNil, aMax, aresults, ares, aPack, ↓reduceIte, ↓reduceCtorEq, Nat.reduceEqDiff, Nat.reduceAdd, env0, aLoad, aLoadN, cellsOf, Int.reduceEq, Int.reduceLT, Int.reduceLE, Nat.reduceLeDiff, oneC, aop.fillL, setL, aApp, aAppC, xop, eqCells, eqCell, rowOf, ↓acallop, aBound, aIntOf, flat, flatN, CX_fn, CX_X, CX_pol, aStore, Nat.reduceBEq, List.size_toArray, Int.sub_zero, Int.zero_add, Int.add_zero, Int.toNat_zero, Int.reduceAdd, Int.reduceSub, Int.reduceMul, Int.reduceNeg, Int.reduceToNat, Nat.reduceSub, Nat.reduceMul, Int.natCast_zero, Int.reduceDiv, Int.reduceMod, Int.toNat_natCast, XAlive_eq])
  obtain ⟨n, hn⟩ : ∃ n, n = (pid id).size + body.size := ⟨_, rfl⟩
  have x4 := x3 n (by omega)
  have en : ((n : Nat) : Int) = ((pid id).size : Int) + (body.size : Int) := by omega
  rw [en] at x4
  have es : (pid id ++ body).size = (pid id).size + body.size := ByteArray.size_append ..
  have l2 := pid_len n (by omega)
  by_cases hov : (65536 : Int) < ((pid id).size : Int) + (body.size : Int)
  · simp only [ir7, D1]
    (repeat' first
    | (refine CondV_dec (fun _ => ?_) (fun _ => ?_) <;> try (exfalso; omega))
    | (refine GuardV_td (fun _ => ?_) (fun _ => ?_) <;> try (exfalso; omega))
    | (refine GuardV_fd (fun _ => ?_) (fun _ => ?_) <;> try (exfalso; omega))
    | (refine CondV_split (fun _ => ?_) (fun _ => ?_))
    | (refine Need_of (by first | omega | decide) ?_)
    | simp (disch := first | omega | simp only [List.length_append, List.length_set, List.length_cons, List.length_nil] <;> omega | fail) only [evA, ↓evB, ↓astep, ↓aop, aBin, aInt, aStr, aUn, aNil, aMax, aresults, ares, aPack, ↓reduceIte, ↓reduceCtorEq, Nat.reduceEqDiff, Nat.reduceAdd, env0, aLoad, aLoadN, cellsOf, Int.reduceEq, Int.reduceLT, Int.reduceLE, Nat.reduceLeDiff, oneC, aop.fillL, setL, aApp, aAppC, xop, eqCells, eqCell, rowOf, ↓acallop, aBound, aIntOf, flat, flatN, CX_fn, CX_X, CX_pol, aStore, Nat.reduceBEq, List.size_toArray, Int.sub_zero, Int.zero_add, Int.add_zero, Int.toNat_zero, Int.reduceAdd, Int.reduceSub, Int.reduceMul, Int.reduceNeg, Int.reduceToNat, Nat.reduceSub, Nat.reduceMul, Int.natCast_zero, Int.reduceDiv, Int.reduceMod, Int.toNat_natCast, fn39, ir39, fn40, ir40, XAlive_eq, x1, x2, x4, hov, ByteArray.size_append, Int.natCast_add])
  · obtain ⟨H1, hN⟩ := next_put (H := []) (lim := 0) (fb := 0) (most := 65536) (id := id) (body := body) (more := more) (by simp) hid (by omega) (by omega) (by omega) (by omega)
    simp only [pfr, ByteArray.append_assoc, ← hn, ByteArray.size_append, Int.natCast_add, D1] at hN
    simp only [ir7, D1]
    (repeat' first
    | (refine CondV_dec (fun _ => ?_) (fun _ => ?_) <;> try (exfalso; omega))
    | (refine GuardV_td (fun _ => ?_) (fun _ => ?_) <;> try (exfalso; omega))
    | (refine GuardV_fd (fun _ => ?_) (fun _ => ?_) <;> try (exfalso; omega))
    | (refine CondV_split (fun _ => ?_) (fun _ => ?_))
    | (refine Need_of (by first | omega | decide) ?_)
    | simp (disch := first | omega | simp only [List.length_append, List.length_set, List.length_cons, List.length_nil] <;> omega | fail) only [evA, ↓evB, ↓astep, ↓aop, aBin, aInt, aStr, aUn, aNil, aMax, aresults, ares, aPack, ↓reduceIte, ↓reduceCtorEq, Nat.reduceEqDiff, Nat.reduceAdd, env0, aLoad, aLoadN, cellsOf, Int.reduceEq, Int.reduceLT, Int.reduceLE, Nat.reduceLeDiff, oneC, aop.fillL, setL, aApp, aAppC, xop, eqCells, eqCell, rowOf, ↓acallop, aBound, aIntOf, flat, flatN, CX_fn, CX_X, CX_pol, aStore, Nat.reduceBEq, List.size_toArray, Int.sub_zero, Int.zero_add, Int.add_zero, Int.toNat_zero, Int.reduceAdd, Int.reduceSub, Int.reduceMul, Int.reduceNeg, Int.reduceToNat, Nat.reduceSub, Nat.reduceMul, Int.natCast_zero, Int.reduceDiv, Int.reduceMod, Int.toNat_natCast, fn39, ir39, fn40, ir40, XAlive_eq, x1, x2, x4, hov, ByteArray.size_append, Int.natCast_add, ByteArray.append_assoc, hN])
    all_goals rw [decide_eq_true (by omega)]
theorem wf_u64 {n : Int} (h : (Lit.int .u64 n).wf = true) : 0 ≤ n ∧ n < 2 ^ 64 := by
  simp [Lit.wf, IntKind.min, IntKind.max, IntKind.signed, IntKind.bits] at h
  omega
theorem main_PlainPuts (args : List Value) (h : IsVs Try.prog [] Try.f7.params.toList args) : ∃ k, Run (fun v' _ => v' = .bool true) mk (acall D1 k 7 args [] ⟨0, 0⟩) := by
  rw [Try.params7] at h
  obtain ⟨v0, r0, rfl, h0, h⟩ := args_cons h
  obtain ⟨v1, r1, rfl, h1, h⟩ := args_cons h
  obtain ⟨v2, r2, rfl, h2, h⟩ := args_cons h
  obtain rfl := args_nil h
  obtain ⟨n, rfl, w0⟩ := isv_int Try.underlying69 h0
  obtain ⟨s, rfl, hs⟩ := isv_string Try.underlying9 h1
  obtain ⟨t, rfl, ht⟩ := isv_string Try.underlying9 h2
  obtain ⟨w1, w2⟩ := wf_u64 w0
  obtain ⟨id, rfl⟩ : ∃ id : Nat, n = id := ⟨n.toNat, by omega⟩
  exact ⟨200, w7 id (by omega) s t (by unfold maxLen at hs; omega) (by unfold maxLen at ht; omega)⟩
end L15
end Ev
end Go.Proofs.Ytfbelnjchpffeaa
