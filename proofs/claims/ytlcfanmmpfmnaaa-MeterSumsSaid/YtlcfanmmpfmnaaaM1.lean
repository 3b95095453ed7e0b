/-
  The package meter, and the laws of layer 7.
-/
import Derived.Test.YtlcfanmmpfmnaaaIrA
import Derived.Test.YtlcfanmmpfmnaaaEvU
namespace Go.Proofs.Ytlcfanmmpfmnaaa
namespace Ev
open Tag (mk)
set_option linter.unusedSimpArgs false
set_option linter.unusedVariables false
set_option maxRecDepth 4000
noncomputable def D0 : Cf := CX (xtab []) (polt [])
theorem D0_ok : D0.Ok := CX_ok all_nil al_no
theorem alive07 : Ans (acall D0 20 25 [] [] ⟨0, 0⟩) (.bool true) := by unfold Ans; kernel_rfl
def XAlive (args : List Value) : Option Value := match args with
  | [] => some (.bool true)
  | _ => none
theorem XAlive_eq : XAlive [] = some (.bool true) := rfl
theorem xalive07 : XOk Try.prog 25 XAlive := .of D0_ok rfl ok25 fun args v h => by
  unfold XAlive at h
  split at h
  · cases h; exact ⟨rfl, rfl, 20, 0, alive07.run⟩
  · cases h

noncomputable def D1 : Cf := CX (xtab [(25, XAlive)]) (polt [(27, .fw), (31, .fw)])
theorem D1_ok : D1.Ok := CX_ok (all_cons xalive07 all_nil) al_no

/-- What a meter answers to Take, and what it is then. -/
def tkE (most used taken n : Int) : Int := if n < 0 then 1 else if most - used < n ∨ 9223372036854775807 - taken < n then 5 else 0
def tkC (most used taken top n : Int) : List Value :=
  if tkE most used taken n = 0 then [.int .i64 most, .int .i64 (used + n), .int .i64 (taken + n), .int .i64 (max top (used + n))] else [.int .i64 most, .int .i64 used, .int .i64 taken, .int .i64 top]
def MOk (most used taken top : Int) : Prop := 0 ≤ used ∧ used ≤ top ∧ top ≤ most ∧ most ≤ 9223372036854775807 ∧ 0 ≤ taken ∧ taken ≤ 9223372036854775807
theorem take_ok {H : Heap} {i : Nat} {T : TypeId} {lim fb : Nat} {most used taken top : Int} (n : Int) (h : H[i]? = some (.cells [.int .i64 most, .int .i64 used, .int .i64 taken, .int .i64 top] T true)) (hl : lim ≤ i)
    (h1 : MOk most used taken top) (h2 : -9223372036854775808 ≤ n ∧ n ≤ 9223372036854775807) (k : Nat) :
    ∃ J, acall D1 (k + 4) 27 [.pointer (some ⟨i, 0, none⟩), .int .i64 n] H ⟨lim, fb⟩ = some (.int .i64 (tkE most used taken n), H.set i (.cells (tkC most used taken top n) T true) ++ J) := by
  have hi := lt_of_get h
  obtain ⟨m1, m2, m3, m4, m5, m6⟩ := h1
  refine Run_exi (f := fun J => H.set i _ ++ J) ?_
  refine Run_call (F := ir27) rfl (Nat.le_of_ble_eq_true rfl) ?_
  simp only [ir27, D1, tkC]
  (repeat' first
    | (refine CondV_dec (fun _ => ?_) (fun _ => ?_) <;> try (exfalso; omega))
    | (refine GuardV_td (fun _ => ?_) (fun _ => ?_) <;> try (exfalso; omega))
    | (refine GuardV_fd (fun _ => ?_) (fun _ => ?_) <;> try (exfalso; omega))
    | (refine CondV_split (fun _ => ?_) (fun _ => ?_))
    | (refine Need_of (by first | omega | decide) ?_)
    | simp (disch := first | omega | simp only [List.length_append, List.length_set, List.length_cons, List.length_nil] <;> omega | fail) only [evA, ↓evB, ↓astep, ↓aop, aBin, aInt, aStr, aUn, aNil, aMax, aresults, ares, aPack, ↓reduceIte, ↓reduceCtorEq, Nat.reduceEqDiff, Nat.reduceAdd, env0, aLoad, aLoadN, cellsOf, Int.reduceEq, Int.reduceLT, Int.reduceLE, Nat.reduceLeDiff, oneC, aop.fillL, setL, aApp, rowOf, ↓acallop, aBound, aIntOf, flat, flatN, CX_fn, CX_X, CX_pol, aStore, Nat.reduceBEq, List.size_toArray, fn53, ir53, fn52, ir52, fn54, ir54, h, hl])
  · simp only [tkE, if_pos (show n < 0 by omega), Int.reduceEq, if_false, hset_same h]; exact ⟨trivial, _, rfl⟩
  · have : tkE most used taken n = 5 := by rw [tkE, if_neg (by omega), if_pos (by omega)]
    simp only [this, Int.reduceEq, if_false, hset_same h]; exact ⟨trivial, _, rfl⟩
  · have : tkE most used taken n = 5 := by rw [tkE, if_neg (by omega), if_pos (by omega)]
    simp only [this, Int.reduceEq, if_false, hset_same h]; exact ⟨trivial, _, rfl⟩
  · have : tkE most used taken n = 0 := by rw [tkE, if_neg (by omega), if_neg (by omega)]
    have e1 : max top (used + n) = if top < used + n then used + n else top := by split <;> omega
    simp only [this, if_true, e1]; exact ⟨trivial, _, rfl⟩
end Ev
end Go.Proofs.Ytlcfanmmpfmnaaa
