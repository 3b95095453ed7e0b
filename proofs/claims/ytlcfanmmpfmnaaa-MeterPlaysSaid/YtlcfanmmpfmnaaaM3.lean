/-
  The law MeterPlays: what its code answers.
-/
import Derived.Test.YtlcfanmmpfmnaaaIrA
namespace Go.Proofs.Ytlcfanmmpfmnaaa
namespace Ev
namespace L7
open Tag (mk)
set_option linter.unusedSimpArgs false
set_option linter.unusedVariables false
set_option maxRecDepth 4000
set_option maxHeartbeats 4000000
noncomputable def D0 : Cf := CX (xtab []) (polt [])
theorem D0_ok : D0.Ok := CX_ok all_nil al_no
def XAlive (args : List Value) : Option Value := match args with
  | [] => some (.bool true)
  | _ => none
theorem XAlive_eq : XAlive [] = some (.bool true) := rfl

theorem alive07 : Ans (acall D0 30 25 [] [] ⟨0, 0⟩) (.bool true) := by unfold Ans; kernel_rfl
theorem xalive07 : XOk Try.prog 25 XAlive := .of D0_ok rfl ok25 fun args v h => by
  unfold XAlive at h
  split at h
  · cases h; exact ⟨rfl, rfl, 30, 0, alive07.run⟩
  · cases h

abbrev MOk (most used taken top : Int) : Prop := 0 ≤ used ∧ used ≤ top ∧ top ≤ most ∧ most ≤ 9223372036854775807 ∧ 0 ≤ taken ∧ taken ≤ 9223372036854775807
abbrev I64 (n : Int) : Prop := -9223372036854775808 ≤ n ∧ n ≤ 9223372036854775807
/-- What a meter answers, and what it is then. -/
def tkE (most used taken n : Int) : Int := if n < 0 then 1 else if most - used < n ∨ 9223372036854775807 - taken < n then 5 else 0
def mc (most used taken top : Int) : List Value := [.int .i64 most, .int .i64 used, .int .i64 taken, .int .i64 top]
def tkC (most used taken top n : Int) : List Value := if tkE most used taken n = 0 then mc most (used + n) (taken + n) (max top (used + n)) else mc most used taken top
def gvE (used n : Int) : Int := if n < 0 ∨ used < n then 1 else 0
def gvC (most used taken top n : Int) : List Value := if gvE used n = 0 then mc most (used - n) taken top else mc most used taken top
/-! ## The plain functions -/
theorem w38 (most used taken top n : Int) (h1 : MOk most used taken top) (h2 : I64 n) (k : Nat) : Run (fun v H' => v = .tuple #[.agg (tkC most used taken top n).toArray, .int .i64 (tkE most used taken n)]) mk (acall D0 (k + 1) 38 [.agg (mc most used taken top).toArray, .int .i64 n] [] ⟨0, 0⟩) := by
  obtain ⟨m1, m2, m3, m4, m5, m6⟩ := h1
  refine Run_call (F := ir38) rfl (Nat.le_of_ble_eq_true rfl) ?_
  simp only [ir38, D0, mc]
  (repeat' first
    | (refine CondV_dec (fun _ => ?_) (fun _ => ?_) <;> try (exfalso; omega))
    | (refine GuardV_td (fun _ => ?_) (fun _ => ?_) <;> try (exfalso; omega))
    | (refine GuardV_fd (fun _ => ?_) (fun _ => ?_) <;> try (exfalso; omega))
    | (refine CondV_split (fun _ => ?_) (fun _ => ?_))
    | (refine Need_of (by first | omega | decide) ?_)
    | simp (disch := first | omega | simp only [List.length_append, List.length_set, List.length_cons, List.length_nil] <;> omega | fail) only [evA, ↓evB, ↓astep, ↓aop, aBin, aInt, aStr, aUn, aNil, aMax, aresults, ares, aPack, ↓reduceIte, ↓reduceCtorEq, Nat.reduceEqDiff, Nat.reduceAdd, env0, aLoad, aLoadN, cellsOf, Int.reduceEq, Int.reduceLT, Int.reduceLE, Nat.reduceLeDiff, oneC, aop.fillL, setL, aApp, rowOf, ↓acallop, aBound, aIntOf, flat, flatN, CX_fn, CX_X, CX_pol, aStore, Nat.reduceBEq, List.size_toArray])
  · have : tkE most used taken n = 1 := by rw [tkE, if_pos (by omega)]
    simp only [tkC, this, Int.reduceEq, if_false, mc]
  · have : tkE most used taken n = 5 := by rw [tkE, if_neg (by omega), if_pos (by omega)]
    simp only [tkC, this, Int.reduceEq, if_false, mc]
  · have : tkE most used taken n = 5 := by rw [tkE, if_neg (by omega), if_pos (by omega)]
    simp only [tkC, this, Int.reduceEq, if_false, mc]
  · have : tkE most used taken n = 0 := by rw [tkE, if_neg (by omega), if_neg (by omega)]
    simp only [tkC, this, if_true, mc, show max top (used + n) = used + n by omega]
  · have : tkE most used taken n = 0 := by rw [tkE, if_neg (by omega), if_neg (by omega)]
    simp only [tkC, this, if_true, mc, show max top (used + n) = top by omega]
theorem w35 (most used taken top n : Int) (h1 : MOk most used taken top) (h2 : I64 n) (k : Nat) : Run (fun v H' => v = .tuple #[.agg (gvC most used taken top n).toArray, .int .i64 (gvE used n)]) mk (acall D0 (k + 1) 35 [.agg (mc most used taken top).toArray, .int .i64 n] [] ⟨0, 0⟩) := by
  obtain ⟨m1, m2, m3, m4, m5, m6⟩ := h1
  refine Run_call (F := ir35) rfl (Nat.le_of_ble_eq_true rfl) ?_
  simp only [ir35, D0, mc]
  (repeat' first
    | (refine CondV_dec (fun _ => ?_) (fun _ => ?_) <;> try (exfalso; omega))
    | (refine GuardV_td (fun _ => ?_) (fun _ => ?_) <;> try (exfalso; omega))
    | (refine GuardV_fd (fun _ => ?_) (fun _ => ?_) <;> try (exfalso; omega))
    | (refine CondV_split (fun _ => ?_) (fun _ => ?_))
    | (refine Need_of (by first | omega | decide) ?_)
    | simp (disch := first | omega | simp only [List.length_append, List.length_set, List.length_cons, List.length_nil] <;> omega | fail) only [evA, ↓evB, ↓astep, ↓aop, aBin, aInt, aStr, aUn, aNil, aMax, aresults, ares, aPack, ↓reduceIte, ↓reduceCtorEq, Nat.reduceEqDiff, Nat.reduceAdd, env0, aLoad, aLoadN, cellsOf, Int.reduceEq, Int.reduceLT, Int.reduceLE, Nat.reduceLeDiff, oneC, aop.fillL, setL, aApp, rowOf, ↓acallop, aBound, aIntOf, flat, flatN, CX_fn, CX_X, CX_pol, aStore, Nat.reduceBEq, List.size_toArray])
  · have : gvE used n = 1 := by rw [gvE, if_pos (by omega)]
    simp only [gvC, this, Int.reduceEq, if_false, mc]
  · have : gvE used n = 1 := by rw [gvE, if_pos (by omega)]
    simp only [gvC, this, Int.reduceEq, if_false, mc]
  · have : gvE used n = 0 := by rw [gvE, if_neg (by omega)]
    simp only [gvC, this, if_true, mc]
def XTake (args : List Value) : Option Value := match args with
  | [.agg a, .int .i64 n] => match a.toList with
    | [.int .i64 most, .int .i64 used, .int .i64 taken, .int .i64 top] => if MOk most used taken top ∧ I64 n then some (.tuple #[.agg (tkC most used taken top n).toArray, .int .i64 (tkE most used taken n)]) else none
    | _ => none
  | _ => none
theorem XTake_eq (most used taken top n : Int) : XTake [.agg #[.int .i64 most, .int .i64 used, .int .i64 taken, .int .i64 top], .int .i64 n] = if MOk most used taken top ∧ I64 n then some (.tuple #[.agg (tkC most used taken top n).toArray, .int .i64 (tkE most used taken n)]) else none := rfl

theorem x38 : XOk Try.prog 38 XTake := .of D0_ok rfl ok38 fun args v h => by
  unfold XTake at h
  split at h
  · rename_i a n
    split at h
    · rename_i most used taken top ha
      split at h
      · rename_i hs
        have e : a = (mc most used taken top).toArray := by apply Array.ext'; simp only [ha, mc]
        cases h
        subst e
        refine ⟨?_, ?_, 1, 0, w38 most used taken top n hs.1 hs.2 0⟩
        · simp only [tkC]; split <;> rfl
        · rfl
      · cases h
    · cases h
  · cases h

def XGive (args : List Value) : Option Value := match args with
  | [.agg a, .int .i64 n] => match a.toList with
    | [.int .i64 most, .int .i64 used, .int .i64 taken, .int .i64 top] => if MOk most used taken top ∧ I64 n then some (.tuple #[.agg (gvC most used taken top n).toArray, .int .i64 (gvE used n)]) else none
    | _ => none
  | _ => none
theorem XGive_eq (most used taken top n : Int) : XGive [.agg #[.int .i64 most, .int .i64 used, .int .i64 taken, .int .i64 top], .int .i64 n] = if MOk most used taken top ∧ I64 n then some (.tuple #[.agg (gvC most used taken top n).toArray, .int .i64 (gvE used n)]) else none := rfl

theorem x35 : XOk Try.prog 35 XGive := .of D0_ok rfl ok35 fun args v h => by
  unfold XGive at h
  split at h
  · rename_i a n
    split at h
    · rename_i most used taken top ha
      split at h
      · rename_i hs
        have e : a = (mc most used taken top).toArray := by apply Array.ext'; simp only [ha, mc]
        cases h
        subst e
        refine ⟨?_, ?_, 1, 0, w35 most used taken top n hs.1 hs.2 0⟩
        · simp only [gvC]; split <;> rfl
        · rfl
      · cases h
    · cases h
  · cases h

theorem w34 (most : Int) (k : Nat) : Run (fun v H' => v = .agg #[.int .i64 (if most < 0 then 0 else most), .int .i64 0, .int .i64 0, .int .i64 0]) mk (acall D0 (k + 1) 34 [.int .i64 most] [] ⟨0, 0⟩) := by
  suffices hh : ∀ z, z = (if most < 0 then 0 else most) → Run (fun v H' => v = .agg #[.int .i64 z, .int .i64 0, .int .i64 0, .int .i64 0]) mk (acall D0 (k + 1) 34 [.int .i64 most] [] ⟨0, 0⟩) from hh _ rfl
  intro z hz
  refine Run_call (F := ir34) rfl (Nat.le_of_ble_eq_true rfl) ?_
  simp only [ir34, D0]
  by_cases h : most < 0
  · rw [if_pos h] at hz; subst hz
    (repeat' first
    | (refine CondV_dec (fun _ => ?_) (fun _ => ?_) <;> try (exfalso; omega))
    | (refine GuardV_td (fun _ => ?_) (fun _ => ?_) <;> try (exfalso; omega))
    | (refine GuardV_fd (fun _ => ?_) (fun _ => ?_) <;> try (exfalso; omega))
    | (refine CondV_split (fun _ => ?_) (fun _ => ?_))
    | (refine Need_of (by first | omega | decide) ?_)
    | simp (disch := first | omega | simp only [List.length_append, List.length_set, List.length_cons, List.length_nil] <;> omega | fail) only [evA, ↓evB, ↓astep, ↓aop, aBin, aInt, aStr, aUn, aNil, aMax, aresults, ares, aPack, ↓reduceIte, ↓reduceCtorEq, Nat.reduceEqDiff, Nat.reduceAdd, env0, aLoad, aLoadN, cellsOf, Int.reduceEq, Int.reduceLT, Int.reduceLE, Nat.reduceLeDiff, oneC, aop.fillL, setL, aApp, rowOf, ↓acallop, aBound, aIntOf, flat, flatN, CX_fn, CX_X, CX_pol, aStore, Nat.reduceBEq, List.size_toArray, h])
  · rw [if_neg h] at hz; subst hz
    (repeat' first
    | (refine CondV_dec (fun _ => ?_) (fun _ => ?_) <;> try (exfalso; omega))
    | (refine GuardV_td (fun _ => ?_) (fun _ => ?_) <;> try (exfalso; omega))
    | (refine GuardV_fd (fun _ => ?_) (fun _ => ?_) <;> try (exfalso; omega))
    | (refine CondV_split (fun _ => ?_) (fun _ => ?_))
    | (refine Need_of (by first | omega | decide) ?_)
    | simp (disch := first | omega | simp only [List.length_append, List.length_set, List.length_cons, List.length_nil] <;> omega | fail) only [evA, ↓evB, ↓astep, ↓aop, aBin, aInt, aStr, aUn, aNil, aMax, aresults, ares, aPack, ↓reduceIte, ↓reduceCtorEq, Nat.reduceEqDiff, Nat.reduceAdd, env0, aLoad, aLoadN, cellsOf, Int.reduceEq, Int.reduceLT, Int.reduceLE, Nat.reduceLeDiff, oneC, aop.fillL, setL, aApp, rowOf, ↓acallop, aBound, aIntOf, flat, flatN, CX_fn, CX_X, CX_pol, aStore, Nat.reduceBEq, List.size_toArray, h])
def XNew (args : List Value) : Option Value := match args with
  | [.int .i64 most] => some (.agg #[.int .i64 (if most < 0 then 0 else most), .int .i64 0, .int .i64 0, .int .i64 0])
  | _ => none
theorem XNew_eq (most : Int) : XNew [.int .i64 most] = some (.agg #[.int .i64 (if most < 0 then 0 else most), .int .i64 0, .int .i64 0, .int .i64 0]) := rfl
theorem x34 : XOk Try.prog 34 XNew := .of D0_ok rfl ok34 fun args v h => by
  unfold XNew at h
  split at h
  · rename_i most
    cases h
    exact ⟨rfl, rfl, 1, 0, w34 most 0⟩
  · cases h
noncomputable def D1 : Cf := CX (xtab [(25, XAlive), (38, XTake), (35, XGive), (34, XNew)]) (polt [(27, .fw), (31, .fw), (36, .fw), (37, .ro)])
theorem D1_ok : D1.Ok := CX_ok (all_cons xalive07 (all_cons x38 (all_cons x35 (all_cons x34 all_nil)))) al_no
/-! ## The methods -/
theorem take_ok {H : Heap} {i : Nat} {T : TypeId} {lim fb : Nat} {most used taken top : Int} (n : Int) (h : H[i]? = some (.cells [.int .i64 most, .int .i64 used, .int .i64 taken, .int .i64 top] T true)) (hl : lim ≤ i)
    (h1 : MOk most used taken top) (h2 : I64 n) (k : Nat) :
    ∃ J, acall D1 (k + 4) 27 [.pointer (some ⟨i, 0, none⟩), .int .i64 n] H ⟨lim, fb⟩ = some (.int .i64 (tkE most used taken n), H.set i (.cells (tkC most used taken top n) T true) ++ J) := by
  have hi := lt_of_get h
  obtain ⟨m1, m2, m3, m4, m5, m6⟩ := h1
  refine Run_exi (f := fun J => H.set i _ ++ J) ?_
  refine Run_call (F := ir27) rfl (Nat.le_of_ble_eq_true rfl) ?_
  simp only [ir27, D1, tkC, mc]
  (repeat' first
    | (refine CondV_dec (fun _ => ?_) (fun _ => ?_) <;> try (exfalso; omega))
    | (refine GuardV_td (fun _ => ?_) (fun _ => ?_) <;> try (exfalso; omega))
    | (refine GuardV_fd (fun _ => ?_) (fun _ => ?_) <;> try (exfalso; omega))
    | (refine CondV_split (fun _ => ?_) (fun _ => ?_))
    | (refine Need_of (by first | omega | decide) ?_)
    | simp (disch := first | omega | simp only [List.length_append, List.length_set, List.length_cons, List.length_nil] <;> omega | fail) only [evA, ↓evB, ↓astep, ↓aop, aBin, aInt, aStr, aUn, aNil, aMax, aresults, ares, aPack, ↓reduceIte, ↓reduceCtorEq, Nat.reduceEqDiff, Nat.reduceAdd, env0, aLoad, aLoadN, cellsOf, Int.reduceEq, Int.reduceLT, Int.reduceLE, Nat.reduceLeDiff, oneC, aop.fillL, setL, aApp, rowOf, ↓acallop, aBound, aIntOf, flat, flatN, CX_fn, CX_X, CX_pol, aStore, Nat.reduceBEq, List.size_toArray, fn53, ir53, fn52, ir52, fn54, ir54, h, hl])
  · simp only [tkE, if_pos (show n < 0 by omega), Int.reduceEq, if_false, hset_same h]; exact ⟨trivial, _, rfl⟩
  · have : tkE most used taken n = 5 := by rw [tkE, if_neg (by omega), if_pos (by omega)]
    simp only [this, Int.reduceEq, if_false, hset_same h]; exact ⟨trivial, _, rfl⟩
  · have : tkE most used taken n = 5 := by rw [tkE, if_neg (by omega), if_pos (by omega)]
    simp only [this, Int.reduceEq, if_false, hset_same h]; exact ⟨trivial, _, rfl⟩
  · have : tkE most used taken n = 0 := by rw [tkE, if_neg (by omega), if_neg (by omega)]
    have e1 : max top (used + n) = if top < used + n then used + n else top := by split <;> omega
    simp only [this, if_true, e1]; exact ⟨trivial, _, rfl⟩
theorem give_ok {H : Heap} {i : Nat} {T : TypeId} {lim fb : Nat} {most used taken top : Int} (n : Int) (h : H[i]? = some (.cells [.int .i64 most, .int .i64 used, .int .i64 taken, .int .i64 top] T true)) (hl : lim ≤ i)
    (h1 : MOk most used taken top) (h2 : I64 n) (k : Nat) :
    ∃ J, acall D1 (k + 4) 31 [.pointer (some ⟨i, 0, none⟩), .int .i64 n] H ⟨lim, fb⟩ = some (.int .i64 (gvE used n), H.set i (.cells (gvC most used taken top n) T true) ++ J) := by
  have hi := lt_of_get h
  obtain ⟨m1, m2, m3, m4, m5, m6⟩ := h1
  refine Run_exi (f := fun J => H.set i _ ++ J) ?_
  refine Run_call (F := ir31) rfl (Nat.le_of_ble_eq_true rfl) ?_
  simp only [ir31, D1, gvC, mc]
  (repeat' first
    | (refine CondV_dec (fun _ => ?_) (fun _ => ?_) <;> try (exfalso; omega))
    | (refine GuardV_td (fun _ => ?_) (fun _ => ?_) <;> try (exfalso; omega))
    | (refine GuardV_fd (fun _ => ?_) (fun _ => ?_) <;> try (exfalso; omega))
    | (refine CondV_split (fun _ => ?_) (fun _ => ?_))
    | (refine Need_of (by first | omega | decide) ?_)
    | simp (disch := first | omega | simp only [List.length_append, List.length_set, List.length_cons, List.length_nil] <;> omega | fail) only [evA, ↓evB, ↓astep, ↓aop, aBin, aInt, aStr, aUn, aNil, aMax, aresults, ares, aPack, ↓reduceIte, ↓reduceCtorEq, Nat.reduceEqDiff, Nat.reduceAdd, env0, aLoad, aLoadN, cellsOf, Int.reduceEq, Int.reduceLT, Int.reduceLE, Nat.reduceLeDiff, oneC, aop.fillL, setL, aApp, rowOf, ↓acallop, aBound, aIntOf, flat, flatN, CX_fn, CX_X, CX_pol, aStore, Nat.reduceBEq, List.size_toArray, fn53, ir53, fn55, ir55, fn56, ir56, h, hl])
  · have : gvE used n = 1 := by rw [gvE, if_pos (by omega)]
    simp only [this, Int.reduceEq, if_false, hset_same h]; exact ⟨trivial, _, rfl⟩
  · have : gvE used n = 1 := by rw [gvE, if_pos (by omega)]
    simp only [this, Int.reduceEq, if_false, hset_same h]; exact ⟨trivial, _, rfl⟩
  · have : gvE used n = 0 := by rw [gvE, if_neg (by omega)]
    simp only [this, if_true]; exact ⟨trivial, _, rfl⟩
/-! ## The law -/
def encA (x : Int × Int) : List Value := [.int .u8 x.1, .int .i64 x.2]
def I9 (most M : Int) (xs : List (Int × Int)) (a : Option Addr) (c q q2 : Nat) (n : Nat) (e : Env) (H : Heap) : Prop :=
  ∃ (i : Nat) (used taken top : Int), i + n = xs.length ∧ MOk M used taken top ∧ e 0 = .int .i64 most ∧ e 1 = .slice a xs.length c ∧ e 5 = .pointer (some ⟨q, 0, none⟩) ∧ e 6 = .pointer (some ⟨q2, 0, none⟩) ∧ e 7 = .int .i64 (i : Int) ∧
    H[q]? = some (.cells [.int .i64 M, .int .i64 used, .int .i64 taken, .int .i64 top] 72 true) ∧ H[q2]? = some (.cells [.int .i64 M, .int .i64 used, .int .i64 taken, .int .i64 top] 51 true) ∧
    (0 < xs.length → ∃ i0 T, a = some ⟨i0, 0, none⟩ ∧ c = 2 ∧ i0 < q ∧ H[i0]? = some (.cells (xs.map encA).flatten T false))
theorem w9 (most : Int) (hm : I64 most) (xs : List (Int × Int)) (hx : ∀ z ∈ xs, (0 ≤ z.1 ∧ z.1 < 256) ∧ I64 z.2) (V : Value) (H0 : Heap) (hV : RowV H0 V xs.length 2 (xs.map encA).flatten) :
    Run (fun v' _ => v' = .bool true) mk (acall D1 200 9 [.int .i64 most, V] H0 ⟨H0.length, 0⟩) := by
  obtain ⟨a, c, rfl, hrow⟩ := hV.ex
  refine Run_call (F := ir9) rfl (Nat.le_of_ble_eq_true rfl) ?_
  simp only [ir9, D1]
  obtain ⟨M, hM⟩ : ∃ M, M = max most 0 := ⟨_, rfl⟩
  have hM1 : (if most < 0 then 0 else most) = M := by rw [hM]; split <;> omega
  (repeat' first
    | (refine CondV_dec (fun _ => ?_) (fun _ => ?_) <;> try (exfalso; omega))
    | (refine GuardV_td (fun _ => ?_) (fun _ => ?_) <;> try (exfalso; omega))
    | (refine GuardV_fd (fun _ => ?_) (fun _ => ?_) <;> try (exfalso; omega))
    | (refine CondV_split (fun _ => ?_) (fun _ => ?_))
    | (refine Need_of (by first | omega | decide) ?_)
    | simp (disch := first | omega | simp only [List.length_append, List.length_set, List.length_cons, List.length_nil] <;> omega | fail) only [evA, ↓evB, ↓astep, ↓aop, aBin, aInt, aStr, aUn, aNil, aMax, aresults, ares, aPack, ↓reduceIte, ↓reduceCtorEq, Nat.reduceEqDiff, Nat.reduceAdd, env0, aLoad, aLoadN, cellsOf, Int.reduceEq, Int.reduceLT, Int.reduceLE, Nat.reduceLeDiff, oneC, aop.fillL, setL, aApp, rowOf, ↓acallop, aBound, aIntOf, flat, flatN, CX_fn, CX_X, CX_pol, aStore, Nat.reduceBEq, List.size_toArray, fn26, ir26, XAlive_eq, XNew_eq, hM1])
  refine WpC_loop (I9 most M xs a c H0.length (H0.length + 1)) ?_ (n := xs.length) (by omega) ?_
  · rintro n e H ⟨i, used, taken, top, hi, hok, h0, h1, h5, h6, h7, hq, hq2, hr⟩
    have hqq := lt_of_get hq
    have hqq2 := lt_of_get hq2
    simp only [lp9_0, evA, ↓evB, ↓astep, ↓aop, aBin, aInt, aStr, aUn, aNil, aMax, aresults, ares, aPack, ↓reduceIte, ↓reduceCtorEq, Nat.reduceEqDiff, Nat.reduceAdd, env0, aLoad, aLoadN, cellsOf, Int.reduceEq, Int.reduceLT, Int.reduceLE, Nat.reduceLeDiff, oneC, aop.fillL, setL, aApp, rowOf, ↓acallop, aBound, aIntOf, flat, flatN, CX_fn, CX_X, CX_pol, aStore, Nat.reduceBEq, List.size_toArray, h0, h1, h5, h6, h7]
    refine CondV_dec (fun hc => ?_) (fun hc => ?_)
    · obtain ⟨i0, T, rfl, rfl, hi0, hrow⟩ := hr (by omega)
      have hxi : i < xs.length := by omega
      have hz : ∀ x, (encA x).length = 2 := fun _ => rfl
      have hcut := rec_cut hz xs i hxi
      have hlen := rec_len hz xs
      have hle : i * 2 + 2 ≤ (xs.map encA).flatten.length := by rw [hlen]; omega
      obtain ⟨⟨k0, k1⟩, hx1⟩ := hx xs[i] (List.getElem_mem hxi)
      obtain ⟨⟨kd, num⟩, hxe⟩ : ∃ x, x = xs[i] := ⟨_, rfl⟩
      rw [← hxe] at hcut k0 k1 hx1
      simp only [encA] at hcut k0 k1 hx1
      obtain ⟨J1, hJ1⟩ := take_ok (lim := H0.length) (fb := H.length + 2) (H := H ++ [.cells [.int .u8 kd, .int .i64 num] 54 true, .cells [.int .i64 M, .int .i64 used, .int .i64 taken, .int .i64 top] 51 true]) num (by rw [happ_l hqq]; exact hq) (Nat.le_refl _) hok hx1 195
      obtain ⟨J2, hJ2⟩ := give_ok (lim := H0.length) (fb := H.length + 2) (H := H ++ [.cells [.int .u8 kd, .int .i64 num] 54 true, .cells [.int .i64 M, .int .i64 used, .int .i64 taken, .int .i64 top] 51 true]) num (by rw [happ_l hqq]; exact hq) (Nat.le_refl _) hok hx1 195
      obtain ⟨m1, m2, m3, m4, m5, m6⟩ := id hok
      simp only [D1] at hJ1 hJ2
      by_cases hk2 : kd % 4 = 2
      · by_cases hE : gvE used num = 0
        · have hb : ¬ (num < 0 ∨ used < num) := by intro h; rw [gvE, if_pos h] at hE; cases hE
          simp only [gvC, hE, if_true, mc] at hJ2
          (repeat' first
    | (refine CondV_dec (fun _ => ?_) (fun _ => ?_) <;> try (exfalso; omega))
    | (refine GuardV_td (fun _ => ?_) (fun _ => ?_) <;> try (exfalso; omega))
    | (refine GuardV_fd (fun _ => ?_) (fun _ => ?_) <;> try (exfalso; omega))
    | (refine CondV_split (fun _ => ?_) (fun _ => ?_))
    | (refine Need_of (by first | omega | decide) ?_)
    | simp (disch := first | omega | simp only [List.length_append, List.length_set, List.length_cons, List.length_nil] <;> omega | fail) only [evA, ↓evB, ↓astep, ↓aop, aBin, aInt, aStr, aUn, aNil, aMax, aresults, ares, aPack, ↓reduceIte, ↓reduceCtorEq, Nat.reduceEqDiff, Nat.reduceAdd, env0, aLoad, aLoadN, cellsOf, Int.reduceEq, Int.reduceLT, Int.reduceLE, Nat.reduceLeDiff, oneC, aop.fillL, setL, aApp, rowOf, ↓acallop, aBound, aIntOf, flat, flatN, CX_fn, CX_X, CX_pol, aStore, Nat.reduceBEq, List.size_toArray, fn28, ir28, fn29, ir29, fn30, ir30, fn39, ir39, h0, h1, h5, h6, h7, hrow, hcut, hle, hq, hq2, hJ2, hk2, XGive_eq, gvC, hE, mc])
          exact ⟨n - 1, by omega, i + 1, used - num, taken, top, by omega, ⟨by omega, by omega, by omega, by omega, by omega, by omega⟩, by (first | rfl | (simp only [Env_put_some, Env_put_none, ↓Env_set_at, ↓reduceIte, Nat.reduceEqDiff, h0] <;> rfl)), by (first | rfl | (simp only [Env_put_some, Env_put_none, ↓Env_set_at, ↓reduceIte, Nat.reduceEqDiff, h1] <;> rfl)), by (first | rfl | (simp only [Env_put_some, Env_put_none, ↓Env_set_at, ↓reduceIte, Nat.reduceEqDiff, h5] <;> rfl)), by (first | rfl | (simp only [Env_put_some, Env_put_none, ↓Env_set_at, ↓reduceIte, Nat.reduceEqDiff, h6] <;> rfl)), by (first | rfl | (simp only [Env_put_some, Env_put_none, ↓Env_set_at, ↓reduceIte, Nat.reduceEqDiff] <;> rfl)), by simp (disch := first | omega | simp only [List.length_append, List.length_set, List.length_cons, List.length_nil] <;> omega | fail) only [evA, ↓evB, ↓astep, ↓aop, aBin, aInt, aStr, aUn, aNil, aMax, aresults, ares, aPack, ↓reduceIte, ↓reduceCtorEq, Nat.reduceEqDiff, Nat.reduceAdd, env0, aLoad, aLoadN, cellsOf, Int.reduceEq, Int.reduceLT, Int.reduceLE, Nat.reduceLeDiff, oneC, aop.fillL, setL, aApp, rowOf, ↓acallop, aBound, aIntOf, flat, flatN, CX_fn, CX_X, CX_pol, aStore, Nat.reduceBEq, List.size_toArray, hq], by simp (disch := first | omega | simp only [List.length_append, List.length_set, List.length_cons, List.length_nil] <;> omega | fail) only [evA, ↓evB, ↓astep, ↓aop, aBin, aInt, aStr, aUn, aNil, aMax, aresults, ares, aPack, ↓reduceIte, ↓reduceCtorEq, Nat.reduceEqDiff, Nat.reduceAdd, env0, aLoad, aLoadN, cellsOf, Int.reduceEq, Int.reduceLT, Int.reduceLE, Nat.reduceLeDiff, oneC, aop.fillL, setL, aApp, rowOf, ↓acallop, aBound, aIntOf, flat, flatN, CX_fn, CX_X, CX_pol, aStore, Nat.reduceBEq, List.size_toArray, hq2], fun _ => ⟨i0, T, rfl, rfl, hi0, by simp (disch := first | omega | simp only [List.length_append, List.length_set, List.length_cons, List.length_nil] <;> omega | fail) only [evA, ↓evB, ↓astep, ↓aop, aBin, aInt, aStr, aUn, aNil, aMax, aresults, ares, aPack, ↓reduceIte, ↓reduceCtorEq, Nat.reduceEqDiff, Nat.reduceAdd, env0, aLoad, aLoadN, cellsOf, Int.reduceEq, Int.reduceLT, Int.reduceLE, Nat.reduceLeDiff, oneC, aop.fillL, setL, aApp, rowOf, ↓acallop, aBound, aIntOf, flat, flatN, CX_fn, CX_X, CX_pol, aStore, Nat.reduceBEq, List.size_toArray, hrow]⟩⟩
        · have hE1 : gvE used num = 1 := by
            rw [gvE] at hE ⊢; split at hE <;> simp_all
          simp only [gvC, hE1, Int.reduceEq, if_false, mc] at hJ2
          (repeat' first
    | (refine CondV_dec (fun _ => ?_) (fun _ => ?_) <;> try (exfalso; omega))
    | (refine GuardV_td (fun _ => ?_) (fun _ => ?_) <;> try (exfalso; omega))
    | (refine GuardV_fd (fun _ => ?_) (fun _ => ?_) <;> try (exfalso; omega))
    | (refine CondV_split (fun _ => ?_) (fun _ => ?_))
    | (refine Need_of (by first | omega | decide) ?_)
    | simp (disch := first | omega | simp only [List.length_append, List.length_set, List.length_cons, List.length_nil] <;> omega | fail) only [evA, ↓evB, ↓astep, ↓aop, aBin, aInt, aStr, aUn, aNil, aMax, aresults, ares, aPack, ↓reduceIte, ↓reduceCtorEq, Nat.reduceEqDiff, Nat.reduceAdd, env0, aLoad, aLoadN, cellsOf, Int.reduceEq, Int.reduceLT, Int.reduceLE, Nat.reduceLeDiff, oneC, aop.fillL, setL, aApp, rowOf, ↓acallop, aBound, aIntOf, flat, flatN, CX_fn, CX_X, CX_pol, aStore, Nat.reduceBEq, List.size_toArray, fn28, ir28, fn29, ir29, fn30, ir30, fn39, ir39, h0, h1, h5, h6, h7, hrow, hcut, hle, hq, hq2, hJ2, hk2, XGive_eq, gvC, hE1, mc])
          exact ⟨n - 1, by omega, i + 1, used, taken, top, by omega, ⟨by omega, by omega, by omega, by omega, by omega, by omega⟩, by (first | rfl | (simp only [Env_put_some, Env_put_none, ↓Env_set_at, ↓reduceIte, Nat.reduceEqDiff, h0] <;> rfl)), by (first | rfl | (simp only [Env_put_some, Env_put_none, ↓Env_set_at, ↓reduceIte, Nat.reduceEqDiff, h1] <;> rfl)), by (first | rfl | (simp only [Env_put_some, Env_put_none, ↓Env_set_at, ↓reduceIte, Nat.reduceEqDiff, h5] <;> rfl)), by (first | rfl | (simp only [Env_put_some, Env_put_none, ↓Env_set_at, ↓reduceIte, Nat.reduceEqDiff, h6] <;> rfl)), by (first | rfl | (simp only [Env_put_some, Env_put_none, ↓Env_set_at, ↓reduceIte, Nat.reduceEqDiff] <;> rfl)), by simp (disch := first | omega | simp only [List.length_append, List.length_set, List.length_cons, List.length_nil] <;> omega | fail) only [evA, ↓evB, ↓astep, ↓aop, aBin, aInt, aStr, aUn, aNil, aMax, aresults, ares, aPack, ↓reduceIte, ↓reduceCtorEq, Nat.reduceEqDiff, Nat.reduceAdd, env0, aLoad, aLoadN, cellsOf, Int.reduceEq, Int.reduceLT, Int.reduceLE, Nat.reduceLeDiff, oneC, aop.fillL, setL, aApp, rowOf, ↓acallop, aBound, aIntOf, flat, flatN, CX_fn, CX_X, CX_pol, aStore, Nat.reduceBEq, List.size_toArray, hq], by simp (disch := first | omega | simp only [List.length_append, List.length_set, List.length_cons, List.length_nil] <;> omega | fail) only [evA, ↓evB, ↓astep, ↓aop, aBin, aInt, aStr, aUn, aNil, aMax, aresults, ares, aPack, ↓reduceIte, ↓reduceCtorEq, Nat.reduceEqDiff, Nat.reduceAdd, env0, aLoad, aLoadN, cellsOf, Int.reduceEq, Int.reduceLT, Int.reduceLE, Nat.reduceLeDiff, oneC, aop.fillL, setL, aApp, rowOf, ↓acallop, aBound, aIntOf, flat, flatN, CX_fn, CX_X, CX_pol, aStore, Nat.reduceBEq, List.size_toArray, hq2], fun _ => ⟨i0, T, rfl, rfl, hi0, by simp (disch := first | omega | simp only [List.length_append, List.length_set, List.length_cons, List.length_nil] <;> omega | fail) only [evA, ↓evB, ↓astep, ↓aop, aBin, aInt, aStr, aUn, aNil, aMax, aresults, ares, aPack, ↓reduceIte, ↓reduceCtorEq, Nat.reduceEqDiff, Nat.reduceAdd, env0, aLoad, aLoadN, cellsOf, Int.reduceEq, Int.reduceLT, Int.reduceLE, Nat.reduceLeDiff, oneC, aop.fillL, setL, aApp, rowOf, ↓acallop, aBound, aIntOf, flat, flatN, CX_fn, CX_X, CX_pol, aStore, Nat.reduceBEq, List.size_toArray, hrow]⟩⟩
      · by_cases hk3 : kd % 4 = 3
        · (repeat' first
    | (refine CondV_dec (fun _ => ?_) (fun _ => ?_) <;> try (exfalso; omega))
    | (refine GuardV_td (fun _ => ?_) (fun _ => ?_) <;> try (exfalso; omega))
    | (refine GuardV_fd (fun _ => ?_) (fun _ => ?_) <;> try (exfalso; omega))
    | (refine CondV_split (fun _ => ?_) (fun _ => ?_))
    | (refine Need_of (by first | omega | decide) ?_)
    | simp (disch := first | omega | simp only [List.length_append, List.length_set, List.length_cons, List.length_nil] <;> omega | fail) only [evA, ↓evB, ↓astep, ↓aop, aBin, aInt, aStr, aUn, aNil, aMax, aresults, ares, aPack, ↓reduceIte, ↓reduceCtorEq, Nat.reduceEqDiff, Nat.reduceAdd, env0, aLoad, aLoadN, cellsOf, Int.reduceEq, Int.reduceLT, Int.reduceLE, Nat.reduceLeDiff, oneC, aop.fillL, setL, aApp, rowOf, ↓acallop, aBound, aIntOf, flat, flatN, CX_fn, CX_X, CX_pol, aStore, Nat.reduceBEq, List.size_toArray, fn28, ir28, fn29, ir29, fn30, ir30, fn39, ir39, fn36, ir36, fn37, ir37, h0, h1, h5, h6, h7, hrow, hcut, hle, hq, hq2, hk2, hk3])
          exact ⟨n - 1, by omega, i + 1, used, 0, used, by omega, ⟨by omega, by omega, by omega, by omega, by omega, by omega⟩, by (first | rfl | (simp only [Env_put_some, Env_put_none, ↓Env_set_at, ↓reduceIte, Nat.reduceEqDiff, h0] <;> rfl)), by (first | rfl | (simp only [Env_put_some, Env_put_none, ↓Env_set_at, ↓reduceIte, Nat.reduceEqDiff, h1] <;> rfl)), by (first | rfl | (simp only [Env_put_some, Env_put_none, ↓Env_set_at, ↓reduceIte, Nat.reduceEqDiff, h5] <;> rfl)), by (first | rfl | (simp only [Env_put_some, Env_put_none, ↓Env_set_at, ↓reduceIte, Nat.reduceEqDiff, h6] <;> rfl)), by (first | rfl | (simp only [Env_put_some, Env_put_none, ↓Env_set_at, ↓reduceIte, Nat.reduceEqDiff] <;> rfl)), by simp (disch := first | omega | simp only [List.length_append, List.length_set, List.length_cons, List.length_nil] <;> omega | fail) only [evA, ↓evB, ↓astep, ↓aop, aBin, aInt, aStr, aUn, aNil, aMax, aresults, ares, aPack, ↓reduceIte, ↓reduceCtorEq, Nat.reduceEqDiff, Nat.reduceAdd, env0, aLoad, aLoadN, cellsOf, Int.reduceEq, Int.reduceLT, Int.reduceLE, Nat.reduceLeDiff, oneC, aop.fillL, setL, aApp, rowOf, ↓acallop, aBound, aIntOf, flat, flatN, CX_fn, CX_X, CX_pol, aStore, Nat.reduceBEq, List.size_toArray, hq], by simp (disch := first | omega | simp only [List.length_append, List.length_set, List.length_cons, List.length_nil] <;> omega | fail) only [evA, ↓evB, ↓astep, ↓aop, aBin, aInt, aStr, aUn, aNil, aMax, aresults, ares, aPack, ↓reduceIte, ↓reduceCtorEq, Nat.reduceEqDiff, Nat.reduceAdd, env0, aLoad, aLoadN, cellsOf, Int.reduceEq, Int.reduceLT, Int.reduceLE, Nat.reduceLeDiff, oneC, aop.fillL, setL, aApp, rowOf, ↓acallop, aBound, aIntOf, flat, flatN, CX_fn, CX_X, CX_pol, aStore, Nat.reduceBEq, List.size_toArray, hq2], fun _ => ⟨i0, T, rfl, rfl, hi0, by simp (disch := first | omega | simp only [List.length_append, List.length_set, List.length_cons, List.length_nil] <;> omega | fail) only [evA, ↓evB, ↓astep, ↓aop, aBin, aInt, aStr, aUn, aNil, aMax, aresults, ares, aPack, ↓reduceIte, ↓reduceCtorEq, Nat.reduceEqDiff, Nat.reduceAdd, env0, aLoad, aLoadN, cellsOf, Int.reduceEq, Int.reduceLT, Int.reduceLE, Nat.reduceLeDiff, oneC, aop.fillL, setL, aApp, rowOf, ↓acallop, aBound, aIntOf, flat, flatN, CX_fn, CX_X, CX_pol, aStore, Nat.reduceBEq, List.size_toArray, hrow]⟩⟩
        · by_cases hE : tkE M used taken num = 0
          · have hb : ¬ num < 0 ∧ ¬ (M - used < num ∨ 9223372036854775807 - taken < num) := by
              rw [tkE] at hE; split at hE
              · cases hE
              · split at hE
                · cases hE
                · constructor <;> assumption
            simp only [tkC, hE, if_true, mc] at hJ1
            (repeat' first
    | (refine CondV_dec (fun _ => ?_) (fun _ => ?_) <;> try (exfalso; omega))
    | (refine GuardV_td (fun _ => ?_) (fun _ => ?_) <;> try (exfalso; omega))
    | (refine GuardV_fd (fun _ => ?_) (fun _ => ?_) <;> try (exfalso; omega))
    | (refine CondV_split (fun _ => ?_) (fun _ => ?_))
    | (refine Need_of (by first | omega | decide) ?_)
    | simp (disch := first | omega | simp only [List.length_append, List.length_set, List.length_cons, List.length_nil] <;> omega | fail) only [evA, ↓evB, ↓astep, ↓aop, aBin, aInt, aStr, aUn, aNil, aMax, aresults, ares, aPack, ↓reduceIte, ↓reduceCtorEq, Nat.reduceEqDiff, Nat.reduceAdd, env0, aLoad, aLoadN, cellsOf, Int.reduceEq, Int.reduceLT, Int.reduceLE, Nat.reduceLeDiff, oneC, aop.fillL, setL, aApp, rowOf, ↓acallop, aBound, aIntOf, flat, flatN, CX_fn, CX_X, CX_pol, aStore, Nat.reduceBEq, List.size_toArray, fn28, ir28, fn29, ir29, fn30, ir30, fn39, ir39, h0, h1, h5, h6, h7, hrow, hcut, hle, hq, hq2, hJ1, hk2, hk3, XTake_eq, tkC, hE, mc])
            exact ⟨n - 1, by omega, i + 1, used + num, taken + num, max top (used + num), by omega, ⟨by omega, by omega, by omega, by omega, by omega, by omega⟩, by (first | rfl | (simp only [Env_put_some, Env_put_none, ↓Env_set_at, ↓reduceIte, Nat.reduceEqDiff, h0] <;> rfl)), by (first | rfl | (simp only [Env_put_some, Env_put_none, ↓Env_set_at, ↓reduceIte, Nat.reduceEqDiff, h1] <;> rfl)), by (first | rfl | (simp only [Env_put_some, Env_put_none, ↓Env_set_at, ↓reduceIte, Nat.reduceEqDiff, h5] <;> rfl)), by (first | rfl | (simp only [Env_put_some, Env_put_none, ↓Env_set_at, ↓reduceIte, Nat.reduceEqDiff, h6] <;> rfl)), by (first | rfl | (simp only [Env_put_some, Env_put_none, ↓Env_set_at, ↓reduceIte, Nat.reduceEqDiff] <;> rfl)), by simp (disch := first | omega | simp only [List.length_append, List.length_set, List.length_cons, List.length_nil] <;> omega | fail) only [evA, ↓evB, ↓astep, ↓aop, aBin, aInt, aStr, aUn, aNil, aMax, aresults, ares, aPack, ↓reduceIte, ↓reduceCtorEq, Nat.reduceEqDiff, Nat.reduceAdd, env0, aLoad, aLoadN, cellsOf, Int.reduceEq, Int.reduceLT, Int.reduceLE, Nat.reduceLeDiff, oneC, aop.fillL, setL, aApp, rowOf, ↓acallop, aBound, aIntOf, flat, flatN, CX_fn, CX_X, CX_pol, aStore, Nat.reduceBEq, List.size_toArray, hq], by simp (disch := first | omega | simp only [List.length_append, List.length_set, List.length_cons, List.length_nil] <;> omega | fail) only [evA, ↓evB, ↓astep, ↓aop, aBin, aInt, aStr, aUn, aNil, aMax, aresults, ares, aPack, ↓reduceIte, ↓reduceCtorEq, Nat.reduceEqDiff, Nat.reduceAdd, env0, aLoad, aLoadN, cellsOf, Int.reduceEq, Int.reduceLT, Int.reduceLE, Nat.reduceLeDiff, oneC, aop.fillL, setL, aApp, rowOf, ↓acallop, aBound, aIntOf, flat, flatN, CX_fn, CX_X, CX_pol, aStore, Nat.reduceBEq, List.size_toArray, hq2], fun _ => ⟨i0, T, rfl, rfl, hi0, by simp (disch := first | omega | simp only [List.length_append, List.length_set, List.length_cons, List.length_nil] <;> omega | fail) only [evA, ↓evB, ↓astep, ↓aop, aBin, aInt, aStr, aUn, aNil, aMax, aresults, ares, aPack, ↓reduceIte, ↓reduceCtorEq, Nat.reduceEqDiff, Nat.reduceAdd, env0, aLoad, aLoadN, cellsOf, Int.reduceEq, Int.reduceLT, Int.reduceLE, Nat.reduceLeDiff, oneC, aop.fillL, setL, aApp, rowOf, ↓acallop, aBound, aIntOf, flat, flatN, CX_fn, CX_X, CX_pol, aStore, Nat.reduceBEq, List.size_toArray, hrow]⟩⟩
          · obtain ⟨E, hEE⟩ : ∃ E, E = tkE M used taken num := ⟨_, rfl⟩
            simp only [tkC, hE, if_false, mc] at hJ1
            rw [← hEE] at hJ1
            have hE' : ¬ E = 0 := by rw [hEE]; exact hE
            (repeat' first
    | (refine CondV_dec (fun _ => ?_) (fun _ => ?_) <;> try (exfalso; omega))
    | (refine GuardV_td (fun _ => ?_) (fun _ => ?_) <;> try (exfalso; omega))
    | (refine GuardV_fd (fun _ => ?_) (fun _ => ?_) <;> try (exfalso; omega))
    | (refine CondV_split (fun _ => ?_) (fun _ => ?_))
    | (refine Need_of (by first | omega | decide) ?_)
    | simp (disch := first | omega | simp only [List.length_append, List.length_set, List.length_cons, List.length_nil] <;> omega | fail) only [evA, ↓evB, ↓astep, ↓aop, aBin, aInt, aStr, aUn, aNil, aMax, aresults, ares, aPack, ↓reduceIte, ↓reduceCtorEq, Nat.reduceEqDiff, Nat.reduceAdd, env0, aLoad, aLoadN, cellsOf, Int.reduceEq, Int.reduceLT, Int.reduceLE, Nat.reduceLeDiff, oneC, aop.fillL, setL, aApp, rowOf, ↓acallop, aBound, aIntOf, flat, flatN, CX_fn, CX_X, CX_pol, aStore, Nat.reduceBEq, List.size_toArray, fn28, ir28, fn29, ir29, fn30, ir30, fn39, ir39, h0, h1, h5, h6, h7, hrow, hcut, hle, hq, hq2, hJ1, hk2, hk3, XTake_eq, tkC, hE', ← hEE, mc])
            exact ⟨n - 1, by omega, i + 1, used, taken, top, by omega, ⟨by omega, by omega, by omega, by omega, by omega, by omega⟩, by (first | rfl | (simp only [Env_put_some, Env_put_none, ↓Env_set_at, ↓reduceIte, Nat.reduceEqDiff, h0] <;> rfl)), by (first | rfl | (simp only [Env_put_some, Env_put_none, ↓Env_set_at, ↓reduceIte, Nat.reduceEqDiff, h1] <;> rfl)), by (first | rfl | (simp only [Env_put_some, Env_put_none, ↓Env_set_at, ↓reduceIte, Nat.reduceEqDiff, h5] <;> rfl)), by (first | rfl | (simp only [Env_put_some, Env_put_none, ↓Env_set_at, ↓reduceIte, Nat.reduceEqDiff, h6] <;> rfl)), by (first | rfl | (simp only [Env_put_some, Env_put_none, ↓Env_set_at, ↓reduceIte, Nat.reduceEqDiff] <;> rfl)), by simp (disch := first | omega | simp only [List.length_append, List.length_set, List.length_cons, List.length_nil] <;> omega | fail) only [evA, ↓evB, ↓astep, ↓aop, aBin, aInt, aStr, aUn, aNil, aMax, aresults, ares, aPack, ↓reduceIte, ↓reduceCtorEq, Nat.reduceEqDiff, Nat.reduceAdd, env0, aLoad, aLoadN, cellsOf, Int.reduceEq, Int.reduceLT, Int.reduceLE, Nat.reduceLeDiff, oneC, aop.fillL, setL, aApp, rowOf, ↓acallop, aBound, aIntOf, flat, flatN, CX_fn, CX_X, CX_pol, aStore, Nat.reduceBEq, List.size_toArray, hq], by simp (disch := first | omega | simp only [List.length_append, List.length_set, List.length_cons, List.length_nil] <;> omega | fail) only [evA, ↓evB, ↓astep, ↓aop, aBin, aInt, aStr, aUn, aNil, aMax, aresults, ares, aPack, ↓reduceIte, ↓reduceCtorEq, Nat.reduceEqDiff, Nat.reduceAdd, env0, aLoad, aLoadN, cellsOf, Int.reduceEq, Int.reduceLT, Int.reduceLE, Nat.reduceLeDiff, oneC, aop.fillL, setL, aApp, rowOf, ↓acallop, aBound, aIntOf, flat, flatN, CX_fn, CX_X, CX_pol, aStore, Nat.reduceBEq, List.size_toArray, hq2], fun _ => ⟨i0, T, rfl, rfl, hi0, by simp (disch := first | omega | simp only [List.length_append, List.length_set, List.length_cons, List.length_nil] <;> omega | fail) only [evA, ↓evB, ↓astep, ↓aop, aBin, aInt, aStr, aUn, aNil, aMax, aresults, ares, aPack, ↓reduceIte, ↓reduceCtorEq, Nat.reduceEqDiff, Nat.reduceAdd, env0, aLoad, aLoadN, cellsOf, Int.reduceEq, Int.reduceLT, Int.reduceLE, Nat.reduceLeDiff, oneC, aop.fillL, setL, aApp, rowOf, ↓acallop, aBound, aIntOf, flat, flatN, CX_fn, CX_X, CX_pol, aStore, Nat.reduceBEq, List.size_toArray, hrow]⟩⟩
    · (repeat' first
    | (refine CondV_dec (fun _ => ?_) (fun _ => ?_) <;> try (exfalso; omega))
    | (refine GuardV_td (fun _ => ?_) (fun _ => ?_) <;> try (exfalso; omega))
    | (refine GuardV_fd (fun _ => ?_) (fun _ => ?_) <;> try (exfalso; omega))
    | (refine CondV_split (fun _ => ?_) (fun _ => ?_))
    | (refine Need_of (by first | omega | decide) ?_)
    | simp (disch := first | omega | simp only [List.length_append, List.length_set, List.length_cons, List.length_nil] <;> omega | fail) only [evA, ↓evB, ↓astep, ↓aop, aBin, aInt, aStr, aUn, aNil, aMax, aresults, ares, aPack, ↓reduceIte, ↓reduceCtorEq, Nat.reduceEqDiff, Nat.reduceAdd, env0, aLoad, aLoadN, cellsOf, Int.reduceEq, Int.reduceLT, Int.reduceLE, Nat.reduceLeDiff, oneC, aop.fillL, setL, aApp, rowOf, ↓acallop, aBound, aIntOf, flat, flatN, CX_fn, CX_X, CX_pol, aStore, Nat.reduceBEq, List.size_toArray, fn28, ir28, fn29, ir29, fn30, ir30, fn39, ir39, fn36, ir36, fn27, ir27, fn31, ir31, fn53, ir53, h0, h1, h5, h6, h7])
  · refine ⟨0, 0, 0, 0, by omega, by omega, rfl, rfl, rfl, rfl, rfl, by simp [happ_l], by simp, fun h => ?_⟩
    obtain ⟨i, T, q1, q2, q3, q4⟩ := hrow h
    exact ⟨i, T, q1, q2, q3, get_app q4 _⟩
theorem main_MeterPlays (H : Heap) (args : List Value) (h : IsVs Try.prog H Try.f9.params.toList args) : ∃ k, Run (fun v' _ => v' = .bool true) mk (acall D1 k 9 args H ⟨H.length, 0⟩) := by
  rw [Try.params9] at h
  obtain ⟨v0, r0, rfl, h0, h⟩ := args_cons h
  obtain ⟨v1, r1, rfl, h1, h⟩ := args_cons h
  obtain rfl := args_nil h
  obtain ⟨most, rfl, w0⟩ := isv_int Try.underlying3 h0
  obtain ⟨xs, hV, _, hx⟩ := isv_slice Try.underlying49 encA (fun z => (0 ≤ z.1 ∧ z.1 < 256) ∧ I64 z.2) (fun cs h => by
    obtain ⟨parts, rfl, hp⟩ := is_struct Try.underlying54 h
    obtain ⟨c1, l, rfl, g1, hp⟩ := all_cons' hp
    obtain ⟨c2, l, rfl, g2, hp⟩ := all_cons' hp
    obtain rfl := all_nil' hp
    obtain ⟨n, rfl, hn⟩ := is_int Try.underlying5 g1
    obtain ⟨k, rfl, hk⟩ := is_int Try.underlying3 g2
    refine ⟨(n, k), rfl, ?_, ?_⟩
    · simp [Lit.wf, IntKind.min, IntKind.max, IntKind.signed, IntKind.bits] at hn; omega
    · simp [Lit.wf, IntKind.min, IntKind.max, IntKind.signed, IntKind.bits] at hk; constructor <;> omega) h1
  refine ⟨200, w9 most ?_ xs hx v1 H hV⟩
  simp [Lit.wf, IntKind.min, IntKind.max, IntKind.signed, IntKind.bits] at w0; constructor <;> omega
end L7
end Ev
end Go.Proofs.Ytlcfanmmpfmnaaa
