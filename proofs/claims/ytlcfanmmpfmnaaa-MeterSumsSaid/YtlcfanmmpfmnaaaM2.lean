/-
  The law MeterSums: what its code answers.
-/
import Derived.Test.YtlcfanmmpfmnaaaM1
namespace Go.Proofs.Ytlcfanmmpfmnaaa
namespace Ev
open Tag (mk)
set_option linter.unusedSimpArgs false
set_option linter.unusedVariables false
set_option maxRecDepth 4000
def e16 (z : Int) : List Value := [.int .u16 z]
def I7 (most M : Int) (xs : List Int) (a : Option Addr) (c q : Nat) (n : Nat) (e : Env) (H : Heap) : Prop :=
  ∃ (i : Nat) (all : Int), i + n = xs.length ∧ 0 ≤ all ∧ all ≤ M ∧ all ≤ 65536 * i ∧ e 0 = .int .i64 most ∧ e 1 = .slice a xs.length c ∧ e 5 = .pointer (some ⟨q, 0, none⟩) ∧ e 6 = .int .i64 all ∧ e 7 = .int .i64 (i : Int) ∧
    H[q]? = some (.cells [.int .i64 M, .int .i64 all, .int .i64 all, .int .i64 all] 72 true) ∧
    (0 < xs.length → ∃ i0 T, a = some ⟨i0, 0, none⟩ ∧ c = 1 ∧ i0 < q ∧ H[i0]? = some (.cells (xs.map e16).flatten T false))
theorem w7 (most : Int) (hm : -9223372036854775808 ≤ most ∧ most ≤ 9223372036854775807) (xs : List Int) (hx : ∀ z ∈ xs, 0 ≤ z ∧ z < 65536) (V : Value) (H0 : Heap) (hV : RowV H0 V xs.length 1 (xs.map e16).flatten) :
    Run (fun v' _ => v' = .bool true) mk (acall D1 200 7 [.int .i64 most, V] H0 ⟨H0.length, 0⟩) := by
  obtain ⟨a, c, rfl, hrow⟩ := hV.ex
  refine Run_call (F := ir7) rfl (Nat.le_of_ble_eq_true rfl) ?_
  simp only [ir7, D1]
  (repeat' first
    | (refine CondV_dec (fun _ => ?_) (fun _ => ?_) <;> try (exfalso; omega))
    | (refine GuardV_td (fun _ => ?_) (fun _ => ?_) <;> try (exfalso; omega))
    | (refine GuardV_fd (fun _ => ?_) (fun _ => ?_) <;> try (exfalso; omega))
    | (refine CondV_split (fun _ => ?_) (fun _ => ?_))
    | (refine Need_of (by first | omega | decide) ?_)
    | simp (disch := first | omega | simp only [List.length_append, List.length_set, List.length_cons, List.length_nil] <;> omega | fail) only [evA, ↓evB, ↓astep, ↓aop, aBin, aInt, aStr, aUn, aNil, aMax, aresults, ares, aPack, ↓reduceIte, ↓reduceCtorEq, Nat.reduceEqDiff, Nat.reduceAdd, env0, aLoad, aLoadN, cellsOf, Int.reduceEq, Int.reduceLT, Int.reduceLE, Nat.reduceLeDiff, oneC, aop.fillL, setL, aApp, rowOf, ↓acallop, aBound, aIntOf, flat, flatN, CX_fn, CX_X, CX_pol, aStore, Nat.reduceBEq, List.size_toArray, fn26, ir26, XAlive_eq])
  obtain ⟨M, hM⟩ : ∃ M, M = (if most < 0 then 0 else most) := ⟨_, rfl⟩
  have hM' : M = max most 0 ∧ (if most < 0 then 0 else most) = M := ⟨by rw [hM]; split <;> omega, hM.symm⟩
  refine WpC_loop (I7 most M xs a c H0.length) ?_ (n := xs.length) (by omega) ?_
  · rintro n e H ⟨i, all, hi, ha0, haM, hai, h0, h1, h5, h6, h7, hq, hr⟩
    have hqq := lt_of_get hq
    simp only [lp7_0, evA, ↓evB, ↓astep, ↓aop, aBin, aInt, aStr, aUn, aNil, aMax, aresults, ares, aPack, ↓reduceIte, ↓reduceCtorEq, Nat.reduceEqDiff, Nat.reduceAdd, env0, aLoad, aLoadN, cellsOf, Int.reduceEq, Int.reduceLT, Int.reduceLE, Nat.reduceLeDiff, oneC, aop.fillL, setL, aApp, rowOf, ↓acallop, aBound, aIntOf, flat, flatN, CX_fn, CX_X, CX_pol, aStore, Nat.reduceBEq, List.size_toArray, h0, h1, h5, h6, h7]
    refine CondV_dec (fun hc => ?_) (fun hc => ?_)
    · obtain ⟨i0, T, rfl, rfl, hi0, hrow⟩ := hr (by omega)
      have hxi : i < xs.length := by omega
      have hcell : (xs.map e16).flatten[i]? = some (.int .u16 xs[i]) := by
        have := rec_get (enc := e16) (sz := 1) (fun _ => rfl) xs i 0 (by omega)
        rw [Nat.mul_one, Nat.add_zero, List.getElem?_eq_getElem hxi] at this
        exact this
      have hx0 := hx xs[i] (List.getElem_mem hxi)
      obtain ⟨x, hxe⟩ : ∃ x, x = xs[i] := ⟨_, rfl⟩
      rw [← hxe] at hcell hx0
      obtain ⟨J, hJ⟩ := take_ok (lim := H0.length) (fb := H.length) x hq (Nat.le_refl _) ⟨ha0, Int.le_refl _, haM, by omega, ha0, by omega⟩ (by omega) 195
      simp only [D1, tkC, tkE] at hJ
      by_cases hfit : x ≤ M - all
      · simp only [if_neg (show ¬ x < 0 by omega), if_neg (show ¬ (M - all < x ∨ 9223372036854775807 - all < x) by omega), if_true, show max all (all + x) = all + x by omega] at hJ
        (repeat' first
    | (refine CondV_dec (fun _ => ?_) (fun _ => ?_) <;> try (exfalso; omega))
    | (refine GuardV_td (fun _ => ?_) (fun _ => ?_) <;> try (exfalso; omega))
    | (refine GuardV_fd (fun _ => ?_) (fun _ => ?_) <;> try (exfalso; omega))
    | (refine CondV_split (fun _ => ?_) (fun _ => ?_))
    | (refine Need_of (by first | omega | decide) ?_)
    | simp (disch := first | omega | simp only [List.length_append, List.length_set, List.length_cons, List.length_nil] <;> omega | fail) only [evA, ↓evB, ↓astep, ↓aop, aBin, aInt, aStr, aUn, aNil, aMax, aresults, ares, aPack, ↓reduceIte, ↓reduceCtorEq, Nat.reduceEqDiff, Nat.reduceAdd, env0, aLoad, aLoadN, cellsOf, Int.reduceEq, Int.reduceLT, Int.reduceLE, Nat.reduceLeDiff, oneC, aop.fillL, setL, aApp, rowOf, ↓acallop, aBound, aIntOf, flat, flatN, CX_fn, CX_X, CX_pol, aStore, Nat.reduceBEq, List.size_toArray, h0, h1, h5, h6, h7, hcell, hrow, hJ, hM'.2])
        · exact ⟨n - 1, by omega, i + 1, all + x, by omega, by omega, by omega, by omega, by (first | rfl | (simp only [Env_put_some, Env_put_none, ↓Env_set_at, ↓reduceIte, Nat.reduceEqDiff, h0] <;> rfl)), by (first | rfl | (simp only [Env_put_some, Env_put_none, ↓Env_set_at, ↓reduceIte, Nat.reduceEqDiff, h1] <;> rfl)), by (first | rfl | (simp only [Env_put_some, Env_put_none, ↓Env_set_at, ↓reduceIte, Nat.reduceEqDiff, h5] <;> rfl)), by (first | rfl | (simp only [Env_put_some, Env_put_none, ↓Env_set_at, ↓reduceIte, Nat.reduceEqDiff] <;> rfl)), by (first | rfl | (simp only [Env_put_some, Env_put_none, ↓Env_set_at, ↓reduceIte, Nat.reduceEqDiff] <;> rfl)), hset_self hqq _, fun _ => ⟨i0, T, rfl, rfl, hi0, by simp only [hset_ne (show H0.length ≠ i0 by omega), hrow]⟩⟩
      · simp only [if_neg (show ¬ x < 0 by omega), if_pos (show (M - all < x ∨ 9223372036854775807 - all < x) by omega), Int.reduceEq, if_false, hset_same hq] at hJ
        (repeat' first
    | (refine CondV_dec (fun _ => ?_) (fun _ => ?_) <;> try (exfalso; omega))
    | (refine GuardV_td (fun _ => ?_) (fun _ => ?_) <;> try (exfalso; omega))
    | (refine GuardV_fd (fun _ => ?_) (fun _ => ?_) <;> try (exfalso; omega))
    | (refine CondV_split (fun _ => ?_) (fun _ => ?_))
    | (refine Need_of (by first | omega | decide) ?_)
    | simp (disch := first | omega | simp only [List.length_append, List.length_set, List.length_cons, List.length_nil] <;> omega | fail) only [evA, ↓evB, ↓astep, ↓aop, aBin, aInt, aStr, aUn, aNil, aMax, aresults, ares, aPack, ↓reduceIte, ↓reduceCtorEq, Nat.reduceEqDiff, Nat.reduceAdd, env0, aLoad, aLoadN, cellsOf, Int.reduceEq, Int.reduceLT, Int.reduceLE, Nat.reduceLeDiff, oneC, aop.fillL, setL, aApp, rowOf, ↓acallop, aBound, aIntOf, flat, flatN, CX_fn, CX_X, CX_pol, aStore, Nat.reduceBEq, List.size_toArray, h0, h1, h5, h6, h7, hcell, hrow, hJ, hM'.2])
        · exact ⟨n - 1, by omega, i + 1, all, by omega, by omega, by omega, by omega, by (first | rfl | (simp only [Env_put_some, Env_put_none, ↓Env_set_at, ↓reduceIte, Nat.reduceEqDiff, h0] <;> rfl)), by (first | rfl | (simp only [Env_put_some, Env_put_none, ↓Env_set_at, ↓reduceIte, Nat.reduceEqDiff, h1] <;> rfl)), by (first | rfl | (simp only [Env_put_some, Env_put_none, ↓Env_set_at, ↓reduceIte, Nat.reduceEqDiff, h5] <;> rfl)), by (first | rfl | (simp only [Env_put_some, Env_put_none, ↓Env_set_at, ↓reduceIte, Nat.reduceEqDiff, h6] <;> rfl)), by (first | rfl | (simp only [Env_put_some, Env_put_none, ↓Env_set_at, ↓reduceIte, Nat.reduceEqDiff] <;> rfl)), hq, fun _ => ⟨i0, T, rfl, rfl, hi0, hrow⟩⟩
    · (repeat' first
    | (refine CondV_dec (fun _ => ?_) (fun _ => ?_) <;> try (exfalso; omega))
    | (refine GuardV_td (fun _ => ?_) (fun _ => ?_) <;> try (exfalso; omega))
    | (refine GuardV_fd (fun _ => ?_) (fun _ => ?_) <;> try (exfalso; omega))
    | (refine CondV_split (fun _ => ?_) (fun _ => ?_))
    | (refine Need_of (by first | omega | decide) ?_)
    | simp (disch := first | omega | simp only [List.length_append, List.length_set, List.length_cons, List.length_nil] <;> omega | fail) only [evA, ↓evB, ↓astep, ↓aop, aBin, aInt, aStr, aUn, aNil, aMax, aresults, ares, aPack, ↓reduceIte, ↓reduceCtorEq, Nat.reduceEqDiff, Nat.reduceAdd, env0, aLoad, aLoadN, cellsOf, Int.reduceEq, Int.reduceLT, Int.reduceLE, Nat.reduceLeDiff, oneC, aop.fillL, setL, aApp, rowOf, ↓acallop, aBound, aIntOf, flat, flatN, CX_fn, CX_X, CX_pol, aStore, Nat.reduceBEq, List.size_toArray, fn28, ir28, fn29, ir29, fn30, ir30, fn31, ir31, fn53, ir53, fn55, ir55, fn56, ir56, h0, h1, h5, h6, h7, hq])
      trace_state
  · refine ⟨0, 0, by omega, by omega, by omega, by omega, rfl, rfl, rfl, rfl, rfl, by simp [hM], fun h => ?_⟩
    obtain ⟨i, T, q1, q2, q3, q4⟩ := hrow h
    exact ⟨i, T, q1, q2, q3, get_app q4 _⟩

theorem main_MeterSums (H : Heap) (args : List Value) (h : IsVs Try.prog H Try.f7.params.toList args) : ∃ k, Run (fun v' _ => v' = .bool true) mk (acall D1 k 7 args H ⟨H.length, 0⟩) := by
  rw [Try.params7] at h
  obtain ⟨v0, r0, rfl, h0, h⟩ := args_cons h
  obtain ⟨v1, r1, rfl, h1, h⟩ := args_cons h
  obtain rfl := args_nil h
  obtain ⟨most, rfl, w0⟩ := isv_int Try.underlying3 h0
  obtain ⟨xs, hV, _, hx⟩ := isv_slice Try.underlying40 e16 (fun z => 0 ≤ z ∧ z < 65536) (fun cs h => by
    obtain ⟨n, rfl, hn⟩ := is_int Try.underlying43 h
    exact ⟨n, rfl, by simp [Lit.wf, IntKind.min, IntKind.max, IntKind.signed, IntKind.bits] at hn; omega⟩) h1
  refine ⟨200, w7 most ?_ xs hx v1 H hV⟩
  simp [Lit.wf, IntKind.min, IntKind.max, IntKind.signed, IntKind.bits] at w0; omega
end Ev
end Go.Proofs.Ytlcfanmmpfmnaaa
