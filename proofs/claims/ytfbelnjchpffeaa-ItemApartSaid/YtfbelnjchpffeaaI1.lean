/-
  The document's functions on items: what they answer at any item.
-/
import Derived.Test.YtfbelnjchpffeaaI0
namespace Go.Proofs.Ytfbelnjchpffeaa
namespace Ev
open Tag (mk)
set_option linter.unusedSimpArgs false
set_option linter.unusedVariables false
set_option maxRecDepth 4000
set_option maxHeartbeats 4000000
theorem min_if (y : Int) : (if (10000 : Int) < y then (10000 : Int) else y) = min y 10000 := by split <;> omega
def ISize (Hc : Heap) (j : Nat) (l : List Tr) (n0 : Int) (n : Nat) (e : Env) (H : Heap) : Prop :=
  ∃ (i : Nat) (x : Int), i + n = l.length ∧ e 1 = .pointer (some ⟨j, 0, none⟩) ∧ e 3 = .int .i64 x ∧ e 4 = .int .i64 (i : Int) ∧ H = Hc ∧ tszs (l.drop i) x = tszs l n0 ∧ 0 ≤ x ∧ x ≤ 10000

theorem wSize : ∀ (N : Nat) (t : Tr), sz t ≤ N → sz t ≤ 5000 → ∀ (H : Heap) (S : Nat → Prop) (v : Value), ItemV H S t v → ∀ (m : Ev.Mode) (k : Nat), sz t + 2 ≤ k →
    Run (fun v' _ => v' = .int .i64 (tsz t)) mk (acall T0 k 53 [v] H m) := by
  intro N
  induction N with
  | zero => intro t h; have := sz_pos t; omega
  | succ N ih =>
    intro t hN h5 H S v hv m k hk
    obtain ⟨t, b, l⟩ := t
    obtain ⟨cs, rfl, hv⟩ := hv
    unfold ItemAt at hv
    obtain ⟨a, c, rfl, hsub⟩ := hv
    obtain ⟨k, rfl⟩ : ∃ q, k = q + 1 := ⟨k - 1, by omega⟩
    have hls := len_szs l
    unfold sz at hN hk h5
    refine Run_call (F := ir53) rfl (Nat.le_of_ble_eq_true rfl) ?_
    obtain ⟨Hc, hHc⟩ : ∃ Hc : Heap, Hc = H ++ [.cells [.string t, .bool b, .slice a l.length c] 24 true] := ⟨_, rfl⟩
    have hold : Held Hc S H.length t b l a c := ⟨by rw [hHc]; simp, fun hne => by
      obtain ⟨i, T, own, cells, h1, h2, h3, h4, h5⟩ := hsub hne
      exact ⟨i, T, own, cells, h1, h2, h3, by rw [hHc]; exact get_app h4 _, by rw [hHc]; exact h5.app _⟩⟩
    have hbox := hold.box
    simp only [ir53]
    have htz : (0 : Int) ≤ (t.size : Int) := Int.natCast_nonneg _
    (repeat' first
    | (refine CondV_dec (fun _ => ?_) (fun _ => ?_) <;> try (exfalso; omega))
    | (refine GuardV_td (fun _ => ?_) (fun _ => ?_) <;> try (exfalso; omega))
    | (refine GuardV_fd (fun _ => ?_) (fun _ => ?_) <;> try (exfalso; omega))
    | (refine CondV_split (fun _ => ?_) (fun _ => ?_))
    | (refine Need_of (by first | omega | decide) ?_)
    | refine WpK_cons ?_ ?_
    | refine WpK_guard ?_
    | simp (disch := first | omega | simp only [List.length_append, List.length_set, List.length_cons, List.length_nil] <;> omega | fail) only [evA, ↓evB, ↓astep, ↓aop, aBin, aInt, aStr, aUn, aNil, aMax, aresults, ares, aPack, ↓reduceIte, ↓reduceCtorEq, Nat.reduceEqDiff, Nat.reduceAdd, env0, aLoad, aLoadN, cellsOf, Int.reduceEq, Int.reduceLT, Int.reduceLE, Nat.reduceLeDiff, oneC, aop.fillL, setL, aApp, aAppC_nil, aAppC_own, xop, aSame_ptr, BIG, Bool.or_true, Bool.true_or, Bool.or_false, Bool.false_or, eqCells, eqCell, rowOf, ↓acallop, aBound, aIntOf, flat, flatN, CX_fn, CX_X, CX_pol, aStore, Nat.reduceBEq, List.size_toArray, Int.sub_zero, Int.zero_add, Int.add_zero, Int.toNat_zero, Int.reduceAdd, Int.reduceSub, Int.reduceMul, Int.reduceNeg, Int.reduceToNat, Nat.reduceSub, Nat.reduceMul, Int.natCast_zero, Int.reduceDiv, Int.reduceMod, Int.toNat_natCast, fdiv_nn, min_bits_i, Int.reducePow, Nat.reducePow, Nat.reduceDiv, Nat.reduceMod, mb_i, mb_u, WpC_drawD, WpT_nil, WpT_cons, WpT_guard, WpK_nil, scal, ← hHc, hbox, min_if])
    refine WpC_loop (ISize Hc H.length l (min (t.size : Int) 10000)) ?_ (n := l.length) (show l.length < k by omega) ?_
    · rintro n e H1 ⟨i, y, hi, g1, g3, g4, rfl, hr, hy0, hy1⟩
      by_cases hc : i < l.length
      · obtain ⟨q, T, own, cells, rfl, rfl, hSq, hq, hle, hit⟩ := hold.get hc
        have hr0 : tszs (l.drop i) y = tszs (l.drop (i + 1)) (min (y + tsz l[i]) 10000) := by rw [drop_cons' hc, tszs]
        have hsl := sz_get hc
        have := ih l[i] (by omega) (by omega) H1 S _ ⟨_, rfl, hit⟩ ⟨H1.length, H1.length⟩ k (by omega)
        obtain ⟨v, H', hcall, rfl⟩ := Run_get this
        have hcall := hcall k (Nat.le_refl _)
        have hts := tsz_le l[i]
        simp only [T0] at hcall
        simp only [lp53_0, evA, ↓evB, ↓astep, ↓aop, aBin, aInt, aStr, aUn, aNil, aMax, aresults, ares, aPack, ↓reduceIte, ↓reduceCtorEq, Nat.reduceEqDiff, Nat.reduceAdd, env0, aLoad, aLoadN, cellsOf, Int.reduceEq, Int.reduceLT, Int.reduceLE, Nat.reduceLeDiff, oneC, aop.fillL, setL, aApp, aAppC_nil, aAppC_own, xop, aSame_ptr, BIG, Bool.or_true, Bool.true_or, Bool.or_false, Bool.false_or, eqCells, eqCell, rowOf, ↓acallop, aBound, aIntOf, flat, flatN, CX_fn, CX_X, CX_pol, aStore, Nat.reduceBEq, List.size_toArray, Int.sub_zero, Int.zero_add, Int.add_zero, Int.toNat_zero, Int.reduceAdd, Int.reduceSub, Int.reduceMul, Int.reduceNeg, Int.reduceToNat, Nat.reduceSub, Nat.reduceMul, Int.natCast_zero, Int.reduceDiv, Int.reduceMod, Int.toNat_natCast, fdiv_nn, min_bits_i, Int.reducePow, Nat.reducePow, Nat.reduceDiv, Nat.reduceMod, mb_i, mb_u, WpC_drawD, WpT_nil, WpT_cons, WpT_guard, WpK_nil, scal, g1, g3, g4, hbox, T0]
        (repeat' first
    | (refine CondV_dec (fun _ => ?_) (fun _ => ?_) <;> try (exfalso; omega))
    | (refine GuardV_td (fun _ => ?_) (fun _ => ?_) <;> try (exfalso; omega))
    | (refine GuardV_fd (fun _ => ?_) (fun _ => ?_) <;> try (exfalso; omega))
    | (refine CondV_split (fun _ => ?_) (fun _ => ?_))
    | (refine Need_of (by first | omega | decide) ?_)
    | refine WpK_cons ?_ ?_
    | refine WpK_guard ?_
    | simp (disch := first | omega | simp only [List.length_append, List.length_set, List.length_cons, List.length_nil] <;> omega | fail) only [evA, ↓evB, ↓astep, ↓aop, aBin, aInt, aStr, aUn, aNil, aMax, aresults, ares, aPack, ↓reduceIte, ↓reduceCtorEq, Nat.reduceEqDiff, Nat.reduceAdd, env0, aLoad, aLoadN, cellsOf, Int.reduceEq, Int.reduceLT, Int.reduceLE, Nat.reduceLeDiff, oneC, aop.fillL, setL, aApp, aAppC_nil, aAppC_own, xop, aSame_ptr, BIG, Bool.or_true, Bool.true_or, Bool.or_false, Bool.false_or, eqCells, eqCell, rowOf, ↓acallop, aBound, aIntOf, flat, flatN, CX_fn, CX_X, CX_pol, aStore, Nat.reduceBEq, List.size_toArray, Int.sub_zero, Int.zero_add, Int.add_zero, Int.toNat_zero, Int.reduceAdd, Int.reduceSub, Int.reduceMul, Int.reduceNeg, Int.reduceToNat, Nat.reduceSub, Nat.reduceMul, Int.natCast_zero, Int.reduceDiv, Int.reduceMod, Int.toNat_natCast, fdiv_nn, min_bits_i, Int.reducePow, Nat.reducePow, Nat.reduceDiv, Nat.reduceMod, mb_i, mb_u, WpC_drawD, WpT_nil, WpT_cons, WpT_guard, WpK_nil, scal, g1, g3, g4, hbox, hq, hcall, min_if])
        refine ⟨n - 1, by omega, i + 1, min (y + tsz l[i]) 10000, by omega, by (first | rfl | (simp only [Env_put_some, Env_put_none, ↓Env_set_at, ↓reduceIte, Nat.reduceEqDiff, g1] <;> rfl)), by (first | rfl | (simp only [Env_put_some, Env_put_none, ↓Env_set_at, ↓reduceIte, Nat.reduceEqDiff] <;> rfl)), by (first | rfl | (simp only [Env_put_some, Env_put_none, ↓Env_set_at, ↓reduceIte, Nat.reduceEqDiff] <;> rfl)), rfl, ?_, by omega, by omega⟩
        rw [← hr, hr0]
      · rw [List.drop_eq_nil_of_le (by omega)] at hr
        have e0 : tszs [] y = y := by simp only [tszs]
        rw [e0] at hr
        simp only [lp53_0, evA, ↓evB, ↓astep, ↓aop, aBin, aInt, aStr, aUn, aNil, aMax, aresults, ares, aPack, ↓reduceIte, ↓reduceCtorEq, Nat.reduceEqDiff, Nat.reduceAdd, env0, aLoad, aLoadN, cellsOf, Int.reduceEq, Int.reduceLT, Int.reduceLE, Nat.reduceLeDiff, oneC, aop.fillL, setL, aApp, aAppC_nil, aAppC_own, xop, aSame_ptr, BIG, Bool.or_true, Bool.true_or, Bool.or_false, Bool.false_or, eqCells, eqCell, rowOf, ↓acallop, aBound, aIntOf, flat, flatN, CX_fn, CX_X, CX_pol, aStore, Nat.reduceBEq, List.size_toArray, Int.sub_zero, Int.zero_add, Int.add_zero, Int.toNat_zero, Int.reduceAdd, Int.reduceSub, Int.reduceMul, Int.reduceNeg, Int.reduceToNat, Nat.reduceSub, Nat.reduceMul, Int.natCast_zero, Int.reduceDiv, Int.reduceMod, Int.toNat_natCast, fdiv_nn, min_bits_i, Int.reducePow, Nat.reducePow, Nat.reduceDiv, Nat.reduceMod, mb_i, mb_u, WpC_drawD, WpT_nil, WpT_cons, WpT_guard, WpK_nil, scal, g1, g3, g4, hbox]
        (repeat' first
    | (refine CondV_dec (fun _ => ?_) (fun _ => ?_) <;> try (exfalso; omega))
    | (refine GuardV_td (fun _ => ?_) (fun _ => ?_) <;> try (exfalso; omega))
    | (refine GuardV_fd (fun _ => ?_) (fun _ => ?_) <;> try (exfalso; omega))
    | (refine CondV_split (fun _ => ?_) (fun _ => ?_))
    | (refine Need_of (by first | omega | decide) ?_)
    | refine WpK_cons ?_ ?_
    | refine WpK_guard ?_
    | simp (disch := first | omega | simp only [List.length_append, List.length_set, List.length_cons, List.length_nil] <;> omega | fail) only [evA, ↓evB, ↓astep, ↓aop, aBin, aInt, aStr, aUn, aNil, aMax, aresults, ares, aPack, ↓reduceIte, ↓reduceCtorEq, Nat.reduceEqDiff, Nat.reduceAdd, env0, aLoad, aLoadN, cellsOf, Int.reduceEq, Int.reduceLT, Int.reduceLE, Nat.reduceLeDiff, oneC, aop.fillL, setL, aApp, aAppC_nil, aAppC_own, xop, aSame_ptr, BIG, Bool.or_true, Bool.true_or, Bool.or_false, Bool.false_or, eqCells, eqCell, rowOf, ↓acallop, aBound, aIntOf, flat, flatN, CX_fn, CX_X, CX_pol, aStore, Nat.reduceBEq, List.size_toArray, Int.sub_zero, Int.zero_add, Int.add_zero, Int.toNat_zero, Int.reduceAdd, Int.reduceSub, Int.reduceMul, Int.reduceNeg, Int.reduceToNat, Nat.reduceSub, Nat.reduceMul, Int.natCast_zero, Int.reduceDiv, Int.reduceMod, Int.toNat_natCast, fdiv_nn, min_bits_i, Int.reducePow, Nat.reducePow, Nat.reduceDiv, Nat.reduceMod, mb_i, mb_u, WpC_drawD, WpT_nil, WpT_cons, WpT_guard, WpK_nil, scal, g1, g3, g4, hbox])
        unfold tsz
        rw [← hr]
    · exact ⟨0, _, by omega, rfl, rfl, rfl, rfl, rfl, by omega, by omega⟩

def ICount (Hc : Heap) (j : Nat) (l : List Tr) (n : Nat) (e : Env) (H : Heap) : Prop :=
  ∃ (i x : Nat), i + n = l.length ∧ e 1 = .pointer (some ⟨j, 0, none⟩) ∧ e 3 = .int .i64 (x : Int) ∧ e 4 = .int .i64 (i : Int) ∧ H = Hc ∧ x + szs (l.drop i) = 1 + szs l

theorem wCount : ∀ (N : Nat) (t : Tr), sz t ≤ N → sz t ≤ 5000 → ∀ (H : Heap) (S : Nat → Prop) (v : Value), ItemV H S t v → ∀ (m : Ev.Mode) (k : Nat), sz t + 2 ≤ k →
    Run (fun v' _ => v' = .int .i64 (sz t : Int)) mk (acall T0 k 56 [v] H m) := by
  intro N
  induction N with
  | zero => intro t h; have := sz_pos t; omega
  | succ N ih =>
    intro t hN h5 H S v hv m k hk
    obtain ⟨t, b, l⟩ := t
    obtain ⟨cs, rfl, hv⟩ := hv
    unfold ItemAt at hv
    obtain ⟨a, c, rfl, hsub⟩ := hv
    obtain ⟨k, rfl⟩ : ∃ q, k = q + 1 := ⟨k - 1, by omega⟩
    have hls := len_szs l
    unfold sz at hN hk h5
    refine Run_call (F := ir56) rfl (Nat.le_of_ble_eq_true rfl) ?_
    obtain ⟨Hc, hHc⟩ : ∃ Hc : Heap, Hc = H ++ [.cells [.string t, .bool b, .slice a l.length c] 24 true] := ⟨_, rfl⟩
    have hold : Held Hc S H.length t b l a c := ⟨by rw [hHc]; simp, fun hne => by
      obtain ⟨i, T, own, cells, h1, h2, h3, h4, h5⟩ := hsub hne
      exact ⟨i, T, own, cells, h1, h2, h3, by rw [hHc]; exact get_app h4 _, by rw [hHc]; exact h5.app _⟩⟩
    have hbox := hold.box
    simp only [ir56]
    (repeat' first
    | (refine CondV_dec (fun _ => ?_) (fun _ => ?_) <;> try (exfalso; omega))
    | (refine GuardV_td (fun _ => ?_) (fun _ => ?_) <;> try (exfalso; omega))
    | (refine GuardV_fd (fun _ => ?_) (fun _ => ?_) <;> try (exfalso; omega))
    | (refine CondV_split (fun _ => ?_) (fun _ => ?_))
    | (refine Need_of (by first | omega | decide) ?_)
    | refine WpK_cons ?_ ?_
    | refine WpK_guard ?_
    | simp (disch := first | omega | simp only [List.length_append, List.length_set, List.length_cons, List.length_nil] <;> omega | fail) only [evA, ↓evB, ↓astep, ↓aop, aBin, aInt, aStr, aUn, aNil, aMax, aresults, ares, aPack, ↓reduceIte, ↓reduceCtorEq, Nat.reduceEqDiff, Nat.reduceAdd, env0, aLoad, aLoadN, cellsOf, Int.reduceEq, Int.reduceLT, Int.reduceLE, Nat.reduceLeDiff, oneC, aop.fillL, setL, aApp, aAppC_nil, aAppC_own, xop, aSame_ptr, BIG, Bool.or_true, Bool.true_or, Bool.or_false, Bool.false_or, eqCells, eqCell, rowOf, ↓acallop, aBound, aIntOf, flat, flatN, CX_fn, CX_X, CX_pol, aStore, Nat.reduceBEq, List.size_toArray, Int.sub_zero, Int.zero_add, Int.add_zero, Int.toNat_zero, Int.reduceAdd, Int.reduceSub, Int.reduceMul, Int.reduceNeg, Int.reduceToNat, Nat.reduceSub, Nat.reduceMul, Int.natCast_zero, Int.reduceDiv, Int.reduceMod, Int.toNat_natCast, fdiv_nn, min_bits_i, Int.reducePow, Nat.reducePow, Nat.reduceDiv, Nat.reduceMod, mb_i, mb_u, WpC_drawD, WpT_nil, WpT_cons, WpT_guard, WpK_nil, scal, ← hHc, hbox])
    refine WpC_loop (ICount Hc H.length l) ?_ (n := l.length) (show l.length < k by omega) ?_
    · rintro n e H1 ⟨i, y, hi, g1, g3, g4, rfl, hr⟩
      by_cases hc : i < l.length
      · obtain ⟨q, T, own, cells, rfl, rfl, hSq, hq, hle, hit⟩ := hold.get hc
        have hr0 : szs (l.drop i) = sz l[i] + szs (l.drop (i + 1)) := by rw [drop_cons' hc, szs]
        have hsl := sz_get hc
        have := ih l[i] (by omega) (by omega) H1 S _ ⟨_, rfl, hit⟩ ⟨H1.length, H1.length⟩ k (by omega)
        obtain ⟨v, H', hcall, rfl⟩ := Run_get this
        have hcall := hcall k (Nat.le_refl _)
        simp only [T0] at hcall
        simp only [lp56_0, evA, ↓evB, ↓astep, ↓aop, aBin, aInt, aStr, aUn, aNil, aMax, aresults, ares, aPack, ↓reduceIte, ↓reduceCtorEq, Nat.reduceEqDiff, Nat.reduceAdd, env0, aLoad, aLoadN, cellsOf, Int.reduceEq, Int.reduceLT, Int.reduceLE, Nat.reduceLeDiff, oneC, aop.fillL, setL, aApp, aAppC_nil, aAppC_own, xop, aSame_ptr, BIG, Bool.or_true, Bool.true_or, Bool.or_false, Bool.false_or, eqCells, eqCell, rowOf, ↓acallop, aBound, aIntOf, flat, flatN, CX_fn, CX_X, CX_pol, aStore, Nat.reduceBEq, List.size_toArray, Int.sub_zero, Int.zero_add, Int.add_zero, Int.toNat_zero, Int.reduceAdd, Int.reduceSub, Int.reduceMul, Int.reduceNeg, Int.reduceToNat, Nat.reduceSub, Nat.reduceMul, Int.natCast_zero, Int.reduceDiv, Int.reduceMod, Int.toNat_natCast, fdiv_nn, min_bits_i, Int.reducePow, Nat.reducePow, Nat.reduceDiv, Nat.reduceMod, mb_i, mb_u, WpC_drawD, WpT_nil, WpT_cons, WpT_guard, WpK_nil, scal, g1, g3, g4, hbox, T0]
        (repeat' first
    | (refine CondV_dec (fun _ => ?_) (fun _ => ?_) <;> try (exfalso; omega))
    | (refine GuardV_td (fun _ => ?_) (fun _ => ?_) <;> try (exfalso; omega))
    | (refine GuardV_fd (fun _ => ?_) (fun _ => ?_) <;> try (exfalso; omega))
    | (refine CondV_split (fun _ => ?_) (fun _ => ?_))
    | (refine Need_of (by first | omega | decide) ?_)
    | refine WpK_cons ?_ ?_
    | refine WpK_guard ?_
    | simp (disch := first | omega | simp only [List.length_append, List.length_set, List.length_cons, List.length_nil] <;> omega | fail) only [evA, ↓evB, ↓astep, ↓aop, aBin, aInt, aStr, aUn, aNil, aMax, aresults, ares, aPack, ↓reduceIte, ↓reduceCtorEq, Nat.reduceEqDiff, Nat.reduceAdd, env0, aLoad, aLoadN, cellsOf, Int.reduceEq, Int.reduceLT, Int.reduceLE, Nat.reduceLeDiff, oneC, aop.fillL, setL, aApp, aAppC_nil, aAppC_own, xop, aSame_ptr, BIG, Bool.or_true, Bool.true_or, Bool.or_false, Bool.false_or, eqCells, eqCell, rowOf, ↓acallop, aBound, aIntOf, flat, flatN, CX_fn, CX_X, CX_pol, aStore, Nat.reduceBEq, List.size_toArray, Int.sub_zero, Int.zero_add, Int.add_zero, Int.toNat_zero, Int.reduceAdd, Int.reduceSub, Int.reduceMul, Int.reduceNeg, Int.reduceToNat, Nat.reduceSub, Nat.reduceMul, Int.natCast_zero, Int.reduceDiv, Int.reduceMod, Int.toNat_natCast, fdiv_nn, min_bits_i, Int.reducePow, Nat.reducePow, Nat.reduceDiv, Nat.reduceMod, mb_i, mb_u, WpC_drawD, WpT_nil, WpT_cons, WpT_guard, WpK_nil, scal, g1, g3, g4, hbox, hq, hcall])
        refine ⟨n - 1, by omega, i + 1, y + sz l[i], by omega, by (first | rfl | (simp only [Env_put_some, Env_put_none, ↓Env_set_at, ↓reduceIte, Nat.reduceEqDiff, g1] <;> rfl)), by (first | rfl | (simp only [Env_put_some, Env_put_none, ↓Env_set_at, ↓reduceIte, Nat.reduceEqDiff] <;> rfl)), by (first | rfl | (simp only [Env_put_some, Env_put_none, ↓Env_set_at, ↓reduceIte, Nat.reduceEqDiff] <;> rfl)), rfl, ?_⟩
        omega
      · rw [List.drop_eq_nil_of_le (by omega)] at hr
        have e0 : szs [] = 0 := by simp only [szs]
        rw [e0] at hr
        simp only [lp56_0, evA, ↓evB, ↓astep, ↓aop, aBin, aInt, aStr, aUn, aNil, aMax, aresults, ares, aPack, ↓reduceIte, ↓reduceCtorEq, Nat.reduceEqDiff, Nat.reduceAdd, env0, aLoad, aLoadN, cellsOf, Int.reduceEq, Int.reduceLT, Int.reduceLE, Nat.reduceLeDiff, oneC, aop.fillL, setL, aApp, aAppC_nil, aAppC_own, xop, aSame_ptr, BIG, Bool.or_true, Bool.true_or, Bool.or_false, Bool.false_or, eqCells, eqCell, rowOf, ↓acallop, aBound, aIntOf, flat, flatN, CX_fn, CX_X, CX_pol, aStore, Nat.reduceBEq, List.size_toArray, Int.sub_zero, Int.zero_add, Int.add_zero, Int.toNat_zero, Int.reduceAdd, Int.reduceSub, Int.reduceMul, Int.reduceNeg, Int.reduceToNat, Nat.reduceSub, Nat.reduceMul, Int.natCast_zero, Int.reduceDiv, Int.reduceMod, Int.toNat_natCast, fdiv_nn, min_bits_i, Int.reducePow, Nat.reducePow, Nat.reduceDiv, Nat.reduceMod, mb_i, mb_u, WpC_drawD, WpT_nil, WpT_cons, WpT_guard, WpK_nil, scal, g1, g3, g4, hbox]
        (repeat' first
    | (refine CondV_dec (fun _ => ?_) (fun _ => ?_) <;> try (exfalso; omega))
    | (refine GuardV_td (fun _ => ?_) (fun _ => ?_) <;> try (exfalso; omega))
    | (refine GuardV_fd (fun _ => ?_) (fun _ => ?_) <;> try (exfalso; omega))
    | (refine CondV_split (fun _ => ?_) (fun _ => ?_))
    | (refine Need_of (by first | omega | decide) ?_)
    | refine WpK_cons ?_ ?_
    | refine WpK_guard ?_
    | simp (disch := first | omega | simp only [List.length_append, List.length_set, List.length_cons, List.length_nil] <;> omega | fail) only [evA, ↓evB, ↓astep, ↓aop, aBin, aInt, aStr, aUn, aNil, aMax, aresults, ares, aPack, ↓reduceIte, ↓reduceCtorEq, Nat.reduceEqDiff, Nat.reduceAdd, env0, aLoad, aLoadN, cellsOf, Int.reduceEq, Int.reduceLT, Int.reduceLE, Nat.reduceLeDiff, oneC, aop.fillL, setL, aApp, aAppC_nil, aAppC_own, xop, aSame_ptr, BIG, Bool.or_true, Bool.true_or, Bool.or_false, Bool.false_or, eqCells, eqCell, rowOf, ↓acallop, aBound, aIntOf, flat, flatN, CX_fn, CX_X, CX_pol, aStore, Nat.reduceBEq, List.size_toArray, Int.sub_zero, Int.zero_add, Int.add_zero, Int.toNat_zero, Int.reduceAdd, Int.reduceSub, Int.reduceMul, Int.reduceNeg, Int.reduceToNat, Nat.reduceSub, Nat.reduceMul, Int.natCast_zero, Int.reduceDiv, Int.reduceMod, Int.toNat_natCast, fdiv_nn, min_bits_i, Int.reducePow, Nat.reducePow, Nat.reduceDiv, Nat.reduceMod, mb_i, mb_u, WpC_drawD, WpT_nil, WpT_cons, WpT_guard, WpK_nil, scal, g1, g3, g4, hbox])
        unfold sz
        rw [← hr]; rfl
    · exact ⟨0, 1, by omega, rfl, rfl, rfl, rfl, rfl⟩

theorem dp_le : ∀ (t : Tr), dp t ≤ sz t := by
  have key : ∀ N t, sz t ≤ N → dp t ≤ sz t := by
    intro N
    induction N with
    | zero => intro t h; have := sz_pos t; omega
    | succ N ih =>
      intro t h
      obtain ⟨t, b, l⟩ := t
      unfold sz at h
      unfold dp sz
      have : ∀ l : List Tr, szs l ≤ N → dps l ≤ szs l := by
        intro l
        induction l with
        | nil => intro _; simp [dps]
        | cons x l ihl =>
          intro hl
          unfold szs at hl
          unfold dps szs
          have h1 := ih x (by omega)
          have h2 := ihl (by omega)
          omega
      have := this l (by omega)
      omega
  exact fun t => key _ t (Nat.le_refl _)
def IDeep (Hc : Heap) (j : Nat) (l : List Tr) (n : Nat) (e : Env) (H : Heap) : Prop :=
  ∃ (i x : Nat), i + n = l.length ∧ e 1 = .pointer (some ⟨j, 0, none⟩) ∧ e 3 = .int .i64 (x : Int) ∧ e 4 = .int .i64 (i : Int) ∧ H = Hc ∧ max x (dps (l.drop i)) = dps l ∧ x ≤ 5000

theorem wDeep : ∀ (N : Nat) (t : Tr), sz t ≤ N → sz t ≤ 5000 → ∀ (H : Heap) (S : Nat → Prop) (v : Value), ItemV H S t v → ∀ (m : Ev.Mode) (k : Nat), sz t + 2 ≤ k →
    Run (fun v' _ => v' = .int .i64 (dp t : Int)) mk (acall T0 k 55 [v] H m) := by
  intro N
  induction N with
  | zero => intro t h; have := sz_pos t; omega
  | succ N ih =>
    intro t hN h5 H S v hv m k hk
    obtain ⟨t, b, l⟩ := t
    obtain ⟨cs, rfl, hv⟩ := hv
    unfold ItemAt at hv
    obtain ⟨a, c, rfl, hsub⟩ := hv
    obtain ⟨k, rfl⟩ : ∃ q, k = q + 1 := ⟨k - 1, by omega⟩
    have hls := len_szs l
    unfold sz at hN hk h5
    refine Run_call (F := ir55) rfl (Nat.le_of_ble_eq_true rfl) ?_
    obtain ⟨Hc, hHc⟩ : ∃ Hc : Heap, Hc = H ++ [.cells [.string t, .bool b, .slice a l.length c] 24 true] := ⟨_, rfl⟩
    have hold : Held Hc S H.length t b l a c := ⟨by rw [hHc]; simp, fun hne => by
      obtain ⟨i, T, own, cells, h1, h2, h3, h4, h5⟩ := hsub hne
      exact ⟨i, T, own, cells, h1, h2, h3, by rw [hHc]; exact get_app h4 _, by rw [hHc]; exact h5.app _⟩⟩
    have hbox := hold.box
    simp only [ir55]
    (repeat' first
    | (refine CondV_dec (fun _ => ?_) (fun _ => ?_) <;> try (exfalso; omega))
    | (refine GuardV_td (fun _ => ?_) (fun _ => ?_) <;> try (exfalso; omega))
    | (refine GuardV_fd (fun _ => ?_) (fun _ => ?_) <;> try (exfalso; omega))
    | (refine CondV_split (fun _ => ?_) (fun _ => ?_))
    | (refine Need_of (by first | omega | decide) ?_)
    | refine WpK_cons ?_ ?_
    | refine WpK_guard ?_
    | simp (disch := first | omega | simp only [List.length_append, List.length_set, List.length_cons, List.length_nil] <;> omega | fail) only [evA, ↓evB, ↓astep, ↓aop, aBin, aInt, aStr, aUn, aNil, aMax, aresults, ares, aPack, ↓reduceIte, ↓reduceCtorEq, Nat.reduceEqDiff, Nat.reduceAdd, env0, aLoad, aLoadN, cellsOf, Int.reduceEq, Int.reduceLT, Int.reduceLE, Nat.reduceLeDiff, oneC, aop.fillL, setL, aApp, aAppC_nil, aAppC_own, xop, aSame_ptr, BIG, Bool.or_true, Bool.true_or, Bool.or_false, Bool.false_or, eqCells, eqCell, rowOf, ↓acallop, aBound, aIntOf, flat, flatN, CX_fn, CX_X, CX_pol, aStore, Nat.reduceBEq, List.size_toArray, Int.sub_zero, Int.zero_add, Int.add_zero, Int.toNat_zero, Int.reduceAdd, Int.reduceSub, Int.reduceMul, Int.reduceNeg, Int.reduceToNat, Nat.reduceSub, Nat.reduceMul, Int.natCast_zero, Int.reduceDiv, Int.reduceMod, Int.toNat_natCast, fdiv_nn, min_bits_i, Int.reducePow, Nat.reducePow, Nat.reduceDiv, Nat.reduceMod, mb_i, mb_u, WpC_drawD, WpT_nil, WpT_cons, WpT_guard, WpK_nil, scal, ← hHc, hbox])
    refine WpC_loop (IDeep Hc H.length l) ?_ (n := l.length) (show l.length < k by omega) ?_
    · rintro n e H1 ⟨i, y, hi, g1, g3, g4, rfl, hr, hy⟩
      by_cases hc : i < l.length
      · obtain ⟨q, T, own, cells, rfl, rfl, hSq, hq, hle, hit⟩ := hold.get hc
        have hr0 : dps (l.drop i) = max (dp l[i]) (dps (l.drop (i + 1))) := by rw [drop_cons' hc, dps]
        have hsl := sz_get hc
        have hdl := dp_le l[i]
        have := ih l[i] (by omega) (by omega) H1 S _ ⟨_, rfl, hit⟩ ⟨H1.length, H1.length⟩ k (by omega)
        obtain ⟨v, H', hcall, rfl⟩ := Run_get this
        have hcall := hcall k (Nat.le_refl _)
        simp only [T0] at hcall
        simp only [lp55_0, evA, ↓evB, ↓astep, ↓aop, aBin, aInt, aStr, aUn, aNil, aMax, aresults, ares, aPack, ↓reduceIte, ↓reduceCtorEq, Nat.reduceEqDiff, Nat.reduceAdd, env0, aLoad, aLoadN, cellsOf, Int.reduceEq, Int.reduceLT, Int.reduceLE, Nat.reduceLeDiff, oneC, aop.fillL, setL, aApp, aAppC_nil, aAppC_own, xop, aSame_ptr, BIG, Bool.or_true, Bool.true_or, Bool.or_false, Bool.false_or, eqCells, eqCell, rowOf, ↓acallop, aBound, aIntOf, flat, flatN, CX_fn, CX_X, CX_pol, aStore, Nat.reduceBEq, List.size_toArray, Int.sub_zero, Int.zero_add, Int.add_zero, Int.toNat_zero, Int.reduceAdd, Int.reduceSub, Int.reduceMul, Int.reduceNeg, Int.reduceToNat, Nat.reduceSub, Nat.reduceMul, Int.natCast_zero, Int.reduceDiv, Int.reduceMod, Int.toNat_natCast, fdiv_nn, min_bits_i, Int.reducePow, Nat.reducePow, Nat.reduceDiv, Nat.reduceMod, mb_i, mb_u, WpC_drawD, WpT_nil, WpT_cons, WpT_guard, WpK_nil, scal, g1, g3, g4, hbox, T0]
        by_cases hlt : y < dp l[i]
        · (repeat' first
    | (refine CondV_dec (fun _ => ?_) (fun _ => ?_) <;> try (exfalso; omega))
    | (refine GuardV_td (fun _ => ?_) (fun _ => ?_) <;> try (exfalso; omega))
    | (refine GuardV_fd (fun _ => ?_) (fun _ => ?_) <;> try (exfalso; omega))
    | (refine CondV_split (fun _ => ?_) (fun _ => ?_))
    | (refine Need_of (by first | omega | decide) ?_)
    | refine WpK_cons ?_ ?_
    | refine WpK_guard ?_
    | simp (disch := first | omega | simp only [List.length_append, List.length_set, List.length_cons, List.length_nil] <;> omega | fail) only [evA, ↓evB, ↓astep, ↓aop, aBin, aInt, aStr, aUn, aNil, aMax, aresults, ares, aPack, ↓reduceIte, ↓reduceCtorEq, Nat.reduceEqDiff, Nat.reduceAdd, env0, aLoad, aLoadN, cellsOf, Int.reduceEq, Int.reduceLT, Int.reduceLE, Nat.reduceLeDiff, oneC, aop.fillL, setL, aApp, aAppC_nil, aAppC_own, xop, aSame_ptr, BIG, Bool.or_true, Bool.true_or, Bool.or_false, Bool.false_or, eqCells, eqCell, rowOf, ↓acallop, aBound, aIntOf, flat, flatN, CX_fn, CX_X, CX_pol, aStore, Nat.reduceBEq, List.size_toArray, Int.sub_zero, Int.zero_add, Int.add_zero, Int.toNat_zero, Int.reduceAdd, Int.reduceSub, Int.reduceMul, Int.reduceNeg, Int.reduceToNat, Nat.reduceSub, Nat.reduceMul, Int.natCast_zero, Int.reduceDiv, Int.reduceMod, Int.toNat_natCast, fdiv_nn, min_bits_i, Int.reducePow, Nat.reducePow, Nat.reduceDiv, Nat.reduceMod, mb_i, mb_u, WpC_drawD, WpT_nil, WpT_cons, WpT_guard, WpK_nil, scal, g1, g3, g4, hbox, hq, hcall])
          refine ⟨n - 1, by omega, i + 1, dp l[i], by omega, by (first | rfl | (simp only [Env_put_some, Env_put_none, ↓Env_set_at, ↓reduceIte, Nat.reduceEqDiff, g1] <;> rfl)), by (first | rfl | (simp only [Env_put_some, Env_put_none, ↓Env_set_at, ↓reduceIte, Nat.reduceEqDiff] <;> rfl)), by (first | rfl | (simp only [Env_put_some, Env_put_none, ↓Env_set_at, ↓reduceIte, Nat.reduceEqDiff] <;> rfl)), rfl, ?_, by omega⟩
          omega
        · (repeat' first
    | (refine CondV_dec (fun _ => ?_) (fun _ => ?_) <;> try (exfalso; omega))
    | (refine GuardV_td (fun _ => ?_) (fun _ => ?_) <;> try (exfalso; omega))
    | (refine GuardV_fd (fun _ => ?_) (fun _ => ?_) <;> try (exfalso; omega))
    | (refine CondV_split (fun _ => ?_) (fun _ => ?_))
    | (refine Need_of (by first | omega | decide) ?_)
    | refine WpK_cons ?_ ?_
    | refine WpK_guard ?_
    | simp (disch := first | omega | simp only [List.length_append, List.length_set, List.length_cons, List.length_nil] <;> omega | fail) only [evA, ↓evB, ↓astep, ↓aop, aBin, aInt, aStr, aUn, aNil, aMax, aresults, ares, aPack, ↓reduceIte, ↓reduceCtorEq, Nat.reduceEqDiff, Nat.reduceAdd, env0, aLoad, aLoadN, cellsOf, Int.reduceEq, Int.reduceLT, Int.reduceLE, Nat.reduceLeDiff, oneC, aop.fillL, setL, aApp, aAppC_nil, aAppC_own, xop, aSame_ptr, BIG, Bool.or_true, Bool.true_or, Bool.or_false, Bool.false_or, eqCells, eqCell, rowOf, ↓acallop, aBound, aIntOf, flat, flatN, CX_fn, CX_X, CX_pol, aStore, Nat.reduceBEq, List.size_toArray, Int.sub_zero, Int.zero_add, Int.add_zero, Int.toNat_zero, Int.reduceAdd, Int.reduceSub, Int.reduceMul, Int.reduceNeg, Int.reduceToNat, Nat.reduceSub, Nat.reduceMul, Int.natCast_zero, Int.reduceDiv, Int.reduceMod, Int.toNat_natCast, fdiv_nn, min_bits_i, Int.reducePow, Nat.reducePow, Nat.reduceDiv, Nat.reduceMod, mb_i, mb_u, WpC_drawD, WpT_nil, WpT_cons, WpT_guard, WpK_nil, scal, g1, g3, g4, hbox, hq, hcall])
          refine ⟨n - 1, by omega, i + 1, y, by omega, by (first | rfl | (simp only [Env_put_some, Env_put_none, ↓Env_set_at, ↓reduceIte, Nat.reduceEqDiff, g1] <;> rfl)), by (first | rfl | (simp only [Env_put_some, Env_put_none, ↓Env_set_at, ↓reduceIte, Nat.reduceEqDiff, g3] <;> rfl)), by (first | rfl | (simp only [Env_put_some, Env_put_none, ↓Env_set_at, ↓reduceIte, Nat.reduceEqDiff] <;> rfl)), rfl, ?_, by omega⟩
          omega
      · rw [List.drop_eq_nil_of_le (by omega)] at hr
        have e0 : dps [] = 0 := by simp only [dps]
        rw [e0] at hr
        simp only [lp55_0, evA, ↓evB, ↓astep, ↓aop, aBin, aInt, aStr, aUn, aNil, aMax, aresults, ares, aPack, ↓reduceIte, ↓reduceCtorEq, Nat.reduceEqDiff, Nat.reduceAdd, env0, aLoad, aLoadN, cellsOf, Int.reduceEq, Int.reduceLT, Int.reduceLE, Nat.reduceLeDiff, oneC, aop.fillL, setL, aApp, aAppC_nil, aAppC_own, xop, aSame_ptr, BIG, Bool.or_true, Bool.true_or, Bool.or_false, Bool.false_or, eqCells, eqCell, rowOf, ↓acallop, aBound, aIntOf, flat, flatN, CX_fn, CX_X, CX_pol, aStore, Nat.reduceBEq, List.size_toArray, Int.sub_zero, Int.zero_add, Int.add_zero, Int.toNat_zero, Int.reduceAdd, Int.reduceSub, Int.reduceMul, Int.reduceNeg, Int.reduceToNat, Nat.reduceSub, Nat.reduceMul, Int.natCast_zero, Int.reduceDiv, Int.reduceMod, Int.toNat_natCast, fdiv_nn, min_bits_i, Int.reducePow, Nat.reducePow, Nat.reduceDiv, Nat.reduceMod, mb_i, mb_u, WpC_drawD, WpT_nil, WpT_cons, WpT_guard, WpK_nil, scal, g1, g3, g4, hbox]
        (repeat' first
    | (refine CondV_dec (fun _ => ?_) (fun _ => ?_) <;> try (exfalso; omega))
    | (refine GuardV_td (fun _ => ?_) (fun _ => ?_) <;> try (exfalso; omega))
    | (refine GuardV_fd (fun _ => ?_) (fun _ => ?_) <;> try (exfalso; omega))
    | (refine CondV_split (fun _ => ?_) (fun _ => ?_))
    | (refine Need_of (by first | omega | decide) ?_)
    | refine WpK_cons ?_ ?_
    | refine WpK_guard ?_
    | simp (disch := first | omega | simp only [List.length_append, List.length_set, List.length_cons, List.length_nil] <;> omega | fail) only [evA, ↓evB, ↓astep, ↓aop, aBin, aInt, aStr, aUn, aNil, aMax, aresults, ares, aPack, ↓reduceIte, ↓reduceCtorEq, Nat.reduceEqDiff, Nat.reduceAdd, env0, aLoad, aLoadN, cellsOf, Int.reduceEq, Int.reduceLT, Int.reduceLE, Nat.reduceLeDiff, oneC, aop.fillL, setL, aApp, aAppC_nil, aAppC_own, xop, aSame_ptr, BIG, Bool.or_true, Bool.true_or, Bool.or_false, Bool.false_or, eqCells, eqCell, rowOf, ↓acallop, aBound, aIntOf, flat, flatN, CX_fn, CX_X, CX_pol, aStore, Nat.reduceBEq, List.size_toArray, Int.sub_zero, Int.zero_add, Int.add_zero, Int.toNat_zero, Int.reduceAdd, Int.reduceSub, Int.reduceMul, Int.reduceNeg, Int.reduceToNat, Nat.reduceSub, Nat.reduceMul, Int.natCast_zero, Int.reduceDiv, Int.reduceMod, Int.toNat_natCast, fdiv_nn, min_bits_i, Int.reducePow, Nat.reducePow, Nat.reduceDiv, Nat.reduceMod, mb_i, mb_u, WpC_drawD, WpT_nil, WpT_cons, WpT_guard, WpK_nil, scal, g1, g3, g4, hbox])
        unfold dp
        rw [← hr]; simp
    · exact ⟨0, 0, by omega, rfl, rfl, rfl, rfl, by simp, by omega⟩

theorem str_empty (t : ByteArray) : (t = ⟨#[]⟩) = (t.size = 0) := by
  apply propext
  constructor
  · rintro rfl; rfl
  · intro h
    apply ByteArray.ext
    exact Array.eq_empty_of_size_eq_zero h
def IRight (Hc : Heap) (j : Nat) (l : List Tr) (n : Nat) (e : Env) (H : Heap) : Prop :=
  ∃ (i : Nat), i + n = l.length ∧ e 1 = .pointer (some ⟨j, 0, none⟩) ∧ e 3 = .int .i64 (i : Int) ∧ H = Hc ∧ rts (l.drop i) = rts l

theorem wRight : ∀ (N : Nat) (t : Tr), sz t ≤ N → sz t ≤ 5000 → ∀ (H : Heap) (S : Nat → Prop) (v : Value), ItemV H S t v → ∀ (m : Ev.Mode) (k : Nat), sz t + 2 ≤ k →
    Run (fun v' _ => v' = .bool (rt t)) mk (acall T0 k 54 [v] H m) := by
  intro N
  induction N with
  | zero => intro t h; have := sz_pos t; omega
  | succ N ih =>
    intro t hN h5 H S v hv m k hk
    obtain ⟨t, b, l⟩ := t
    obtain ⟨cs, rfl, hv⟩ := hv
    unfold ItemAt at hv
    obtain ⟨a, c, rfl, hsub⟩ := hv
    obtain ⟨k, rfl⟩ : ∃ q, k = q + 1 := ⟨k - 1, by omega⟩
    have hls := len_szs l
    unfold sz at hN hk h5
    refine Run_call (F := ir54) rfl (Nat.le_of_ble_eq_true rfl) ?_
    obtain ⟨Hc, hHc⟩ : ∃ Hc : Heap, Hc = H ++ [.cells [.string t, .bool b, .slice a l.length c] 24 true] := ⟨_, rfl⟩
    have hold : Held Hc S H.length t b l a c := ⟨by rw [hHc]; simp, fun hne => by
      obtain ⟨i, T, own, cells, h1, h2, h3, h4, h5⟩ := hsub hne
      exact ⟨i, T, own, cells, h1, h2, h3, by rw [hHc]; exact get_app h4 _, by rw [hHc]; exact h5.app _⟩⟩
    have hbox := hold.box
    simp only [ir54]
    by_cases hok : (b = true ∧ t.size ≠ 0) ∨ (b = false ∧ l.length ≠ 0)
    · rcases hok with ⟨rfl, h0⟩ | ⟨rfl, h0⟩
      · (repeat' first
    | (refine CondV_dec (fun _ => ?_) (fun _ => ?_) <;> try (exfalso; omega))
    | (refine GuardV_td (fun _ => ?_) (fun _ => ?_) <;> try (exfalso; omega))
    | (refine GuardV_fd (fun _ => ?_) (fun _ => ?_) <;> try (exfalso; omega))
    | (refine CondV_split (fun _ => ?_) (fun _ => ?_))
    | (refine Need_of (by first | omega | decide) ?_)
    | refine WpK_cons ?_ ?_
    | refine WpK_guard ?_
    | simp (disch := first | omega | simp only [List.length_append, List.length_set, List.length_cons, List.length_nil] <;> omega | fail) only [evA, ↓evB, ↓astep, ↓aop, aBin, aInt, aStr, aUn, aNil, aMax, aresults, ares, aPack, ↓reduceIte, ↓reduceCtorEq, Nat.reduceEqDiff, Nat.reduceAdd, env0, aLoad, aLoadN, cellsOf, Int.reduceEq, Int.reduceLT, Int.reduceLE, Nat.reduceLeDiff, oneC, aop.fillL, setL, aApp, aAppC_nil, aAppC_own, xop, aSame_ptr, BIG, Bool.or_true, Bool.true_or, Bool.or_false, Bool.false_or, eqCells, eqCell, rowOf, ↓acallop, aBound, aIntOf, flat, flatN, CX_fn, CX_X, CX_pol, aStore, Nat.reduceBEq, List.size_toArray, Int.sub_zero, Int.zero_add, Int.add_zero, Int.toNat_zero, Int.reduceAdd, Int.reduceSub, Int.reduceMul, Int.reduceNeg, Int.reduceToNat, Nat.reduceSub, Nat.reduceMul, Int.natCast_zero, Int.reduceDiv, Int.reduceMod, Int.toNat_natCast, fdiv_nn, min_bits_i, Int.reducePow, Nat.reducePow, Nat.reduceDiv, Nat.reduceMod, mb_i, mb_u, WpC_drawD, WpT_nil, WpT_cons, WpT_guard, WpK_nil, scal, ← hHc, hbox, str_empty, h0])
        unfold rt; simp [h0]
      · (repeat' first
    | (refine CondV_dec (fun _ => ?_) (fun _ => ?_) <;> try (exfalso; omega))
    | (refine GuardV_td (fun _ => ?_) (fun _ => ?_) <;> try (exfalso; omega))
    | (refine GuardV_fd (fun _ => ?_) (fun _ => ?_) <;> try (exfalso; omega))
    | (refine CondV_split (fun _ => ?_) (fun _ => ?_))
    | (refine Need_of (by first | omega | decide) ?_)
    | refine WpK_cons ?_ ?_
    | refine WpK_guard ?_
    | simp (disch := first | omega | simp only [List.length_append, List.length_set, List.length_cons, List.length_nil] <;> omega | fail) only [evA, ↓evB, ↓astep, ↓aop, aBin, aInt, aStr, aUn, aNil, aMax, aresults, ares, aPack, ↓reduceIte, ↓reduceCtorEq, Nat.reduceEqDiff, Nat.reduceAdd, env0, aLoad, aLoadN, cellsOf, Int.reduceEq, Int.reduceLT, Int.reduceLE, Nat.reduceLeDiff, oneC, aop.fillL, setL, aApp, aAppC_nil, aAppC_own, xop, aSame_ptr, BIG, Bool.or_true, Bool.true_or, Bool.or_false, Bool.false_or, eqCells, eqCell, rowOf, ↓acallop, aBound, aIntOf, flat, flatN, CX_fn, CX_X, CX_pol, aStore, Nat.reduceBEq, List.size_toArray, Int.sub_zero, Int.zero_add, Int.add_zero, Int.toNat_zero, Int.reduceAdd, Int.reduceSub, Int.reduceMul, Int.reduceNeg, Int.reduceToNat, Nat.reduceSub, Nat.reduceMul, Int.natCast_zero, Int.reduceDiv, Int.reduceMod, Int.toNat_natCast, fdiv_nn, min_bits_i, Int.reducePow, Nat.reducePow, Nat.reduceDiv, Nat.reduceMod, mb_i, mb_u, WpC_drawD, WpT_nil, WpT_cons, WpT_guard, WpK_nil, scal, ← hHc, hbox, str_empty, h0])
        unfold rt; simp [h0]
    have hok' : (b = true ∧ t.size = 0) ∨ (b = false ∧ l.length = 0) := by cases b <;> simp at hok ⊢ <;> omega
    rcases hok' with ⟨rfl, h0⟩ | ⟨rfl, h0⟩
    all_goals
      (repeat' first
    | (refine CondV_dec (fun _ => ?_) (fun _ => ?_) <;> try (exfalso; omega))
    | (refine GuardV_td (fun _ => ?_) (fun _ => ?_) <;> try (exfalso; omega))
    | (refine GuardV_fd (fun _ => ?_) (fun _ => ?_) <;> try (exfalso; omega))
    | (refine CondV_split (fun _ => ?_) (fun _ => ?_))
    | (refine Need_of (by first | omega | decide) ?_)
    | refine WpK_cons ?_ ?_
    | refine WpK_guard ?_
    | simp (disch := first | omega | simp only [List.length_append, List.length_set, List.length_cons, List.length_nil] <;> omega | fail) only [evA, ↓evB, ↓astep, ↓aop, aBin, aInt, aStr, aUn, aNil, aMax, aresults, ares, aPack, ↓reduceIte, ↓reduceCtorEq, Nat.reduceEqDiff, Nat.reduceAdd, env0, aLoad, aLoadN, cellsOf, Int.reduceEq, Int.reduceLT, Int.reduceLE, Nat.reduceLeDiff, oneC, aop.fillL, setL, aApp, aAppC_nil, aAppC_own, xop, aSame_ptr, BIG, Bool.or_true, Bool.true_or, Bool.or_false, Bool.false_or, eqCells, eqCell, rowOf, ↓acallop, aBound, aIntOf, flat, flatN, CX_fn, CX_X, CX_pol, aStore, Nat.reduceBEq, List.size_toArray, Int.sub_zero, Int.zero_add, Int.add_zero, Int.toNat_zero, Int.reduceAdd, Int.reduceSub, Int.reduceMul, Int.reduceNeg, Int.reduceToNat, Nat.reduceSub, Nat.reduceMul, Int.natCast_zero, Int.reduceDiv, Int.reduceMod, Int.toNat_natCast, fdiv_nn, min_bits_i, Int.reducePow, Nat.reducePow, Nat.reduceDiv, Nat.reduceMod, mb_i, mb_u, WpC_drawD, WpT_nil, WpT_cons, WpT_guard, WpK_nil, scal, ← hHc, hbox, str_empty])
    all_goals
      refine WpC_loop (IRight Hc H.length l) ?_ (n := l.length) (show l.length < k by omega) ?_
      · rintro n e H1 ⟨i, hi, g1, g3, rfl, hr⟩
        by_cases hc : i < l.length
        · obtain ⟨q, T, own, cells, rfl, rfl, hSq, hq, hle, hit⟩ := hold.get hc
          have hr0 : rts (l.drop i) = (rt l[i] && rts (l.drop (i + 1))) := by rw [drop_cons' hc, rts]
          have hsl := sz_get hc
          have := ih l[i] (by omega) (by omega) H1 S _ ⟨_, rfl, hit⟩ ⟨H1.length, H1.length⟩ k (by omega)
          obtain ⟨v, H', hcall, rfl⟩ := Run_get this
          have hcall := hcall k (Nat.le_refl _)
          simp only [T0] at hcall
          simp only [lp54_0, evA, ↓evB, ↓astep, ↓aop, aBin, aInt, aStr, aUn, aNil, aMax, aresults, ares, aPack, ↓reduceIte, ↓reduceCtorEq, Nat.reduceEqDiff, Nat.reduceAdd, env0, aLoad, aLoadN, cellsOf, Int.reduceEq, Int.reduceLT, Int.reduceLE, Nat.reduceLeDiff, oneC, aop.fillL, setL, aApp, aAppC_nil, aAppC_own, xop, aSame_ptr, BIG, Bool.or_true, Bool.true_or, Bool.or_false, Bool.false_or, eqCells, eqCell, rowOf, ↓acallop, aBound, aIntOf, flat, flatN, CX_fn, CX_X, CX_pol, aStore, Nat.reduceBEq, List.size_toArray, Int.sub_zero, Int.zero_add, Int.add_zero, Int.toNat_zero, Int.reduceAdd, Int.reduceSub, Int.reduceMul, Int.reduceNeg, Int.reduceToNat, Nat.reduceSub, Nat.reduceMul, Int.natCast_zero, Int.reduceDiv, Int.reduceMod, Int.toNat_natCast, fdiv_nn, min_bits_i, Int.reducePow, Nat.reducePow, Nat.reduceDiv, Nat.reduceMod, mb_i, mb_u, WpC_drawD, WpT_nil, WpT_cons, WpT_guard, WpK_nil, scal, g1, g3, hbox, T0]
          cases hrt : rt l[i] with
          | true =>
            rw [hrt] at hcall hr0
            (repeat' first
    | (refine CondV_dec (fun _ => ?_) (fun _ => ?_) <;> try (exfalso; omega))
    | (refine GuardV_td (fun _ => ?_) (fun _ => ?_) <;> try (exfalso; omega))
    | (refine GuardV_fd (fun _ => ?_) (fun _ => ?_) <;> try (exfalso; omega))
    | (refine CondV_split (fun _ => ?_) (fun _ => ?_))
    | (refine Need_of (by first | omega | decide) ?_)
    | refine WpK_cons ?_ ?_
    | refine WpK_guard ?_
    | simp (disch := first | omega | simp only [List.length_append, List.length_set, List.length_cons, List.length_nil] <;> omega | fail) only [evA, ↓evB, ↓astep, ↓aop, aBin, aInt, aStr, aUn, aNil, aMax, aresults, ares, aPack, ↓reduceIte, ↓reduceCtorEq, Nat.reduceEqDiff, Nat.reduceAdd, env0, aLoad, aLoadN, cellsOf, Int.reduceEq, Int.reduceLT, Int.reduceLE, Nat.reduceLeDiff, oneC, aop.fillL, setL, aApp, aAppC_nil, aAppC_own, xop, aSame_ptr, BIG, Bool.or_true, Bool.true_or, Bool.or_false, Bool.false_or, eqCells, eqCell, rowOf, ↓acallop, aBound, aIntOf, flat, flatN, CX_fn, CX_X, CX_pol, aStore, Nat.reduceBEq, List.size_toArray, Int.sub_zero, Int.zero_add, Int.add_zero, Int.toNat_zero, Int.reduceAdd, Int.reduceSub, Int.reduceMul, Int.reduceNeg, Int.reduceToNat, Nat.reduceSub, Nat.reduceMul, Int.natCast_zero, Int.reduceDiv, Int.reduceMod, Int.toNat_natCast, fdiv_nn, min_bits_i, Int.reducePow, Nat.reducePow, Nat.reduceDiv, Nat.reduceMod, mb_i, mb_u, WpC_drawD, WpT_nil, WpT_cons, WpT_guard, WpK_nil, scal, g1, g3, hbox, hq, hcall])
            all_goals refine ⟨n - 1, by omega, i + 1, by omega, by (first | rfl | (simp only [Env_put_some, Env_put_none, ↓Env_set_at, ↓reduceIte, Nat.reduceEqDiff, g1] <;> rfl)), by (first | rfl | (simp only [Env_put_some, Env_put_none, ↓Env_set_at, ↓reduceIte, Nat.reduceEqDiff] <;> rfl)), rfl, ?_⟩
            all_goals rw [← hr, hr0, Bool.true_and]
          | false =>
            rw [hrt] at hcall hr0
            (repeat' first
    | (refine CondV_dec (fun _ => ?_) (fun _ => ?_) <;> try (exfalso; omega))
    | (refine GuardV_td (fun _ => ?_) (fun _ => ?_) <;> try (exfalso; omega))
    | (refine GuardV_fd (fun _ => ?_) (fun _ => ?_) <;> try (exfalso; omega))
    | (refine CondV_split (fun _ => ?_) (fun _ => ?_))
    | (refine Need_of (by first | omega | decide) ?_)
    | refine WpK_cons ?_ ?_
    | refine WpK_guard ?_
    | simp (disch := first | omega | simp only [List.length_append, List.length_set, List.length_cons, List.length_nil] <;> omega | fail) only [evA, ↓evB, ↓astep, ↓aop, aBin, aInt, aStr, aUn, aNil, aMax, aresults, ares, aPack, ↓reduceIte, ↓reduceCtorEq, Nat.reduceEqDiff, Nat.reduceAdd, env0, aLoad, aLoadN, cellsOf, Int.reduceEq, Int.reduceLT, Int.reduceLE, Nat.reduceLeDiff, oneC, aop.fillL, setL, aApp, aAppC_nil, aAppC_own, xop, aSame_ptr, BIG, Bool.or_true, Bool.true_or, Bool.or_false, Bool.false_or, eqCells, eqCell, rowOf, ↓acallop, aBound, aIntOf, flat, flatN, CX_fn, CX_X, CX_pol, aStore, Nat.reduceBEq, List.size_toArray, Int.sub_zero, Int.zero_add, Int.add_zero, Int.toNat_zero, Int.reduceAdd, Int.reduceSub, Int.reduceMul, Int.reduceNeg, Int.reduceToNat, Nat.reduceSub, Nat.reduceMul, Int.natCast_zero, Int.reduceDiv, Int.reduceMod, Int.toNat_natCast, fdiv_nn, min_bits_i, Int.reducePow, Nat.reducePow, Nat.reduceDiv, Nat.reduceMod, mb_i, mb_u, WpC_drawD, WpT_nil, WpT_cons, WpT_guard, WpK_nil, scal, g1, g3, hbox, hq, hcall])
            all_goals unfold rt
            all_goals rw [← hr, hr0, Bool.false_and, Bool.and_false]
        · rw [List.drop_eq_nil_of_le (by omega)] at hr
          have e0 : rts [] = true := by simp only [rts]
          rw [e0] at hr
          simp only [lp54_0, evA, ↓evB, ↓astep, ↓aop, aBin, aInt, aStr, aUn, aNil, aMax, aresults, ares, aPack, ↓reduceIte, ↓reduceCtorEq, Nat.reduceEqDiff, Nat.reduceAdd, env0, aLoad, aLoadN, cellsOf, Int.reduceEq, Int.reduceLT, Int.reduceLE, Nat.reduceLeDiff, oneC, aop.fillL, setL, aApp, aAppC_nil, aAppC_own, xop, aSame_ptr, BIG, Bool.or_true, Bool.true_or, Bool.or_false, Bool.false_or, eqCells, eqCell, rowOf, ↓acallop, aBound, aIntOf, flat, flatN, CX_fn, CX_X, CX_pol, aStore, Nat.reduceBEq, List.size_toArray, Int.sub_zero, Int.zero_add, Int.add_zero, Int.toNat_zero, Int.reduceAdd, Int.reduceSub, Int.reduceMul, Int.reduceNeg, Int.reduceToNat, Nat.reduceSub, Nat.reduceMul, Int.natCast_zero, Int.reduceDiv, Int.reduceMod, Int.toNat_natCast, fdiv_nn, min_bits_i, Int.reducePow, Nat.reducePow, Nat.reduceDiv, Nat.reduceMod, mb_i, mb_u, WpC_drawD, WpT_nil, WpT_cons, WpT_guard, WpK_nil, scal, g1, g3, hbox]
          (repeat' first
    | (refine CondV_dec (fun _ => ?_) (fun _ => ?_) <;> try (exfalso; omega))
    | (refine GuardV_td (fun _ => ?_) (fun _ => ?_) <;> try (exfalso; omega))
    | (refine GuardV_fd (fun _ => ?_) (fun _ => ?_) <;> try (exfalso; omega))
    | (refine CondV_split (fun _ => ?_) (fun _ => ?_))
    | (refine Need_of (by first | omega | decide) ?_)
    | refine WpK_cons ?_ ?_
    | refine WpK_guard ?_
    | simp (disch := first | omega | simp only [List.length_append, List.length_set, List.length_cons, List.length_nil] <;> omega | fail) only [evA, ↓evB, ↓astep, ↓aop, aBin, aInt, aStr, aUn, aNil, aMax, aresults, ares, aPack, ↓reduceIte, ↓reduceCtorEq, Nat.reduceEqDiff, Nat.reduceAdd, env0, aLoad, aLoadN, cellsOf, Int.reduceEq, Int.reduceLT, Int.reduceLE, Nat.reduceLeDiff, oneC, aop.fillL, setL, aApp, aAppC_nil, aAppC_own, xop, aSame_ptr, BIG, Bool.or_true, Bool.true_or, Bool.or_false, Bool.false_or, eqCells, eqCell, rowOf, ↓acallop, aBound, aIntOf, flat, flatN, CX_fn, CX_X, CX_pol, aStore, Nat.reduceBEq, List.size_toArray, Int.sub_zero, Int.zero_add, Int.add_zero, Int.toNat_zero, Int.reduceAdd, Int.reduceSub, Int.reduceMul, Int.reduceNeg, Int.reduceToNat, Nat.reduceSub, Nat.reduceMul, Int.natCast_zero, Int.reduceDiv, Int.reduceMod, Int.toNat_natCast, fdiv_nn, min_bits_i, Int.reducePow, Nat.reducePow, Nat.reduceDiv, Nat.reduceMod, mb_i, mb_u, WpC_drawD, WpT_nil, WpT_cons, WpT_guard, WpK_nil, scal, g1, g3, hbox])
          unfold rt
          rw [← hr]
          simp [h0]
      · exact ⟨0, by omega, rfl, rfl, rfl, rfl⟩
end Ev
end Go.Proofs.Ytfbelnjchpffeaa
