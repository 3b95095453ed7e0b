/-
  The package snap: Unpack.
-/
import Derived.Test.YthigekeonjmhdaaU4
namespace Go.Proofs.Ythigekeonjmhdaa
namespace Ev
namespace L11
open Tag (mk)
open L15
set_option linter.unusedSimpArgs false
set_option linter.unusedVariables false
set_option maxRecDepth 4000
set_option maxHeartbeats 4000000
theorem litE_spec {s : ByteArray} {size p : Nat} {out : List Nat} {n : Nat} (hn : 0 < n) (hlt : ∀ b ∈ out, b < 256) : ((litE s size p out n).1 = 0 → p < (litE s size p out n).2.1) ∧ (∀ b ∈ (litE s size p out n).2.2, b < 256) ∧ (litE s size p out n).1 ≤ 3 := by
  unfold litE
  split
  · exact ⟨(fun h => by cases h), hlt, by simp⟩
  · split
    · exact ⟨(fun h => by cases h), hlt, by simp⟩
    · refine ⟨fun _ => by show p < p + n; omega, fun b hb => ?_, by simp⟩
      rcases List.mem_append.1 hb with hb | hb
      · exact hlt b hb
      · exact byt_lt _ _ _ b hb
theorem cpy_lt : ∀ (n back : Nat) (out : List Nat), (∀ b ∈ out, b < 256) → ∀ b ∈ cpy n back out, b < 256
  | 0, _, out, h => h
  | n + 1, back, out, h => by
    rw [cpy]
    refine cpy_lt n back _ fun b hb => ?_
    rcases List.mem_append.1 hb with hb | hb
    · exact h b hb
    · simp only [List.mem_singleton] at hb
      rw [hb, List.getD_eq_getElem?_getD]
      by_cases hh : out.length - back < out.length
      · rw [List.getElem?_eq_getElem hh]; exact h _ (List.getElem_mem _)
      · rw [List.getElem?_eq_none (by omega)]; simp
theorem cpS_spec {size p : Nat} {out : List Nat} {n back : Nat} (hlt : ∀ b ∈ out, b < 256) : (cpS size p out n back).2.1 = p ∧ (∀ b ∈ (cpS size p out n back).2.2, b < 256) ∧ (cpS size p out n back).1 ≤ 3 := by
  unfold cpS
  split
  · exact ⟨rfl, hlt, by simp⟩
  · exact ⟨rfl, cpy_lt _ _ _ hlt, by simp⟩
theorem farS_spec {s : ByteArray} {size p : Nat} {out : List Nat} {k n hi : Nat} (hlt : ∀ b ∈ out, b < 256) : p ≤ (farS s size p out k n hi).2.1 ∧ (∀ b ∈ (farS s size p out k n hi).2.2, b < 256) ∧ (farS s size p out k n hi).1 ≤ 3 := by
  unfold farS
  split
  · obtain ⟨h1, h2, h3⟩ := cpS_spec (size := size) (p := p + k) (n := n) (back := hi * 256 + ltl (byt s p k)) hlt
    exact ⟨by rw [h1]; omega, h2, h3⟩
  · exact ⟨Nat.le_refl _, hlt, by simp⟩
theorem elS_spec {s : ByteArray} {size p : Nat} {out : List Nat} (hlt : ∀ b ∈ out, b < 256) : ((elS s size p out).1 = 0 → p < (elS s size p out).2.1) ∧ (∀ b ∈ (elS s size p out).2.2, b < 256) ∧ (elS s size p out).1 ≤ 3 := by
  unfold elS
  dsimp only
  split
  · unfold litS
    split
    · obtain ⟨h1, h2, h3⟩ := litE_spec (s := s) (size := size) (p := p + 1) (n := bAt s p / 4 + 1) (by omega) hlt
      exact ⟨fun h => by have := h1 h; omega, h2, h3⟩
    · split
      · obtain ⟨h1, h2, h3⟩ := litE_spec (s := s) (size := size) (p := p + 1 + (bAt s p / 4 - 59)) (n := ltl (byt s (p + 1) (bAt s p / 4 - 59)) + 1) (by omega) hlt
        exact ⟨fun h => by have := h1 h; omega, h2, h3⟩
      · exact ⟨(fun h => by cases h), hlt, by simp⟩
  · split
    · obtain ⟨h1, h2, h3⟩ := farS_spec (s := s) (size := size) (p := p + 1) (k := 1) (n := 4 + bAt s p / 4 % 8) (hi := bAt s p / 4 / 8) hlt
      exact ⟨fun _ => by omega, h2, h3⟩
    · split
      · obtain ⟨h1, h2, h3⟩ := farS_spec (s := s) (size := size) (p := p + 1) (k := 2) (n := bAt s p / 4 + 1) (hi := 0) hlt
        exact ⟨fun _ => by omega, h2, h3⟩
      · obtain ⟨h1, h2, h3⟩ := farS_spec (s := s) (size := size) (p := p + 1) (k := 4) (n := bAt s p / 4 + 1) (hi := 0) hlt
        exact ⟨fun _ => by omega, h2, h3⟩
def I49 (H0 : Heap) (U R : Nat) (s : ByteArray) (size : Nat) (res : Nat × List Nat) (n : Nat) (e : Env) (H : Heap) : Prop :=
  e 12 = .pointer (some ⟨U, 0, none⟩) ∧ e 8 = .int .i64 (size : Int) ∧ Fr U R H0 H ∧ ∃ (p f : Nat) (out : List Nat) (a : Option Addr) (c : Nat), Un H U R s p f size out a c ∧ (∀ b ∈ out, b < 256) ∧ f ≤ 3 ∧
    (f = 0 ∧ s.size - p + 1 ≤ n ∧ elsS s size n p out = res ∨ f ≠ 0 ∧ res.1 = f)
theorem unp_loop {U R : Nat} {s : ByteArray} {size : Nat} {e : Env} {H : Heap} (h12 : e 12 = .pointer (some ⟨U, 0, none⟩)) (h8 : e 8 = .int .i64 (size : Int)) {a : Option Addr} {c : Nat} (h : Un H U R s 0 0 size [] a c) (hs : s.size < 50000) {Q : Post}
    (hQ : ∀ e' H' (p f : Nat) (out : List Nat) a' c', Fr U R H H' → e' 12 = .pointer (some ⟨U, 0, none⟩) → e' 8 = .int .i64 (size : Int) → Un H' U R s p f size out a' c' → (∀ b ∈ out, b < 256) → f ≤ 3 →
      (f = 0 ∧ elsS s size (s.size + 2) 0 [] = (if out.length < size then (2, out) else (0, out)) ∨ f ≠ 0 ∧ (elsS s size (s.size + 2) 0 []).1 = f) → Q (.exit 1) e' H') :
    WpC D1 (acall D1 61000) 61000 ⟨0, 0⟩ (.loop lp15_0) e H Q mk := by
  refine WpC_loop (I49 H U R s size (elsS s size (s.size + 2) 0 [])) ?_ (n := s.size + 2) (by omega) ?_
  · rintro n e H1 ⟨h12, h8, hfr, p, f, out, a, c, hu, hlt, hf3, hcase⟩
    have huu := hu.u
    rw [unC] at huu
    have hrr := hu.r
    rw [rdC] at hrr
    have hul := hu.lt
    have hp := hu.p
    have hsz := hu.sz
    simp only [lp15_0, D1, evA, ↓evB, ↓astep, ↓aop, aBin, aInt, aStr, aUn, aNil, aMax, aresults, ares, aPack, ↓reduceIte, ↓reduceCtorEq, Nat.reduceEqDiff, Nat.reduceAdd, env0, aLoad, aLoadN, cellsOf, Int.reduceEq, Int.reduceLT, Int.reduceLE, Nat.reduceLeDiff, oneC, aop.fillL, setL, aApp, aAppC_nil, aAppC_own, xop, eqCells, eqCell, rowOf, ↓acallop, aBound, aIntOf, flat, flatN, CX_fn, CX_X, CX_pol, aStore, Nat.reduceBEq, List.size_toArray, Int.sub_zero, Int.zero_add, Int.add_zero, Int.toNat_zero, Int.reduceAdd, Int.reduceSub, Int.reduceMul, Int.reduceNeg, Int.reduceToNat, Nat.reduceSub, Nat.reduceMul, Int.natCast_zero, Int.reduceDiv, Int.reduceMod, Int.toNat_natCast, fdiv_nn, min_bits_i, Int.reducePow, Nat.reducePow, Nat.reduceDiv, Nat.reduceMod, mb_i, mb_u, WpC_drawD, WpT_nil, WpT_cons, WpT_guard, WpK_nil, scal, h12, h8]
    by_cases hf : f = 0
    · subst hf
      rcases hcase with ⟨_, hn, hres⟩ | ⟨h, _⟩
      · by_cases hps : p < s.size
        · obtain ⟨v, H', hE, rfl, hfr2, a', c', hq⟩ := Run_get (element_ok hu hps hlt)
          obtain ⟨q1, q2, q3⟩ := elS_spec (s := s) (size := size) (p := p) hlt
          simp only [D1] at hE
          (repeat' first
    | (refine CondV_dec (fun _ => ?_) (fun _ => ?_) <;> try (exfalso; omega))
    | (refine GuardV_td (fun _ => ?_) (fun _ => ?_) <;> try (exfalso; omega))
    | (refine GuardV_fd (fun _ => ?_) (fun _ => ?_) <;> try (exfalso; omega))
    | (refine CondV_split (fun _ => ?_) (fun _ => ?_))
    | (refine Need_of (by first | omega | decide) ?_)
    | refine WpK_cons ?_ ?_
    | refine WpK_guard ?_
    | simp (disch := first | omega | simp only [List.length_append, List.length_set, List.length_cons, List.length_nil] <;> omega | fail) only [evA, ↓evB, ↓astep, ↓aop, aBin, aInt, aStr, aUn, aNil, aMax, aresults, ares, aPack, ↓reduceIte, ↓reduceCtorEq, Nat.reduceEqDiff, Nat.reduceAdd, env0, aLoad, aLoadN, cellsOf, Int.reduceEq, Int.reduceLT, Int.reduceLE, Nat.reduceLeDiff, oneC, aop.fillL, setL, aApp, aAppC_nil, aAppC_own, xop, eqCells, eqCell, rowOf, ↓acallop, aBound, aIntOf, flat, flatN, CX_fn, CX_X, CX_pol, aStore, Nat.reduceBEq, List.size_toArray, Int.sub_zero, Int.zero_add, Int.add_zero, Int.toNat_zero, Int.reduceAdd, Int.reduceSub, Int.reduceMul, Int.reduceNeg, Int.reduceToNat, Nat.reduceSub, Nat.reduceMul, Int.natCast_zero, Int.reduceDiv, Int.reduceMod, Int.toNat_natCast, fdiv_nn, min_bits_i, Int.reducePow, Nat.reducePow, Nat.reduceDiv, Nat.reduceMod, mb_i, mb_u, WpC_drawD, WpT_nil, WpT_cons, WpT_guard, WpK_nil, scal, fn57, ir57, fn58, ir58, h12, h8, huu, hrr, hE, Int.natCast_zero])
          obtain ⟨n, rfl⟩ : ∃ k, n = k + 1 := ⟨n - 1, by omega⟩
          rw [elsS, if_pos hps] at hres
          refine ⟨n, by omega, by (first | rfl | (simp only [Env_put_some, Env_put_none, ↓Env_set_at, ↓reduceIte, Nat.reduceEqDiff, h12] <;> rfl)), by (first | rfl | (simp only [Env_put_some, Env_put_none, ↓Env_set_at, ↓reduceIte, Nat.reduceEqDiff, h8] <;> rfl)), hfr.trans hfr2, _, _, _, a', c', hq, q2, q3, ?_⟩
          by_cases hr0 : (elS s size p out).1 = 0
          · rw [if_pos hr0] at hres
            have := q1 hr0
            exact .inl ⟨hr0, by omega, hres⟩
          · rw [if_neg hr0] at hres
            exact .inr ⟨hr0, by rw [← hres]⟩
        · (repeat' first
    | (refine CondV_dec (fun _ => ?_) (fun _ => ?_) <;> try (exfalso; omega))
    | (refine GuardV_td (fun _ => ?_) (fun _ => ?_) <;> try (exfalso; omega))
    | (refine GuardV_fd (fun _ => ?_) (fun _ => ?_) <;> try (exfalso; omega))
    | (refine CondV_split (fun _ => ?_) (fun _ => ?_))
    | (refine Need_of (by first | omega | decide) ?_)
    | refine WpK_cons ?_ ?_
    | refine WpK_guard ?_
    | simp (disch := first | omega | simp only [List.length_append, List.length_set, List.length_cons, List.length_nil] <;> omega | fail) only [evA, ↓evB, ↓astep, ↓aop, aBin, aInt, aStr, aUn, aNil, aMax, aresults, ares, aPack, ↓reduceIte, ↓reduceCtorEq, Nat.reduceEqDiff, Nat.reduceAdd, env0, aLoad, aLoadN, cellsOf, Int.reduceEq, Int.reduceLT, Int.reduceLE, Nat.reduceLeDiff, oneC, aop.fillL, setL, aApp, aAppC_nil, aAppC_own, xop, eqCells, eqCell, rowOf, ↓acallop, aBound, aIntOf, flat, flatN, CX_fn, CX_X, CX_pol, aStore, Nat.reduceBEq, List.size_toArray, Int.sub_zero, Int.zero_add, Int.add_zero, Int.toNat_zero, Int.reduceAdd, Int.reduceSub, Int.reduceMul, Int.reduceNeg, Int.reduceToNat, Nat.reduceSub, Nat.reduceMul, Int.natCast_zero, Int.reduceDiv, Int.reduceMod, Int.toNat_natCast, fdiv_nn, min_bits_i, Int.reducePow, Nat.reducePow, Nat.reduceDiv, Nat.reduceMod, mb_i, mb_u, WpC_drawD, WpT_nil, WpT_cons, WpT_guard, WpK_nil, scal, fn57, ir57, fn58, ir58, h12, h8, huu, hrr, Int.natCast_zero])
          obtain ⟨n, rfl⟩ : ∃ k, n = k + 1 := ⟨n - 1, by omega⟩
          rw [elsS, if_neg hps] at hres
          exact hQ _ _ p 0 out a c hfr (by (first | rfl | (simp only [Env_put_some, Env_put_none, ↓Env_set_at, ↓reduceIte, Nat.reduceEqDiff, h12] <;> rfl))) (by (first | rfl | (simp only [Env_put_some, Env_put_none, ↓Env_set_at, ↓reduceIte, Nat.reduceEqDiff, h8] <;> rfl))) hu hlt (by omega) (.inl ⟨rfl, hres.symm⟩)
      · exact absurd rfl h
    · rcases hcase with ⟨h, _⟩ | ⟨_, hres⟩
      · exact absurd h hf
      · have hfi : ¬ (f : Int) = 0 := by omega
        (repeat' first
    | (refine CondV_dec (fun _ => ?_) (fun _ => ?_) <;> try (exfalso; omega))
    | (refine GuardV_td (fun _ => ?_) (fun _ => ?_) <;> try (exfalso; omega))
    | (refine GuardV_fd (fun _ => ?_) (fun _ => ?_) <;> try (exfalso; omega))
    | (refine CondV_split (fun _ => ?_) (fun _ => ?_))
    | (refine Need_of (by first | omega | decide) ?_)
    | refine WpK_cons ?_ ?_
    | refine WpK_guard ?_
    | simp (disch := first | omega | simp only [List.length_append, List.length_set, List.length_cons, List.length_nil] <;> omega | fail) only [evA, ↓evB, ↓astep, ↓aop, aBin, aInt, aStr, aUn, aNil, aMax, aresults, ares, aPack, ↓reduceIte, ↓reduceCtorEq, Nat.reduceEqDiff, Nat.reduceAdd, env0, aLoad, aLoadN, cellsOf, Int.reduceEq, Int.reduceLT, Int.reduceLE, Nat.reduceLeDiff, oneC, aop.fillL, setL, aApp, aAppC_nil, aAppC_own, xop, eqCells, eqCell, rowOf, ↓acallop, aBound, aIntOf, flat, flatN, CX_fn, CX_X, CX_pol, aStore, Nat.reduceBEq, List.size_toArray, Int.sub_zero, Int.zero_add, Int.add_zero, Int.toNat_zero, Int.reduceAdd, Int.reduceSub, Int.reduceMul, Int.reduceNeg, Int.reduceToNat, Nat.reduceSub, Nat.reduceMul, Int.natCast_zero, Int.reduceDiv, Int.reduceMod, Int.toNat_natCast, fdiv_nn, min_bits_i, Int.reducePow, Nat.reducePow, Nat.reduceDiv, Nat.reduceMod, mb_i, mb_u, WpC_drawD, WpT_nil, WpT_cons, WpT_guard, WpK_nil, scal, fn57, ir57, fn58, ir58, h12, h8, huu, hrr, hfi])
        all_goals exact hQ _ _ p f out a c hfr (by (first | rfl | (simp only [Env_put_some, Env_put_none, ↓Env_set_at, ↓reduceIte, Nat.reduceEqDiff, h12] <;> rfl))) (by (first | rfl | (simp only [Env_put_some, Env_put_none, ↓Env_set_at, ↓reduceIte, Nat.reduceEqDiff, h8] <;> rfl))) hu hlt hf3 (.inr ⟨hf, hres⟩)
  · exact ⟨h12, h8, Fr.refl _ _ _, 0, 0, [], a, c, h, by simp, by omega, .inl ⟨rfl, by omega, rfl⟩⟩
end L11
end Ev
end Go.Proofs.Ythigekeonjmhdaa
