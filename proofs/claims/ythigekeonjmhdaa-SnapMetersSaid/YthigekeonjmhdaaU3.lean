/-
  The package snap: copies.
-/
import Derived.Test.YthigekeonjmhdaaU2
namespace Go.Proofs.Ythigekeonjmhdaa
namespace Ev
namespace L11
open Tag (mk)
open L15
set_option linter.unusedSimpArgs false
set_option linter.unusedVariables false
set_option maxRecDepth 4000
set_option maxHeartbeats 4000000
theorem cpy_len : ∀ (n back : Nat) (out : List Nat), (cpy n back out).length = out.length + n
  | 0, _, out => rfl
  | n + 1, back, out => by rw [cpy, cpy_len n]; simp; omega
theorem Un.lt {H : Heap} {U R : Nat} {s : ByteArray} {p : Nat} {f : Int} {size : Nat} {out : List Nat} {a : Option Addr} {c : Nat} (h : Un H U R s p f size out a c) : U < H.length ∧ R < H.length := ⟨lt_of_get h.u, lt_of_get h.r⟩
def I113 (H0 : Heap) (U R : Nat) (s : ByteArray) (p size N back : Nat) (res : List Nat) (n : Nat) (e : Env) (H : Heap) : Prop :=
  Fr U R H0 H ∧ ∃ (i : Nat) (out : List Nat) (a : Option Addr) (c : Nat), i + n = N ∧ e 0 = .pointer (some ⟨U, 0, none⟩) ∧ e 31 = .int .i64 (N : Int) ∧ e 2 = .int .i64 (back : Int) ∧ e 32 = .int .i64 (i : Int) ∧
    Un H U R s p 0 size out a c ∧ 0 < back ∧ back ≤ out.length ∧ out.length + n ≤ size ∧ cpy n back out = res ∧ ∀ b ∈ out, b < 256
theorem loop113 (U R : Nat) (s : ByteArray) (p size N back : Nat) {out : List Nat} {a : Option Addr} {c : Nat} {e : Env} {H : Heap} {F : Nat} (hF : 60000 ≤ F) (h0 : e 0 = .pointer (some ⟨U, 0, none⟩)) (h1 : e 31 = .int .i64 (N : Int)) (h2 : e 2 = .int .i64 (back : Int)) (h32 : e 32 = .int .i64 0)
    (h : Un H U R s p 0 size out a c) (hb0 : 0 < back) (hb : back ≤ out.length) (hs : out.length + N ≤ size) (hlt : ∀ b ∈ out, b < 256) {Q : Post}
    (hQ : ∀ e' H' a' c', Fr U R H H' → Un H' U R s p 0 size (cpy N back out) a' c' → Q (.exit 0) e' H') : WpC D1 (acall D1 F) F ⟨0, 0⟩ (.loop lp99_0) e H Q mk := by
  have hss := h.ss
  refine WpC_loop (I113 H U R s p size N back (cpy N back out)) ?_ (n := N) (by omega) ?_
  · rintro n e H' ⟨hfr, i, out, a, c, hi, h0, h1, h2, h32, hu, hb0, hb, hs, hr, hlt⟩
    have huu := hu.u
    rw [unC] at huu
    have hul := hu.lt
    have hsz := hu.sz
    have hss := hu.ss
    simp only [lp99_0, D1, evA, ↓evB, ↓astep, ↓aop, aBin, aInt, aStr, aUn, aNil, aMax, aresults, ares, aPack, ↓reduceIte, ↓reduceCtorEq, Nat.reduceEqDiff, Nat.reduceAdd, env0, aLoad, aLoadN, cellsOf, Int.reduceEq, Int.reduceLT, Int.reduceLE, Nat.reduceLeDiff, oneC, aop.fillL, setL, aApp, aAppC_nil, aAppC_own, xop, eqCells, eqCell, rowOf, ↓acallop, aBound, aIntOf, flat, flatN, CX_fn, CX_X, CX_pol, aStore, Nat.reduceBEq, List.size_toArray, Int.sub_zero, Int.zero_add, Int.add_zero, Int.toNat_zero, Int.reduceAdd, Int.reduceSub, Int.reduceMul, Int.reduceNeg, Int.reduceToNat, Nat.reduceSub, Nat.reduceMul, Int.natCast_zero, Int.reduceDiv, Int.reduceMod, Int.toNat_natCast, fdiv_nn, min_bits_i, Int.reducePow, Nat.reducePow, Nat.reduceDiv, Nat.reduceMod, mb_i, mb_u, WpC_drawD, WpT_nil, WpT_cons, WpT_guard, WpK_nil, scal, h0, h1, h2, h32]
    refine CondV_dec (fun hc => ?_) (fun hc => ?_)
    · obtain ⟨j, rfl, rfl, hj⟩ : ∃ j, a = some ⟨j, 0, none⟩ ∧ c = 1 ∧ H'[j]? = some (.cells (bv out) U8 true) := by
        rcases hu.o with ⟨_, _, h3⟩ | h
        · subst h3; simp at hb; omega
        · exact h
      have hjl := lt_of_get hj
      obtain ⟨b, hbe⟩ : ∃ b, b = out.getD (out.length - back) 0 := ⟨_, rfl⟩
      have hget : (bv out)[out.length - back]? = some (.int .u8 (b : Int)) := by
        rw [bv_get, if_pos (by omega), hbe]
      have e1 : ((out.length : Int) - (back : Int)).toNat = out.length - back := by omega
      have hb256 : b < 256 := by
        rw [hbe, List.getD_eq_getElem?_getD, List.getElem?_eq_getElem (by omega)]
        exact hlt _ (List.getElem_mem _)
      obtain ⟨a', c', H2, q1, q2, q3⟩ := appc_ok (T := U8) (fb := 0) (l := [b]) (hu.o.app [.cells [.int .u8 (b : Int)] U8 true]) (by simp; omega)
      have hU := q3.2 U _ (get_app hu.u _) (notU8_un _ _ _ _ _)
      have hR := q3.2 R _ (get_app hu.r _) (notU8_rd _ _ _)
      have hU' := hU
      rw [unC] at hU'
      have hul2 := lt_of_get hU
      replace q1 : aAppC 5 1 1 ⟨0, 0⟩ (H' ++ [.cells [.int .u8 (b : Int)] 5 true]) (.slice (some ⟨j, 0, none⟩) out.length 1) 1 [.int .u8 (b : Int)] = some (.slice a' (out ++ [b]).length c', H2) := q1
      (repeat' first
    | (refine CondV_dec (fun _ => ?_) (fun _ => ?_) <;> try (exfalso; omega))
    | (refine GuardV_td (fun _ => ?_) (fun _ => ?_) <;> try (exfalso; omega))
    | (refine GuardV_fd (fun _ => ?_) (fun _ => ?_) <;> try (exfalso; omega))
    | (refine CondV_split (fun _ => ?_) (fun _ => ?_))
    | (refine Need_of (by first | omega | decide) ?_)
    | refine WpK_cons ?_ ?_
    | refine WpK_guard ?_
    | simp (disch := first | omega | simp only [List.length_append, List.length_set, List.length_cons, List.length_nil] <;> omega | fail) only [evA, ↓evB, ↓astep, ↓aop, aBin, aInt, aStr, aUn, aNil, aMax, aresults, ares, aPack, ↓reduceIte, ↓reduceCtorEq, Nat.reduceEqDiff, Nat.reduceAdd, env0, aLoad, aLoadN, cellsOf, Int.reduceEq, Int.reduceLT, Int.reduceLE, Nat.reduceLeDiff, oneC, aop.fillL, setL, aApp, aAppC_nil, aAppC_own, xop, eqCells, eqCell, rowOf, ↓acallop, aBound, aIntOf, flat, flatN, CX_fn, CX_X, CX_pol, aStore, Nat.reduceBEq, List.size_toArray, Int.sub_zero, Int.zero_add, Int.add_zero, Int.toNat_zero, Int.reduceAdd, Int.reduceSub, Int.reduceMul, Int.reduceNeg, Int.reduceToNat, Nat.reduceSub, Nat.reduceMul, Int.natCast_zero, Int.reduceDiv, Int.reduceMod, Int.toNat_natCast, fdiv_nn, min_bits_i, Int.reducePow, Nat.reducePow, Nat.reduceDiv, Nat.reduceMod, mb_i, mb_u, WpC_drawD, WpT_nil, WpT_cons, WpT_guard, WpK_nil, scal, h0, h1, h2, h32, huu, hj, hget, e1, q1, hU', -aAppC_own, -aAppC_nil])
      refine ⟨n - 1, by omega, ?_, i + 1, out ++ [b], a', c', by omega, by (first | rfl | (simp only [Env_put_some, Env_put_none, ↓Env_set_at, ↓reduceIte, Nat.reduceEqDiff, h0] <;> rfl)), by (first | rfl | (simp only [Env_put_some, Env_put_none, ↓Env_set_at, ↓reduceIte, Nat.reduceEqDiff, h1] <;> rfl)), by (first | rfl | (simp only [Env_put_some, Env_put_none, ↓Env_set_at, ↓reduceIte, Nat.reduceEqDiff, h2] <;> rfl)), by (first | rfl | (simp only [Env_put_some, Env_put_none, ↓Env_set_at, ↓reduceIte, Nat.reduceEqDiff] <;> rfl)), ?_, hb0, by simp; omega, by simp; omega, ?_, ?_⟩
      · exact hfr.trans (((Fr.app _).trans (Fr.keeps q3)).trans (Fr.setU _))
      · refine un_end (l := [b]) ?_ rfl rfl
        exact ⟨by rw [hset_ne (Ne.symm hu.ne)]; exact hR, hset_self hul2 _, q2.set _ hU (notU8_un _ _ _ _ _), hu.ne, hu.sz, hu.p, by simp; omega, hu.ss⟩
      · obtain ⟨n, rfl⟩ : ∃ k, n = k + 1 := ⟨n - 1, by omega⟩
        rw [← hr, cpy, ← hbe]; rfl
      · intro x hx
        rcases List.mem_append.1 hx with hx | hx
        · exact hlt x hx
        · simp at hx; subst hx; exact hb256
    · (repeat' first
    | (refine CondV_dec (fun _ => ?_) (fun _ => ?_) <;> try (exfalso; omega))
    | (refine GuardV_td (fun _ => ?_) (fun _ => ?_) <;> try (exfalso; omega))
    | (refine GuardV_fd (fun _ => ?_) (fun _ => ?_) <;> try (exfalso; omega))
    | (refine CondV_split (fun _ => ?_) (fun _ => ?_))
    | (refine Need_of (by first | omega | decide) ?_)
    | refine WpK_cons ?_ ?_
    | refine WpK_guard ?_
    | simp (disch := first | omega | simp only [List.length_append, List.length_set, List.length_cons, List.length_nil] <;> omega | fail) only [evA, ↓evB, ↓astep, ↓aop, aBin, aInt, aStr, aUn, aNil, aMax, aresults, ares, aPack, ↓reduceIte, ↓reduceCtorEq, Nat.reduceEqDiff, Nat.reduceAdd, env0, aLoad, aLoadN, cellsOf, Int.reduceEq, Int.reduceLT, Int.reduceLE, Nat.reduceLeDiff, oneC, aop.fillL, setL, aApp, aAppC_nil, aAppC_own, xop, eqCells, eqCell, rowOf, ↓acallop, aBound, aIntOf, flat, flatN, CX_fn, CX_X, CX_pol, aStore, Nat.reduceBEq, List.size_toArray, Int.sub_zero, Int.zero_add, Int.add_zero, Int.toNat_zero, Int.reduceAdd, Int.reduceSub, Int.reduceMul, Int.reduceNeg, Int.reduceToNat, Nat.reduceSub, Nat.reduceMul, Int.natCast_zero, Int.reduceDiv, Int.reduceMod, Int.toNat_natCast, fdiv_nn, min_bits_i, Int.reducePow, Nat.reducePow, Nat.reduceDiv, Nat.reduceMod, mb_i, mb_u, WpC_drawD, WpT_nil, WpT_cons, WpT_guard, WpK_nil, scal, h0, h1, h2, h32])
      have : n = 0 := by omega
      subst this
      rw [cpy] at hr
      subst hr
      exact hQ _ _ _ _ hfr hu
  · exact ⟨Fr.refl _ _ _, 0, out, a, c, by omega, h0, h1, h2, h32, h, hb0, hb, hs, rfl, hlt⟩
theorem Un.fault {H : Heap} {U R : Nat} {s : ByteArray} {p : Nat} {f : Int} {size : Nat} {out : List Nat} {a : Option Addr} {c : Nat} (h : Un H U R s p f size out a c) (f' : Int) : Un (H.set R (rdC s p f')) U R s p f' size out a c :=
  ⟨hset_self (lt_of_get h.r) _, by rw [hset_ne h.ne]; exact h.u, h.o.set _ h.r (notU8_rd _ _ _), h.ne, h.sz, h.p, h.os, h.ss⟩
theorem copied_bad {H : Heap} {U R : Nat} {s : ByteArray} {p size : Nat} {f : Nat} {out : List Nat} {a : Option Addr} {c : Nat} (h : Un H U R s p f size out a c) (n back : Nat) (hn : n < 100) (hbk : back < 2 ^ 40) (hf : f = 2) :
    Run (LitQ U R s size H (f, p, out)) mk (acall D1 60100 99 [.pointer (some ⟨U, 0, none⟩), .int .i64 (n : Int), .int .i64 (back : Int)] H ⟨0, 0⟩) := by
  subst hf
  have hu := h.u
  rw [unC] at hu
  have hrr := h.r
  rw [rdC] at hrr
  have hul := h.lt
  have hos := h.os
  have hss := h.ss
  have hne := h.ne
  refine Run_call (F := ir99) rfl (Nat.le_of_ble_eq_true rfl) ?_
  simp only [ir99, D1]
  (repeat' first
    | (refine CondV_dec (fun _ => ?_) (fun _ => ?_) <;> try (exfalso; omega))
    | (refine GuardV_td (fun _ => ?_) (fun _ => ?_) <;> try (exfalso; omega))
    | (refine GuardV_fd (fun _ => ?_) (fun _ => ?_) <;> try (exfalso; omega))
    | (refine CondV_split (fun _ => ?_) (fun _ => ?_))
    | (refine Need_of (by first | omega | decide) ?_)
    | refine WpK_cons ?_ ?_
    | refine WpK_guard ?_
    | simp (disch := first | omega | simp only [List.length_append, List.length_set, List.length_cons, List.length_nil] <;> omega | fail) only [evA, ↓evB, ↓astep, ↓aop, aBin, aInt, aStr, aUn, aNil, aMax, aresults, ares, aPack, ↓reduceIte, ↓reduceCtorEq, Nat.reduceEqDiff, Nat.reduceAdd, env0, aLoad, aLoadN, cellsOf, Int.reduceEq, Int.reduceLT, Int.reduceLE, Nat.reduceLeDiff, oneC, aop.fillL, setL, aApp, aAppC_nil, aAppC_own, xop, eqCells, eqCell, rowOf, ↓acallop, aBound, aIntOf, flat, flatN, CX_fn, CX_X, CX_pol, aStore, Nat.reduceBEq, List.size_toArray, Int.sub_zero, Int.zero_add, Int.add_zero, Int.toNat_zero, Int.reduceAdd, Int.reduceSub, Int.reduceMul, Int.reduceNeg, Int.reduceToNat, Nat.reduceSub, Nat.reduceMul, Int.natCast_zero, Int.reduceDiv, Int.reduceMod, Int.toNat_natCast, fdiv_nn, min_bits_i, Int.reducePow, Nat.reducePow, Nat.reduceDiv, Nat.reduceMod, mb_i, mb_u, WpC_drawD, WpT_nil, WpT_cons, WpT_guard, WpK_nil, scal, fn126, ir126, fn60, ir60, fn58, ir58, hu, hrr])
  all_goals exact ⟨rfl, Fr.refl _ _ _, a, c, h⟩
theorem copied_ok {H : Heap} {U R : Nat} {s : ByteArray} {p size : Nat} {out : List Nat} {a : Option Addr} {c : Nat} (h : Un H U R s p 0 size out a c) (n back : Nat) (hn : n < 100) (hbk : back < 2 ^ 40) (hlt : ∀ b ∈ out, b < 256) :
    Run (LitQ U R s size H (cpS size p out n back)) mk (acall D1 60100 99 [.pointer (some ⟨U, 0, none⟩), .int .i64 (n : Int), .int .i64 (back : Int)] H ⟨0, 0⟩) := by
  have hu := h.u
  rw [unC] at hu
  have hrr := h.r
  rw [rdC] at hrr
  have hul := h.lt
  have hos := h.os
  have hss := h.ss
  have hne := h.ne
  have h3 := h.fault 3
  rw [rdC] at h3
  obtain ⟨r, hr⟩ : ∃ r, r = cpS size p out n back := ⟨_, rfl⟩
  rw [← hr]
  refine Run_call (F := ir99) rfl (Nat.le_of_ble_eq_true rfl) ?_
  by_cases hb : back = 0 ∨ out.length < back ∨ size < out.length + n
  · rw [cpS, if_pos hb] at hr
    subst hr
    simp only [ir99, D1]
    (repeat' first
    | (refine CondV_dec (fun _ => ?_) (fun _ => ?_) <;> try (exfalso; omega))
    | (refine GuardV_td (fun _ => ?_) (fun _ => ?_) <;> try (exfalso; omega))
    | (refine GuardV_fd (fun _ => ?_) (fun _ => ?_) <;> try (exfalso; omega))
    | (refine CondV_split (fun _ => ?_) (fun _ => ?_))
    | (refine Need_of (by first | omega | decide) ?_)
    | refine WpK_cons ?_ ?_
    | refine WpK_guard ?_
    | simp (disch := first | omega | simp only [List.length_append, List.length_set, List.length_cons, List.length_nil] <;> omega | fail) only [evA, ↓evB, ↓astep, ↓aop, aBin, aInt, aStr, aUn, aNil, aMax, aresults, ares, aPack, ↓reduceIte, ↓reduceCtorEq, Nat.reduceEqDiff, Nat.reduceAdd, env0, aLoad, aLoadN, cellsOf, Int.reduceEq, Int.reduceLT, Int.reduceLE, Nat.reduceLeDiff, oneC, aop.fillL, setL, aApp, aAppC_nil, aAppC_own, xop, eqCells, eqCell, rowOf, ↓acallop, aBound, aIntOf, flat, flatN, CX_fn, CX_X, CX_pol, aStore, Nat.reduceBEq, List.size_toArray, Int.sub_zero, Int.zero_add, Int.add_zero, Int.toNat_zero, Int.reduceAdd, Int.reduceSub, Int.reduceMul, Int.reduceNeg, Int.reduceToNat, Nat.reduceSub, Nat.reduceMul, Int.natCast_zero, Int.reduceDiv, Int.reduceMod, Int.toNat_natCast, fdiv_nn, min_bits_i, Int.reducePow, Nat.reducePow, Nat.reduceDiv, Nat.reduceMod, mb_i, mb_u, WpC_drawD, WpT_nil, WpT_cons, WpT_guard, WpK_nil, scal, fn126, ir126, fn60, ir60, fn58, ir58, hu, hrr])
    all_goals exact ⟨rfl, Fr.setR _, a, c, h3⟩
  · rw [cpS, if_neg hb] at hr
    subst hr
    simp only [ir99, D1]
    (repeat' first
    | (refine CondV_dec (fun _ => ?_) (fun _ => ?_) <;> try (exfalso; omega))
    | (refine GuardV_td (fun _ => ?_) (fun _ => ?_) <;> try (exfalso; omega))
    | (refine GuardV_fd (fun _ => ?_) (fun _ => ?_) <;> try (exfalso; omega))
    | (refine CondV_split (fun _ => ?_) (fun _ => ?_))
    | (refine Need_of (by first | omega | decide) ?_)
    | refine WpK_cons ?_ ?_
    | refine WpK_guard ?_
    | simp (disch := first | omega | simp only [List.length_append, List.length_set, List.length_cons, List.length_nil] <;> omega | fail) only [evA, ↓evB, ↓astep, ↓aop, aBin, aInt, aStr, aUn, aNil, aMax, aresults, ares, aPack, ↓reduceIte, ↓reduceCtorEq, Nat.reduceEqDiff, Nat.reduceAdd, env0, aLoad, aLoadN, cellsOf, Int.reduceEq, Int.reduceLT, Int.reduceLE, Nat.reduceLeDiff, oneC, aop.fillL, setL, aApp, aAppC_nil, aAppC_own, xop, eqCells, eqCell, rowOf, ↓acallop, aBound, aIntOf, flat, flatN, CX_fn, CX_X, CX_pol, aStore, Nat.reduceBEq, List.size_toArray, Int.sub_zero, Int.zero_add, Int.add_zero, Int.toNat_zero, Int.reduceAdd, Int.reduceSub, Int.reduceMul, Int.reduceNeg, Int.reduceToNat, Nat.reduceSub, Nat.reduceMul, Int.natCast_zero, Int.reduceDiv, Int.reduceMod, Int.toNat_natCast, fdiv_nn, min_bits_i, Int.reducePow, Nat.reducePow, Nat.reduceDiv, Nat.reduceMod, mb_i, mb_u, WpC_drawD, WpT_nil, WpT_cons, WpT_guard, WpK_nil, scal, fn126, ir126, fn60, ir60, fn58, ir58, hu, hrr])
    refine loop113 U R s p size n back (F := 60099) (by omega) (by (first | rfl | (simp only [Env_put_some, Env_put_none, ↓Env_set_at, ↓reduceIte, Nat.reduceEqDiff] <;> rfl))) (by (first | rfl | (simp only [Env_put_some, Env_put_none, ↓Env_set_at, ↓reduceIte, Nat.reduceEqDiff] <;> rfl))) (by (first | rfl | (simp only [Env_put_some, Env_put_none, ↓Env_set_at, ↓reduceIte, Nat.reduceEqDiff] <;> rfl))) (by (first | rfl | (simp only [Env_put_some, Env_put_none, ↓Env_set_at, ↓reduceIte, Nat.reduceEqDiff] <;> rfl))) h (by omega) (by omega) (by omega) hlt (fun e' H' a' c' hf hq => ?_)
    (repeat' first
    | (refine CondV_dec (fun _ => ?_) (fun _ => ?_) <;> try (exfalso; omega))
    | (refine GuardV_td (fun _ => ?_) (fun _ => ?_) <;> try (exfalso; omega))
    | (refine GuardV_fd (fun _ => ?_) (fun _ => ?_) <;> try (exfalso; omega))
    | (refine CondV_split (fun _ => ?_) (fun _ => ?_))
    | (refine Need_of (by first | omega | decide) ?_)
    | refine WpK_cons ?_ ?_
    | refine WpK_guard ?_
    | simp (disch := first | omega | simp only [List.length_append, List.length_set, List.length_cons, List.length_nil] <;> omega | fail) only [evA, ↓evB, ↓astep, ↓aop, aBin, aInt, aStr, aUn, aNil, aMax, aresults, ares, aPack, ↓reduceIte, ↓reduceCtorEq, Nat.reduceEqDiff, Nat.reduceAdd, env0, aLoad, aLoadN, cellsOf, Int.reduceEq, Int.reduceLT, Int.reduceLE, Nat.reduceLeDiff, oneC, aop.fillL, setL, aApp, aAppC_nil, aAppC_own, xop, eqCells, eqCell, rowOf, ↓acallop, aBound, aIntOf, flat, flatN, CX_fn, CX_X, CX_pol, aStore, Nat.reduceBEq, List.size_toArray, Int.sub_zero, Int.zero_add, Int.add_zero, Int.toNat_zero, Int.reduceAdd, Int.reduceSub, Int.reduceMul, Int.reduceNeg, Int.reduceToNat, Nat.reduceSub, Nat.reduceMul, Int.natCast_zero, Int.reduceDiv, Int.reduceMod, Int.toNat_natCast, fdiv_nn, min_bits_i, Int.reducePow, Nat.reducePow, Nat.reduceDiv, Nat.reduceMod, mb_i, mb_u, WpC_drawD, WpT_nil, WpT_cons, WpT_guard, WpK_nil, scal])
    exact ⟨rfl, hf, a', c', hq⟩
end L11
end Ev
end Go.Proofs.Ythigekeonjmhdaa
