/-
  The package snap: an element.
-/
import Derived.Test.YthigekeonjmhdaaU3
namespace Go.Proofs.Ythigekeonjmhdaa
namespace Ev
namespace L11
open Tag (mk)
open L15
set_option linter.unusedSimpArgs false
set_option linter.unusedVariables false
set_option maxRecDepth 4000
set_option maxHeartbeats 4000000
theorem Un.app {H : Heap} {U R : Nat} {s : ByteArray} {p : Nat} {f : Int} {size : Nat} {out : List Nat} {a : Option Addr} {c : Nat} (h : Un H U R s p f size out a c) (L : Heap) : Un (H ++ L) U R s p f size out a c :=
  ⟨get_app h.r _, get_app h.u _, h.o.app L, h.ne, h.sz, h.p, h.os, h.ss⟩
theorem Un.at_ {H : Heap} {U R : Nat} {s : ByteArray} {p : Nat} {f : Int} {size : Nat} {out : List Nat} {a : Option Addr} {c : Nat} (h : Un H U R s p f size out a c) (p' : Nat) (f' : Int) (hp : p' ≤ s.size) : Un (H.set R (rdC s p' f')) U R s p' f' size out a c :=
  ⟨hset_self (lt_of_get h.r) _, by rw [hset_ne h.ne]; exact h.u, h.o.set _ h.r (notU8_rd _ _ _), h.ne, h.sz, hp, h.os, h.ss⟩
theorem bAt_ext (s : ByteArray) (p : Nat) (h : p < s.size) : bAt (s.extract p (p + 1)) 0 = bAt s p := by
  rw [bAt_bl, bAt_bl, byt_ext, byt, bl_drop s p h]
  rw [List.getD_eq_getElem?_getD, List.getD_eq_getElem?_getD, bl_get, if_pos h]; rfl
theorem ext_ne (s : ByteArray) (p : Nat) (h : p < s.size) : ¬ s.extract p (p + 1) = ⟨#[]⟩ := fun e => by
  have := congrArg ByteArray.size e
  rw [ext_size s p (p + 1) (by omega)] at this
  simp [ByteArray.size] at this
theorem ltl_lt (s : ByteArray) (p n : Nat) (hn : n ≤ 4) (h : p + n ≤ s.size) : ltl (byt s p n) < 2 ^ 32 := by
  have h1 := nm_lt (byt s p n).reverse (fun b hb => byt_lt s p _ b (List.mem_reverse.1 hb))
  have h2 : (byt s p n).reverse.length ≤ 4 := by rw [List.length_reverse, byt_len _ _ _ h]; omega
  have h3 : 256 ^ (byt s p n).reverse.length ≤ 256 ^ 4 := Nat.pow_le_pow_right (by omega) h2
  rw [ltl]; omega
theorem element_ok {H : Heap} {U R : Nat} {s : ByteArray} {p size : Nat} {out : List Nat} {a : Option Addr} {c : Nat} (h : Un H U R s p 0 size out a c) (hp : p < s.size) (hlt : ∀ b ∈ out, b < 256) :
    Run (LitQ U R s size H (elS s size p out)) mk (acall D1 60200 59 [.pointer (some ⟨U, 0, none⟩)] H ⟨0, 0⟩) := by
  obtain ⟨r, hr⟩ : ∃ r, r = elS s size p out := ⟨_, rfl⟩
  rw [← hr]
  have hu := h.u
  rw [unC] at hu
  have hrr := h.r
  rw [rdC] at hrr
  have hul := h.lt
  have hos := h.os
  have hss := h.ss
  have hne := h.ne
  have hsz := h.sz
  obtain ⟨J, hJ⟩ := rd_take (H := H ++ [.cells [.pointer (some ⟨U, 0, none⟩)] 88 true]) (i := R) (lim := 0) (fb := H.length + 1) (s := s) (at_ := p) (fault := 0) 1 (get_app h.r _) (by omega) ⟨by omega, by omega, by omega, by omega, by omega⟩ (by omega)
  have e1 : ((p : Int) + 1).toNat = p + 1 := by omega
  have hF : rdF s p 0 1 = 0 := by simp only [rdF]; rw [if_neg (by simp), if_neg (by omega), if_neg (by omega)]
  simp only [D1, rdT, rdA, hF, if_true, rdC, e1, Int.toNat_natCast, happ_set_l hul.2] at hJ
  have hx := ext_ne s p hp
  have hx2 : (s.extract p (p + 1)).size = 1 := by rw [ext_size _ _ _ (by omega)]; omega
  have hx3 := bAt_ext s p hp
  obtain ⟨b, hb⟩ : ∃ b, b = bAt s p := ⟨_, rfl⟩
  have hb256 : b < 256 := by rw [hb]; exact bAt_lt _ _
  rw [← hb] at hx3
  obtain ⟨v, hv⟩ : ∃ v, v = b / 4 := ⟨_, rfl⟩
  have hv4 : (b : Int) / 4 = (v : Int) := by omega
  have hv8 : (v : Int) / 8 = ((v / 8 : Nat) : Int) := by omega
  have hand := and3_i64 b (by omega)
  rw [elS] at hr
  simp only [← hb, ← hv] at hr
  have hset2 : ∀ (o o' : AObj) (L : Heap), (H.set R o ++ L).set R o' = H.set R o' ++ L := fun o o' L => by rw [happ_set_l (by rw [List.length_set]; exact hul.2), hset_set]
  obtain ⟨L, hL⟩ : ∃ L : Heap, L = [.cells [.pointer (some ⟨U, 0, none⟩)] 88 true, .cells [.int .i64 (v : Int)] 3 true] := ⟨_, rfl⟩
  have hU1 := (h.at_ (p + 1) 0 (by omega)).app L
  have ep : (((p + 1 : Nat)) : Int) = (p : Int) + 1 := by omega
  refine Run_call (F := ir59) rfl (Nat.le_of_ble_eq_true rfl) ?_
  by_cases h0 : b % 4 = 0
  · rw [if_pos h0] at hr
    subst hr
    obtain ⟨w, H', hE, rfl, hfr, a', c', hq⟩ := Run_get (literal_ok hU1 v (by omega) _ rfl)
    rw [h0] at hand
    simp only [D1, rdC, hL, ep] at hE
    simp only [ir59, D1]
    (repeat' first
    | (refine CondV_dec (fun _ => ?_) (fun _ => ?_) <;> try (exfalso; omega))
    | (refine GuardV_td (fun _ => ?_) (fun _ => ?_) <;> try (exfalso; omega))
    | (refine GuardV_fd (fun _ => ?_) (fun _ => ?_) <;> try (exfalso; omega))
    | (refine CondV_split (fun _ => ?_) (fun _ => ?_))
    | (refine Need_of (by first | omega | decide) ?_)
    | refine WpK_cons ?_ ?_
    | refine WpK_guard ?_
    | simp (disch := first | omega | simp only [List.length_append, List.length_set, List.length_cons, List.length_nil] <;> omega | fail) only [evA, ↓evB, ↓astep, ↓aop, aBin, aInt, aStr, aUn, aNil, aMax, aresults, ares, aPack, ↓reduceIte, ↓reduceCtorEq, Nat.reduceEqDiff, Nat.reduceAdd, env0, aLoad, aLoadN, cellsOf, Int.reduceEq, Int.reduceLT, Int.reduceLE, Nat.reduceLeDiff, oneC, aop.fillL, setL, aApp, aAppC_nil, aAppC_own, xop, eqCells, eqCell, rowOf, ↓acallop, aBound, aIntOf, flat, flatN, CX_fn, CX_X, CX_pol, aStore, Nat.reduceBEq, List.size_toArray, Int.sub_zero, Int.zero_add, Int.add_zero, Int.toNat_zero, Int.reduceAdd, Int.reduceSub, Int.reduceMul, Int.reduceNeg, Int.reduceToNat, Nat.reduceSub, Nat.reduceMul, Int.natCast_zero, Int.reduceDiv, Int.reduceMod, Int.toNat_natCast, fdiv_nn, min_bits_i, Int.reducePow, Nat.reducePow, Nat.reduceDiv, Nat.reduceMod, mb_i, mb_u, WpC_drawD, WpT_nil, WpT_cons, WpT_guard, WpK_nil, scal, fn97, ir97, hu, hrr, hJ, hx, hx2, hx3, hv4, hand, hE, Int.natCast_zero])
    exact ⟨rfl, ((Fr.setR _).trans (Fr.app _)).trans hfr, a', c', hq⟩
  · rw [if_neg h0] at hr
    by_cases h1 : b % 4 = 1
    · rw [if_pos h1] at hr
      rw [h1] at hand
      obtain ⟨n, hn⟩ : ∃ n, n = 4 + v % 8 := ⟨_, rfl⟩
      have hn2 : (4 : Int) + (v : Int) % 8 = (n : Int) := by omega
      rw [← hn, farS] at hr
      by_cases hsh : p + 1 + 1 ≤ s.size
      · rw [if_pos hsh] at hr
        subst hr
        obtain ⟨J0, hL0⟩ := little_ok (H := H.set R (rdC s (p + 1 : Nat) 0) ++ L) (i := R) (n := 1) (lim := 0) (fb := H.length + 2) hU1.r (by omega) hsh (by omega) (by omega)
        have hlt2 := ltl_lt s (p + 1) 1 (by omega) hsh
        have hb1 := byt_len s (p + 1) 1 hsh
        obtain ⟨w, hw⟩ : ∃ w, w = ltl (byt s (p + 1) 1) := ⟨_, rfl⟩
        obtain ⟨x, H', hE, rfl, hfr, a', c', hq⟩ := Run_get (copied_ok ((h.at_ (p + 1 + 1) 0 hsh).app L) n (v / 8 * 256 + ltl (byt s (p + 1) 1)) (by omega) (by omega) hlt)
        have hor := or_i64 (v / 8) (ltl (byt s (p + 1) 1)) (by
          have h1 := nm_lt (byt s (p + 1) 1).reverse (fun b hb => byt_lt s (p + 1) 1 b (List.mem_reverse.1 hb))
          rw [List.length_reverse] at h1
          have : (byt s (p + 1) 1).length ≤ 1 := by rw [byt, List.length_take]; omega
          have h3 : 256 ^ (byt s (p + 1) 1).length ≤ 256 ^ 1 := Nat.pow_le_pow_right (by omega) this
          rw [ltl]; omega) (by omega)
        rw [← hw] at hL0 hlt2 hE hor
        have eq1 : ((p + 1 + 1 : Nat) : Int) = (p : Int) + 1 + 1 := by omega
        have eq2 : (p : Int) + 1 + (1 : Nat) = (p : Int) + 1 + 1 := by omega
        simp only [D1, rdC, hL, ep, show ((1 : Nat) : Int) = 1 from rfl, eq1, hset_set, hset2, List.length_set, Int.natCast_zero] at hL0 hE
        simp only [ir59, D1]
        (repeat' first
    | (refine CondV_dec (fun _ => ?_) (fun _ => ?_) <;> try (exfalso; omega))
    | (refine GuardV_td (fun _ => ?_) (fun _ => ?_) <;> try (exfalso; omega))
    | (refine GuardV_fd (fun _ => ?_) (fun _ => ?_) <;> try (exfalso; omega))
    | (refine CondV_split (fun _ => ?_) (fun _ => ?_))
    | (refine Need_of (by first | omega | decide) ?_)
    | refine WpK_cons ?_ ?_
    | refine WpK_guard ?_
    | simp (disch := first | omega | simp only [List.length_append, List.length_set, List.length_cons, List.length_nil] <;> omega | fail) only [evA, ↓evB, ↓astep, ↓aop, aBin, aInt, aStr, aUn, aNil, aMax, aresults, ares, aPack, ↓reduceIte, ↓reduceCtorEq, Nat.reduceEqDiff, Nat.reduceAdd, env0, aLoad, aLoadN, cellsOf, Int.reduceEq, Int.reduceLT, Int.reduceLE, Nat.reduceLeDiff, oneC, aop.fillL, setL, aApp, aAppC_nil, aAppC_own, xop, eqCells, eqCell, rowOf, ↓acallop, aBound, aIntOf, flat, flatN, CX_fn, CX_X, CX_pol, aStore, Nat.reduceBEq, List.size_toArray, Int.sub_zero, Int.zero_add, Int.add_zero, Int.toNat_zero, Int.reduceAdd, Int.reduceSub, Int.reduceMul, Int.reduceNeg, Int.reduceToNat, Nat.reduceSub, Nat.reduceMul, Int.natCast_zero, Int.reduceDiv, Int.reduceMod, Int.toNat_natCast, fdiv_nn, min_bits_i, Int.reducePow, Nat.reducePow, Nat.reduceDiv, Nat.reduceMod, mb_i, mb_u, WpC_drawD, WpT_nil, WpT_cons, WpT_guard, WpK_nil, scal, fn97, ir97, hu, hrr, hJ, hx, hx2, hx3, hv4, hv8, hand, hL0, hn2, hE, hor])
        exact ⟨rfl, ((Fr.setR _).trans (Fr.app _)).trans hfr, a', c', hq⟩
      · rw [if_neg hsh] at hr
        subst hr
        obtain ⟨J0, hL0⟩ := little_no (H := H.set R (rdC s (p + 1 : Nat) 0) ++ L) (i := R) (n := 1) (lim := 0) (fb := H.length + 2) hU1.r (by omega) (by omega) (by omega) (by omega) (by omega)
        obtain ⟨x, H', hE, rfl, hfr, a', c', hq⟩ := Run_get (copied_bad (f := 2) ((h.at_ (p + 1) 2 (by omega)).app L) n (v / 8 * 256) (by omega) (by omega) rfl)
        have hor := or_i64 (v / 8) 0 (by omega) (by omega)
        rw [Nat.add_zero, Int.natCast_zero] at hor
        simp only [D1, rdC, hL, ep, show ((1 : Nat) : Int) = 1 from rfl, hset_set, hset2, List.length_set, Int.natCast_zero] at hL0 hE
        simp only [ir59, D1]
        (repeat' first
    | (refine CondV_dec (fun _ => ?_) (fun _ => ?_) <;> try (exfalso; omega))
    | (refine GuardV_td (fun _ => ?_) (fun _ => ?_) <;> try (exfalso; omega))
    | (refine GuardV_fd (fun _ => ?_) (fun _ => ?_) <;> try (exfalso; omega))
    | (refine CondV_split (fun _ => ?_) (fun _ => ?_))
    | (refine Need_of (by first | omega | decide) ?_)
    | refine WpK_cons ?_ ?_
    | refine WpK_guard ?_
    | simp (disch := first | omega | simp only [List.length_append, List.length_set, List.length_cons, List.length_nil] <;> omega | fail) only [evA, ↓evB, ↓astep, ↓aop, aBin, aInt, aStr, aUn, aNil, aMax, aresults, ares, aPack, ↓reduceIte, ↓reduceCtorEq, Nat.reduceEqDiff, Nat.reduceAdd, env0, aLoad, aLoadN, cellsOf, Int.reduceEq, Int.reduceLT, Int.reduceLE, Nat.reduceLeDiff, oneC, aop.fillL, setL, aApp, aAppC_nil, aAppC_own, xop, eqCells, eqCell, rowOf, ↓acallop, aBound, aIntOf, flat, flatN, CX_fn, CX_X, CX_pol, aStore, Nat.reduceBEq, List.size_toArray, Int.sub_zero, Int.zero_add, Int.add_zero, Int.toNat_zero, Int.reduceAdd, Int.reduceSub, Int.reduceMul, Int.reduceNeg, Int.reduceToNat, Nat.reduceSub, Nat.reduceMul, Int.natCast_zero, Int.reduceDiv, Int.reduceMod, Int.toNat_natCast, fdiv_nn, min_bits_i, Int.reducePow, Nat.reducePow, Nat.reduceDiv, Nat.reduceMod, mb_i, mb_u, WpC_drawD, WpT_nil, WpT_cons, WpT_guard, WpK_nil, scal, fn97, ir97, hu, hrr, hJ, hx, hx2, hx3, hv4, hv8, hand, hL0, hn2, hE, hor])
        exact ⟨rfl, ((Fr.setR _).trans (Fr.app _)).trans hfr, a', c', hq⟩
    · rw [if_neg h1] at hr
      by_cases h2 : b % 4 = 2
      · rw [if_pos h2] at hr
        rw [h2] at hand
        obtain ⟨n, hn⟩ : ∃ n, n = v + 1 := ⟨_, rfl⟩
        have hn2 : (v : Int) + 1 = (n : Int) := by omega
        rw [← hn, farS, Nat.zero_mul, Nat.zero_add] at hr
        by_cases hsh : p + 1 + 2 ≤ s.size
        · rw [if_pos hsh] at hr
          subst hr
          obtain ⟨J0, hL0⟩ := little_ok (H := H.set R (rdC s (p + 1 : Nat) 0) ++ L) (i := R) (n := 2) (lim := 0) (fb := H.length + 2) hU1.r (by omega) hsh (by omega) (by omega)
          have hlt2 := ltl_lt s (p + 1) 2 (by omega) hsh
          have hb1 := byt_len s (p + 1) 2 hsh
          obtain ⟨w, hw⟩ : ∃ w, w = ltl (byt s (p + 1) 2) := ⟨_, rfl⟩
          obtain ⟨x, H', hE, rfl, hfr, a', c', hq⟩ := Run_get (copied_ok ((h.at_ (p + 1 + 2) 0 hsh).app L) n (ltl (byt s (p + 1) 2)) (by omega) (by omega) hlt)
          rw [← hw] at hL0 hlt2 hE
          have eq1 : ((p + 1 + 2 : Nat) : Int) = (p : Int) + 1 + 2 := by omega
          have eq2 : (p : Int) + 1 + (2 : Nat) = (p : Int) + 1 + 2 := by omega
          simp only [D1, rdC, hL, ep, show ((2 : Nat) : Int) = 2 from rfl, eq1, hset_set, hset2, List.length_set, Int.natCast_zero] at hL0 hE
          simp only [ir59, D1]
          (repeat' first
    | (refine CondV_dec (fun _ => ?_) (fun _ => ?_) <;> try (exfalso; omega))
    | (refine GuardV_td (fun _ => ?_) (fun _ => ?_) <;> try (exfalso; omega))
    | (refine GuardV_fd (fun _ => ?_) (fun _ => ?_) <;> try (exfalso; omega))
    | (refine CondV_split (fun _ => ?_) (fun _ => ?_))
    | (refine Need_of (by first | omega | decide) ?_)
    | refine WpK_cons ?_ ?_
    | refine WpK_guard ?_
    | simp (disch := first | omega | simp only [List.length_append, List.length_set, List.length_cons, List.length_nil] <;> omega | fail) only [evA, ↓evB, ↓astep, ↓aop, aBin, aInt, aStr, aUn, aNil, aMax, aresults, ares, aPack, ↓reduceIte, ↓reduceCtorEq, Nat.reduceEqDiff, Nat.reduceAdd, env0, aLoad, aLoadN, cellsOf, Int.reduceEq, Int.reduceLT, Int.reduceLE, Nat.reduceLeDiff, oneC, aop.fillL, setL, aApp, aAppC_nil, aAppC_own, xop, eqCells, eqCell, rowOf, ↓acallop, aBound, aIntOf, flat, flatN, CX_fn, CX_X, CX_pol, aStore, Nat.reduceBEq, List.size_toArray, Int.sub_zero, Int.zero_add, Int.add_zero, Int.toNat_zero, Int.reduceAdd, Int.reduceSub, Int.reduceMul, Int.reduceNeg, Int.reduceToNat, Nat.reduceSub, Nat.reduceMul, Int.natCast_zero, Int.reduceDiv, Int.reduceMod, Int.toNat_natCast, fdiv_nn, min_bits_i, Int.reducePow, Nat.reducePow, Nat.reduceDiv, Nat.reduceMod, mb_i, mb_u, WpC_drawD, WpT_nil, WpT_cons, WpT_guard, WpK_nil, scal, fn97, ir97, fn98, ir98, hu, hrr, hJ, hx, hx2, hx3, hv4, hv8, hand, hL0, hn2, hE, Nat.zero_mul, Nat.zero_add])
          exact ⟨rfl, ((Fr.setR _).trans (Fr.app _)).trans hfr, a', c', hq⟩
        · rw [if_neg hsh] at hr
          subst hr
          obtain ⟨J0, hL0⟩ := little_no (H := H.set R (rdC s (p + 1 : Nat) 0) ++ L) (i := R) (n := 2) (lim := 0) (fb := H.length + 2) hU1.r (by omega) (by omega) (by omega) (by omega) (by omega)
          obtain ⟨x, H', hE, rfl, hfr, a', c', hq⟩ := Run_get (copied_bad (f := 2) ((h.at_ (p + 1) 2 (by omega)).app L) n 0 (by omega) (by omega) rfl)
          simp only [D1, rdC, hL, ep, show ((2 : Nat) : Int) = 2 from rfl, hset_set, hset2, List.length_set, Int.natCast_zero] at hL0 hE
          simp only [ir59, D1]
          (repeat' first
    | (refine CondV_dec (fun _ => ?_) (fun _ => ?_) <;> try (exfalso; omega))
    | (refine GuardV_td (fun _ => ?_) (fun _ => ?_) <;> try (exfalso; omega))
    | (refine GuardV_fd (fun _ => ?_) (fun _ => ?_) <;> try (exfalso; omega))
    | (refine CondV_split (fun _ => ?_) (fun _ => ?_))
    | (refine Need_of (by first | omega | decide) ?_)
    | refine WpK_cons ?_ ?_
    | refine WpK_guard ?_
    | simp (disch := first | omega | simp only [List.length_append, List.length_set, List.length_cons, List.length_nil] <;> omega | fail) only [evA, ↓evB, ↓astep, ↓aop, aBin, aInt, aStr, aUn, aNil, aMax, aresults, ares, aPack, ↓reduceIte, ↓reduceCtorEq, Nat.reduceEqDiff, Nat.reduceAdd, env0, aLoad, aLoadN, cellsOf, Int.reduceEq, Int.reduceLT, Int.reduceLE, Nat.reduceLeDiff, oneC, aop.fillL, setL, aApp, aAppC_nil, aAppC_own, xop, eqCells, eqCell, rowOf, ↓acallop, aBound, aIntOf, flat, flatN, CX_fn, CX_X, CX_pol, aStore, Nat.reduceBEq, List.size_toArray, Int.sub_zero, Int.zero_add, Int.add_zero, Int.toNat_zero, Int.reduceAdd, Int.reduceSub, Int.reduceMul, Int.reduceNeg, Int.reduceToNat, Nat.reduceSub, Nat.reduceMul, Int.natCast_zero, Int.reduceDiv, Int.reduceMod, Int.toNat_natCast, fdiv_nn, min_bits_i, Int.reducePow, Nat.reducePow, Nat.reduceDiv, Nat.reduceMod, mb_i, mb_u, WpC_drawD, WpT_nil, WpT_cons, WpT_guard, WpK_nil, scal, fn97, ir97, fn98, ir98, hu, hrr, hJ, hx, hx2, hx3, hv4, hv8, hand, hL0, hn2, hE, Nat.zero_mul, Nat.zero_add])
          exact ⟨rfl, ((Fr.setR _).trans (Fr.app _)).trans hfr, a', c', hq⟩
      · rw [if_neg h2] at hr
        have h3 : b % 4 = 3 := by omega
        rw [h3] at hand
        obtain ⟨n, hn⟩ : ∃ n, n = v + 1 := ⟨_, rfl⟩
        have hn2 : (v : Int) + 1 = (n : Int) := by omega
        rw [← hn, farS, Nat.zero_mul, Nat.zero_add] at hr
        by_cases hsh : p + 1 + 4 ≤ s.size
        · rw [if_pos hsh] at hr
          subst hr
          obtain ⟨J0, hL0⟩ := little_ok (H := H.set R (rdC s (p + 1 : Nat) 0) ++ L) (i := R) (n := 4) (lim := 0) (fb := H.length + 2) hU1.r (by omega) hsh (by omega) (by omega)
          have hlt2 := ltl_lt s (p + 1) 4 (by omega) hsh
          have hb1 := byt_len s (p + 1) 4 hsh
          obtain ⟨w, hw⟩ : ∃ w, w = ltl (byt s (p + 1) 4) := ⟨_, rfl⟩
          obtain ⟨x, H', hE, rfl, hfr, a', c', hq⟩ := Run_get (copied_ok ((h.at_ (p + 1 + 4) 0 hsh).app L) n (ltl (byt s (p + 1) 4)) (by omega) (by omega) hlt)
          rw [← hw] at hL0 hlt2 hE
          have eq1 : ((p + 1 + 4 : Nat) : Int) = (p : Int) + 1 + 4 := by omega
          have eq2 : (p : Int) + 1 + (4 : Nat) = (p : Int) + 1 + 4 := by omega
          simp only [D1, rdC, hL, ep, show ((4 : Nat) : Int) = 4 from rfl, eq1, hset_set, hset2, List.length_set, Int.natCast_zero] at hL0 hE
          simp only [ir59, D1]
          (repeat' first
    | (refine CondV_dec (fun _ => ?_) (fun _ => ?_) <;> try (exfalso; omega))
    | (refine GuardV_td (fun _ => ?_) (fun _ => ?_) <;> try (exfalso; omega))
    | (refine GuardV_fd (fun _ => ?_) (fun _ => ?_) <;> try (exfalso; omega))
    | (refine CondV_split (fun _ => ?_) (fun _ => ?_))
    | (refine Need_of (by first | omega | decide) ?_)
    | refine WpK_cons ?_ ?_
    | refine WpK_guard ?_
    | simp (disch := first | omega | simp only [List.length_append, List.length_set, List.length_cons, List.length_nil] <;> omega | fail) only [evA, ↓evB, ↓astep, ↓aop, aBin, aInt, aStr, aUn, aNil, aMax, aresults, ares, aPack, ↓reduceIte, ↓reduceCtorEq, Nat.reduceEqDiff, Nat.reduceAdd, env0, aLoad, aLoadN, cellsOf, Int.reduceEq, Int.reduceLT, Int.reduceLE, Nat.reduceLeDiff, oneC, aop.fillL, setL, aApp, aAppC_nil, aAppC_own, xop, eqCells, eqCell, rowOf, ↓acallop, aBound, aIntOf, flat, flatN, CX_fn, CX_X, CX_pol, aStore, Nat.reduceBEq, List.size_toArray, Int.sub_zero, Int.zero_add, Int.add_zero, Int.toNat_zero, Int.reduceAdd, Int.reduceSub, Int.reduceMul, Int.reduceNeg, Int.reduceToNat, Nat.reduceSub, Nat.reduceMul, Int.natCast_zero, Int.reduceDiv, Int.reduceMod, Int.toNat_natCast, fdiv_nn, min_bits_i, Int.reducePow, Nat.reducePow, Nat.reduceDiv, Nat.reduceMod, mb_i, mb_u, WpC_drawD, WpT_nil, WpT_cons, WpT_guard, WpK_nil, scal, fn97, ir97, fn98, ir98, hu, hrr, hJ, hx, hx2, hx3, hv4, hv8, hand, hL0, hn2, hE, Nat.zero_mul, Nat.zero_add])
          exact ⟨rfl, ((Fr.setR _).trans (Fr.app _)).trans hfr, a', c', hq⟩
        · rw [if_neg hsh] at hr
          subst hr
          obtain ⟨J0, hL0⟩ := little_no (H := H.set R (rdC s (p + 1 : Nat) 0) ++ L) (i := R) (n := 4) (lim := 0) (fb := H.length + 2) hU1.r (by omega) (by omega) (by omega) (by omega) (by omega)
          obtain ⟨x, H', hE, rfl, hfr, a', c', hq⟩ := Run_get (copied_bad (f := 2) ((h.at_ (p + 1) 2 (by omega)).app L) n 0 (by omega) (by omega) rfl)
          simp only [D1, rdC, hL, ep, show ((4 : Nat) : Int) = 4 from rfl, hset_set, hset2, List.length_set, Int.natCast_zero] at hL0 hE
          simp only [ir59, D1]
          (repeat' first
    | (refine CondV_dec (fun _ => ?_) (fun _ => ?_) <;> try (exfalso; omega))
    | (refine GuardV_td (fun _ => ?_) (fun _ => ?_) <;> try (exfalso; omega))
    | (refine GuardV_fd (fun _ => ?_) (fun _ => ?_) <;> try (exfalso; omega))
    | (refine CondV_split (fun _ => ?_) (fun _ => ?_))
    | (refine Need_of (by first | omega | decide) ?_)
    | refine WpK_cons ?_ ?_
    | refine WpK_guard ?_
    | simp (disch := first | omega | simp only [List.length_append, List.length_set, List.length_cons, List.length_nil] <;> omega | fail) only [evA, ↓evB, ↓astep, ↓aop, aBin, aInt, aStr, aUn, aNil, aMax, aresults, ares, aPack, ↓reduceIte, ↓reduceCtorEq, Nat.reduceEqDiff, Nat.reduceAdd, env0, aLoad, aLoadN, cellsOf, Int.reduceEq, Int.reduceLT, Int.reduceLE, Nat.reduceLeDiff, oneC, aop.fillL, setL, aApp, aAppC_nil, aAppC_own, xop, eqCells, eqCell, rowOf, ↓acallop, aBound, aIntOf, flat, flatN, CX_fn, CX_X, CX_pol, aStore, Nat.reduceBEq, List.size_toArray, Int.sub_zero, Int.zero_add, Int.add_zero, Int.toNat_zero, Int.reduceAdd, Int.reduceSub, Int.reduceMul, Int.reduceNeg, Int.reduceToNat, Nat.reduceSub, Nat.reduceMul, Int.natCast_zero, Int.reduceDiv, Int.reduceMod, Int.toNat_natCast, fdiv_nn, min_bits_i, Int.reducePow, Nat.reducePow, Nat.reduceDiv, Nat.reduceMod, mb_i, mb_u, WpC_drawD, WpT_nil, WpT_cons, WpT_guard, WpK_nil, scal, fn97, ir97, fn98, ir98, hu, hrr, hJ, hx, hx2, hx3, hv4, hv8, hand, hL0, hn2, hE, Nat.zero_mul, Nat.zero_add])
          exact ⟨rfl, ((Fr.setR _).trans (Fr.app _)).trans hfr, a', c', hq⟩
end L11
end Ev
end Go.Proofs.Ythigekeonjmhdaa
