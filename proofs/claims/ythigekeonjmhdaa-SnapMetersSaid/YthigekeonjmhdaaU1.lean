/-
  The package snap: what an unpacker does.
-/
import Derived.Test.YthigekeonjmhdaaU0
namespace Go.Proofs.Ythigekeonjmhdaa
namespace Ev
namespace L11
open Tag (mk)
open L15
set_option linter.unusedSimpArgs false
set_option linter.unusedVariables false
set_option maxRecDepth 4000
set_option maxHeartbeats 4000000
noncomputable def D1 : Cf := CX (xtab [(93, XNext), (12, XAlive), (13, XSz), (61, XEls)]) (polt [(114, .fw), (60, .fw), (100, .fw), (97, .fw), (126, .fw), (55, .fw)])
/-! ## The cursor -/
def rdC (s : ByteArray) (at_ fault : Int) : AObj := .cells [.string s, .int .i64 at_, .int .i64 fault] 141 true
def rdOk (s : ByteArray) (at_ fault : Int) : Prop := 0 ≤ at_ ∧ at_ ≤ s.size ∧ s.size < 2 ^ 62 ∧ -9223372036854775808 ≤ fault ∧ fault ≤ 9223372036854775807
/-- The fault behind a Take. -/
def rdF (s : ByteArray) (at_ fault n : Int) : Int := if fault ≠ 0 then fault else if n < 0 then 1 else if s.size - at_ < n then 2 else 0
def rdA (s : ByteArray) (at_ fault n : Int) : Int := if rdF s at_ fault n = 0 then at_ + n else at_
def rdT (s : ByteArray) (at_ fault n : Int) : ByteArray := if rdF s at_ fault n = 0 then s.extract at_.toNat (at_ + n).toNat else ⟨#[]⟩
theorem rd_take {H : Heap} {i : Nat} {lim fb : Nat} {s : ByteArray} {at_ fault : Int} (n : Int) (h : H[i]? = some (rdC s at_ fault)) (hl : lim ≤ i)
    (h1 : rdOk s at_ fault) (h2 : -9223372036854775808 ≤ n ∧ n ≤ 9223372036854775807) :
    ∃ J, ∀ k, 5 ≤ k → acall D1 k 114 [.pointer (some ⟨i, 0, none⟩), .int .i64 n] H ⟨lim, fb⟩ = some (.string (rdT s at_ fault n), H.set i (rdC s (rdA s at_ fault n) (rdF s at_ fault n)) ++ J) := by
  have hi := lt_of_get h
  obtain ⟨m1, m2, m3, m4, m5⟩ := h1
  rw [rdC] at h
  have h0 := hset_same h
  refine Run_fuel (F := fun J => H.set i _ ++ J) ?_
  refine Run_exi (f := fun J => H.set i _ ++ J) ?_
  refine Run_call (F := ir114) rfl (Nat.le_of_ble_eq_true rfl) ?_
  simp only [ir114, D1, rdC, rdT, rdA, rdF]
  by_cases hf : fault = 0
  · subst hf
    by_cases hn : n < 0
    · simp only [ne_eq, not_true_eq_false, if_false, if_pos hn, Int.reduceEq]
      (repeat' first
    | (refine CondV_dec (fun _ => ?_) (fun _ => ?_) <;> try (exfalso; omega))
    | (refine GuardV_td (fun _ => ?_) (fun _ => ?_) <;> try (exfalso; omega))
    | (refine GuardV_fd (fun _ => ?_) (fun _ => ?_) <;> try (exfalso; omega))
    | (refine CondV_split (fun _ => ?_) (fun _ => ?_))
    | (refine Need_of (by first | omega | decide) ?_)
    | refine WpK_cons ?_ ?_
    | refine WpK_guard ?_
    | simp (disch := first | omega | simp only [List.length_append, List.length_set, List.length_cons, List.length_nil] <;> omega | fail) only [evA, ↓evB, ↓astep, ↓aop, aBin, aInt, aStr, aUn, aNil, aMax, aresults, ares, aPack, ↓reduceIte, ↓reduceCtorEq, Nat.reduceEqDiff, Nat.reduceAdd, env0, aLoad, aLoadN, cellsOf, Int.reduceEq, Int.reduceLT, Int.reduceLE, Nat.reduceLeDiff, oneC, aop.fillL, setL, aApp, aAppC_nil, aAppC_own, xop, eqCells, eqCell, rowOf, ↓acallop, aBound, aIntOf, flat, flatN, CX_fn, CX_X, CX_pol, aStore, Nat.reduceBEq, List.size_toArray, Int.sub_zero, Int.zero_add, Int.add_zero, Int.toNat_zero, Int.reduceAdd, Int.reduceSub, Int.reduceMul, Int.reduceNeg, Int.reduceToNat, Nat.reduceSub, Nat.reduceMul, Int.natCast_zero, Int.reduceDiv, Int.reduceMod, Int.toNat_natCast, fdiv_nn, min_bits_i, Int.reducePow, Nat.reducePow, Nat.reduceDiv, Nat.reduceMod, mb_i, mb_u, WpC_drawD, WpT_nil, WpT_cons, WpT_guard, WpK_nil, scal, fn132, ir132, fn60, ir60, fn58, ir58, fn57, ir57, h, hl, hn])
      all_goals first | exact ⟨trivial, _, rfl⟩ | exact ⟨_, rfl⟩
    · by_cases hb : (s.size : Int) - at_ < n
      · simp only [ne_eq, not_true_eq_false, if_false, if_neg hn, if_pos hb, Int.reduceEq]
        (repeat' first
    | (refine CondV_dec (fun _ => ?_) (fun _ => ?_) <;> try (exfalso; omega))
    | (refine GuardV_td (fun _ => ?_) (fun _ => ?_) <;> try (exfalso; omega))
    | (refine GuardV_fd (fun _ => ?_) (fun _ => ?_) <;> try (exfalso; omega))
    | (refine CondV_split (fun _ => ?_) (fun _ => ?_))
    | (refine Need_of (by first | omega | decide) ?_)
    | refine WpK_cons ?_ ?_
    | refine WpK_guard ?_
    | simp (disch := first | omega | simp only [List.length_append, List.length_set, List.length_cons, List.length_nil] <;> omega | fail) only [evA, ↓evB, ↓astep, ↓aop, aBin, aInt, aStr, aUn, aNil, aMax, aresults, ares, aPack, ↓reduceIte, ↓reduceCtorEq, Nat.reduceEqDiff, Nat.reduceAdd, env0, aLoad, aLoadN, cellsOf, Int.reduceEq, Int.reduceLT, Int.reduceLE, Nat.reduceLeDiff, oneC, aop.fillL, setL, aApp, aAppC_nil, aAppC_own, xop, eqCells, eqCell, rowOf, ↓acallop, aBound, aIntOf, flat, flatN, CX_fn, CX_X, CX_pol, aStore, Nat.reduceBEq, List.size_toArray, Int.sub_zero, Int.zero_add, Int.add_zero, Int.toNat_zero, Int.reduceAdd, Int.reduceSub, Int.reduceMul, Int.reduceNeg, Int.reduceToNat, Nat.reduceSub, Nat.reduceMul, Int.natCast_zero, Int.reduceDiv, Int.reduceMod, Int.toNat_natCast, fdiv_nn, min_bits_i, Int.reducePow, Nat.reducePow, Nat.reduceDiv, Nat.reduceMod, mb_i, mb_u, WpC_drawD, WpT_nil, WpT_cons, WpT_guard, WpK_nil, scal, fn132, ir132, fn60, ir60, fn58, ir58, fn57, ir57, h, hl, hn, hb])
        all_goals first | exact ⟨trivial, _, rfl⟩ | exact ⟨_, rfl⟩
      · simp only [ne_eq, not_true_eq_false, if_false, if_neg hn, if_neg hb, if_true]
        have e1 : at_ + n - n = at_ := by omega
        (repeat' first
    | (refine CondV_dec (fun _ => ?_) (fun _ => ?_) <;> try (exfalso; omega))
    | (refine GuardV_td (fun _ => ?_) (fun _ => ?_) <;> try (exfalso; omega))
    | (refine GuardV_fd (fun _ => ?_) (fun _ => ?_) <;> try (exfalso; omega))
    | (refine CondV_split (fun _ => ?_) (fun _ => ?_))
    | (refine Need_of (by first | omega | decide) ?_)
    | refine WpK_cons ?_ ?_
    | refine WpK_guard ?_
    | simp (disch := first | omega | simp only [List.length_append, List.length_set, List.length_cons, List.length_nil] <;> omega | fail) only [evA, ↓evB, ↓astep, ↓aop, aBin, aInt, aStr, aUn, aNil, aMax, aresults, ares, aPack, ↓reduceIte, ↓reduceCtorEq, Nat.reduceEqDiff, Nat.reduceAdd, env0, aLoad, aLoadN, cellsOf, Int.reduceEq, Int.reduceLT, Int.reduceLE, Nat.reduceLeDiff, oneC, aop.fillL, setL, aApp, aAppC_nil, aAppC_own, xop, eqCells, eqCell, rowOf, ↓acallop, aBound, aIntOf, flat, flatN, CX_fn, CX_X, CX_pol, aStore, Nat.reduceBEq, List.size_toArray, Int.sub_zero, Int.zero_add, Int.add_zero, Int.toNat_zero, Int.reduceAdd, Int.reduceSub, Int.reduceMul, Int.reduceNeg, Int.reduceToNat, Nat.reduceSub, Nat.reduceMul, Int.natCast_zero, Int.reduceDiv, Int.reduceMod, Int.toNat_natCast, fdiv_nn, min_bits_i, Int.reducePow, Nat.reducePow, Nat.reduceDiv, Nat.reduceMod, mb_i, mb_u, WpC_drawD, WpT_nil, WpT_cons, WpT_guard, WpK_nil, scal, fn132, ir132, fn60, ir60, fn58, ir58, fn57, ir57, h, hl, hn, hb, e1])
        all_goals first | exact ⟨trivial, _, rfl⟩ | exact ⟨_, rfl⟩
  · simp only [ne_eq, hf, not_false_eq_true, if_true, if_false]
    (repeat' first
    | (refine CondV_dec (fun _ => ?_) (fun _ => ?_) <;> try (exfalso; omega))
    | (refine GuardV_td (fun _ => ?_) (fun _ => ?_) <;> try (exfalso; omega))
    | (refine GuardV_fd (fun _ => ?_) (fun _ => ?_) <;> try (exfalso; omega))
    | (refine CondV_split (fun _ => ?_) (fun _ => ?_))
    | (refine Need_of (by first | omega | decide) ?_)
    | refine WpK_cons ?_ ?_
    | refine WpK_guard ?_
    | simp (disch := first | omega | simp only [List.length_append, List.length_set, List.length_cons, List.length_nil] <;> omega | fail) only [evA, ↓evB, ↓astep, ↓aop, aBin, aInt, aStr, aUn, aNil, aMax, aresults, ares, aPack, ↓reduceIte, ↓reduceCtorEq, Nat.reduceEqDiff, Nat.reduceAdd, env0, aLoad, aLoadN, cellsOf, Int.reduceEq, Int.reduceLT, Int.reduceLE, Nat.reduceLeDiff, oneC, aop.fillL, setL, aApp, aAppC_nil, aAppC_own, xop, eqCells, eqCell, rowOf, ↓acallop, aBound, aIntOf, flat, flatN, CX_fn, CX_X, CX_pol, aStore, Nat.reduceBEq, List.size_toArray, Int.sub_zero, Int.zero_add, Int.add_zero, Int.toNat_zero, Int.reduceAdd, Int.reduceSub, Int.reduceMul, Int.reduceNeg, Int.reduceToNat, Nat.reduceSub, Nat.reduceMul, Int.natCast_zero, Int.reduceDiv, Int.reduceMod, Int.toNat_natCast, fdiv_nn, min_bits_i, Int.reducePow, Nat.reducePow, Nat.reduceDiv, Nat.reduceMod, mb_i, mb_u, WpC_drawD, WpT_nil, WpT_cons, WpT_guard, WpK_nil, scal, fn132, ir132, fn60, ir60, fn58, ir58, fn57, ir57, h, hl, hf, h0])
    all_goals first | exact ⟨trivial, _, rfl⟩ | exact ⟨_, rfl⟩


theorem byt_len (s : ByteArray) (p n : Nat) (h : p + n ≤ s.size) : (byt s p n).length = n := by
  rw [byt, List.length_take, List.length_drop, bl_length]; omega
theorem byt_ext (s : ByteArray) (p n : Nat) : bl (s.extract p (p + n)) = byt s p n := by
  rw [bl_extract, byt, List.drop_take, Nat.add_sub_cancel_left]
theorem byt_lt (s : ByteArray) (p n : Nat) : ∀ b ∈ byt s p n, b < 256 := fun b h => bl_lt s b (List.mem_of_mem_drop (List.mem_of_mem_take h))
theorem ext_size (s : ByteArray) (a b : Nat) (h : b ≤ s.size) : (s.extract a b).size = b - a := by
  rw [ByteArray.size_extract, Nat.min_eq_left h]

def I114 (t : ByteArray) (H0 : Heap) (n : Nat) (e : Env) (H : Heap) : Prop :=
  H = H0 ∧ ∃ i : Int, (i + 1).toNat = n ∧ -1 ≤ i ∧ i < t.size ∧ e 6 = .string t ∧ e 7 = .int .i64 i ∧ e 5 = .int .i64 (nm ((bl t).drop (i + 1).toNat).reverse : Int)
theorem loop114 (t : ByteArray) (ht : t.size ≤ 4) {C : Cf} {call : CallF} {N : Nat} {m : Mode} {e : Env} {H : Heap} (hN : 6 ≤ N) (h6 : e 6 = .string t) (h7 : e 7 = .int .i64 ((t.size : Int) - 1)) (h5 : e 5 = .int .i64 0) {Q : Post}
    (hQ : ∀ e', e' 5 = .int .i64 (nm (bl t).reverse : Int) → Q (.exit 0) e' H) : WpC C call N m (.loop lp100_0) e H Q mk := by
  refine WpC_loop (I114 t H) ?_ (n := t.size) (by omega) ?_
  · rintro n e H' ⟨rfl, i, hi, hi1, hi2, h6, h7, h5⟩
    simp only [lp100_0, evA, ↓evB, ↓astep, ↓aop, aBin, aInt, aStr, aUn, aNil, aMax, aresults, ares, aPack, ↓reduceIte, ↓reduceCtorEq, Nat.reduceEqDiff, Nat.reduceAdd, env0, aLoad, aLoadN, cellsOf, Int.reduceEq, Int.reduceLT, Int.reduceLE, Nat.reduceLeDiff, oneC, aop.fillL, setL, aApp, aAppC_nil, aAppC_own, xop, eqCells, eqCell, rowOf, ↓acallop, aBound, aIntOf, flat, flatN, CX_fn, CX_X, CX_pol, aStore, Nat.reduceBEq, List.size_toArray, Int.sub_zero, Int.zero_add, Int.add_zero, Int.toNat_zero, Int.reduceAdd, Int.reduceSub, Int.reduceMul, Int.reduceNeg, Int.reduceToNat, Nat.reduceSub, Nat.reduceMul, Int.natCast_zero, Int.reduceDiv, Int.reduceMod, Int.toNat_natCast, fdiv_nn, min_bits_i, Int.reducePow, Nat.reducePow, Nat.reduceDiv, Nat.reduceMod, mb_i, mb_u, WpC_drawD, WpT_nil, WpT_cons, WpT_guard, WpK_nil, scal, h6, h7, h5]
    refine CondV_dec (fun hc => ?_) (fun hc => ?_)
    · obtain ⟨j, rfl⟩ : ∃ j : Nat, i = j := ⟨i.toNat, by omega⟩
      have e1 : ((j : Int) + 1).toNat = j + 1 := by omega
      rw [e1] at h5
      have hlt := nm_lt ((bl t).drop (j + 1)).reverse (fun b h => bl_lt t b (List.mem_of_mem_drop (List.mem_reverse.1 h)))
      have hl : ((bl t).drop (j + 1)).reverse.length ≤ 3 := by simp [bl_length]; omega
      have h24 : nm ((bl t).drop (j + 1)).reverse < 256 ^ 3 := Nat.lt_of_lt_of_le hlt (Nat.pow_le_pow_right (by omega) hl)
      have hb := bAt_lt t j
      have hor := or_i64 (nm ((bl t).drop (j + 1)).reverse) (bAt t j) hb (by omega)
      have hst : (nm ((bl t).drop (j + 1)).reverse) * 256 + bAt t j = nm ((bl t).drop j).reverse := by
        rw [bl_drop t j (by omega), List.reverse_cons, nm_append]
      rw [hst] at hor
      obtain ⟨w, hw⟩ : ∃ w, w = nm ((bl t).drop (j + 1)).reverse := ⟨_, rfl⟩
      rw [← hw] at h5 hor h24
      (repeat' first
    | (refine CondV_dec (fun _ => ?_) (fun _ => ?_) <;> try (exfalso; omega))
    | (refine GuardV_td (fun _ => ?_) (fun _ => ?_) <;> try (exfalso; omega))
    | (refine GuardV_fd (fun _ => ?_) (fun _ => ?_) <;> try (exfalso; omega))
    | (refine CondV_split (fun _ => ?_) (fun _ => ?_))
    | (refine Need_of (by first | omega | decide) ?_)
    | refine WpK_cons ?_ ?_
    | refine WpK_guard ?_
    | simp (disch := first | omega | simp only [List.length_append, List.length_set, List.length_cons, List.length_nil] <;> omega | fail) only [evA, ↓evB, ↓astep, ↓aop, aBin, aInt, aStr, aUn, aNil, aMax, aresults, ares, aPack, ↓reduceIte, ↓reduceCtorEq, Nat.reduceEqDiff, Nat.reduceAdd, env0, aLoad, aLoadN, cellsOf, Int.reduceEq, Int.reduceLT, Int.reduceLE, Nat.reduceLeDiff, oneC, aop.fillL, setL, aApp, aAppC_nil, aAppC_own, xop, eqCells, eqCell, rowOf, ↓acallop, aBound, aIntOf, flat, flatN, CX_fn, CX_X, CX_pol, aStore, Nat.reduceBEq, List.size_toArray, Int.sub_zero, Int.zero_add, Int.add_zero, Int.toNat_zero, Int.reduceAdd, Int.reduceSub, Int.reduceMul, Int.reduceNeg, Int.reduceToNat, Nat.reduceSub, Nat.reduceMul, Int.natCast_zero, Int.reduceDiv, Int.reduceMod, Int.toNat_natCast, fdiv_nn, min_bits_i, Int.reducePow, Nat.reducePow, Nat.reduceDiv, Nat.reduceMod, mb_i, mb_u, WpC_drawD, WpT_nil, WpT_cons, WpT_guard, WpK_nil, scal, h6, h7, h5, hor])
      exact ⟨n - 1, by omega, rfl, (j : Int) - 1, by omega, by omega, by omega, by (first | rfl | (simp only [Env_put_some, Env_put_none, ↓Env_set_at, ↓reduceIte, Nat.reduceEqDiff, h6] <;> rfl)), by (first | rfl | (simp only [Env_put_some, Env_put_none, ↓Env_set_at, ↓reduceIte, Nat.reduceEqDiff] <;> rfl)), by rw [show ((j : Int) - 1 + 1).toNat = j by omega]; (first | rfl | (simp only [Env_put_some, Env_put_none, ↓Env_set_at, ↓reduceIte, Nat.reduceEqDiff] <;> rfl))⟩
    · have : i = -1 := by omega
      subst this
      (repeat' first
    | (refine CondV_dec (fun _ => ?_) (fun _ => ?_) <;> try (exfalso; omega))
    | (refine GuardV_td (fun _ => ?_) (fun _ => ?_) <;> try (exfalso; omega))
    | (refine GuardV_fd (fun _ => ?_) (fun _ => ?_) <;> try (exfalso; omega))
    | (refine CondV_split (fun _ => ?_) (fun _ => ?_))
    | (refine Need_of (by first | omega | decide) ?_)
    | refine WpK_cons ?_ ?_
    | refine WpK_guard ?_
    | simp (disch := first | omega | simp only [List.length_append, List.length_set, List.length_cons, List.length_nil] <;> omega | fail) only [evA, ↓evB, ↓astep, ↓aop, aBin, aInt, aStr, aUn, aNil, aMax, aresults, ares, aPack, ↓reduceIte, ↓reduceCtorEq, Nat.reduceEqDiff, Nat.reduceAdd, env0, aLoad, aLoadN, cellsOf, Int.reduceEq, Int.reduceLT, Int.reduceLE, Nat.reduceLeDiff, oneC, aop.fillL, setL, aApp, aAppC_nil, aAppC_own, xop, eqCells, eqCell, rowOf, ↓acallop, aBound, aIntOf, flat, flatN, CX_fn, CX_X, CX_pol, aStore, Nat.reduceBEq, List.size_toArray, Int.sub_zero, Int.zero_add, Int.add_zero, Int.toNat_zero, Int.reduceAdd, Int.reduceSub, Int.reduceMul, Int.reduceNeg, Int.reduceToNat, Nat.reduceSub, Nat.reduceMul, Int.natCast_zero, Int.reduceDiv, Int.reduceMod, Int.toNat_natCast, fdiv_nn, min_bits_i, Int.reducePow, Nat.reducePow, Nat.reduceDiv, Nat.reduceMod, mb_i, mb_u, WpC_drawD, WpT_nil, WpT_cons, WpT_guard, WpK_nil, scal, h6, h7, h5])
      refine hQ _ ?_
      (first | rfl | (simp only [Env_put_some, Env_put_none, ↓Env_set_at, ↓reduceIte, Nat.reduceEqDiff, h5] <;> rfl))
  · refine ⟨rfl, (t.size : Int) - 1, by omega, by omega, by omega, h6, h7, ?_⟩
    rw [h5, show ((t.size : Int) - 1 + 1).toNat = t.size by omega, List.drop_of_length_le (by rw [bl_length]; exact Nat.le_refl _)]; rfl
theorem little_ok {H : Heap} {i : Nat} {lim fb : Nat} {s : ByteArray} {p n : Nat} (h : H[i]? = some (rdC s p 0)) (hl : lim ≤ i) (hf : p + n ≤ s.size) (hs : s.size < 2 ^ 62) (hn : n ≤ 4) :
    ∃ J, ∀ k, 10 ≤ k → acall D1 k 100 [.pointer (some ⟨i, 0, none⟩), .int .i64 (n : Int)] H ⟨lim, fb⟩ = some (.int .i64 (ltl (byt s p n) : Int), H.set i (rdC s ((p : Int) + n) 0) ++ J) := by
  have hi := lt_of_get h
  refine Run_fuel (F := fun J => H.set i _ ++ J) ?_
  refine Run_exi (f := fun J => H.set i _ ++ J) ?_
  refine Run_call (F := ir100) rfl (Nat.le_of_ble_eq_true rfl) ?_
  obtain ⟨J, hJ⟩ := rd_take (lim := lim) (fb := H.length) (n : Int) h hl ⟨by omega, by omega, hs, by omega, by omega⟩ (by omega)
  have hF : rdF s p 0 n = 0 := by simp only [rdF]; rw [if_neg (by simp), if_neg (by omega), if_neg (by omega)]
  have e1 : ((p : Int) + (n : Int)).toNat = p + n := by omega
  simp only [D1, rdT, rdA, hF, if_true, rdC, e1, Int.toNat_natCast] at hJ
  have hsz : (s.extract p (p + n)).size = n := by rw [ext_size _ _ _ hf]; omega
  obtain ⟨t, ht⟩ : ∃ t, t = s.extract p (p + n) := ⟨_, rfl⟩
  rw [← ht] at hJ hsz
  simp only [ir100, D1, rdC]
  (repeat' first
    | (refine CondV_dec (fun _ => ?_) (fun _ => ?_) <;> try (exfalso; omega))
    | (refine GuardV_td (fun _ => ?_) (fun _ => ?_) <;> try (exfalso; omega))
    | (refine GuardV_fd (fun _ => ?_) (fun _ => ?_) <;> try (exfalso; omega))
    | (refine CondV_split (fun _ => ?_) (fun _ => ?_))
    | (refine Need_of (by first | omega | decide) ?_)
    | refine WpK_cons ?_ ?_
    | refine WpK_guard ?_
    | simp (disch := first | omega | simp only [List.length_append, List.length_set, List.length_cons, List.length_nil] <;> omega | fail) only [evA, ↓evB, ↓astep, ↓aop, aBin, aInt, aStr, aUn, aNil, aMax, aresults, ares, aPack, ↓reduceIte, ↓reduceCtorEq, Nat.reduceEqDiff, Nat.reduceAdd, env0, aLoad, aLoadN, cellsOf, Int.reduceEq, Int.reduceLT, Int.reduceLE, Nat.reduceLeDiff, oneC, aop.fillL, setL, aApp, aAppC_nil, aAppC_own, xop, eqCells, eqCell, rowOf, ↓acallop, aBound, aIntOf, flat, flatN, CX_fn, CX_X, CX_pol, aStore, Nat.reduceBEq, List.size_toArray, Int.sub_zero, Int.zero_add, Int.add_zero, Int.toNat_zero, Int.reduceAdd, Int.reduceSub, Int.reduceMul, Int.reduceNeg, Int.reduceToNat, Nat.reduceSub, Nat.reduceMul, Int.natCast_zero, Int.reduceDiv, Int.reduceMod, Int.toNat_natCast, fdiv_nn, min_bits_i, Int.reducePow, Nat.reducePow, Nat.reduceDiv, Nat.reduceMod, mb_i, mb_u, WpC_drawD, WpT_nil, WpT_cons, WpT_guard, WpK_nil, scal, hJ, hsz])
  refine loop114 t (by omega) (by omega) (by (first | rfl | (simp only [Env_put_some, Env_put_none, ↓Env_set_at, ↓reduceIte, Nat.reduceEqDiff] <;> rfl))) (by (first | rfl | (simp only [Env_put_some, Env_put_none, ↓Env_set_at, ↓reduceIte, Nat.reduceEqDiff, hsz] <;> rfl))) (by (first | rfl | (simp only [Env_put_some, Env_put_none, ↓Env_set_at, ↓reduceIte, Nat.reduceEqDiff] <;> rfl))) (fun e' h5 => ?_)
  (repeat' first
    | (refine CondV_dec (fun _ => ?_) (fun _ => ?_) <;> try (exfalso; omega))
    | (refine GuardV_td (fun _ => ?_) (fun _ => ?_) <;> try (exfalso; omega))
    | (refine GuardV_fd (fun _ => ?_) (fun _ => ?_) <;> try (exfalso; omega))
    | (refine CondV_split (fun _ => ?_) (fun _ => ?_))
    | (refine Need_of (by first | omega | decide) ?_)
    | refine WpK_cons ?_ ?_
    | refine WpK_guard ?_
    | simp (disch := first | omega | simp only [List.length_append, List.length_set, List.length_cons, List.length_nil] <;> omega | fail) only [evA, ↓evB, ↓astep, ↓aop, aBin, aInt, aStr, aUn, aNil, aMax, aresults, ares, aPack, ↓reduceIte, ↓reduceCtorEq, Nat.reduceEqDiff, Nat.reduceAdd, env0, aLoad, aLoadN, cellsOf, Int.reduceEq, Int.reduceLT, Int.reduceLE, Nat.reduceLeDiff, oneC, aop.fillL, setL, aApp, aAppC_nil, aAppC_own, xop, eqCells, eqCell, rowOf, ↓acallop, aBound, aIntOf, flat, flatN, CX_fn, CX_X, CX_pol, aStore, Nat.reduceBEq, List.size_toArray, Int.sub_zero, Int.zero_add, Int.add_zero, Int.toNat_zero, Int.reduceAdd, Int.reduceSub, Int.reduceMul, Int.reduceNeg, Int.reduceToNat, Nat.reduceSub, Nat.reduceMul, Int.natCast_zero, Int.reduceDiv, Int.reduceMod, Int.toNat_natCast, fdiv_nn, min_bits_i, Int.reducePow, Nat.reducePow, Nat.reduceDiv, Nat.reduceMod, mb_i, mb_u, WpC_drawD, WpT_nil, WpT_cons, WpT_guard, WpK_nil, scal, h5])
  rw [ltl, ← byt_ext, ← ht]
  exact ⟨rfl, [], (List.append_nil _).symm⟩
theorem little_no {H : Heap} {i : Nat} {lim fb : Nat} {s : ByteArray} {p n : Nat} (h : H[i]? = some (rdC s p 0)) (hl : lim ≤ i) (hp : p ≤ s.size) (hf : s.size < p + n) (hs : s.size < 2 ^ 62) (hn : n ≤ 4) :
    ∃ J, ∀ k, 10 ≤ k → acall D1 k 100 [.pointer (some ⟨i, 0, none⟩), .int .i64 (n : Int)] H ⟨lim, fb⟩ = some (.int .i64 0, H.set i (rdC s p 2) ++ J) := by
  have hi := lt_of_get h
  refine Run_fuel (F := fun J => H.set i _ ++ J) ?_
  refine Run_exi (f := fun J => H.set i _ ++ J) ?_
  refine Run_call (F := ir100) rfl (Nat.le_of_ble_eq_true rfl) ?_
  obtain ⟨J, hJ⟩ := rd_take (lim := lim) (fb := H.length) (n : Int) h hl ⟨by omega, by omega, hs, by omega, by omega⟩ (by omega)
  have hF : rdF s p 0 n = 2 := by simp only [rdF]; rw [if_neg (by simp), if_neg (by omega), if_pos (by omega)]
  simp only [D1, rdT, rdA, hF, Int.reduceEq, if_false, rdC] at hJ
  simp only [ir100, D1, rdC]
  (repeat' first
    | (refine CondV_dec (fun _ => ?_) (fun _ => ?_) <;> try (exfalso; omega))
    | (refine GuardV_td (fun _ => ?_) (fun _ => ?_) <;> try (exfalso; omega))
    | (refine GuardV_fd (fun _ => ?_) (fun _ => ?_) <;> try (exfalso; omega))
    | (refine CondV_split (fun _ => ?_) (fun _ => ?_))
    | (refine Need_of (by first | omega | decide) ?_)
    | refine WpK_cons ?_ ?_
    | refine WpK_guard ?_
    | simp (disch := first | omega | simp only [List.length_append, List.length_set, List.length_cons, List.length_nil] <;> omega | fail) only [evA, ↓evB, ↓astep, ↓aop, aBin, aInt, aStr, aUn, aNil, aMax, aresults, ares, aPack, ↓reduceIte, ↓reduceCtorEq, Nat.reduceEqDiff, Nat.reduceAdd, env0, aLoad, aLoadN, cellsOf, Int.reduceEq, Int.reduceLT, Int.reduceLE, Nat.reduceLeDiff, oneC, aop.fillL, setL, aApp, aAppC_nil, aAppC_own, xop, eqCells, eqCell, rowOf, ↓acallop, aBound, aIntOf, flat, flatN, CX_fn, CX_X, CX_pol, aStore, Nat.reduceBEq, List.size_toArray, Int.sub_zero, Int.zero_add, Int.add_zero, Int.toNat_zero, Int.reduceAdd, Int.reduceSub, Int.reduceMul, Int.reduceNeg, Int.reduceToNat, Nat.reduceSub, Nat.reduceMul, Int.natCast_zero, Int.reduceDiv, Int.reduceMod, Int.toNat_natCast, fdiv_nn, min_bits_i, Int.reducePow, Nat.reducePow, Nat.reduceDiv, Nat.reduceMod, mb_i, mb_u, WpC_drawD, WpT_nil, WpT_cons, WpT_guard, WpK_nil, scal, hJ])
  refine loop114 ⟨#[]⟩ (by decide) (by omega) (by (first | rfl | (simp only [Env_put_some, Env_put_none, ↓Env_set_at, ↓reduceIte, Nat.reduceEqDiff] <;> rfl))) (by (first | rfl | (simp only [Env_put_some, Env_put_none, ↓Env_set_at, ↓reduceIte, Nat.reduceEqDiff] <;> rfl))) (by (first | rfl | (simp only [Env_put_some, Env_put_none, ↓Env_set_at, ↓reduceIte, Nat.reduceEqDiff] <;> rfl))) (fun e' h5 => ?_)
  (repeat' first
    | (refine CondV_dec (fun _ => ?_) (fun _ => ?_) <;> try (exfalso; omega))
    | (refine GuardV_td (fun _ => ?_) (fun _ => ?_) <;> try (exfalso; omega))
    | (refine GuardV_fd (fun _ => ?_) (fun _ => ?_) <;> try (exfalso; omega))
    | (refine CondV_split (fun _ => ?_) (fun _ => ?_))
    | (refine Need_of (by first | omega | decide) ?_)
    | refine WpK_cons ?_ ?_
    | refine WpK_guard ?_
    | simp (disch := first | omega | simp only [List.length_append, List.length_set, List.length_cons, List.length_nil] <;> omega | fail) only [evA, ↓evB, ↓astep, ↓aop, aBin, aInt, aStr, aUn, aNil, aMax, aresults, ares, aPack, ↓reduceIte, ↓reduceCtorEq, Nat.reduceEqDiff, Nat.reduceAdd, env0, aLoad, aLoadN, cellsOf, Int.reduceEq, Int.reduceLT, Int.reduceLE, Nat.reduceLeDiff, oneC, aop.fillL, setL, aApp, aAppC_nil, aAppC_own, xop, eqCells, eqCell, rowOf, ↓acallop, aBound, aIntOf, flat, flatN, CX_fn, CX_X, CX_pol, aStore, Nat.reduceBEq, List.size_toArray, Int.sub_zero, Int.zero_add, Int.add_zero, Int.toNat_zero, Int.reduceAdd, Int.reduceSub, Int.reduceMul, Int.reduceNeg, Int.reduceToNat, Nat.reduceSub, Nat.reduceMul, Int.natCast_zero, Int.reduceDiv, Int.reduceMod, Int.toNat_natCast, fdiv_nn, min_bits_i, Int.reducePow, Nat.reducePow, Nat.reduceDiv, Nat.reduceMod, mb_i, mb_u, WpC_drawD, WpT_nil, WpT_cons, WpT_guard, WpK_nil, scal, h5])
  exact ⟨rfl, [], (List.append_nil _).symm⟩
end L11
end Ev
end Go.Proofs.Ythigekeonjmhdaa
