/-
  Unpack by a meter, and the law SnapMeters.
-/
import Derived.Test.YthigekeonjmhdaaU8
namespace Go.Proofs.Ythigekeonjmhdaa
namespace Ev
namespace L11
open Tag (mk)
open L15
set_option linter.unusedSimpArgs false
set_option linter.unusedVariables false
set_option maxRecDepth 4000
set_option maxHeartbeats 4000000
/-! ## The meter -/
abbrev MOk (most used taken top : Int) : Prop := 0 ≤ used ∧ used ≤ top ∧ top ≤ most ∧ most ≤ 9223372036854775807 ∧ 0 ≤ taken ∧ taken ≤ 9223372036854775807
abbrev I64 (n : Int) : Prop := -9223372036854775808 ≤ n ∧ n ≤ 9223372036854775807
/-- What a meter answers, and what it is then. -/
def tkE (most used taken n : Int) : Int := if n < 0 then 1 else if most - used < n ∨ 9223372036854775807 - taken < n then 5 else 0
def mc (most used taken top : Int) : List Value := [.int .i64 most, .int .i64 used, .int .i64 taken, .int .i64 top]
def tkC (most used taken top n : Int) : List Value := if tkE most used taken n = 0 then mc most (used + n) (taken + n) (max top (used + n)) else mc most used taken top
theorem take_ok {H : Heap} {i : Nat} {T : TypeId} {lim fb : Nat} {most used taken top : Int} (n : Int) (h : H[i]? = some (.cells [.int .i64 most, .int .i64 used, .int .i64 taken, .int .i64 top] T true)) (hl : lim ≤ i)
    (h1 : MOk most used taken top) (h2 : I64 n) :
    ∃ J, ∀ k, 4 ≤ k → acall D1 k 55 [.pointer (some ⟨i, 0, none⟩), .int .i64 n] H ⟨lim, fb⟩ = some (.int .i64 (tkE most used taken n), H.set i (.cells (tkC most used taken top n) T true) ++ J) := by
  have hi := lt_of_get h
  obtain ⟨m1, m2, m3, m4, m5, m6⟩ := h1
  refine Run_fuel (F := fun J => H.set i _ ++ J) ?_
  refine Run_exi (f := fun J => H.set i _ ++ J) ?_
  refine Run_call (F := ir55) rfl (Nat.le_of_ble_eq_true rfl) ?_
  simp only [ir55, D1, tkC, mc]
  (repeat' first
    | (refine CondV_dec (fun _ => ?_) (fun _ => ?_) <;> try (exfalso; omega))
    | (refine GuardV_td (fun _ => ?_) (fun _ => ?_) <;> try (exfalso; omega))
    | (refine GuardV_fd (fun _ => ?_) (fun _ => ?_) <;> try (exfalso; omega))
    | (refine CondV_split (fun _ => ?_) (fun _ => ?_))
    | (refine Need_of (by first | omega | decide) ?_)
    | refine WpK_cons ?_ ?_
    | refine WpK_guard ?_
    | simp (disch := first | omega | simp only [List.length_append, List.length_set, List.length_cons, List.length_nil] <;> omega | fail) only [evA, ↓evB, ↓astep, ↓aop, aBin, aInt, aStr, aUn, aNil, aMax, aresults, ares, aPack, ↓reduceIte, ↓reduceCtorEq, Nat.reduceEqDiff, Nat.reduceAdd, env0, aLoad, aLoadN, cellsOf, Int.reduceEq, Int.reduceLT, Int.reduceLE, Nat.reduceLeDiff, oneC, aop.fillL, setL, aApp, aAppC_nil, aAppC_own, xop, eqCells, eqCell, rowOf, ↓acallop, aBound, aIntOf, flat, flatN, CX_fn, CX_X, CX_pol, aStore, Nat.reduceBEq, List.size_toArray, Int.sub_zero, Int.zero_add, Int.add_zero, Int.toNat_zero, Int.reduceAdd, Int.reduceSub, Int.reduceMul, Int.reduceNeg, Int.reduceToNat, Nat.reduceSub, Nat.reduceMul, Int.natCast_zero, Int.reduceDiv, Int.reduceMod, Int.toNat_natCast, fdiv_nn, min_bits_i, Int.reducePow, Nat.reducePow, Nat.reduceDiv, Nat.reduceMod, mb_i, mb_u, WpC_drawD, WpT_nil, WpT_cons, WpT_guard, WpK_nil, scal, fn95, ir95, fn94, ir94, fn96, ir96, h, hl])
  · simp only [tkE, if_pos (show n < 0 by omega), Int.reduceEq, if_false, hset_same h]; exact ⟨trivial, _, rfl⟩
  · have : tkE most used taken n = 5 := by rw [tkE, if_neg (by omega), if_pos (by omega)]
    simp only [this, Int.reduceEq, if_false, hset_same h]; exact ⟨trivial, _, rfl⟩
  · have : tkE most used taken n = 5 := by rw [tkE, if_neg (by omega), if_pos (by omega)]
    simp only [this, Int.reduceEq, if_false, hset_same h]; exact ⟨trivial, _, rfl⟩
  · have : tkE most used taken n = 0 := by rw [tkE, if_neg (by omega), if_neg (by omega)]
    have e1 : max top (used + n) = if top < used + n then used + n else top := by split <;> omega
    simp only [this, if_true, e1]; exact ⟨trivial, _, rfl⟩

def MT : TypeId := 86
theorem notU8_mc (a b c d : Int) : ∀ cs x, AObj.cells (mc a b c d) MT true ≠ AObj.cells cs U8 x := fun cs x h => by injection h with h1 h2 h3; simp [U8, MT] at h2
/-- What Unpack answers by a meter of 'M', and what the meter is then. -/
def unpM (s : ByteArray) (most M : Int) : (ByteArray × Nat) × List Value :=
  if (nx (bl s) 0 0).2.2 ≠ 0 then ((⟨#[]⟩, (nx (bl s) 0 0).2.2), mc M 0 0 0)
  else if 4294967295 < (nx (bl s) 0 0).1 then ((⟨#[]⟩, 5), mc M 0 0 0)
  else if most < (nx (bl s) 0 0).1 then ((⟨#[]⟩, 5), mc M 0 0 0)
  else if M < (nx (bl s) 0 0).1 then ((⟨#[]⟩, 5), mc M 0 0 0)
  else (unpV s most, mc M (nx (bl s) 0 0).1 (nx (bl s) 0 0).1 (nx (bl s) 0 0).1)
def UnpQ (r : (ByteArray × Nat) × List Value) (v : Value) (H' : Heap) : Prop := v = strErr r.1 ∧ H'[0]? = some (.cells r.2 MT true)
theorem w49m (s : ByteArray) (most M : Int) (hs : s.size < 50000) (hm : -9223372036854775808 ≤ most ∧ most ≤ 9223372036854775807) (hM : 0 ≤ M ∧ M ≤ 9223372036854775807) (hcap : (nx (bl s) 0 0).1 ≤ 4294967295 → ((nx (bl s) 0 0).1 : Int) ≤ most → (nx (bl s) 0 0).1 ≤ 50000) :
    Run (UnpQ (unpM s most M)) mk (acall D1 61001 15 [.string s, .int .i64 most, .pointer (some ⟨0, 0, none⟩)] [.cells (mc M 0 0 0) MT true] ⟨0, 0⟩) := by
  obtain ⟨q1, q2, q3⟩ := nx_spec (bl s) 0 0 (by omega) (by decide) (bl_lt s)
  obtain ⟨rr, hrr0⟩ : ∃ r, r = unpM s most M := ⟨_, rfl⟩
  rw [← hrr0]
  rw [unpM] at hrr0
  obtain ⟨r, hr⟩ : ∃ r, r = unpV s most := ⟨_, rfl⟩
  rw [← hr] at hrr0
  rw [unpV] at hr
  obtain ⟨n, k, f, hx⟩ : ∃ n k f, nx (bl s) 0 0 = (n, k, f) := ⟨_, _, _, rfl⟩
  rw [hx] at q1 q2 q3 hcap hr hrr0
  simp only at q1 q2 q3 hcap hr hrr0
  rw [bl_length] at q2
  refine Run_call (F := ir15) rfl (Nat.le_of_ble_eq_true rfl) ?_
  by_cases hf : f = 0
  · subst hf
    rw [if_neg (by simp)] at hr hrr0
    by_cases h32 : 4294967295 < n
    · rw [if_pos h32] at hrr0; subst hrr0
      simp only [ir15, D1]
      (repeat' first
    | (refine CondV_dec (fun _ => ?_) (fun _ => ?_) <;> try (exfalso; omega))
    | (refine GuardV_td (fun _ => ?_) (fun _ => ?_) <;> try (exfalso; omega))
    | (refine GuardV_fd (fun _ => ?_) (fun _ => ?_) <;> try (exfalso; omega))
    | (refine CondV_split (fun _ => ?_) (fun _ => ?_))
    | (refine Need_of (by first | omega | decide) ?_)
    | refine WpK_cons ?_ ?_
    | refine WpK_guard ?_
    | simp (disch := first | omega | simp only [List.length_append, List.length_set, List.length_cons, List.length_nil] <;> omega | fail) only [evA, ↓evB, ↓astep, ↓aop, aBin, aInt, aStr, aUn, aNil, aMax, aresults, ares, aPack, ↓reduceIte, ↓reduceCtorEq, Nat.reduceEqDiff, Nat.reduceAdd, env0, aLoad, aLoadN, cellsOf, Int.reduceEq, Int.reduceLT, Int.reduceLE, Nat.reduceLeDiff, oneC, aop.fillL, setL, aApp, aAppC_nil, aAppC_own, xop, eqCells, eqCell, rowOf, ↓acallop, aBound, aIntOf, flat, flatN, CX_fn, CX_X, CX_pol, aStore, Nat.reduceBEq, List.size_toArray, Int.sub_zero, Int.zero_add, Int.add_zero, Int.toNat_zero, Int.reduceAdd, Int.reduceSub, Int.reduceMul, Int.reduceNeg, Int.reduceToNat, Nat.reduceSub, Nat.reduceMul, Int.natCast_zero, Int.reduceDiv, Int.reduceMod, Int.toNat_natCast, fdiv_nn, min_bits_i, Int.reducePow, Nat.reducePow, Nat.reduceDiv, Nat.reduceMod, mb_i, mb_u, WpC_drawD, WpT_nil, WpT_cons, WpT_guard, WpK_nil, scal, fn54, ir54, XNext_eq, nxV, hx, Int.natCast_zero])
      all_goals exact ⟨rfl, rfl⟩
    · rw [if_neg h32] at hr hrr0
      by_cases hmo : most < n
      · rw [if_pos hmo] at hrr0; subst hrr0
        simp only [ir15, D1]
        (repeat' first
    | (refine CondV_dec (fun _ => ?_) (fun _ => ?_) <;> try (exfalso; omega))
    | (refine GuardV_td (fun _ => ?_) (fun _ => ?_) <;> try (exfalso; omega))
    | (refine GuardV_fd (fun _ => ?_) (fun _ => ?_) <;> try (exfalso; omega))
    | (refine CondV_split (fun _ => ?_) (fun _ => ?_))
    | (refine Need_of (by first | omega | decide) ?_)
    | refine WpK_cons ?_ ?_
    | refine WpK_guard ?_
    | simp (disch := first | omega | simp only [List.length_append, List.length_set, List.length_cons, List.length_nil] <;> omega | fail) only [evA, ↓evB, ↓astep, ↓aop, aBin, aInt, aStr, aUn, aNil, aMax, aresults, ares, aPack, ↓reduceIte, ↓reduceCtorEq, Nat.reduceEqDiff, Nat.reduceAdd, env0, aLoad, aLoadN, cellsOf, Int.reduceEq, Int.reduceLT, Int.reduceLE, Nat.reduceLeDiff, oneC, aop.fillL, setL, aApp, aAppC_nil, aAppC_own, xop, eqCells, eqCell, rowOf, ↓acallop, aBound, aIntOf, flat, flatN, CX_fn, CX_X, CX_pol, aStore, Nat.reduceBEq, List.size_toArray, Int.sub_zero, Int.zero_add, Int.add_zero, Int.toNat_zero, Int.reduceAdd, Int.reduceSub, Int.reduceMul, Int.reduceNeg, Int.reduceToNat, Nat.reduceSub, Nat.reduceMul, Int.natCast_zero, Int.reduceDiv, Int.reduceMod, Int.toNat_natCast, fdiv_nn, min_bits_i, Int.reducePow, Nat.reducePow, Nat.reduceDiv, Nat.reduceMod, mb_i, mb_u, WpC_drawD, WpT_nil, WpT_cons, WpT_guard, WpK_nil, scal, fn54, ir54, XNext_eq, nxV, hx, Int.natCast_zero])
        all_goals exact ⟨rfl, rfl⟩
      · rw [if_neg hmo] at hr hrr0
        have hn := hcap (by omega) (by omega)
        obtain ⟨J, hJ⟩ := take_ok (H := [.cells (mc M 0 0 0) MT true]) (i := 0) (lim := 0) (fb := 1) (n : Int) rfl (by omega) (by omega) (by omega)
        by_cases hMn : M < n
        · rw [if_pos hMn] at hrr0; subst hrr0
          have hE : tkE M 0 0 n = 5 := by rw [tkE, if_neg (by omega), if_pos (by omega)]
          simp only [D1, tkC, hE, Int.reduceEq, if_false, MT, mc, List.set_cons_zero] at hJ
          simp only [ir15, D1, MT, mc]
          (repeat' first
    | (refine CondV_dec (fun _ => ?_) (fun _ => ?_) <;> try (exfalso; omega))
    | (refine GuardV_td (fun _ => ?_) (fun _ => ?_) <;> try (exfalso; omega))
    | (refine GuardV_fd (fun _ => ?_) (fun _ => ?_) <;> try (exfalso; omega))
    | (refine CondV_split (fun _ => ?_) (fun _ => ?_))
    | (refine Need_of (by first | omega | decide) ?_)
    | refine WpK_cons ?_ ?_
    | refine WpK_guard ?_
    | simp (disch := first | omega | simp only [List.length_append, List.length_set, List.length_cons, List.length_nil] <;> omega | fail) only [evA, ↓evB, ↓astep, ↓aop, aBin, aInt, aStr, aUn, aNil, aMax, aresults, ares, aPack, ↓reduceIte, ↓reduceCtorEq, Nat.reduceEqDiff, Nat.reduceAdd, env0, aLoad, aLoadN, cellsOf, Int.reduceEq, Int.reduceLT, Int.reduceLE, Nat.reduceLeDiff, oneC, aop.fillL, setL, aApp, aAppC_nil, aAppC_own, xop, eqCells, eqCell, rowOf, ↓acallop, aBound, aIntOf, flat, flatN, CX_fn, CX_X, CX_pol, aStore, Nat.reduceBEq, List.size_toArray, Int.sub_zero, Int.zero_add, Int.add_zero, Int.toNat_zero, Int.reduceAdd, Int.reduceSub, Int.reduceMul, Int.reduceNeg, Int.reduceToNat, Nat.reduceSub, Nat.reduceMul, Int.natCast_zero, Int.reduceDiv, Int.reduceMod, Int.toNat_natCast, fdiv_nn, min_bits_i, Int.reducePow, Nat.reducePow, Nat.reduceDiv, Nat.reduceMod, mb_i, mb_u, WpC_drawD, WpT_nil, WpT_cons, WpT_guard, WpK_nil, scal, fn54, ir54, XNext_eq, nxV, hx, Int.natCast_zero, hJ])
          all_goals exact ⟨rfl, rfl⟩
        · rw [if_neg hMn] at hrr0
          have hE : tkE M 0 0 n = 0 := by rw [tkE, if_neg (by omega), if_neg (by omega)]
          simp only [D1, tkC, hE, if_true, MT, mc, List.set_cons_zero, Int.zero_add, show max (0 : Int) (n : Int) = n by omega] at hJ
          obtain ⟨t, ht⟩ : ∃ t, t = s.extract k s.size := ⟨_, rfl⟩
          rw [← ht] at hr
          have hts : t.size < 50000 := by rw [ht, ext_size _ _ _ (Nat.le_refl _)]; omega
          simp only [ir15, D1, MT, mc]
          (repeat' first
    | (refine CondV_dec (fun _ => ?_) (fun _ => ?_) <;> try (exfalso; omega))
    | (refine GuardV_td (fun _ => ?_) (fun _ => ?_) <;> try (exfalso; omega))
    | (refine GuardV_fd (fun _ => ?_) (fun _ => ?_) <;> try (exfalso; omega))
    | (refine CondV_split (fun _ => ?_) (fun _ => ?_))
    | (refine Need_of (by first | omega | decide) ?_)
    | refine WpK_cons ?_ ?_
    | refine WpK_guard ?_
    | simp (disch := first | omega | simp only [List.length_append, List.length_set, List.length_cons, List.length_nil] <;> omega | fail) only [evA, ↓evB, ↓astep, ↓aop, aBin, aInt, aStr, aUn, aNil, aMax, aresults, ares, aPack, ↓reduceIte, ↓reduceCtorEq, Nat.reduceEqDiff, Nat.reduceAdd, env0, aLoad, aLoadN, cellsOf, Int.reduceEq, Int.reduceLT, Int.reduceLE, Nat.reduceLeDiff, oneC, aop.fillL, setL, aApp, aAppC_nil, aAppC_own, xop, eqCells, eqCell, rowOf, ↓acallop, aBound, aIntOf, flat, flatN, CX_fn, CX_X, CX_pol, aStore, Nat.reduceBEq, List.size_toArray, Int.sub_zero, Int.zero_add, Int.add_zero, Int.toNat_zero, Int.reduceAdd, Int.reduceSub, Int.reduceMul, Int.reduceNeg, Int.reduceToNat, Nat.reduceSub, Nat.reduceMul, Int.natCast_zero, Int.reduceDiv, Int.reduceMod, Int.toNat_natCast, fdiv_nn, min_bits_i, Int.reducePow, Nat.reducePow, Nat.reduceDiv, Nat.reduceMod, mb_i, mb_u, WpC_drawD, WpT_nil, WpT_cons, WpT_guard, WpK_nil, scal, fn54, ir54, fn56, ir56, XNext_eq, nxV, hx, Int.natCast_zero, ← ht, hJ])
          refine unp_loop (U := 2) (R := 1) (s := t) (size := n) (a := none) (c := 0) (by (first | rfl | (simp only [Env_put_some, Env_put_none, ↓Env_set_at, ↓reduceIte, Nat.reduceEqDiff] <;> rfl))) (by (first | rfl | (simp only [Env_put_some, Env_put_none, ↓Env_set_at, ↓reduceIte, Nat.reduceEqDiff] <;> rfl))) ⟨rfl, rfl, .inl ⟨rfl, rfl, rfl⟩, by decide, by omega, by omega, by simp, hn⟩ hts (fun e' H' p f out a' c' hfr g12 g8 hu hlt hf3 hcase => ?_)
          have hm0 := hfr 0 _ (by omega) (by omega) rfl (notU8_mc M n n n)
          have huu := hu.u
          rw [unC] at huu
          have hrr := hu.r
          rw [rdC] at hrr
          have hul := hu.lt
          rcases hcase with ⟨rfl, hres⟩ | ⟨hf0, hres⟩
          · rw [hres] at hr
            by_cases hlen : out.length < n
            · rw [if_pos hlen, if_pos (by simp)] at hr
              subst hr; subst hrr0
              (repeat' first
    | (refine CondV_dec (fun _ => ?_) (fun _ => ?_) <;> try (exfalso; omega))
    | (refine GuardV_td (fun _ => ?_) (fun _ => ?_) <;> try (exfalso; omega))
    | (refine GuardV_fd (fun _ => ?_) (fun _ => ?_) <;> try (exfalso; omega))
    | (refine CondV_split (fun _ => ?_) (fun _ => ?_))
    | (refine Need_of (by first | omega | decide) ?_)
    | refine WpK_cons ?_ ?_
    | refine WpK_guard ?_
    | simp (disch := first | omega | simp only [List.length_append, List.length_set, List.length_cons, List.length_nil] <;> omega | fail) only [evA, ↓evB, ↓astep, ↓aop, aBin, aInt, aStr, aUn, aNil, aMax, aresults, ares, aPack, ↓reduceIte, ↓reduceCtorEq, Nat.reduceEqDiff, Nat.reduceAdd, env0, aLoad, aLoadN, cellsOf, Int.reduceEq, Int.reduceLT, Int.reduceLE, Nat.reduceLeDiff, oneC, aop.fillL, setL, aApp, aAppC_nil, aAppC_own, xop, eqCells, eqCell, rowOf, ↓acallop, aBound, aIntOf, flat, flatN, CX_fn, CX_X, CX_pol, aStore, Nat.reduceBEq, List.size_toArray, Int.sub_zero, Int.zero_add, Int.add_zero, Int.toNat_zero, Int.reduceAdd, Int.reduceSub, Int.reduceMul, Int.reduceNeg, Int.reduceToNat, Nat.reduceSub, Nat.reduceMul, Int.natCast_zero, Int.reduceDiv, Int.reduceMod, Int.toNat_natCast, fdiv_nn, min_bits_i, Int.reducePow, Nat.reducePow, Nat.reduceDiv, Nat.reduceMod, mb_i, mb_u, WpC_drawD, WpT_nil, WpT_cons, WpT_guard, WpK_nil, scal, fn60, ir60, fn58, ir58, g12, g8, huu, hrr, Int.natCast_zero])
              all_goals exact ⟨rfl, by rw [hset_ne (by omega)]; exact hm0⟩
            · rw [if_neg hlen, if_neg (by simp)] at hr
              subst hr; subst hrr0
              rcases hu.o with ⟨rfl, rfl, rfl⟩ | ⟨j, rfl, rfl, hj⟩
              · have hn0 : n = 0 := by simpa using hlen
                subst hn0
                have hab : allBytes [] = some [] := rfl
                (repeat' first
    | (refine CondV_dec (fun _ => ?_) (fun _ => ?_) <;> try (exfalso; omega))
    | (refine GuardV_td (fun _ => ?_) (fun _ => ?_) <;> try (exfalso; omega))
    | (refine GuardV_fd (fun _ => ?_) (fun _ => ?_) <;> try (exfalso; omega))
    | (refine CondV_split (fun _ => ?_) (fun _ => ?_))
    | (refine Need_of (by first | omega | decide) ?_)
    | refine WpK_cons ?_ ?_
    | refine WpK_guard ?_
    | simp (disch := first | omega | simp only [List.length_append, List.length_set, List.length_cons, List.length_nil] <;> omega | fail) only [evA, ↓evB, ↓astep, ↓aop, aBin, aInt, aStr, aUn, aNil, aMax, aresults, ares, aPack, ↓reduceIte, ↓reduceCtorEq, Nat.reduceEqDiff, Nat.reduceAdd, env0, aLoad, aLoadN, cellsOf, Int.reduceEq, Int.reduceLT, Int.reduceLE, Nat.reduceLeDiff, oneC, aop.fillL, setL, aApp, aAppC_nil, aAppC_own, xop, eqCells, eqCell, rowOf, ↓acallop, aBound, aIntOf, flat, flatN, CX_fn, CX_X, CX_pol, aStore, Nat.reduceBEq, List.size_toArray, Int.sub_zero, Int.zero_add, Int.add_zero, Int.toNat_zero, Int.reduceAdd, Int.reduceSub, Int.reduceMul, Int.reduceNeg, Int.reduceToNat, Nat.reduceSub, Nat.reduceMul, Int.natCast_zero, Int.reduceDiv, Int.reduceMod, Int.toNat_natCast, fdiv_nn, min_bits_i, Int.reducePow, Nat.reducePow, Nat.reduceDiv, Nat.reduceMod, mb_i, mb_u, WpC_drawD, WpT_nil, WpT_cons, WpT_guard, WpK_nil, scal, fn60, ir60, fn58, ir58, g12, g8, huu, hrr, Int.natCast_zero, hab])
                all_goals exact ⟨rfl, hm0⟩
              · (repeat' first
    | (refine CondV_dec (fun _ => ?_) (fun _ => ?_) <;> try (exfalso; omega))
    | (refine GuardV_td (fun _ => ?_) (fun _ => ?_) <;> try (exfalso; omega))
    | (refine GuardV_fd (fun _ => ?_) (fun _ => ?_) <;> try (exfalso; omega))
    | (refine CondV_split (fun _ => ?_) (fun _ => ?_))
    | (refine Need_of (by first | omega | decide) ?_)
    | refine WpK_cons ?_ ?_
    | refine WpK_guard ?_
    | simp (disch := first | omega | simp only [List.length_append, List.length_set, List.length_cons, List.length_nil] <;> omega | fail) only [evA, ↓evB, ↓astep, ↓aop, aBin, aInt, aStr, aUn, aNil, aMax, aresults, ares, aPack, ↓reduceIte, ↓reduceCtorEq, Nat.reduceEqDiff, Nat.reduceAdd, env0, aLoad, aLoadN, cellsOf, Int.reduceEq, Int.reduceLT, Int.reduceLE, Nat.reduceLeDiff, oneC, aop.fillL, setL, aApp, aAppC_nil, aAppC_own, xop, eqCells, eqCell, rowOf, ↓acallop, aBound, aIntOf, flat, flatN, CX_fn, CX_X, CX_pol, aStore, Nat.reduceBEq, List.size_toArray, Int.sub_zero, Int.zero_add, Int.add_zero, Int.toNat_zero, Int.reduceAdd, Int.reduceSub, Int.reduceMul, Int.reduceNeg, Int.reduceToNat, Nat.reduceSub, Nat.reduceMul, Int.natCast_zero, Int.reduceDiv, Int.reduceMod, Int.toNat_natCast, fdiv_nn, min_bits_i, Int.reducePow, Nat.reducePow, Nat.reduceDiv, Nat.reduceMod, mb_i, mb_u, WpC_drawD, WpT_nil, WpT_cons, WpT_guard, WpK_nil, scal, fn60, ir60, fn58, ir58, g12, g8, huu, hrr, Int.natCast_zero, hj])
                all_goals exact ⟨rfl, hm0⟩
          · rw [hres, if_pos hf0] at hr
            subst hr; subst hrr0
            have hfi : ¬ (f : Int) = 0 := by omega
            (repeat' first
    | (refine CondV_dec (fun _ => ?_) (fun _ => ?_) <;> try (exfalso; omega))
    | (refine GuardV_td (fun _ => ?_) (fun _ => ?_) <;> try (exfalso; omega))
    | (refine GuardV_fd (fun _ => ?_) (fun _ => ?_) <;> try (exfalso; omega))
    | (refine CondV_split (fun _ => ?_) (fun _ => ?_))
    | (refine Need_of (by first | omega | decide) ?_)
    | refine WpK_cons ?_ ?_
    | refine WpK_guard ?_
    | simp (disch := first | omega | simp only [List.length_append, List.length_set, List.length_cons, List.length_nil] <;> omega | fail) only [evA, ↓evB, ↓astep, ↓aop, aBin, aInt, aStr, aUn, aNil, aMax, aresults, ares, aPack, ↓reduceIte, ↓reduceCtorEq, Nat.reduceEqDiff, Nat.reduceAdd, env0, aLoad, aLoadN, cellsOf, Int.reduceEq, Int.reduceLT, Int.reduceLE, Nat.reduceLeDiff, oneC, aop.fillL, setL, aApp, aAppC_nil, aAppC_own, xop, eqCells, eqCell, rowOf, ↓acallop, aBound, aIntOf, flat, flatN, CX_fn, CX_X, CX_pol, aStore, Nat.reduceBEq, List.size_toArray, Int.sub_zero, Int.zero_add, Int.add_zero, Int.toNat_zero, Int.reduceAdd, Int.reduceSub, Int.reduceMul, Int.reduceNeg, Int.reduceToNat, Nat.reduceSub, Nat.reduceMul, Int.natCast_zero, Int.reduceDiv, Int.reduceMod, Int.toNat_natCast, fdiv_nn, min_bits_i, Int.reducePow, Nat.reducePow, Nat.reduceDiv, Nat.reduceMod, mb_i, mb_u, WpC_drawD, WpT_nil, WpT_cons, WpT_guard, WpK_nil, scal, fn60, ir60, fn58, ir58, g12, g8, huu, hrr, hfi])
            all_goals exact ⟨rfl, hm0⟩
  · rw [if_pos hf] at hrr0; subst hrr0
    have hfi : ¬ (f : Int) = 0 := by omega
    simp only [ir15, D1]
    (repeat' first
    | (refine CondV_dec (fun _ => ?_) (fun _ => ?_) <;> try (exfalso; omega))
    | (refine GuardV_td (fun _ => ?_) (fun _ => ?_) <;> try (exfalso; omega))
    | (refine GuardV_fd (fun _ => ?_) (fun _ => ?_) <;> try (exfalso; omega))
    | (refine CondV_split (fun _ => ?_) (fun _ => ?_))
    | (refine Need_of (by first | omega | decide) ?_)
    | refine WpK_cons ?_ ?_
    | refine WpK_guard ?_
    | simp (disch := first | omega | simp only [List.length_append, List.length_set, List.length_cons, List.length_nil] <;> omega | fail) only [evA, ↓evB, ↓astep, ↓aop, aBin, aInt, aStr, aUn, aNil, aMax, aresults, ares, aPack, ↓reduceIte, ↓reduceCtorEq, Nat.reduceEqDiff, Nat.reduceAdd, env0, aLoad, aLoadN, cellsOf, Int.reduceEq, Int.reduceLT, Int.reduceLE, Nat.reduceLeDiff, oneC, aop.fillL, setL, aApp, aAppC_nil, aAppC_own, xop, eqCells, eqCell, rowOf, ↓acallop, aBound, aIntOf, flat, flatN, CX_fn, CX_X, CX_pol, aStore, Nat.reduceBEq, List.size_toArray, Int.sub_zero, Int.zero_add, Int.add_zero, Int.toNat_zero, Int.reduceAdd, Int.reduceSub, Int.reduceMul, Int.reduceNeg, Int.reduceToNat, Nat.reduceSub, Nat.reduceMul, Int.natCast_zero, Int.reduceDiv, Int.reduceMod, Int.toNat_natCast, fdiv_nn, min_bits_i, Int.reducePow, Nat.reducePow, Nat.reduceDiv, Nat.reduceMod, mb_i, mb_u, WpC_drawD, WpT_nil, WpT_cons, WpT_guard, WpK_nil, scal, fn54, ir54, XNext_eq, nxV, hx, hfi])
    all_goals exact ⟨rfl, rfl⟩
end L11
end Ev
end Go.Proofs.Ythigekeonjmhdaa
