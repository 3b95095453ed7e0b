/-
  The law CompactReads.
-/
import Derived.Test.YtfbelnjchpffeaaDoorG2
import Derived.Test.YtfbelnjchpffeaaDoorEvW
namespace Go.Proofs.YtfbelnjchpffeaaDoor
namespace Ev
namespace Cg
open Tag (mk)
open F4 (dg nm lsts putV seV getV neV XPutF XGetF XNext4 XNext4_eq empty_eq bs_append bs_cons bs_one bs_eq bl_bs')
set_option linter.unusedSimpArgs false
set_option linter.unusedVariables false
set_option maxRecDepth 4000
set_option maxHeartbeats 4000000
theorem nm64 (s : ByteArray) (w : Nat) (h8 : w ≤ 8) : nm (bl (s.extract 1 (1 + w))).reverse < 2 ^ 64 := by
  have := F4.nm_lt (bl (s.extract 1 (1 + w))).reverse (fun b hb => bl_lt _ b (by simpa using hb))
  refine Nat.lt_of_lt_of_le this ?_
  have hsz : (s.extract 1 (1 + w)).size ≤ 8 := by rw [ByteArray.size_extract]; omega
  rw [List.length_reverse, bl_length]
  calc 256 ^ (s.extract 1 (1 + w)).size ≤ 256 ^ 8 := Nat.pow_le_pow_right (by decide) hsz
    _ = 2 ^ 64 := by decide
theorem cw_le (b : Nat) : cw b ≤ 8 := by rw [cw]; split; · decide
                                         · split <;> decide
theorem cnx_facts (s : ByteArray) : (cnx s).1 < 2 ^ 64 ∧ (cnx s).2.2 ≤ 3 ∧ ((cnx s).2.2 = 0 → (cnx s).2.1 ≤ s.size ∧ bs (cput (cnx s).1) = s.extract 0 (cnx s).2.1) := by
  have hb := bAt_lt s 0
  rw [cnx]
  split
  · exact ⟨by decide, by decide, fun h => by cases h⟩
  · rename_i hz
    split
    · rename_i hn
      exact ⟨Nat.lt_trans hb (by decide), Nat.zero_le _, fun _ => ⟨by show 1 ≤ s.size; omega, F4.cput_small s hz hn⟩⟩
    · rename_i hn
      split
      · exact ⟨by decide, by decide, fun h => by cases h⟩
      · rename_i hs
        have h64 := nm64 s (cw (bAt s 0)) (cw_le _)
        split
        · rename_i hl
          exact ⟨h64, Nat.zero_le _, fun _ => ⟨by show 1 + cw (bAt s 0) ≤ s.size; omega, (F4.cput_iff s _ _ (by omega) rfl (by omega) rfl h64).2 hl⟩⟩
        · exact ⟨by decide, by decide, fun h => by cases h⟩
theorem cnx_cut (s : ByteArray) (h : Nat) : (cnx (s.extract 0 h)).2.2 = 2 ∨ cnx (s.extract 0 h) = cnx s := by
  have hsz : (s.extract 0 h).size = min h s.size := by rw [ByteArray.size_extract]; omega
  by_cases hz : min h s.size = 0
  · left; rw [cnx, if_pos (by omega)]
  · have e0 : bAt (s.extract 0 h) 0 = bAt s 0 := by
      rw [bAt_bl, bAt_bl, bl_extract, List.drop_zero, List.getD_eq_getElem?_getD, List.getD_eq_getElem?_getD, List.getElem?_take, if_pos (by omega)]
    have e1 : ∀ w, 1 + w ≤ h → (s.extract 0 h).extract 1 (1 + w) = s.extract 1 (1 + w) := fun w hw => bl_inj (by
      rw [bl_extract, bl_extract, bl_extract, List.drop_zero, List.take_take, Nat.min_eq_left hw])
    rw [cnx, if_neg (by omega), e0, cnx, if_neg (show ¬ s.size = 0 by omega)]
    by_cases hn : bAt s 0 < 253
    · right; rw [if_pos hn, if_pos hn]
    · rw [if_neg hn, if_neg hn]
      by_cases h2 : min h s.size < 1 + cw (bAt s 0)
      · left; rw [if_pos (by omega)]
      · right; rw [if_neg (show ¬ (s.extract 0 h).size < 1 + cw (bAt s 0) by omega), if_neg (show ¬ s.size < 1 + cw (bAt s 0) by omega), e1 (cw (bAt s 0)) (by omega)]
theorem wAlive (H : Heap) (T : TypeId) (h0 : H[0]? = some (.cells szs T false)) (m : Ev.Mode) (hl : m.lim ≤ H.length) (hf : m.fb ≤ H.length) (k : Nat) (hk : 20 < k) :
    Run (fun v _ => v = .bool true) mk (acall D1 (k + 1) 4 [] H m) := by
  refine Run_call (F := ir4) rfl (Nat.le_of_ble_eq_true rfl) ?_
  have hE0 : Run (fun v _ => v = .tuple #[.int .u64 0, .int .i64 0, .int .i64 3]) mk (acall D1 14 5 [.string ⟨#[253, 1, 0]⟩] H ⟨H.length, H.length⟩) := by
    have := wNext ⟨#[253, 1, 0]⟩ (by decide) H T h0 ⟨H.length, H.length⟩ (Nat.le_refl _) (Nat.le_refl _) 13 (by decide)
    rw [show cnx ⟨#[253, 1, 0]⟩ = (0, 0, 3) by decide +kernel] at this
    exact this
  have hP0 : Run (fun v _ => v = .string ⟨#[253, 253, 0]⟩) mk (acall D1 14 7 [.int .u64 253] H ⟨H.length, H.length⟩) := by
    have := wPut 253 (by decide) H T h0 ⟨H.length, H.length⟩ (Nat.le_refl _) (Nat.le_refl _) 13 (by decide)
    rw [show bs (cput 253) = ⟨#[253, 253, 0]⟩ by rfl] at this
    exact this
  obtain ⟨v, H', hE, rfl⟩ := Run_get hE0
  obtain ⟨v, H', hP, rfl⟩ := Run_get hP0
  simp only [D1] at hE hP
  simp only [ir4, D1]
  (repeat' first
    | (refine CondV_dec (fun _ => ?_) (fun _ => ?_) <;> try (exfalso; omega))
    | (refine GuardV_td (fun _ => ?_) (fun _ => ?_) <;> try (exfalso; omega))
    | (refine GuardV_fd (fun _ => ?_) (fun _ => ?_) <;> try (exfalso; omega))
    | (refine CondV_split (fun _ => ?_) (fun _ => ?_))
    | (refine Need_of (by first | omega | decide) ?_)
    | refine WpK_cons ?_ ?_
    | refine WpK_guard ?_
    | simp (disch := first | omega | simp only [List.length_append, List.length_set, List.length_cons, List.length_nil] <;> omega | fail) only [evA, ↓evB, ↓astep, ↓aop, aBin, aInt, aStr, aUn, aNil, aMax, aresults, ares, aPack, ↓reduceIte, ↓reduceCtorEq, Nat.reduceEqDiff, Nat.reduceAdd, env0, aLoad, aLoadN, cellsOf, Int.reduceEq, Int.reduceLT, Int.reduceLE, Nat.reduceLeDiff, oneC, aop.fillL, setL, aApp, aAppC_nil, aAppC_own, xop, eqCells, eqCell, rowOf, ↓acallop, aBound, aIntOf, flat, flatN, CX_fn, CX_X, CX_pol, aStore, Nat.reduceBEq, List.size_toArray, Int.sub_zero, Int.zero_add, Int.add_zero, Int.toNat_zero, Int.reduceAdd, Int.reduceSub, Int.reduceMul, Int.reduceNeg, Int.reduceToNat, Nat.reduceSub, Nat.reduceMul, Int.natCast_zero, Int.reduceDiv, Int.reduceMod, Int.toNat_natCast, fdiv_nn, min_bits_i, Int.reducePow, Nat.reducePow, Nat.reduceDiv, Nat.reduceMod, mb_i, mb_u, WpC_drawD, WpT_nil, WpT_cons, WpT_guard, WpK_nil, scal, hE, hP])
theorem wReads (s : ByteArray) (hs : s.size < 2 ^ 63) (c : Int) (hc : 0 ≤ c ∧ c < 256) (T : TypeId) : Run (fun v _ => v = .bool true) mk (acall D1 60 3 [.string s, .int .u8 c] [.cells szs T false] ⟨1, 0⟩) := by
  refine Run_call (F := ir3) rfl (Nat.le_of_ble_eq_true rfl) ?_
  obtain ⟨H, hH⟩ : ∃ H : Heap, H = [.cells szs T false] := ⟨_, rfl⟩
  have h0 : H[0]? = some (.cells szs T false) := by rw [hH]; rfl
  have hl1 : H.length = 1 := by rw [hH]; rfl
  rw [← hH]
  obtain ⟨v, H', hA, rfl⟩ := Run_get (wAlive H T h0 ⟨H.length, H.length⟩ (Nat.le_refl _) (Nat.le_refl _) 21 (by decide))
  by_cases hbig : 200 < s.size
  · simp only [D1] at hA
    simp only [ir3, D1]
    (repeat' first
    | (refine CondV_dec (fun _ => ?_) (fun _ => ?_) <;> try (exfalso; omega))
    | (refine GuardV_td (fun _ => ?_) (fun _ => ?_) <;> try (exfalso; omega))
    | (refine GuardV_fd (fun _ => ?_) (fun _ => ?_) <;> try (exfalso; omega))
    | (refine CondV_split (fun _ => ?_) (fun _ => ?_))
    | (refine Need_of (by first | omega | decide) ?_)
    | refine WpK_cons ?_ ?_
    | refine WpK_guard ?_
    | simp (disch := first | omega | simp only [List.length_append, List.length_set, List.length_cons, List.length_nil] <;> omega | fail) only [evA, ↓evB, ↓astep, ↓aop, aBin, aInt, aStr, aUn, aNil, aMax, aresults, ares, aPack, ↓reduceIte, ↓reduceCtorEq, Nat.reduceEqDiff, Nat.reduceAdd, env0, aLoad, aLoadN, cellsOf, Int.reduceEq, Int.reduceLT, Int.reduceLE, Nat.reduceLeDiff, oneC, aop.fillL, setL, aApp, aAppC_nil, aAppC_own, xop, eqCells, eqCell, rowOf, ↓acallop, aBound, aIntOf, flat, flatN, CX_fn, CX_X, CX_pol, aStore, Nat.reduceBEq, List.size_toArray, Int.sub_zero, Int.zero_add, Int.add_zero, Int.toNat_zero, Int.reduceAdd, Int.reduceSub, Int.reduceMul, Int.reduceNeg, Int.reduceToNat, Nat.reduceSub, Nat.reduceMul, Int.natCast_zero, Int.reduceDiv, Int.reduceMod, Int.toNat_natCast, fdiv_nn, min_bits_i, Int.reducePow, Nat.reducePow, Nat.reduceDiv, Nat.reduceMod, mb_i, mb_u, WpC_drawD, WpT_nil, WpT_cons, WpT_guard, WpK_nil, scal, hA])
  obtain ⟨t, ht⟩ : ∃ t, t = s.extract 0 (if (s.size : Int) < c then (s.size : Int) else c).toNat := ⟨_, rfl⟩
  have hcut := cnx_cut s (if (s.size : Int) < c then (s.size : Int) else c).toNat
  rw [← ht] at hcut
  obtain ⟨v, H', hN, rfl⟩ := Run_get (wNext s hs H T h0 ⟨H.length, H.length⟩ (Nat.le_refl _) (Nat.le_refl _) 13 (by decide))
  obtain ⟨v, H'', hM, rfl⟩ := Run_get (wNext t (by rw [ht, ByteArray.size_extract]; omega) H T h0 ⟨H.length, H.length⟩ (Nat.le_refl _) (Nat.le_refl _) 13 (by decide))
  have hR := XNext4_eq s
  rw [if_pos (by omega)] at hR
  have hfa := cnx_facts s
  obtain ⟨a, b, f, hx⟩ : ∃ a b f, cnx s = (a, b, f) := ⟨_, _, _, rfl⟩
  obtain ⟨a', b', f', hx'⟩ : ∃ a b f, cnx t = (a, b, f) := ⟨_, _, _, rfl⟩
  rw [hx, hx'] at hcut
  rw [hx] at hR hN hfa
  rw [hx'] at hM
  simp only [Prod.mk.injEq] at hfa hcut
  obtain ⟨q1, q2, q3⟩ := hfa
  obtain ⟨v, H3, hP, rfl⟩ := Run_get (wPut a q1 H T h0 ⟨H.length, H.length⟩ (Nat.le_refl _) (Nat.le_refl _) 13 (by decide))
  simp only [D1, cnV] at hA hN hM hR hP
  simp only [ir3, D1]
  by_cases hf : f = 0
  · obtain ⟨q4, q5⟩ := q3 hf
    subst hf
    rw [q5] at hP
    (repeat' first
    | (refine CondV_dec (fun _ => ?_) (fun _ => ?_) <;> try (exfalso; omega))
    | (refine GuardV_td (fun _ => ?_) (fun _ => ?_) <;> try (exfalso; omega))
    | (refine GuardV_fd (fun _ => ?_) (fun _ => ?_) <;> try (exfalso; omega))
    | (refine CondV_split (fun _ => ?_) (fun _ => ?_))
    | (refine Need_of (by first | omega | decide) ?_)
    | refine WpK_cons ?_ ?_
    | refine WpK_guard ?_
    | simp (disch := first | omega | simp only [List.length_append, List.length_set, List.length_cons, List.length_nil] <;> omega | fail) only [evA, ↓evB, ↓astep, ↓aop, aBin, aInt, aStr, aUn, aNil, aMax, aresults, ares, aPack, ↓reduceIte, ↓reduceCtorEq, Nat.reduceEqDiff, Nat.reduceAdd, env0, aLoad, aLoadN, cellsOf, Int.reduceEq, Int.reduceLT, Int.reduceLE, Nat.reduceLeDiff, oneC, aop.fillL, setL, aApp, aAppC_nil, aAppC_own, xop, eqCells, eqCell, rowOf, ↓acallop, aBound, aIntOf, flat, flatN, CX_fn, CX_X, CX_pol, aStore, Nat.reduceBEq, List.size_toArray, Int.sub_zero, Int.zero_add, Int.add_zero, Int.toNat_zero, Int.reduceAdd, Int.reduceSub, Int.reduceMul, Int.reduceNeg, Int.reduceToNat, Nat.reduceSub, Nat.reduceMul, Int.natCast_zero, Int.reduceDiv, Int.reduceMod, Int.toNat_natCast, fdiv_nn, min_bits_i, Int.reducePow, Nat.reducePow, Nat.reduceDiv, Nat.reduceMod, mb_i, mb_u, WpC_drawD, WpT_nil, WpT_cons, WpT_guard, WpK_nil, scal, hA, hN, hM, hR, hP, ← ht])
    all_goals exact congrArg Value.bool (decide_eq_true (by omega))
  · have hfi : ¬ (f : Int) = 0 := by omega
    (repeat' first
    | (refine CondV_dec (fun _ => ?_) (fun _ => ?_) <;> try (exfalso; omega))
    | (refine GuardV_td (fun _ => ?_) (fun _ => ?_) <;> try (exfalso; omega))
    | (refine GuardV_fd (fun _ => ?_) (fun _ => ?_) <;> try (exfalso; omega))
    | (refine CondV_split (fun _ => ?_) (fun _ => ?_))
    | (refine Need_of (by first | omega | decide) ?_)
    | refine WpK_cons ?_ ?_
    | refine WpK_guard ?_
    | simp (disch := first | omega | simp only [List.length_append, List.length_set, List.length_cons, List.length_nil] <;> omega | fail) only [evA, ↓evB, ↓astep, ↓aop, aBin, aInt, aStr, aUn, aNil, aMax, aresults, ares, aPack, ↓reduceIte, ↓reduceCtorEq, Nat.reduceEqDiff, Nat.reduceAdd, env0, aLoad, aLoadN, cellsOf, Int.reduceEq, Int.reduceLT, Int.reduceLE, Nat.reduceLeDiff, oneC, aop.fillL, setL, aApp, aAppC_nil, aAppC_own, xop, eqCells, eqCell, rowOf, ↓acallop, aBound, aIntOf, flat, flatN, CX_fn, CX_X, CX_pol, aStore, Nat.reduceBEq, List.size_toArray, Int.sub_zero, Int.zero_add, Int.add_zero, Int.toNat_zero, Int.reduceAdd, Int.reduceSub, Int.reduceMul, Int.reduceNeg, Int.reduceToNat, Nat.reduceSub, Nat.reduceMul, Int.natCast_zero, Int.reduceDiv, Int.reduceMod, Int.toNat_natCast, fdiv_nn, min_bits_i, Int.reducePow, Nat.reducePow, Nat.reduceDiv, Nat.reduceMod, mb_i, mb_u, WpC_drawD, WpT_nil, WpT_cons, WpT_guard, WpK_nil, scal, hA, hN, hM, hR, hP, hfi, ← ht])
    all_goals exact congrArg Value.bool (decide_eq_true (by omega))
theorem main_CompactReads (T : TypeId) (args : List Value) (h : IsVs Tryd.prog [] Tryd.f3.params.toList args) : ∃ k, Run (fun v' _ => v' = .bool true) mk (acall D1 k 3 args ([some (szs, T)].map gobj) ⟨1, 0⟩) := by
  rw [Tryd.params3] at h
  obtain ⟨v0, r0, rfl, h0, h⟩ := args_cons h
  obtain ⟨v1, r1, rfl, h1, h⟩ := args_cons h
  obtain rfl := args_nil h
  obtain ⟨s, rfl, hs⟩ := isv_string Tryd.underlying9 h0
  obtain ⟨n, rfl, w0⟩ := isv_int Tryd.underlying5 h1
  have wf : 0 ≤ n ∧ n < 256 := by
    simp [Lit.wf, IntKind.min, IntKind.max, IntKind.signed, IntKind.bits] at w0; omega
  exact ⟨60, wReads s (by unfold maxLen at hs; omega) n wf T⟩
end Cg
end Ev
end Go.Proofs.YtfbelnjchpffeaaDoor
