/-
  The law CompactPuts.
-/
import Derived.Test.YtlcfanmmpfmnaaaDoorW2
import Derived.Test.YtlcfanmmpfmnaaaDoorEvW
namespace Go.Proofs.YtlcfanmmpfmnaaaDoor
namespace Ev
namespace Cg
open Tag (mk)
open F4 (dg nm lsts putV seV getV neV XPutF XGetF XPut4 XPut4_eq empty_eq bs_append bs_cons bs_one bs_eq bl_bs')
set_option linter.unusedSimpArgs false
set_option linter.unusedVariables false
set_option maxRecDepth 4000
set_option maxHeartbeats 4000000
theorem wAlive (H : Heap) (T : TypeId) (h0 : H[0]? = some (.cells szs T false)) (m : Ev.Mode) (hl : m.lim ≤ H.length) (hf : m.fb ≤ H.length) (k : Nat) (hk : 20 < k) :
    Run (fun v _ => v = .bool true) mk (acall D1 (k + 1) 14 [] H m) := by
  refine Run_call (F := ir14) rfl (Nat.le_of_ble_eq_true rfl) ?_
  have hE0 : Run (fun v _ => v = .tuple #[.int .u64 0, .int .i64 0, .int .i64 3]) mk (acall D1 14 16 [.string ⟨#[253, 1, 0]⟩] H ⟨H.length, H.length⟩) := by
    have := wNext ⟨#[253, 1, 0]⟩ (by decide) H T h0 ⟨H.length, H.length⟩ (Nat.le_refl _) (Nat.le_refl _) 13 (by decide)
    rw [show cnx ⟨#[253, 1, 0]⟩ = (0, 0, 3) by decide +kernel] at this
    exact this
  have hP0 : Run (fun v _ => v = .string ⟨#[253, 253, 0]⟩) mk (acall D1 14 15 [.int .u64 253] H ⟨H.length, H.length⟩) := by
    have := wPut 253 (by decide) H T h0 ⟨H.length, H.length⟩ (Nat.le_refl _) (Nat.le_refl _) 13 (by decide)
    rw [show bs (cput 253) = ⟨#[253, 253, 0]⟩ by rfl] at this
    exact this
  obtain ⟨v, H', hE, rfl⟩ := Run_get hE0
  obtain ⟨v, H', hP, rfl⟩ := Run_get hP0
  simp only [D1] at hE hP
  simp only [ir14, D1]
  (repeat' first
    | (refine CondV_dec (fun _ => ?_) (fun _ => ?_) <;> try (exfalso; omega))
    | (refine GuardV_td (fun _ => ?_) (fun _ => ?_) <;> try (exfalso; omega))
    | (refine GuardV_fd (fun _ => ?_) (fun _ => ?_) <;> try (exfalso; omega))
    | (refine CondV_split (fun _ => ?_) (fun _ => ?_))
    | (refine Need_of (by first | omega | decide) ?_)
    | refine WpK_cons ?_ ?_
    | refine WpK_guard ?_
    | simp (disch := first | omega | simp only [List.length_append, List.length_set, List.length_cons, List.length_nil] <;> omega | fail) only [evA, ↓evB, ↓astep, ↓aop, aBin, aInt, aStr, aUn, aNil, aMax, aresults, ares, aPack, ↓reduceIte, ↓reduceCtorEq, Nat.reduceEqDiff, Nat.reduceAdd, env0, aLoad, aLoadN, cellsOf, Int.reduceEq, Int.reduceLT, Int.reduceLE, Nat.reduceLeDiff, oneC, aop.fillL, setL, aApp, aAppC_nil, aAppC_own, xop, eqCells, eqCell, rowOf, ↓acallop, aBound, aIntOf, flat, flatN, CX_fn, CX_X, CX_pol, aStore, Nat.reduceBEq, List.size_toArray, Int.sub_zero, Int.zero_add, Int.add_zero, Int.toNat_zero, Int.reduceAdd, Int.reduceSub, Int.reduceMul, Int.reduceNeg, Int.reduceToNat, Nat.reduceSub, Nat.reduceMul, Int.natCast_zero, Int.reduceDiv, Int.reduceMod, Int.toNat_natCast, fdiv_nn, min_bits_i, Int.reducePow, Nat.reducePow, Nat.reduceDiv, Nat.reduceMod, mb_i, mb_u, WpC_drawD, WpT_nil, WpT_cons, WpT_guard, WpK_nil, scal, hE, hP])
theorem cput_form (N : Nat) (hN : N < 2 ^ 64) : (N < 253 ∧ cput N = [N]) ∨ ∃ b w, 253 ≤ b ∧ b < 256 ∧ w = cw b ∧ cput N = b :: dg N w ∧ N < 2 ^ (8 * w) := by
  rw [cput]
  by_cases h1 : N < 253
  · exact .inl ⟨h1, if_pos h1⟩
  · right
    rw [if_neg h1]
    by_cases h2 : N < 65536
    · exact ⟨253, 2, by decide, by decide, rfl, if_pos h2, by omega⟩
    · rw [if_neg h2]
      by_cases h3 : N < 4294967296
      · exact ⟨254, 4, by decide, by decide, rfl, if_pos h3, by omega⟩
      · exact ⟨255, 8, by decide, by decide, rfl, if_neg h3, by omega⟩
theorem cput_lt (N : Nat) (hN : N < 2 ^ 64) : ∀ b ∈ cput N, b < 256 := by
  rcases cput_form N hN with ⟨h, e⟩ | ⟨b, w, h1, h2, h3, e, h4⟩
  · rw [e]; intro x hx; simp at hx; omega
  · rw [e]; intro x hx
    rcases List.mem_cons.1 hx with rfl | hx
    · exact h2
    · exact F4.dg_lt _ _ _ hx
theorem cnx_put (N : Nat) (hN : N < 2 ^ 64) (s : ByteArray) : cnx (bs (cput N) ++ s) = (N, (cput N).length, 0) := by
  have hbl : bl (bs (cput N) ++ s) = cput N ++ bl s := by rw [bl_append, F4.bl_bs_lt _ (cput_lt N hN)]
  have hsz : (bs (cput N) ++ s).size = (cput N).length + s.size := by rw [ByteArray.size_append, bs_size]
  rcases cput_form N hN with ⟨h, e⟩ | ⟨b, w, h1, h2, h3, e, h4⟩
  · have hl : (cput N).length = 1 := by rw [e]; rfl
    have hb : bAt (bs (cput N) ++ s) 0 = N := by rw [bAt_bl, hbl, e]; rfl
    rw [cnx, if_neg (by omega), hb, if_pos h, hl]
  · have hl : (cput N).length = 1 + w := by rw [e, List.length_cons, F4.dg_length]; omega
    have hb : bAt (bs (cput N) ++ s) 0 = b := by rw [bAt_bl, hbl, e]; rfl
    have hx : bl ((bs (cput N) ++ s).extract 1 (1 + w)) = dg N w := by
      rw [bl_extract, hbl, e, Nat.add_comm 1 w, List.cons_append, List.take_succ_cons, List.drop_succ_cons, List.drop_zero]
      rw [List.take_append_of_le_length (by rw [F4.dg_length]; exact Nat.le_refl _), List.take_of_length_le (by rw [F4.dg_length]; exact Nat.le_refl _)]
    rw [cnx, if_neg (by omega), hb, if_neg (by omega), ← h3, if_neg (by omega), hx, F4.dg_nm w N h4, if_pos hl, hl]
theorem cput_len (N : Nat) : (cput N).length ≤ 9 := by
  rw [cput]
  split
  · simp
  · split
    · rw [List.length_cons, F4.dg_length]; omega
    · split <;> rw [List.length_cons, F4.dg_length] <;> omega
theorem wPuts (N : Nat) (hN : N < 2 ^ 64) (s : ByteArray) (hs : s.size < 2 ^ 63) (T : TypeId) : Run (fun v _ => v = .bool true) mk (acall D1 60 5 [.int .u64 (N : Int), .string s] [.cells szs T false] ⟨1, 0⟩) := by
  refine Run_call (F := ir5) rfl (Nat.le_of_ble_eq_true rfl) ?_
  obtain ⟨H, hH⟩ : ∃ H : Heap, H = [.cells szs T false] := ⟨_, rfl⟩
  have h0 : H[0]? = some (.cells szs T false) := by rw [hH]; rfl
  have hl1 : H.length = 1 := by rw [hH]; rfl
  rw [← hH]
  obtain ⟨v, H', hA, rfl⟩ := Run_get (wAlive H T h0 ⟨H.length, H.length⟩ (Nat.le_refl _) (Nat.le_refl _) 21 (by decide))
  by_cases hbig : 100 < s.size
  · simp only [D1] at hA
    simp only [ir5, D1]
    (repeat' first
    | (refine CondV_dec (fun _ => ?_) (fun _ => ?_) <;> try (exfalso; omega))
    | (refine GuardV_td (fun _ => ?_) (fun _ => ?_) <;> try (exfalso; omega))
    | (refine GuardV_fd (fun _ => ?_) (fun _ => ?_) <;> try (exfalso; omega))
    | (refine CondV_split (fun _ => ?_) (fun _ => ?_))
    | (refine Need_of (by first | omega | decide) ?_)
    | refine WpK_cons ?_ ?_
    | refine WpK_guard ?_
    | simp (disch := first | omega | simp only [List.length_append, List.length_set, List.length_cons, List.length_nil] <;> omega | fail) only [evA, ↓evB, ↓astep, ↓aop, aBin, aInt, aStr, aUn, aNil, aMax, aresults, ares, aPack, ↓reduceIte, ↓reduceCtorEq, Nat.reduceEqDiff, Nat.reduceAdd, env0, aLoad, aLoadN, cellsOf, Int.reduceEq, Int.reduceLT, Int.reduceLE, Nat.reduceLeDiff, oneC, aop.fillL, setL, aApp, aAppC_nil, aAppC_own, xop, eqCells, eqCell, rowOf, ↓acallop, aBound, aIntOf, flat, flatN, CX_fn, CX_X, CX_pol, aStore, Nat.reduceBEq, List.size_toArray, Int.sub_zero, Int.zero_add, Int.add_zero, Int.toNat_zero, Int.reduceAdd, Int.reduceSub, Int.reduceMul, Int.reduceNeg, Int.reduceToNat, Nat.reduceSub, Nat.reduceMul, Int.natCast_zero, Int.reduceDiv, Int.reduceMod, Int.toNat_natCast, fdiv_nn, min_bits_i, Int.reducePow, Nat.reducePow, Nat.reduceDiv, Nat.reduceMod, mb_i, mb_u, WpC_drawD, WpT_nil, WpT_cons, WpT_guard, WpK_nil, scal, hA])
  have hl := cput_len N
  obtain ⟨v, H3, hP, rfl⟩ := Run_get (wPut N hN H T h0 ⟨H.length, H.length⟩ (Nat.le_refl _) (Nat.le_refl _) 13 (by decide))
  obtain ⟨v, H4, hX, rfl⟩ := Run_get (wNext (bs (cput N) ++ s) (by rw [ByteArray.size_append, bs_size]; omega) H T h0 ⟨H.length, H.length⟩ (Nat.le_refl _) (Nat.le_refl _) 13 (by decide))
  rw [cnx_put N hN s, cnV] at hX
  have hR := XPut4_eq (N : Int)
  rw [if_pos (by omega), Int.toNat_natCast] at hR
  simp only [D1] at hA hX hR hP
  simp only [ir5, D1]
  (repeat' first
    | (refine CondV_dec (fun _ => ?_) (fun _ => ?_) <;> try (exfalso; omega))
    | (refine GuardV_td (fun _ => ?_) (fun _ => ?_) <;> try (exfalso; omega))
    | (refine GuardV_fd (fun _ => ?_) (fun _ => ?_) <;> try (exfalso; omega))
    | (refine CondV_split (fun _ => ?_) (fun _ => ?_))
    | (refine Need_of (by first | omega | decide) ?_)
    | refine WpK_cons ?_ ?_
    | refine WpK_guard ?_
    | simp (disch := first | omega | simp only [List.length_append, List.length_set, List.length_cons, List.length_nil] <;> omega | fail) only [evA, ↓evB, ↓astep, ↓aop, aBin, aInt, aStr, aUn, aNil, aMax, aresults, ares, aPack, ↓reduceIte, ↓reduceCtorEq, Nat.reduceEqDiff, Nat.reduceAdd, env0, aLoad, aLoadN, cellsOf, Int.reduceEq, Int.reduceLT, Int.reduceLE, Nat.reduceLeDiff, oneC, aop.fillL, setL, aApp, aAppC_nil, aAppC_own, xop, eqCells, eqCell, rowOf, ↓acallop, aBound, aIntOf, flat, flatN, CX_fn, CX_X, CX_pol, aStore, Nat.reduceBEq, List.size_toArray, Int.sub_zero, Int.zero_add, Int.add_zero, Int.toNat_zero, Int.reduceAdd, Int.reduceSub, Int.reduceMul, Int.reduceNeg, Int.reduceToNat, Nat.reduceSub, Nat.reduceMul, Int.natCast_zero, Int.reduceDiv, Int.reduceMod, Int.toNat_natCast, fdiv_nn, min_bits_i, Int.reducePow, Nat.reducePow, Nat.reduceDiv, Nat.reduceMod, mb_i, mb_u, WpC_drawD, WpT_nil, WpT_cons, WpT_guard, WpK_nil, scal, hA, hX, hR, hP, Int.natCast_zero, bs_len])
  all_goals trace_state
theorem main_CompactPuts (T : TypeId) (args : List Value) (h : IsVs Tryd.prog [] Tryd.f5.params.toList args) : ∃ k, Run (fun v' _ => v' = .bool true) mk (acall D1 k 5 args ([some (szs, T)].map gobj) ⟨1, 0⟩) := by
  rw [Tryd.params5] at h
  obtain ⟨v0, r0, rfl, h0, h⟩ := args_cons h
  obtain ⟨v1, r1, rfl, h1, h⟩ := args_cons h
  obtain rfl := args_nil h
  obtain ⟨n, rfl, w0⟩ := isv_int Tryd.underlying37 h0
  obtain ⟨s, rfl, hs⟩ := isv_string Tryd.underlying9 h1
  have wf : 0 ≤ n ∧ n < 2 ^ 64 := by
    simp [Lit.wf, IntKind.min, IntKind.max, IntKind.signed, IntKind.bits] at w0; omega
  have := wPuts n.toNat (by omega) s (by unfold maxLen at hs; omega) (uT T)
  rw [Int.toNat_of_nonneg wf.1] at this
  exact ⟨60, this⟩
end Cg
end Ev
end Go.Proofs.YtlcfanmmpfmnaaaDoor
