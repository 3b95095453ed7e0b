/-
  Show; digits; what a line is read as, in plain words.
-/
import Derived.Test.YtfbelnjchpffeaaI7
namespace Go.Proofs.Ytfbelnjchpffeaa
namespace Ev
open Tag (mk)
set_option linter.unusedSimpArgs false
set_option linter.unusedVariables false
set_option maxRecDepth 4000
set_option maxHeartbeats 4000000
theorem dp_pos (t : Tr) : 0 < dp t := by cases t; unfold dp; omega
theorem wShowI (t : Tr) (h5 : sz t ≤ 5000) (hb : byt t ≤ 10000) (H : Heap) (S : Nat → Prop) (v : Value) (hv : ItemV H S t v) (m : Ev.Mode) (hm1 : m.lim ≤ H.length) (hm2 : m.fb ≤ H.length) (k : Nat) (hk : sz t + byt t + 14 ≤ k) :
    Run (fun u _ => u = if may t then .tuple #[.string (bs (shw t)), .int .i64 0] else .tuple #[.string ⟨#[]⟩, .int .i64 1]) mk (acall T0 k 42 [v] H m) := by
  have hlen := shw_len t
  obtain ⟨t, b, l⟩ := t
  obtain ⟨a, c, rfl, hh⟩ := hv.lt.parts
  obtain ⟨k, rfl⟩ : ∃ q, k = q + 1 := ⟨k - 1, by omega⟩
  refine Run_call (F := ir42) rfl (Nat.le_of_ble_eq_true rfl) ?_
  obtain ⟨Hc, hHc⟩ : ∃ Hc : Heap, Hc = H ++ [.cells [.string t, .bool b, .slice a l.length c] 24 true] := ⟨_, rfl⟩
  have hold := hh Hc hHc
  have hbox := hold.box
  have hLc : Hc.length = H.length + 1 := by rw [hHc]; simp
  obtain ⟨v, H3, hcall, rfl⟩ := Run_get (wMayI _ Hc _ _ hold.val ⟨Hc.length, Hc.length⟩ k (by omega))
  have hcall := hcall k (Nat.le_refl _)
  cases hmay : may (.mk t b l) with
  | false =>
    rw [hmay] at hcall
    simp only [T0] at hcall
    simp only [ir42, T0]
    (repeat' first
    | (refine CondV_dec (fun _ => ?_) (fun _ => ?_) <;> try (exfalso; omega))
    | (refine GuardV_td (fun _ => ?_) (fun _ => ?_) <;> try (exfalso; omega))
    | (refine GuardV_fd (fun _ => ?_) (fun _ => ?_) <;> try (exfalso; omega))
    | (refine CondV_split (fun _ => ?_) (fun _ => ?_))
    | (refine Need_of (by first | omega | decide) ?_)
    | refine WpK_cons ?_ ?_
    | refine WpK_guard ?_
    | simp (disch := first | omega | simp only [List.length_append, List.length_set, List.length_cons, List.length_nil] <;> omega | fail) only [evA, ↓evB, ↓astep, ↓aop, aBin, aInt, aStr, aUn, aNil, aMax, aresults, ares, aPack, ↓reduceIte, ↓reduceCtorEq, Nat.reduceEqDiff, Nat.reduceAdd, env0, aLoad, aLoadN, cellsOf, Int.reduceEq, Int.reduceLT, Int.reduceLE, Nat.reduceLeDiff, oneC, aop.fillL, setL, aApp, aAppC_nil, aAppC_own, xop, aSame_ptr, BIG, Bool.or_true, Bool.true_or, Bool.or_false, Bool.false_or, eqCells, eqCell, rowOf, ↓acallop, aBound, aIntOf, flat, flatN, CX_fn, CX_X, CX_pol, aStore, Nat.reduceBEq, List.size_toArray, Int.sub_zero, Int.zero_add, Int.add_zero, Int.toNat_zero, Int.reduceAdd, Int.reduceSub, Int.reduceMul, Int.reduceNeg, Int.reduceToNat, Nat.reduceSub, Nat.reduceMul, Int.natCast_zero, Int.reduceDiv, Int.reduceMod, Int.toNat_natCast, fdiv_nn, min_bits_i, Int.reducePow, Nat.reducePow, Nat.reduceDiv, Nat.reduceMod, mb_i, mb_u, WpC_drawD, WpT_nil, WpT_cons, WpT_guard, WpK_nil, scal, ← hHc, hbox, hcall])
  | true =>
    rw [hmay] at hcall
    obtain ⟨Hd, hHd⟩ : ∃ Hd : Heap, Hd = Hc ++ [.cells [.pointer none, .slice none 0 0] (98 + BIG) true] := ⟨_, rfl⟩
    have hBd : BAt Hd H.length Hc.length [] := ⟨_, none, 0, by omega, by rw [hHd]; simp, .inl rfl, .inl ⟨rfl, rfl, rfl⟩⟩
    have hold2 : Held Hd (fun i => S i ∧ i < H.length) H.length t b l a c := by rw [hHd]; exact hold.app _
    have hbox2 := hold2.box
    obtain ⟨v, H4, hc1, rfl, hB4, hS4⟩ := Run_get (wShw _ _ (Nat.le_refl _) h5 hb Hd _ _ H.length Hc.length [] hold2.val (fun i hi => hi.2) hBd (by simp only [List.length_nil]; omega) m hm1 hm2 k (by omega))
    have hc1 := hc1 k (Nat.le_refl _)
    obtain ⟨v, H5, hc2, rfl, _⟩ := Run_get (wString H4 H.length Hc.length _ hB4 (by simp only [List.length_append, List.length_nil]; omega) m hm1 (k - 1))
    have hc2 := hc2 k (by omega)
    simp only [BIG, Nat.reduceAdd] at hHd
    simp only [T0] at hcall hc1 hc2
    simp only [ir42, T0]
    (repeat' first
    | (refine CondV_dec (fun _ => ?_) (fun _ => ?_) <;> try (exfalso; omega))
    | (refine GuardV_td (fun _ => ?_) (fun _ => ?_) <;> try (exfalso; omega))
    | (refine GuardV_fd (fun _ => ?_) (fun _ => ?_) <;> try (exfalso; omega))
    | (refine CondV_split (fun _ => ?_) (fun _ => ?_))
    | (refine Need_of (by first | omega | decide) ?_)
    | refine WpK_cons ?_ ?_
    | refine WpK_guard ?_
    | simp (disch := first | omega | simp only [List.length_append, List.length_set, List.length_cons, List.length_nil] <;> omega | fail) only [evA, ↓evB, ↓astep, ↓aop, aBin, aInt, aStr, aUn, aNil, aMax, aresults, ares, aPack, ↓reduceIte, ↓reduceCtorEq, Nat.reduceEqDiff, Nat.reduceAdd, env0, aLoad, aLoadN, cellsOf, Int.reduceEq, Int.reduceLT, Int.reduceLE, Nat.reduceLeDiff, oneC, aop.fillL, setL, aApp, aAppC_nil, aAppC_own, xop, aSame_ptr, BIG, Bool.or_true, Bool.true_or, Bool.or_false, Bool.false_or, eqCells, eqCell, rowOf, ↓acallop, aBound, aIntOf, flat, flatN, CX_fn, CX_X, CX_pol, aStore, Nat.reduceBEq, List.size_toArray, Int.sub_zero, Int.zero_add, Int.add_zero, Int.toNat_zero, Int.reduceAdd, Int.reduceSub, Int.reduceMul, Int.reduceNeg, Int.reduceToNat, Nat.reduceSub, Nat.reduceMul, Int.natCast_zero, Int.reduceDiv, Int.reduceMod, Int.toNat_natCast, fdiv_nn, min_bits_i, Int.reducePow, Nat.reducePow, Nat.reduceDiv, Nat.reduceMod, mb_i, mb_u, WpC_drawD, WpT_nil, WpT_cons, WpT_guard, WpK_nil, scal, ← hHc, hbox, hcall, ← hHd, hbox2, hc1, hc2])

/-! ## Digits -/
def hv (b : Nat) : Int := if 48 ≤ b ∧ b ≤ 57 then (b : Int) - 48 else if 97 ≤ b ∧ b ≤ 102 then (b : Int) - 87 else -1
theorem hv_hxc (i : Nat) (h : i < 16) : hv (hxc i) = i := by
  unfold hv hxc
  split <;> split <;> first | omega | (split <;> omega)
theorem hxc_hv (b : Nat) (h : 0 ≤ hv b) : hxc (hv b).toNat = b ∧ hv b < 16 := by
  unfold hv at *
  split at h
  · rename_i q; simp only [if_pos q]; unfold hxc; split <;> omega
  · rename_i q
    split at h
    · rename_i r; simp only [if_neg q, if_pos r]; unfold hxc; split <;> omega
    · omega
theorem hv_none (b : Nat) (h : ∀ j, j < 16 → hxc j ≠ b) : hv b = -1 := by
  unfold hv
  split
  · rename_i q; exact absurd (show hxc (b - 48) = b by unfold hxc; split <;> omega) (h _ (by omega))
  · split
    · rename_i q r; exact absurd (show hxc (b - 87) = b by unfold hxc; split <;> omega) (h _ (by omega))
    · rfl
theorem hv_ge (b : Nat) : -1 ≤ hv b := by unfold hv; split <;> first | omega | (split <;> omega)
theorem firstIdx_hv (b : Nat) (h : b < 256) : firstIdx ⟨#[48, 49, 50, 51, 52, 53, 54, 55, 56, 57, 97, 98, 99, 100, 101, 102]⟩ b.toUInt8 = hv b := by
  have : ∀ b, b < 256 → firstIdx ⟨#[48, 49, 50, 51, 52, 53, 54, 55, 56, 57, 97, 98, 99, 100, 101, 102]⟩ b.toUInt8 = hv b := by decide +kernel
  exact this b h
def IDig (b : Nat) (Hc : Heap) (n : Nat) (e : Env) (H : Heap) : Prop :=
  ∃ i : Nat, i + n = 16 ∧ e 0 = .int .u8 (b : Int) ∧ e 3 = .int .i64 (i : Int) ∧ ∀ j, j < i → hxc j ≠ b
theorem wDigit (b : Nat) (hb : b < 256) (H : Heap) (m : Ev.Mode) (k : Nat) (hk : 20 ≤ k) : Run (fun u _ => u = .int .i64 (hv b)) mk (acall T0 k 107 [.int .u8 (b : Int)] H m) := by
  obtain ⟨k, rfl⟩ : ∃ q, k = q + 1 := ⟨k - 1, by omega⟩
  refine Run_call (F := ir107) rfl (Nat.le_of_ble_eq_true rfl) ?_
  simp only [ir107]
  (repeat' first
    | (refine CondV_dec (fun _ => ?_) (fun _ => ?_) <;> try (exfalso; omega))
    | (refine GuardV_td (fun _ => ?_) (fun _ => ?_) <;> try (exfalso; omega))
    | (refine GuardV_fd (fun _ => ?_) (fun _ => ?_) <;> try (exfalso; omega))
    | (refine CondV_split (fun _ => ?_) (fun _ => ?_))
    | (refine Need_of (by first | omega | decide) ?_)
    | refine WpK_cons ?_ ?_
    | refine WpK_guard ?_
    | simp (disch := first | omega | simp only [List.length_append, List.length_set, List.length_cons, List.length_nil] <;> omega | fail) only [evA, ↓evB, ↓astep, ↓aop, aBin, aInt, aStr, aUn, aNil, aMax, aresults, ares, aPack, ↓reduceIte, ↓reduceCtorEq, Nat.reduceEqDiff, Nat.reduceAdd, env0, aLoad, aLoadN, cellsOf, Int.reduceEq, Int.reduceLT, Int.reduceLE, Nat.reduceLeDiff, oneC, aop.fillL, setL, aApp, aAppC_nil, aAppC_own, xop, aSame_ptr, BIG, Bool.or_true, Bool.true_or, Bool.or_false, Bool.false_or, eqCells, eqCell, rowOf, ↓acallop, aBound, aIntOf, flat, flatN, CX_fn, CX_X, CX_pol, aStore, Nat.reduceBEq, List.size_toArray, Int.sub_zero, Int.zero_add, Int.add_zero, Int.toNat_zero, Int.reduceAdd, Int.reduceSub, Int.reduceMul, Int.reduceNeg, Int.reduceToNat, Nat.reduceSub, Nat.reduceMul, Int.natCast_zero, Int.reduceDiv, Int.reduceMod, Int.toNat_natCast, fdiv_nn, min_bits_i, Int.reducePow, Nat.reducePow, Nat.reduceDiv, Nat.reduceMod, mb_i, mb_u, WpC_drawD, WpT_nil, WpT_cons, WpT_guard, WpK_nil, scal])
  refine WpC_loop (IDig b H) ?_ (n := 16) (show 16 < k by omega) ?_
  · rintro n e H1 ⟨i, hi, g0, g3, hno⟩
    by_cases hc : i < 16
    · have d1 := dig_get i hc
      have u1 := hxc_u8 i hc
      by_cases he : hxc i = b
      · have hei : ((hxc i : Nat) : Int) = (b : Int) := by omega
        have := hv_hxc i hc
        rw [he] at this
        simp only [lp107_0, evA, ↓evB, ↓astep, ↓aop, aBin, aInt, aStr, aUn, aNil, aMax, aresults, ares, aPack, ↓reduceIte, ↓reduceCtorEq, Nat.reduceEqDiff, Nat.reduceAdd, env0, aLoad, aLoadN, cellsOf, Int.reduceEq, Int.reduceLT, Int.reduceLE, Nat.reduceLeDiff, oneC, aop.fillL, setL, aApp, aAppC_nil, aAppC_own, xop, aSame_ptr, BIG, Bool.or_true, Bool.true_or, Bool.or_false, Bool.false_or, eqCells, eqCell, rowOf, ↓acallop, aBound, aIntOf, flat, flatN, CX_fn, CX_X, CX_pol, aStore, Nat.reduceBEq, List.size_toArray, Int.sub_zero, Int.zero_add, Int.add_zero, Int.toNat_zero, Int.reduceAdd, Int.reduceSub, Int.reduceMul, Int.reduceNeg, Int.reduceToNat, Nat.reduceSub, Nat.reduceMul, Int.natCast_zero, Int.reduceDiv, Int.reduceMod, Int.toNat_natCast, fdiv_nn, min_bits_i, Int.reducePow, Nat.reducePow, Nat.reduceDiv, Nat.reduceMod, mb_i, mb_u, WpC_drawD, WpT_nil, WpT_cons, WpT_guard, WpK_nil, scal, g0, g3]
        (repeat' first
    | (refine CondV_dec (fun _ => ?_) (fun _ => ?_) <;> try (exfalso; omega))
    | (refine GuardV_td (fun _ => ?_) (fun _ => ?_) <;> try (exfalso; omega))
    | (refine GuardV_fd (fun _ => ?_) (fun _ => ?_) <;> try (exfalso; omega))
    | (refine CondV_split (fun _ => ?_) (fun _ => ?_))
    | (refine Need_of (by first | omega | decide) ?_)
    | refine WpK_cons ?_ ?_
    | refine WpK_guard ?_
    | simp (disch := first | omega | simp only [List.length_append, List.length_set, List.length_cons, List.length_nil] <;> omega | fail) only [evA, ↓evB, ↓astep, ↓aop, aBin, aInt, aStr, aUn, aNil, aMax, aresults, ares, aPack, ↓reduceIte, ↓reduceCtorEq, Nat.reduceEqDiff, Nat.reduceAdd, env0, aLoad, aLoadN, cellsOf, Int.reduceEq, Int.reduceLT, Int.reduceLE, Nat.reduceLeDiff, oneC, aop.fillL, setL, aApp, aAppC_nil, aAppC_own, xop, aSame_ptr, BIG, Bool.or_true, Bool.true_or, Bool.or_false, Bool.false_or, eqCells, eqCell, rowOf, ↓acallop, aBound, aIntOf, flat, flatN, CX_fn, CX_X, CX_pol, aStore, Nat.reduceBEq, List.size_toArray, Int.sub_zero, Int.zero_add, Int.add_zero, Int.toNat_zero, Int.reduceAdd, Int.reduceSub, Int.reduceMul, Int.reduceNeg, Int.reduceToNat, Nat.reduceSub, Nat.reduceMul, Int.natCast_zero, Int.reduceDiv, Int.reduceMod, Int.toNat_natCast, fdiv_nn, min_bits_i, Int.reducePow, Nat.reducePow, Nat.reduceDiv, Nat.reduceMod, mb_i, mb_u, WpC_drawD, WpT_nil, WpT_cons, WpT_guard, WpK_nil, scal, g0, g3, d1, u1, hei])
        rw [this]
      · simp only [lp107_0, evA, ↓evB, ↓astep, ↓aop, aBin, aInt, aStr, aUn, aNil, aMax, aresults, ares, aPack, ↓reduceIte, ↓reduceCtorEq, Nat.reduceEqDiff, Nat.reduceAdd, env0, aLoad, aLoadN, cellsOf, Int.reduceEq, Int.reduceLT, Int.reduceLE, Nat.reduceLeDiff, oneC, aop.fillL, setL, aApp, aAppC_nil, aAppC_own, xop, aSame_ptr, BIG, Bool.or_true, Bool.true_or, Bool.or_false, Bool.false_or, eqCells, eqCell, rowOf, ↓acallop, aBound, aIntOf, flat, flatN, CX_fn, CX_X, CX_pol, aStore, Nat.reduceBEq, List.size_toArray, Int.sub_zero, Int.zero_add, Int.add_zero, Int.toNat_zero, Int.reduceAdd, Int.reduceSub, Int.reduceMul, Int.reduceNeg, Int.reduceToNat, Nat.reduceSub, Nat.reduceMul, Int.natCast_zero, Int.reduceDiv, Int.reduceMod, Int.toNat_natCast, fdiv_nn, min_bits_i, Int.reducePow, Nat.reducePow, Nat.reduceDiv, Nat.reduceMod, mb_i, mb_u, WpC_drawD, WpT_nil, WpT_cons, WpT_guard, WpK_nil, scal, g0, g3]
        (repeat' first
    | (refine CondV_dec (fun _ => ?_) (fun _ => ?_) <;> try (exfalso; omega))
    | (refine GuardV_td (fun _ => ?_) (fun _ => ?_) <;> try (exfalso; omega))
    | (refine GuardV_fd (fun _ => ?_) (fun _ => ?_) <;> try (exfalso; omega))
    | (refine CondV_split (fun _ => ?_) (fun _ => ?_))
    | (refine Need_of (by first | omega | decide) ?_)
    | refine WpK_cons ?_ ?_
    | refine WpK_guard ?_
    | simp (disch := first | omega | simp only [List.length_append, List.length_set, List.length_cons, List.length_nil] <;> omega | fail) only [evA, ↓evB, ↓astep, ↓aop, aBin, aInt, aStr, aUn, aNil, aMax, aresults, ares, aPack, ↓reduceIte, ↓reduceCtorEq, Nat.reduceEqDiff, Nat.reduceAdd, env0, aLoad, aLoadN, cellsOf, Int.reduceEq, Int.reduceLT, Int.reduceLE, Nat.reduceLeDiff, oneC, aop.fillL, setL, aApp, aAppC_nil, aAppC_own, xop, aSame_ptr, BIG, Bool.or_true, Bool.true_or, Bool.or_false, Bool.false_or, eqCells, eqCell, rowOf, ↓acallop, aBound, aIntOf, flat, flatN, CX_fn, CX_X, CX_pol, aStore, Nat.reduceBEq, List.size_toArray, Int.sub_zero, Int.zero_add, Int.add_zero, Int.toNat_zero, Int.reduceAdd, Int.reduceSub, Int.reduceMul, Int.reduceNeg, Int.reduceToNat, Nat.reduceSub, Nat.reduceMul, Int.natCast_zero, Int.reduceDiv, Int.reduceMod, Int.toNat_natCast, fdiv_nn, min_bits_i, Int.reducePow, Nat.reducePow, Nat.reduceDiv, Nat.reduceMod, mb_i, mb_u, WpC_drawD, WpT_nil, WpT_cons, WpT_guard, WpK_nil, scal, g0, g3, d1, u1])
        refine ⟨n - 1, by omega, i + 1, by omega, by (first | rfl | (simp only [Env_put_some, Env_put_none, ↓Env_set_at, ↓reduceIte, Nat.reduceEqDiff, g0] <;> rfl)), by (first | rfl | (simp only [Env_put_some, Env_put_none, ↓Env_set_at, ↓reduceIte, Nat.reduceEqDiff] <;> rfl)), fun j hj => ?_⟩
        rcases Nat.lt_or_ge j i with h | h
        · exact hno j h
        · obtain rfl : j = i := by omega
          exact he
    · have hi16 : i = 16 := by omega
      subst hi16
      simp only [lp107_0, evA, ↓evB, ↓astep, ↓aop, aBin, aInt, aStr, aUn, aNil, aMax, aresults, ares, aPack, ↓reduceIte, ↓reduceCtorEq, Nat.reduceEqDiff, Nat.reduceAdd, env0, aLoad, aLoadN, cellsOf, Int.reduceEq, Int.reduceLT, Int.reduceLE, Nat.reduceLeDiff, oneC, aop.fillL, setL, aApp, aAppC_nil, aAppC_own, xop, aSame_ptr, BIG, Bool.or_true, Bool.true_or, Bool.or_false, Bool.false_or, eqCells, eqCell, rowOf, ↓acallop, aBound, aIntOf, flat, flatN, CX_fn, CX_X, CX_pol, aStore, Nat.reduceBEq, List.size_toArray, Int.sub_zero, Int.zero_add, Int.add_zero, Int.toNat_zero, Int.reduceAdd, Int.reduceSub, Int.reduceMul, Int.reduceNeg, Int.reduceToNat, Nat.reduceSub, Nat.reduceMul, Int.natCast_zero, Int.reduceDiv, Int.reduceMod, Int.toNat_natCast, fdiv_nn, min_bits_i, Int.reducePow, Nat.reducePow, Nat.reduceDiv, Nat.reduceMod, mb_i, mb_u, WpC_drawD, WpT_nil, WpT_cons, WpT_guard, WpK_nil, scal, g0, g3]
      (repeat' first
    | (refine CondV_dec (fun _ => ?_) (fun _ => ?_) <;> try (exfalso; omega))
    | (refine GuardV_td (fun _ => ?_) (fun _ => ?_) <;> try (exfalso; omega))
    | (refine GuardV_fd (fun _ => ?_) (fun _ => ?_) <;> try (exfalso; omega))
    | (refine CondV_split (fun _ => ?_) (fun _ => ?_))
    | (refine Need_of (by first | omega | decide) ?_)
    | refine WpK_cons ?_ ?_
    | refine WpK_guard ?_
    | simp (disch := first | omega | simp only [List.length_append, List.length_set, List.length_cons, List.length_nil] <;> omega | fail) only [evA, ↓evB, ↓astep, ↓aop, aBin, aInt, aStr, aUn, aNil, aMax, aresults, ares, aPack, ↓reduceIte, ↓reduceCtorEq, Nat.reduceEqDiff, Nat.reduceAdd, env0, aLoad, aLoadN, cellsOf, Int.reduceEq, Int.reduceLT, Int.reduceLE, Nat.reduceLeDiff, oneC, aop.fillL, setL, aApp, aAppC_nil, aAppC_own, xop, aSame_ptr, BIG, Bool.or_true, Bool.true_or, Bool.or_false, Bool.false_or, eqCells, eqCell, rowOf, ↓acallop, aBound, aIntOf, flat, flatN, CX_fn, CX_X, CX_pol, aStore, Nat.reduceBEq, List.size_toArray, Int.sub_zero, Int.zero_add, Int.add_zero, Int.toNat_zero, Int.reduceAdd, Int.reduceSub, Int.reduceMul, Int.reduceNeg, Int.reduceToNat, Nat.reduceSub, Nat.reduceMul, Int.natCast_zero, Int.reduceDiv, Int.reduceMod, Int.toNat_natCast, fdiv_nn, min_bits_i, Int.reducePow, Nat.reducePow, Nat.reduceDiv, Nat.reduceMod, mb_i, mb_u, WpC_drawD, WpT_nil, WpT_cons, WpT_guard, WpK_nil, scal, g0, g3])
      rw [hv_none b hno]
  · exact ⟨0, rfl, rfl, rfl, fun j hj => by omega⟩

/-! ## What a line is read as -/
def hxs : List Nat → List Nat × List Nat
  | a :: b :: r => if 0 ≤ hv a ∧ 0 ≤ hv b then ((16 * hv a + hv b).toNat :: (hxs r).1, (hxs r).2) else ([], a :: b :: r)
  | s => ([], s)
mutual
def prs : Nat → Nat → List Nat → Option (Tr × List Nat)
  | 0, _, _ => none
  | f + 1, deep, s => if 16 < deep then none else match s with
    | [] => none
    | c :: r => if c = 45 then some (.mk ⟨#[]⟩ false [], r)
      else if c = 40 then (lst f (deep + 1) r []).map fun p => (.mk ⟨#[]⟩ true p.1, p.2)
      else if (hxs (c :: r)).1 = [] then none else some (.mk (bs (hxs (c :: r)).1) false [], (hxs (c :: r)).2)
def lst : Nat → Nat → List Nat → List Tr → Option (List Tr × List Nat)
  | 0, _, _, _ => none
  | f + 1, deep, s, acc => match s with
    | [] => none
    | c :: r => if c = 41 then some (acc, r)
      else if acc ≠ [] ∧ c ≠ 32 then none
      else match prs f deep (if acc = [] then c :: r else r) with
        | none => none
        | some (y, rest) => lst f deep rest (acc ++ [y])
end
theorem prs_deep {f deep : Nat} {s : List Nat} (h : 16 < deep) : prs f deep s = none := by
  cases f with
  | zero => simp [prs]
  | succ f => cases s <;> simp [prs, h]
theorem prs_nil {f deep : Nat} : prs f deep [] = none := by
  cases f <;> simp [prs]
theorem prs_cons {f deep c : Nat} {r : List Nat} (h : ¬ 16 < deep) : prs (f + 1) deep (c :: r) = if c = 45 then some (.mk ⟨#[]⟩ false [], r)
      else if c = 40 then (lst f (deep + 1) r []).map fun p => (.mk ⟨#[]⟩ true p.1, p.2)
      else if (hxs (c :: r)).1 = [] then none else some (.mk (bs (hxs (c :: r)).1) false [], (hxs (c :: r)).2) := by
  simp only [prs, if_neg h]
theorem lst_nil {f deep : Nat} {acc : List Tr} : lst f deep [] acc = none := by
  cases f <;> simp [lst]
theorem lst_cons {f deep c : Nat} {r : List Nat} {acc : List Tr} : lst (f + 1) deep (c :: r) acc = if c = 41 then some (acc, r)
      else if acc ≠ [] ∧ c ≠ 32 then none
      else match prs f deep (if acc = [] then c :: r else r) with
        | none => none
        | some (y, rest) => lst f deep rest (acc ++ [y]) := by
  simp only [lst]
end Ev
end Go.Proofs.Ytfbelnjchpffeaa
