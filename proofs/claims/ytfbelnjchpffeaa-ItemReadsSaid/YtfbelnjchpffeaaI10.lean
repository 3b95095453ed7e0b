/-
  The program's reading of an item: signs and texts.
-/
import Derived.Test.YtfbelnjchpffeaaI9
namespace Go.Proofs.Ytfbelnjchpffeaa
namespace Ev
open Tag (mk)
set_option linter.unusedSimpArgs false
set_option linter.unusedVariables false
set_option maxRecDepth 4000
set_option maxHeartbeats 4000000
def rdr (x : ByteArray) (n : Nat) (bad : Bool) : AObj := .cells [.string x, .int .i64 (n : Int), .bool bad] 131 true
theorem bl_nil {x : ByteArray} : bl x = [] ↔ x.size = 0 := by rw [← bl_length, List.length_eq_zero_iff]
theorem bl_head (x : ByteArray) (c : Nat) (r : List Nat) (h : bl x = c :: r) : 0 < x.size ∧ bAt x 0 = c ∧ bl (x.extract 1 x.size) = r := by
  have hl := congrArg List.length h
  rw [bl_length, List.length_cons] at hl
  refine ⟨by omega, by rw [bAt_bl, h]; rfl, ?_⟩
  rw [bl_extract, List.take_of_length_le (by rw [bl_length]; exact Nat.le_refl _), h]; rfl
theorem ext1 (x : ByteArray) (c : Nat) (hc : c < 256) (h : 0 < x.size) : (x.extract 0 1 = ⟨#[UInt8.ofNat c]⟩) = (bAt x 0 = c) := by
  apply propext
  have h1 : bl (x.extract 0 1) = [bAt x 0] := by rw [bl_extract, List.drop_zero]; have := bl_drop x 0 h; rw [List.drop_zero] at this; rw [this]; rfl
  constructor
  · intro he
    rw [he] at h1
    have : bl ⟨#[UInt8.ofNat c]⟩ = [c % 256] := by simp [bl]
    rw [this, Nat.mod_eq_of_lt hc] at h1
    simpa using h1.symm
  · intro he
    apply bl_inj
    rw [h1, he]
    simp [bl]; omega
theorem sign_yes {x : ByteArray} {n : Nat} {bad : Bool} {c : Nat} {r : List Nat} (hb : bl x = c :: r) (hc : c < 256) (hx : x.size ≤ 100000000) {H : Heap} {jr : Nat} (hr : H[jr]? = some (rdr x n bad)) {m : Ev.Mode} (hm : m.lim ≤ jr) {k : Nat} (hk : 6 ≤ k) :
    acall T0 k 105 [.pointer (some ⟨jr, 0, none⟩), .string ⟨#[UInt8.ofNat c]⟩] H m = some (.bool true, H.set jr (rdr (x.extract 1 x.size) n bad)) := by
  obtain ⟨h0, h2, _⟩ := bl_head x c r hb
  obtain ⟨k, rfl⟩ : ∃ q, k = q + 6 := ⟨k - 6, by omega⟩
  refine Run_and ?_
  refine Run_call (F := ir105) rfl (Nat.le_of_ble_eq_true rfl) ?_
  have hj := lt_of_get hr
  rw [rdr] at hr
  have h1 : ({ data := #[UInt8.ofNat c] } : ByteArray).size = 1 := rfl
  have he := ext1 x c hc h0
  simp only [ir105, T0, rdr]
  (repeat' first
    | (refine CondV_dec (fun _ => ?_) (fun _ => ?_) <;> try (exfalso; omega))
    | (refine GuardV_td (fun _ => ?_) (fun _ => ?_) <;> try (exfalso; omega))
    | (refine GuardV_fd (fun _ => ?_) (fun _ => ?_) <;> try (exfalso; omega))
    | (refine CondV_split (fun _ => ?_) (fun _ => ?_))
    | (refine Need_of (by first | omega | decide) ?_)
    | refine WpK_cons ?_ ?_
    | refine WpK_guard ?_
    | simp (disch := first | omega | simp only [List.length_append, List.length_set, List.length_cons, List.length_nil] <;> omega | fail) only [evA, ↓evB, ↓astep, ↓aop, aBin, aInt, aStr, aUn, aNil, aMax, aresults, ares, aPack, ↓reduceIte, ↓reduceCtorEq, Nat.reduceEqDiff, Nat.reduceAdd, env0, aLoad, aLoadN, cellsOf, Int.reduceEq, Int.reduceLT, Int.reduceLE, Nat.reduceLeDiff, oneC, aop.fillL, setL, aApp, aAppC_nil, aAppC_own, xop, aSame_ptr, BIG, Bool.or_true, Bool.true_or, Bool.or_false, Bool.false_or, eqCells, eqCell, rowOf, ↓acallop, aBound, aIntOf, flat, flatN, CX_fn, CX_X, CX_pol, aStore, Nat.reduceBEq, List.size_toArray, Int.sub_zero, Int.zero_add, Int.add_zero, Int.toNat_zero, Int.reduceAdd, Int.reduceSub, Int.reduceMul, Int.reduceNeg, Int.reduceToNat, Nat.reduceSub, Nat.reduceMul, Int.natCast_zero, Int.reduceDiv, Int.reduceMod, Int.toNat_natCast, fdiv_nn, min_bits_i, Int.reducePow, Nat.reducePow, Nat.reduceDiv, Nat.reduceMod, mb_i, mb_u, WpC_drawD, WpT_nil, WpT_cons, WpT_guard, WpK_nil, scal, fn129, ir129, fn136, ir136, fn139, ir139, hr, h1, he, h2])
theorem sign_no {x : ByteArray} {n : Nat} {bad : Bool} {c : Nat} (hb : ∀ r, bl x ≠ c :: r) (hc : c < 256) (hx : x.size ≤ 100000000) {H : Heap} {jr : Nat} (hr : H[jr]? = some (rdr x n bad)) {m : Ev.Mode} (hm : m.lim ≤ jr) {k : Nat} (hk : 6 ≤ k) :
    acall T0 k 105 [.pointer (some ⟨jr, 0, none⟩), .string ⟨#[UInt8.ofNat c]⟩] H m = some (.bool false, H) := by
  obtain ⟨k, rfl⟩ : ∃ q, k = q + 6 := ⟨k - 6, by omega⟩
  have hs := hset_same hr
  refine Run_and ?_
  refine Run_call (F := ir105) rfl (Nat.le_of_ble_eq_true rfl) ?_
  have hj := lt_of_get hr
  rw [rdr] at hr hs
  have h1 : ({ data := #[UInt8.ofNat c] } : ByteArray).size = 1 := rfl
  simp only [ir105, T0]
  by_cases h0 : 0 < x.size
  · have he := ext1 x c hc h0
    have h2 : ¬ bAt x 0 = c := fun h => by
      have := bl_drop x 0 h0
      rw [List.drop_zero, h] at this
      exact hb _ this
    (repeat' first
    | (refine CondV_dec (fun _ => ?_) (fun _ => ?_) <;> try (exfalso; omega))
    | (refine GuardV_td (fun _ => ?_) (fun _ => ?_) <;> try (exfalso; omega))
    | (refine GuardV_fd (fun _ => ?_) (fun _ => ?_) <;> try (exfalso; omega))
    | (refine CondV_split (fun _ => ?_) (fun _ => ?_))
    | (refine Need_of (by first | omega | decide) ?_)
    | refine WpK_cons ?_ ?_
    | refine WpK_guard ?_
    | simp (disch := first | omega | simp only [List.length_append, List.length_set, List.length_cons, List.length_nil] <;> omega | fail) only [evA, ↓evB, ↓astep, ↓aop, aBin, aInt, aStr, aUn, aNil, aMax, aresults, ares, aPack, ↓reduceIte, ↓reduceCtorEq, Nat.reduceEqDiff, Nat.reduceAdd, env0, aLoad, aLoadN, cellsOf, Int.reduceEq, Int.reduceLT, Int.reduceLE, Nat.reduceLeDiff, oneC, aop.fillL, setL, aApp, aAppC_nil, aAppC_own, xop, aSame_ptr, BIG, Bool.or_true, Bool.true_or, Bool.or_false, Bool.false_or, eqCells, eqCell, rowOf, ↓acallop, aBound, aIntOf, flat, flatN, CX_fn, CX_X, CX_pol, aStore, Nat.reduceBEq, List.size_toArray, Int.sub_zero, Int.zero_add, Int.add_zero, Int.toNat_zero, Int.reduceAdd, Int.reduceSub, Int.reduceMul, Int.reduceNeg, Int.reduceToNat, Nat.reduceSub, Nat.reduceMul, Int.natCast_zero, Int.reduceDiv, Int.reduceMod, Int.toNat_natCast, fdiv_nn, min_bits_i, Int.reducePow, Nat.reducePow, Nat.reduceDiv, Nat.reduceMod, mb_i, mb_u, WpC_drawD, WpT_nil, WpT_cons, WpT_guard, WpK_nil, scal, fn129, ir129, fn136, ir136, fn139, ir139, hr, hs, h1, he, h2])
  · (repeat' first
    | (refine CondV_dec (fun _ => ?_) (fun _ => ?_) <;> try (exfalso; omega))
    | (refine GuardV_td (fun _ => ?_) (fun _ => ?_) <;> try (exfalso; omega))
    | (refine GuardV_fd (fun _ => ?_) (fun _ => ?_) <;> try (exfalso; omega))
    | (refine CondV_split (fun _ => ?_) (fun _ => ?_))
    | (refine Need_of (by first | omega | decide) ?_)
    | refine WpK_cons ?_ ?_
    | refine WpK_guard ?_
    | simp (disch := first | omega | simp only [List.length_append, List.length_set, List.length_cons, List.length_nil] <;> omega | fail) only [evA, ↓evB, ↓astep, ↓aop, aBin, aInt, aStr, aUn, aNil, aMax, aresults, ares, aPack, ↓reduceIte, ↓reduceCtorEq, Nat.reduceEqDiff, Nat.reduceAdd, env0, aLoad, aLoadN, cellsOf, Int.reduceEq, Int.reduceLT, Int.reduceLE, Nat.reduceLeDiff, oneC, aop.fillL, setL, aApp, aAppC_nil, aAppC_own, xop, aSame_ptr, BIG, Bool.or_true, Bool.true_or, Bool.or_false, Bool.false_or, eqCells, eqCell, rowOf, ↓acallop, aBound, aIntOf, flat, flatN, CX_fn, CX_X, CX_pol, aStore, Nat.reduceBEq, List.size_toArray, Int.sub_zero, Int.zero_add, Int.add_zero, Int.toNat_zero, Int.reduceAdd, Int.reduceSub, Int.reduceMul, Int.reduceNeg, Int.reduceToNat, Nat.reduceSub, Nat.reduceMul, Int.natCast_zero, Int.reduceDiv, Int.reduceMod, Int.toNat_natCast, fdiv_nn, min_bits_i, Int.reducePow, Nat.reducePow, Nat.reduceDiv, Nat.reduceMod, mb_i, mb_u, WpC_drawD, WpT_nil, WpT_cons, WpT_guard, WpK_nil, scal, fn129, ir129, fn136, ir136, fn139, ir139, hr, hs, h1])
theorem hxs2 (x : ByteArray) (h : 1 < x.size) : hxs (bl x) = if 0 ≤ hv (bAt x 0) ∧ 0 ≤ hv (bAt x 1) then ((16 * hv (bAt x 0) + hv (bAt x 1)).toNat :: (hxs (bl (x.extract 2 x.size))).1, (hxs (bl (x.extract 2 x.size))).2) else ([], bl x) := by
  have h1 := hxs_pair x 0 (by omega)
  simp only [List.drop_zero, Nat.zero_add] at h1
  rw [h1, bl_extract, List.take_of_length_le (by rw [bl_length]; exact Nat.le_refl _)]
theorem hxs1 (x : ByteArray) (h : x.size ≤ 1) : hxs (bl x) = ([], bl x) := by
  have h1 := hxs_end x 0 (by omega)
  simpa using h1
def IHxR (jr : Nat) (R : List Nat × List Nat) (nn N : Nat) (Hb : Heap) (n : Nat) (e : Env) (H : Heap) : Prop :=
  ∃ (x : ByteArray) (out : List Nat) (a : Option Addr) (c : Nat), x.size = n ∧ e 0 = .pointer (some ⟨jr, 0, none⟩) ∧ e 3 = .slice a out.length c ∧ out.length + x.size ≤ N ∧
    H[jr]? = some (rdr x nn false) ∧ Fr (fun i => i = jr) Hb H ∧
    (out = [] ∧ a = none ∧ c = 0 ∨ ∃ q, a = some ⟨q, 0, none⟩ ∧ c = 1 ∧ Hb.length ≤ q ∧ 0 < out.length ∧ H[q]? = some (.cells (bv out) 5 true)) ∧
    (out ++ (hxs (bl x)).1, (hxs (bl x)).2) = R
theorem wIdxB (b : Nat) (hb : b < 256) (H : Heap) (m : Ev.Mode) (k : Nat) (hk : 3 ≤ k) : acall T0 k 63 [.string ⟨#[48, 49, 50, 51, 52, 53, 54, 55, 56, 57, 97, 98, 99, 100, 101, 102]⟩, .int .u8 (b : Int)] H m = some (.int .i64 (hv b), H) := by
  obtain ⟨k, rfl⟩ : ∃ q, k = q + 3 := ⟨k - 3, by omega⟩
  have f0 := firstIdx_hv b hb
  refine Run_and ?_
  refine Run_call (F := ir63) rfl (Nat.le_of_ble_eq_true rfl) ?_
  simp only [ir63, T0]
  (repeat' first
    | (refine CondV_dec (fun _ => ?_) (fun _ => ?_) <;> try (exfalso; omega))
    | (refine GuardV_td (fun _ => ?_) (fun _ => ?_) <;> try (exfalso; omega))
    | (refine GuardV_fd (fun _ => ?_) (fun _ => ?_) <;> try (exfalso; omega))
    | (refine CondV_split (fun _ => ?_) (fun _ => ?_))
    | (refine Need_of (by first | omega | decide) ?_)
    | refine WpK_cons ?_ ?_
    | refine WpK_guard ?_
    | simp (disch := first | omega | simp only [List.length_append, List.length_set, List.length_cons, List.length_nil] <;> omega | fail) only [evA, ↓evB, ↓astep, ↓aop, aBin, aInt, aStr, aUn, aNil, aMax, aresults, ares, aPack, ↓reduceIte, ↓reduceCtorEq, Nat.reduceEqDiff, Nat.reduceAdd, env0, aLoad, aLoadN, cellsOf, Int.reduceEq, Int.reduceLT, Int.reduceLE, Nat.reduceLeDiff, oneC, aop.fillL, setL, aApp, aAppC_nil, aAppC_own, xop, aSame_ptr, BIG, Bool.or_true, Bool.true_or, Bool.or_false, Bool.false_or, eqCells, eqCell, rowOf, ↓acallop, aBound, aIntOf, flat, flatN, CX_fn, CX_X, CX_pol, aStore, Nat.reduceBEq, List.size_toArray, Int.sub_zero, Int.zero_add, Int.add_zero, Int.toNat_zero, Int.reduceAdd, Int.reduceSub, Int.reduceMul, Int.reduceNeg, Int.reduceToNat, Nat.reduceSub, Nat.reduceMul, Int.natCast_zero, Int.reduceDiv, Int.reduceMod, Int.toNat_natCast, fdiv_nn, min_bits_i, Int.reducePow, Nat.reducePow, Nat.reduceDiv, Nat.reduceMod, mb_i, mb_u, WpC_drawD, WpT_nil, WpT_cons, WpT_guard, WpK_nil, scal, fn96, ir96, f0])
def TextPost (x : ByteArray) (nn : Nat) (H : Heap) (jr : Nat) (u : Value) (H' : Heap) : Prop :=
  ∃ x', Fr (fun i => i = jr) H H' ∧ ((∃ r, bl x = 45 :: r ∧ u = .string ⟨#[]⟩ ∧ H'[jr]? = some (rdr x' nn false) ∧ bl x' = r) ∨
      ((∀ r, bl x ≠ 45 :: r) ∧ u = .string (bs (hxs (bl x)).1) ∧ H'[jr]? = some (rdr x' nn (decide ((hxs (bl x)).1 = []))) ∧ bl x' = (hxs (bl x)).2))
theorem wText (x : ByteArray) (nn : Nat) (hx : x.size ≤ 100000) (H : Heap) (jr : Nat) (hr : H[jr]? = some (rdr x nn false)) (m : Ev.Mode) (hm : m.lim ≤ jr) (hf : m.fb ≤ jr) (k : Nat) (hk : x.size + 10 ≤ k) :
    Run (TextPost x nn H jr) mk
      (acall T0 k 106 [.pointer (some ⟨jr, 0, none⟩)] H m) := by
  obtain ⟨k, rfl⟩ : ∃ q, k = q + 1 := ⟨k - 1, by omega⟩
  refine Run_call (F := ir106) rfl (Nat.le_of_ble_eq_true rfl) ?_
  have hj := lt_of_get hr
  by_cases h45 : ∃ r, bl x = 45 :: r
  · obtain ⟨r, h45⟩ := h45
    have hs := sign_yes h45 (by decide) (by omega) hr hm (k := k) (by omega)
    rw [show ({ data := #[UInt8.ofNat 45] } : ByteArray) = ⟨#[45]⟩ from rfl] at hs
    simp only [T0] at hs
    simp only [ir106, T0]
    (repeat' first
    | (refine CondV_dec (fun _ => ?_) (fun _ => ?_) <;> try (exfalso; omega))
    | (refine GuardV_td (fun _ => ?_) (fun _ => ?_) <;> try (exfalso; omega))
    | (refine GuardV_fd (fun _ => ?_) (fun _ => ?_) <;> try (exfalso; omega))
    | (refine CondV_split (fun _ => ?_) (fun _ => ?_))
    | (refine Need_of (by first | omega | decide) ?_)
    | refine WpK_cons ?_ ?_
    | refine WpK_guard ?_
    | simp (disch := first | omega | simp only [List.length_append, List.length_set, List.length_cons, List.length_nil] <;> omega | fail) only [evA, ↓evB, ↓astep, ↓aop, aBin, aInt, aStr, aUn, aNil, aMax, aresults, ares, aPack, ↓reduceIte, ↓reduceCtorEq, Nat.reduceEqDiff, Nat.reduceAdd, env0, aLoad, aLoadN, cellsOf, Int.reduceEq, Int.reduceLT, Int.reduceLE, Nat.reduceLeDiff, oneC, aop.fillL, setL, aApp, aAppC_nil, aAppC_own, xop, aSame_ptr, BIG, Bool.or_true, Bool.true_or, Bool.or_false, Bool.false_or, eqCells, eqCell, rowOf, ↓acallop, aBound, aIntOf, flat, flatN, CX_fn, CX_X, CX_pol, aStore, Nat.reduceBEq, List.size_toArray, Int.sub_zero, Int.zero_add, Int.add_zero, Int.toNat_zero, Int.reduceAdd, Int.reduceSub, Int.reduceMul, Int.reduceNeg, Int.reduceToNat, Nat.reduceSub, Nat.reduceMul, Int.natCast_zero, Int.reduceDiv, Int.reduceMod, Int.toNat_natCast, fdiv_nn, min_bits_i, Int.reducePow, Nat.reducePow, Nat.reduceDiv, Nat.reduceMod, mb_i, mb_u, WpC_drawD, WpT_nil, WpT_cons, WpT_guard, WpK_nil, scal, hs])
    exact ⟨_, .set (X := fun i => i = jr) rfl _, .inl ⟨r, h45, rfl, hset_self hj _, (bl_head x 45 r h45).2.2⟩⟩
  · have h45' : ∀ r, bl x ≠ 45 :: r := fun r h => h45 ⟨r, h⟩
    have hs := sign_no h45' (by decide) (by omega) hr hm (k := k) (by omega)
    rw [show ({ data := #[UInt8.ofNat 45] } : ByteArray) = ⟨#[45]⟩ from rfl] at hs
    simp only [T0] at hs
    simp only [ir106, T0]
    (repeat' first
    | (refine CondV_dec (fun _ => ?_) (fun _ => ?_) <;> try (exfalso; omega))
    | (refine GuardV_td (fun _ => ?_) (fun _ => ?_) <;> try (exfalso; omega))
    | (refine GuardV_fd (fun _ => ?_) (fun _ => ?_) <;> try (exfalso; omega))
    | (refine CondV_split (fun _ => ?_) (fun _ => ?_))
    | (refine Need_of (by first | omega | decide) ?_)
    | refine WpK_cons ?_ ?_
    | refine WpK_guard ?_
    | simp (disch := first | omega | simp only [List.length_append, List.length_set, List.length_cons, List.length_nil] <;> omega | fail) only [evA, ↓evB, ↓astep, ↓aop, aBin, aInt, aStr, aUn, aNil, aMax, aresults, ares, aPack, ↓reduceIte, ↓reduceCtorEq, Nat.reduceEqDiff, Nat.reduceAdd, env0, aLoad, aLoadN, cellsOf, Int.reduceEq, Int.reduceLT, Int.reduceLE, Nat.reduceLeDiff, oneC, aop.fillL, setL, aApp, aAppC_nil, aAppC_own, xop, aSame_ptr, BIG, Bool.or_true, Bool.true_or, Bool.or_false, Bool.false_or, eqCells, eqCell, rowOf, ↓acallop, aBound, aIntOf, flat, flatN, CX_fn, CX_X, CX_pol, aStore, Nat.reduceBEq, List.size_toArray, Int.sub_zero, Int.zero_add, Int.add_zero, Int.toNat_zero, Int.reduceAdd, Int.reduceSub, Int.reduceMul, Int.reduceNeg, Int.reduceToNat, Nat.reduceSub, Nat.reduceMul, Int.natCast_zero, Int.reduceDiv, Int.reduceMod, Int.toNat_natCast, fdiv_nn, min_bits_i, Int.reducePow, Nat.reducePow, Nat.reduceDiv, Nat.reduceMod, mb_i, mb_u, WpC_drawD, WpT_nil, WpT_cons, WpT_guard, WpK_nil, scal, hs])
    refine WpC_loop (IHxR jr (hxs (bl x)) nn x.size H) ?_ (n := x.size) (show x.size < k by omega) ?_
    · rintro n e H1 ⟨y, out, a, c, hyn, g0, g3, hol, hrd, hfr, hrow, hR⟩
      have hj1 := lt_of_get hrd
      have hH1 := hfr.1
      have hrd' := hrd
      rw [rdr] at hrd
      have f0 := wIdxB (bAt y 0) (bAt_lt y 0) H1 m k (by omega)
      have f1 := wIdxB (bAt y 1) (bAt_lt y 1) H1 m k (by omega)
      simp only [T0] at f0 f1
      have ab0 : allBytes [] = some [] := rfl
      have fin : ∀ (H2 : Heap), H2 = H1.set jr (rdr y nn (decide (out = []))) → hxs (bl y) = ([], bl y) → TextPost x nn H jr (.string (bs out)) H2 := by
        intro H2 hH2 hend
        rw [hend] at hR
        simp only [List.append_nil] at hR
        unfold TextPost
        rw [← hR, hH2]
        exact ⟨y, hfr.sets rfl _, .inr ⟨h45', rfl, hset_self hj1 _, rfl⟩⟩
      by_cases hlen : 1 < y.size
      · by_cases hcont : 0 ≤ hv (bAt y 0) ∧ 0 ≤ hv (bAt y 1)
        · obtain ⟨c2, c3⟩ := hcont
          obtain ⟨a1, a2⟩ := hxc_hv _ c2
          obtain ⟨b1, b2⟩ := hxc_hv _ c3
          obtain ⟨w, hw⟩ : ∃ w : Nat, 16 * hv (bAt y 0) + hv (bAt y 1) = (w : Int) := ⟨(16 * hv (bAt y 0) + hv (bAt y 1)).toNat, by omega⟩
          have hw256 : w < 256 := by omega
          rw [hxs2 y hlen, if_pos ⟨c2, c3⟩, hw, Int.toNat_natCast] at hR
          simp only [lp106_0, evA, ↓evB, ↓astep, ↓aop, aBin, aInt, aStr, aUn, aNil, aMax, aresults, ares, aPack, ↓reduceIte, ↓reduceCtorEq, Nat.reduceEqDiff, Nat.reduceAdd, env0, aLoad, aLoadN, cellsOf, Int.reduceEq, Int.reduceLT, Int.reduceLE, Nat.reduceLeDiff, oneC, aop.fillL, setL, aApp, aAppC_nil, aAppC_own, xop, aSame_ptr, BIG, Bool.or_true, Bool.true_or, Bool.or_false, Bool.false_or, eqCells, eqCell, rowOf, ↓acallop, aBound, aIntOf, flat, flatN, CX_fn, CX_X, CX_pol, aStore, Nat.reduceBEq, List.size_toArray, Int.sub_zero, Int.zero_add, Int.add_zero, Int.toNat_zero, Int.reduceAdd, Int.reduceSub, Int.reduceMul, Int.reduceNeg, Int.reduceToNat, Nat.reduceSub, Nat.reduceMul, Int.natCast_zero, Int.reduceDiv, Int.reduceMod, Int.toNat_natCast, fdiv_nn, min_bits_i, Int.reducePow, Nat.reducePow, Nat.reduceDiv, Nat.reduceMod, mb_i, mb_u, WpC_drawD, WpT_nil, WpT_cons, WpT_guard, WpK_nil, scal, g0, g3, T0]
          rcases hrow with ⟨rfl, rfl, rfl⟩ | ⟨q, rfl, rfl, hq1, hq2, hq3⟩
          · (repeat' first
    | (refine CondV_dec (fun _ => ?_) (fun _ => ?_) <;> try (exfalso; omega))
    | (refine GuardV_td (fun _ => ?_) (fun _ => ?_) <;> try (exfalso; omega))
    | (refine GuardV_fd (fun _ => ?_) (fun _ => ?_) <;> try (exfalso; omega))
    | (refine CondV_split (fun _ => ?_) (fun _ => ?_))
    | (refine Need_of (by first | omega | decide) ?_)
    | refine WpK_cons ?_ ?_
    | refine WpK_guard ?_
    | simp (disch := first | omega | simp only [List.length_append, List.length_set, List.length_cons, List.length_nil] <;> omega | fail) only [evA, ↓evB, ↓astep, ↓aop, aBin, aInt, aStr, aUn, aNil, aMax, aresults, ares, aPack, ↓reduceIte, ↓reduceCtorEq, Nat.reduceEqDiff, Nat.reduceAdd, env0, aLoad, aLoadN, cellsOf, Int.reduceEq, Int.reduceLT, Int.reduceLE, Nat.reduceLeDiff, oneC, aop.fillL, setL, aApp, aAppC_nil, aAppC_own, xop, aSame_ptr, BIG, Bool.or_true, Bool.true_or, Bool.or_false, Bool.false_or, eqCells, eqCell, rowOf, ↓acallop, aBound, aIntOf, flat, flatN, CX_fn, CX_X, CX_pol, aStore, Nat.reduceBEq, List.size_toArray, Int.sub_zero, Int.zero_add, Int.add_zero, Int.toNat_zero, Int.reduceAdd, Int.reduceSub, Int.reduceMul, Int.reduceNeg, Int.reduceToNat, Nat.reduceSub, Nat.reduceMul, Int.natCast_zero, Int.reduceDiv, Int.reduceMod, Int.toNat_natCast, fdiv_nn, min_bits_i, Int.reducePow, Nat.reducePow, Nat.reduceDiv, Nat.reduceMod, mb_i, mb_u, WpC_drawD, WpT_nil, WpT_cons, WpT_guard, WpK_nil, scal, g0, g3, hrd, f0, f1, hw])
            refine ⟨y.size - 2, by omega, y.extract 2 y.size, [w], some ⟨H1.length + 1, 0, none⟩, 1, by rw [ByteArray.size_extract]; omega, by (first | rfl | (simp only [Env_put_some, Env_put_none, ↓Env_set_at, ↓reduceIte, Nat.reduceEqDiff, g0] <;> rfl)), by (first | rfl | (simp only [Env_put_some, Env_put_none, ↓Env_set_at, ↓reduceIte, Nat.reduceEqDiff] <;> rfl)), ?_, ?_, ?_, .inr ⟨H1.length + 1, rfl, rfl, by omega, by simp, ?_⟩, ?_⟩
            · rw [ByteArray.size_extract]; simp only [List.length_cons, List.length_nil] at hol ⊢; omega
            · rw [happ_l (by simp; omega)]; exact hset_self hj1 _
            · exact (hfr.sets rfl _).appl _
            · rw [happ_ge (by simp)]; simp [bv]
            · simpa using hR
          · have hlq := lt_of_get hq3
            have hne : q ≠ jr := by omega
            have hbl := bv_length out
            have htk := bv_take out
            (repeat' first
    | (refine CondV_dec (fun _ => ?_) (fun _ => ?_) <;> try (exfalso; omega))
    | (refine GuardV_td (fun _ => ?_) (fun _ => ?_) <;> try (exfalso; omega))
    | (refine GuardV_fd (fun _ => ?_) (fun _ => ?_) <;> try (exfalso; omega))
    | (refine CondV_split (fun _ => ?_) (fun _ => ?_))
    | (refine Need_of (by first | omega | decide) ?_)
    | refine WpK_cons ?_ ?_
    | refine WpK_guard ?_
    | simp (disch := first | omega | simp only [List.length_append, List.length_set, List.length_cons, List.length_nil] <;> omega | fail) only [evA, ↓evB, ↓astep, ↓aop, aBin, aInt, aStr, aUn, aNil, aMax, aresults, ares, aPack, ↓reduceIte, ↓reduceCtorEq, Nat.reduceEqDiff, Nat.reduceAdd, env0, aLoad, aLoadN, cellsOf, Int.reduceEq, Int.reduceLT, Int.reduceLE, Nat.reduceLeDiff, oneC, aop.fillL, setL, aApp, aAppC_nil, aAppC_own, xop, aSame_ptr, BIG, Bool.or_true, Bool.true_or, Bool.or_false, Bool.false_or, eqCells, eqCell, rowOf, ↓acallop, aBound, aIntOf, flat, flatN, CX_fn, CX_X, CX_pol, aStore, Nat.reduceBEq, List.size_toArray, Int.sub_zero, Int.zero_add, Int.add_zero, Int.toNat_zero, Int.reduceAdd, Int.reduceSub, Int.reduceMul, Int.reduceNeg, Int.reduceToNat, Nat.reduceSub, Nat.reduceMul, Int.natCast_zero, Int.reduceDiv, Int.reduceMod, Int.toNat_natCast, fdiv_nn, min_bits_i, Int.reducePow, Nat.reducePow, Nat.reduceDiv, Nat.reduceMod, mb_i, mb_u, WpC_drawD, WpT_nil, WpT_cons, WpT_guard, WpK_nil, scal, g0, g3, hrd, f0, f1, hw, hq3, htk])
            refine ⟨y.size - 2, by omega, y.extract 2 y.size, out ++ [w], some ⟨H1.length + 1, 0, none⟩, 1, by rw [ByteArray.size_extract]; omega, by (first | rfl | (simp only [Env_put_some, Env_put_none, ↓Env_set_at, ↓reduceIte, Nat.reduceEqDiff, g0] <;> rfl)), ?_, ?_, ?_, ?_, .inr ⟨H1.length + 1, rfl, rfl, by omega, by simp, ?_⟩, ?_⟩
            · simp only [List.length_append, List.length_cons, List.length_nil]; (first | rfl | (simp only [Env_put_some, Env_put_none, ↓Env_set_at, ↓reduceIte, Nat.reduceEqDiff] <;> rfl))
            · rw [ByteArray.size_extract]; simp only [List.length_append, List.length_cons, List.length_nil]; omega
            · rw [happ_l (by simp; omega)]; exact hset_self (by simp; omega) _
            · exact hfr.new (((Fr.set (X := fun i => i = q ∨ i = jr) (.inl rfl) _).sets (.inr rfl) _).appl _) (fun i hi => by rcases hi with rfl | rfl; exact .inr hq1; exact .inl rfl)
            · rw [happ_ge (by simp)]; simp
            · simpa [List.append_assoc] using hR
        · have hend : hxs (bl y) = ([], bl y) := by rw [hxs2 y hlen, if_neg hcont]
          have fin := fun H2 h => fin H2 h hend
          simp only [lp106_0, evA, ↓evB, ↓astep, ↓aop, aBin, aInt, aStr, aUn, aNil, aMax, aresults, ares, aPack, ↓reduceIte, ↓reduceCtorEq, Nat.reduceEqDiff, Nat.reduceAdd, env0, aLoad, aLoadN, cellsOf, Int.reduceEq, Int.reduceLT, Int.reduceLE, Nat.reduceLeDiff, oneC, aop.fillL, setL, aApp, aAppC_nil, aAppC_own, xop, aSame_ptr, BIG, Bool.or_true, Bool.true_or, Bool.or_false, Bool.false_or, eqCells, eqCell, rowOf, ↓acallop, aBound, aIntOf, flat, flatN, CX_fn, CX_X, CX_pol, aStore, Nat.reduceBEq, List.size_toArray, Int.sub_zero, Int.zero_add, Int.add_zero, Int.toNat_zero, Int.reduceAdd, Int.reduceSub, Int.reduceMul, Int.reduceNeg, Int.reduceToNat, Nat.reduceSub, Nat.reduceMul, Int.natCast_zero, Int.reduceDiv, Int.reduceMod, Int.toNat_natCast, fdiv_nn, min_bits_i, Int.reducePow, Nat.reducePow, Nat.reduceDiv, Nat.reduceMod, mb_i, mb_u, WpC_drawD, WpT_nil, WpT_cons, WpT_guard, WpK_nil, scal, g0, g3, T0]
          rcases hrow with ⟨rfl, rfl, rfl⟩ | ⟨q, rfl, rfl, hq1, hq2, hq3⟩
          · (repeat' first
    | (refine CondV_dec (fun _ => ?_) (fun _ => ?_) <;> try (exfalso; omega))
    | (refine GuardV_td (fun _ => ?_) (fun _ => ?_) <;> try (exfalso; omega))
    | (refine GuardV_fd (fun _ => ?_) (fun _ => ?_) <;> try (exfalso; omega))
    | (refine CondV_split (fun _ => ?_) (fun _ => ?_))
    | (refine Need_of (by first | omega | decide) ?_)
    | refine WpK_cons ?_ ?_
    | refine WpK_guard ?_
    | simp (disch := first | omega | simp only [List.length_append, List.length_set, List.length_cons, List.length_nil] <;> omega | fail) only [evA, ↓evB, ↓astep, ↓aop, aBin, aInt, aStr, aUn, aNil, aMax, aresults, ares, aPack, ↓reduceIte, ↓reduceCtorEq, Nat.reduceEqDiff, Nat.reduceAdd, env0, aLoad, aLoadN, cellsOf, Int.reduceEq, Int.reduceLT, Int.reduceLE, Nat.reduceLeDiff, oneC, aop.fillL, setL, aApp, aAppC_nil, aAppC_own, xop, aSame_ptr, BIG, Bool.or_true, Bool.true_or, Bool.or_false, Bool.false_or, eqCells, eqCell, rowOf, ↓acallop, aBound, aIntOf, flat, flatN, CX_fn, CX_X, CX_pol, aStore, Nat.reduceBEq, List.size_toArray, Int.sub_zero, Int.zero_add, Int.add_zero, Int.toNat_zero, Int.reduceAdd, Int.reduceSub, Int.reduceMul, Int.reduceNeg, Int.reduceToNat, Nat.reduceSub, Nat.reduceMul, Int.natCast_zero, Int.reduceDiv, Int.reduceMod, Int.toNat_natCast, fdiv_nn, min_bits_i, Int.reducePow, Nat.reducePow, Nat.reduceDiv, Nat.reduceMod, mb_i, mb_u, WpC_drawD, WpT_nil, WpT_cons, WpT_guard, WpK_nil, scal, g0, g3, hrd, f0, f1, ab0])
            all_goals exact fin _ rfl
          · have hne : q ≠ jr := by omega
            have hno : out ≠ [] := fun h => by subst h; simp at hq2
            have htk := bv_take out
            have hbl := bv_length out
            (repeat' first
    | (refine CondV_dec (fun _ => ?_) (fun _ => ?_) <;> try (exfalso; omega))
    | (refine GuardV_td (fun _ => ?_) (fun _ => ?_) <;> try (exfalso; omega))
    | (refine GuardV_fd (fun _ => ?_) (fun _ => ?_) <;> try (exfalso; omega))
    | (refine CondV_split (fun _ => ?_) (fun _ => ?_))
    | (refine Need_of (by first | omega | decide) ?_)
    | refine WpK_cons ?_ ?_
    | refine WpK_guard ?_
    | simp (disch := first | omega | simp only [List.length_append, List.length_set, List.length_cons, List.length_nil] <;> omega | fail) only [evA, ↓evB, ↓astep, ↓aop, aBin, aInt, aStr, aUn, aNil, aMax, aresults, ares, aPack, ↓reduceIte, ↓reduceCtorEq, Nat.reduceEqDiff, Nat.reduceAdd, env0, aLoad, aLoadN, cellsOf, Int.reduceEq, Int.reduceLT, Int.reduceLE, Nat.reduceLeDiff, oneC, aop.fillL, setL, aApp, aAppC_nil, aAppC_own, xop, aSame_ptr, BIG, Bool.or_true, Bool.true_or, Bool.or_false, Bool.false_or, eqCells, eqCell, rowOf, ↓acallop, aBound, aIntOf, flat, flatN, CX_fn, CX_X, CX_pol, aStore, Nat.reduceBEq, List.size_toArray, Int.sub_zero, Int.zero_add, Int.add_zero, Int.toNat_zero, Int.reduceAdd, Int.reduceSub, Int.reduceMul, Int.reduceNeg, Int.reduceToNat, Nat.reduceSub, Nat.reduceMul, Int.natCast_zero, Int.reduceDiv, Int.reduceMod, Int.toNat_natCast, fdiv_nn, min_bits_i, Int.reducePow, Nat.reducePow, Nat.reduceDiv, Nat.reduceMod, mb_i, mb_u, WpC_drawD, WpT_nil, WpT_cons, WpT_guard, WpK_nil, scal, g0, g3, hrd, f0, f1, hq3, htk])
            all_goals exact fin _ (by rw [decide_eq_false hno, rdr, decide_eq_false (show ¬ ((out.length : Int) = 0) by omega)])
      · have hend : hxs (bl y) = ([], bl y) := hxs1 y (by omega)
        have fin := fun H2 h => fin H2 h hend
        simp only [lp106_0, evA, ↓evB, ↓astep, ↓aop, aBin, aInt, aStr, aUn, aNil, aMax, aresults, ares, aPack, ↓reduceIte, ↓reduceCtorEq, Nat.reduceEqDiff, Nat.reduceAdd, env0, aLoad, aLoadN, cellsOf, Int.reduceEq, Int.reduceLT, Int.reduceLE, Nat.reduceLeDiff, oneC, aop.fillL, setL, aApp, aAppC_nil, aAppC_own, xop, aSame_ptr, BIG, Bool.or_true, Bool.true_or, Bool.or_false, Bool.false_or, eqCells, eqCell, rowOf, ↓acallop, aBound, aIntOf, flat, flatN, CX_fn, CX_X, CX_pol, aStore, Nat.reduceBEq, List.size_toArray, Int.sub_zero, Int.zero_add, Int.add_zero, Int.toNat_zero, Int.reduceAdd, Int.reduceSub, Int.reduceMul, Int.reduceNeg, Int.reduceToNat, Nat.reduceSub, Nat.reduceMul, Int.natCast_zero, Int.reduceDiv, Int.reduceMod, Int.toNat_natCast, fdiv_nn, min_bits_i, Int.reducePow, Nat.reducePow, Nat.reduceDiv, Nat.reduceMod, mb_i, mb_u, WpC_drawD, WpT_nil, WpT_cons, WpT_guard, WpK_nil, scal, g0, g3, T0]
        rcases hrow with ⟨rfl, rfl, rfl⟩ | ⟨q, rfl, rfl, hq1, hq2, hq3⟩
        · (repeat' first
    | (refine CondV_dec (fun _ => ?_) (fun _ => ?_) <;> try (exfalso; omega))
    | (refine GuardV_td (fun _ => ?_) (fun _ => ?_) <;> try (exfalso; omega))
    | (refine GuardV_fd (fun _ => ?_) (fun _ => ?_) <;> try (exfalso; omega))
    | (refine CondV_split (fun _ => ?_) (fun _ => ?_))
    | (refine Need_of (by first | omega | decide) ?_)
    | refine WpK_cons ?_ ?_
    | refine WpK_guard ?_
    | simp (disch := first | omega | simp only [List.length_append, List.length_set, List.length_cons, List.length_nil] <;> omega | fail) only [evA, ↓evB, ↓astep, ↓aop, aBin, aInt, aStr, aUn, aNil, aMax, aresults, ares, aPack, ↓reduceIte, ↓reduceCtorEq, Nat.reduceEqDiff, Nat.reduceAdd, env0, aLoad, aLoadN, cellsOf, Int.reduceEq, Int.reduceLT, Int.reduceLE, Nat.reduceLeDiff, oneC, aop.fillL, setL, aApp, aAppC_nil, aAppC_own, xop, aSame_ptr, BIG, Bool.or_true, Bool.true_or, Bool.or_false, Bool.false_or, eqCells, eqCell, rowOf, ↓acallop, aBound, aIntOf, flat, flatN, CX_fn, CX_X, CX_pol, aStore, Nat.reduceBEq, List.size_toArray, Int.sub_zero, Int.zero_add, Int.add_zero, Int.toNat_zero, Int.reduceAdd, Int.reduceSub, Int.reduceMul, Int.reduceNeg, Int.reduceToNat, Nat.reduceSub, Nat.reduceMul, Int.natCast_zero, Int.reduceDiv, Int.reduceMod, Int.toNat_natCast, fdiv_nn, min_bits_i, Int.reducePow, Nat.reducePow, Nat.reduceDiv, Nat.reduceMod, mb_i, mb_u, WpC_drawD, WpT_nil, WpT_cons, WpT_guard, WpK_nil, scal, g0, g3, hrd, ab0])
          all_goals exact fin _ rfl
        · have hne : q ≠ jr := by omega
          have hno : out ≠ [] := fun h => by subst h; simp at hq2
          have htk := bv_take out
          have hbl := bv_length out
          (repeat' first
    | (refine CondV_dec (fun _ => ?_) (fun _ => ?_) <;> try (exfalso; omega))
    | (refine GuardV_td (fun _ => ?_) (fun _ => ?_) <;> try (exfalso; omega))
    | (refine GuardV_fd (fun _ => ?_) (fun _ => ?_) <;> try (exfalso; omega))
    | (refine CondV_split (fun _ => ?_) (fun _ => ?_))
    | (refine Need_of (by first | omega | decide) ?_)
    | refine WpK_cons ?_ ?_
    | refine WpK_guard ?_
    | simp (disch := first | omega | simp only [List.length_append, List.length_set, List.length_cons, List.length_nil] <;> omega | fail) only [evA, ↓evB, ↓astep, ↓aop, aBin, aInt, aStr, aUn, aNil, aMax, aresults, ares, aPack, ↓reduceIte, ↓reduceCtorEq, Nat.reduceEqDiff, Nat.reduceAdd, env0, aLoad, aLoadN, cellsOf, Int.reduceEq, Int.reduceLT, Int.reduceLE, Nat.reduceLeDiff, oneC, aop.fillL, setL, aApp, aAppC_nil, aAppC_own, xop, aSame_ptr, BIG, Bool.or_true, Bool.true_or, Bool.or_false, Bool.false_or, eqCells, eqCell, rowOf, ↓acallop, aBound, aIntOf, flat, flatN, CX_fn, CX_X, CX_pol, aStore, Nat.reduceBEq, List.size_toArray, Int.sub_zero, Int.zero_add, Int.add_zero, Int.toNat_zero, Int.reduceAdd, Int.reduceSub, Int.reduceMul, Int.reduceNeg, Int.reduceToNat, Nat.reduceSub, Nat.reduceMul, Int.natCast_zero, Int.reduceDiv, Int.reduceMod, Int.toNat_natCast, fdiv_nn, min_bits_i, Int.reducePow, Nat.reducePow, Nat.reduceDiv, Nat.reduceMod, mb_i, mb_u, WpC_drawD, WpT_nil, WpT_cons, WpT_guard, WpK_nil, scal, g0, g3, hrd, hq3, htk])
          all_goals exact fin _ (by rw [decide_eq_false hno, rdr, decide_eq_false (show ¬ ((out.length : Int) = 0) by omega)])
    · exact ⟨x, [], none, 0, rfl, rfl, rfl, by simp, hr, .refl _ _, .inl ⟨rfl, rfl, rfl⟩, rfl⟩
end Ev
end Go.Proofs.Ytfbelnjchpffeaa
