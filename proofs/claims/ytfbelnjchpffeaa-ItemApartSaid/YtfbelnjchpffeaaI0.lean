/-
  The document's functions on items: what they answer at any item.
-/
import Derived.Test.YtfbelnjchpffeaaIrIt
import Derived.Test.YtfbelnjchpffeaaTr
namespace Go.Proofs.Ytfbelnjchpffeaa
namespace Ev
open Tag (mk)
set_option linter.unusedSimpArgs false
set_option linter.unusedVariables false
set_option maxRecDepth 4000
set_option maxHeartbeats 4000000
noncomputable def D0 : Cf := CX (xtab []) (polt [])
theorem D0_ok : D0.Ok := CX_ok all_nil al_no
def XAlive (args : List Value) : Option Value := match args with
  | [] => some (.bool true)
  | _ => none
theorem XAlive_eq : XAlive [] = some (.bool true) := rfl

theorem alive08 : Ans (acall D0 30 14 [] [] ⟨0, 0⟩) (.bool true) := by unfold Ans; kernel_rfl
theorem xalive08 : XOk Try.prog 14 XAlive := .of D0_ok rfl ok14 fun args v h => by
  unfold XAlive at h
  split at h
  · cases h; exact ⟨rfl, rfl, 30, 0, alive08.run⟩
  · cases h

noncomputable def T0 : Cf := CX (xtab [(14, XAlive)]) (polt [(52, .ro), (53, .ro), (54, .ro), (55, .ro), (56, .ro), (44, .ro), (17, .ro), (16, .ro), (15, .ro), (91, .ro), (57, .ro), (42, .ro), (14, .ro), (107, .ro)])
theorem T0_ok : T0.Ok := CX_ok (all_cons xalive08 all_nil) al_no

/-- A tree in a thing of its own, its parts in things of S. -/
structure Held (H : Heap) (S : Nat → Prop) (j : Nat) (t : ByteArray) (b : Bool) (l : List Tr) (a : Option Addr) (c : Nat) : Prop where
  box : H[j]? = some (.cells [.string t, .bool b, .slice a l.length c] 24 true)
  sub : l ≠ [] → ∃ i T own cells, a = some ⟨i, 0, none⟩ ∧ c = 3 ∧ S i ∧ H[i]? = some (.cells cells T own) ∧ ItemsAt H S l cells
theorem Held.get {H : Heap} {S : Nat → Prop} {j : Nat} {t : ByteArray} {b : Bool} {l : List Tr} {a : Option Addr} {c : Nat} (h : Held H S j t b l a c) {k : Nat} (hk : k < l.length) :
    ∃ i T own cells, a = some ⟨i, 0, none⟩ ∧ c = 3 ∧ S i ∧ H[i]? = some (.cells cells T own) ∧ k * 3 + 3 ≤ cells.length ∧ ItemAt H S l[k] ((cells.drop (k * 3)).take 3) := by
  obtain ⟨i, T, own, cells, h1, h2, h3, h4, h5⟩ := h.sub (by intro e; subst e; simp at hk)
  have := h5.length
  refine ⟨i, T, own, cells, h1, h2, h3, h4, by omega, h5.get k _ (List.getElem?_eq_getElem hk)⟩
theorem drop_cons' {α : Type} {l : List α} {k : Nat} (h : k < l.length) : l.drop k = l[k] :: l.drop (k + 1) := List.drop_eq_getElem_cons h
theorem sz_get {l : List Tr} : ∀ {k : Nat} (h : k < l.length), sz l[k] ≤ szs l := by
  induction l with
  | nil => intro k h; simp at h
  | cons t l ih =>
    intro k h
    unfold szs
    cases k with
    | zero => simp
    | succ k => have := ih (k := k) (by simpa using h); simp only [List.getElem_cons_succ]; omega
theorem len_szs : ∀ (l : List Tr), l.length ≤ szs l
  | [] => by simp [szs]
  | t :: l => by
    have := len_szs l
    have := sz_pos t
    unfold szs; rw [List.length_cons]; omega
theorem room_lt (t : Tr) (n : Int) (h : 0 < n) : room t n ≤ n - 1 := by
  obtain ⟨t, b, l⟩ := t
  have := rooms_le l (n - 1)
  unfold room; omega
theorem max_if (y : Int) : (if y < 0 then (0 : Int) else y) = max y 0 := by
  split <;> omega
def IRoom (Hc : Heap) (j : Nat) (l : List Tr) (n0 : Int) (n : Nat) (e : Env) (H : Heap) : Prop :=
  ∃ (i : Nat) (x : Int), i + n = l.length ∧ e 2 = .pointer (some ⟨j, 0, none⟩) ∧ e 1 = .int .i64 x ∧ e 5 = .int .i64 (i : Int) ∧ H = Hc ∧ rooms (l.drop i) x = rooms l n0 ∧ -1 ≤ x ∧ (i : Int) + x ≤ 2000
theorem wRoom : ∀ (N : Nat) (t : Tr), sz t ≤ N → ∀ (x : Int), 0 ≤ x → x ≤ 2000 → ∀ (H : Heap) (S : Nat → Prop) (v : Value), ItemV H S t v → ∀ (m : Ev.Mode) (k : Nat), sz t + 2 ≤ k →
    Run (fun v' _ => v' = .int .i64 (room t x)) mk (acall T0 k 52 [v, .int .i64 x] H m) := by
  intro N
  induction N with
  | zero => intro t h; have := sz_pos t; omega
  | succ N ih =>
    intro t hN x hx0 hx1 H S v hv m k hk
    obtain ⟨t, b, l⟩ := t
    obtain ⟨cs, rfl, hv⟩ := hv
    unfold ItemAt at hv
    obtain ⟨a, c, rfl, hsub⟩ := hv
    obtain ⟨k, rfl⟩ : ∃ q, k = q + 1 := ⟨k - 1, by omega⟩
    have hls := len_szs l
    unfold sz at hN hk
    refine Run_call (F := ir52) rfl (Nat.le_of_ble_eq_true rfl) ?_
    obtain ⟨Hc, hHc⟩ : ∃ Hc : Heap, Hc = H ++ [.cells [.string t, .bool b, .slice a l.length c] 24 true] := ⟨_, rfl⟩
    have hold : Held Hc S H.length t b l a c := ⟨by rw [hHc]; simp, fun hne => by
      obtain ⟨i, T, own, cells, h1, h2, h3, h4, h5⟩ := hsub hne
      exact ⟨i, T, own, cells, h1, h2, h3, by rw [hHc]; exact get_app h4 _, by rw [hHc]; exact h5.app _⟩⟩
    have hbox := hold.box
    simp only [ir52]
    (repeat' first
    | (refine CondV_dec (fun _ => ?_) (fun _ => ?_) <;> try (exfalso; omega))
    | (refine GuardV_td (fun _ => ?_) (fun _ => ?_) <;> try (exfalso; omega))
    | (refine GuardV_fd (fun _ => ?_) (fun _ => ?_) <;> try (exfalso; omega))
    | (refine CondV_split (fun _ => ?_) (fun _ => ?_))
    | (refine Need_of (by first | omega | decide) ?_)
    | refine WpK_cons ?_ ?_
    | refine WpK_guard ?_
    | simp (disch := first | omega | simp only [List.length_append, List.length_set, List.length_cons, List.length_nil] <;> omega | fail) only [evA, ↓evB, ↓astep, ↓aop, aBin, aInt, aStr, aUn, aNil, aMax, aresults, ares, aPack, ↓reduceIte, ↓reduceCtorEq, Nat.reduceEqDiff, Nat.reduceAdd, env0, aLoad, aLoadN, cellsOf, Int.reduceEq, Int.reduceLT, Int.reduceLE, Nat.reduceLeDiff, oneC, aop.fillL, setL, aApp, aAppC_nil, aAppC_own, xop, aSame_ptr, BIG, Bool.or_true, Bool.true_or, Bool.or_false, Bool.false_or, eqCells, eqCell, rowOf, ↓acallop, aBound, aIntOf, flat, flatN, CX_fn, CX_X, CX_pol, aStore, Nat.reduceBEq, List.size_toArray, Int.sub_zero, Int.zero_add, Int.add_zero, Int.toNat_zero, Int.reduceAdd, Int.reduceSub, Int.reduceMul, Int.reduceNeg, Int.reduceToNat, Nat.reduceSub, Nat.reduceMul, Int.natCast_zero, Int.reduceDiv, Int.reduceMod, Int.toNat_natCast, fdiv_nn, min_bits_i, Int.reducePow, Nat.reducePow, Nat.reduceDiv, Nat.reduceMod, mb_i, mb_u, WpC_drawD, WpT_nil, WpT_cons, WpT_guard, WpK_nil, scal, ← hHc])
    refine WpC_loop (IRoom Hc H.length l (x - 1)) ?_ (n := l.length) (show l.length < k by omega) ?_
    · rintro n e H1 ⟨i, y, hi, g2, g1, g5, rfl, hr, hy0, hy1⟩
      by_cases hc : i < l.length
      · obtain ⟨q, T, own, cells, rfl, rfl, hSq, hq, hle, hit⟩ := hold.get hc
        have hr0 : rooms (l.drop i) y = if y > 0 then rooms (l.drop (i + 1)) (room l[i] y) else y := by rw [drop_cons' hc, rooms]
        by_cases hy : 0 < y
        · have hsl := sz_get hc
          have := ih l[i] (by omega) y (by omega) (by omega) H1 S _ ⟨_, rfl, hit⟩ ⟨H1.length, H1.length⟩ k (by omega)
          obtain ⟨v, H', hcall, rfl⟩ := Run_get this
          have hcall := hcall k (Nat.le_refl _)
          have hrl := room_le l[i] y
          have hrm := room_lt l[i] y hy
          simp only [T0] at hcall
          simp only [lp52_0, evA, ↓evB, ↓astep, ↓aop, aBin, aInt, aStr, aUn, aNil, aMax, aresults, ares, aPack, ↓reduceIte, ↓reduceCtorEq, Nat.reduceEqDiff, Nat.reduceAdd, env0, aLoad, aLoadN, cellsOf, Int.reduceEq, Int.reduceLT, Int.reduceLE, Nat.reduceLeDiff, oneC, aop.fillL, setL, aApp, aAppC_nil, aAppC_own, xop, aSame_ptr, BIG, Bool.or_true, Bool.true_or, Bool.or_false, Bool.false_or, eqCells, eqCell, rowOf, ↓acallop, aBound, aIntOf, flat, flatN, CX_fn, CX_X, CX_pol, aStore, Nat.reduceBEq, List.size_toArray, Int.sub_zero, Int.zero_add, Int.add_zero, Int.toNat_zero, Int.reduceAdd, Int.reduceSub, Int.reduceMul, Int.reduceNeg, Int.reduceToNat, Nat.reduceSub, Nat.reduceMul, Int.natCast_zero, Int.reduceDiv, Int.reduceMod, Int.toNat_natCast, fdiv_nn, min_bits_i, Int.reducePow, Nat.reducePow, Nat.reduceDiv, Nat.reduceMod, mb_i, mb_u, WpC_drawD, WpT_nil, WpT_cons, WpT_guard, WpK_nil, scal, g2, g1, g5, hbox, T0]
          (repeat' first
    | (refine CondV_dec (fun _ => ?_) (fun _ => ?_) <;> try (exfalso; omega))
    | (refine GuardV_td (fun _ => ?_) (fun _ => ?_) <;> try (exfalso; omega))
    | (refine GuardV_fd (fun _ => ?_) (fun _ => ?_) <;> try (exfalso; omega))
    | (refine CondV_split (fun _ => ?_) (fun _ => ?_))
    | (refine Need_of (by first | omega | decide) ?_)
    | refine WpK_cons ?_ ?_
    | refine WpK_guard ?_
    | simp (disch := first | omega | simp only [List.length_append, List.length_set, List.length_cons, List.length_nil] <;> omega | fail) only [evA, ↓evB, ↓astep, ↓aop, aBin, aInt, aStr, aUn, aNil, aMax, aresults, ares, aPack, ↓reduceIte, ↓reduceCtorEq, Nat.reduceEqDiff, Nat.reduceAdd, env0, aLoad, aLoadN, cellsOf, Int.reduceEq, Int.reduceLT, Int.reduceLE, Nat.reduceLeDiff, oneC, aop.fillL, setL, aApp, aAppC_nil, aAppC_own, xop, aSame_ptr, BIG, Bool.or_true, Bool.true_or, Bool.or_false, Bool.false_or, eqCells, eqCell, rowOf, ↓acallop, aBound, aIntOf, flat, flatN, CX_fn, CX_X, CX_pol, aStore, Nat.reduceBEq, List.size_toArray, Int.sub_zero, Int.zero_add, Int.add_zero, Int.toNat_zero, Int.reduceAdd, Int.reduceSub, Int.reduceMul, Int.reduceNeg, Int.reduceToNat, Nat.reduceSub, Nat.reduceMul, Int.natCast_zero, Int.reduceDiv, Int.reduceMod, Int.toNat_natCast, fdiv_nn, min_bits_i, Int.reducePow, Nat.reducePow, Nat.reduceDiv, Nat.reduceMod, mb_i, mb_u, WpC_drawD, WpT_nil, WpT_cons, WpT_guard, WpK_nil, scal, g2, g1, g5, hbox, hq, hcall])
          refine ⟨n - 1, by omega, i + 1, room l[i] y, by omega, by (first | rfl | (simp only [Env_put_some, Env_put_none, ↓Env_set_at, ↓reduceIte, Nat.reduceEqDiff, g2] <;> rfl)), by (first | rfl | (simp only [Env_put_some, Env_put_none, ↓Env_set_at, ↓reduceIte, Nat.reduceEqDiff] <;> rfl)), by (first | rfl | (simp only [Env_put_some, Env_put_none, ↓Env_set_at, ↓reduceIte, Nat.reduceEqDiff] <;> rfl)), rfl, ?_, by omega, by omega⟩
          rw [← hr, hr0, if_pos hy]
        · simp only [lp52_0, evA, ↓evB, ↓astep, ↓aop, aBin, aInt, aStr, aUn, aNil, aMax, aresults, ares, aPack, ↓reduceIte, ↓reduceCtorEq, Nat.reduceEqDiff, Nat.reduceAdd, env0, aLoad, aLoadN, cellsOf, Int.reduceEq, Int.reduceLT, Int.reduceLE, Nat.reduceLeDiff, oneC, aop.fillL, setL, aApp, aAppC_nil, aAppC_own, xop, aSame_ptr, BIG, Bool.or_true, Bool.true_or, Bool.or_false, Bool.false_or, eqCells, eqCell, rowOf, ↓acallop, aBound, aIntOf, flat, flatN, CX_fn, CX_X, CX_pol, aStore, Nat.reduceBEq, List.size_toArray, Int.sub_zero, Int.zero_add, Int.add_zero, Int.toNat_zero, Int.reduceAdd, Int.reduceSub, Int.reduceMul, Int.reduceNeg, Int.reduceToNat, Nat.reduceSub, Nat.reduceMul, Int.natCast_zero, Int.reduceDiv, Int.reduceMod, Int.toNat_natCast, fdiv_nn, min_bits_i, Int.reducePow, Nat.reducePow, Nat.reduceDiv, Nat.reduceMod, mb_i, mb_u, WpC_drawD, WpT_nil, WpT_cons, WpT_guard, WpK_nil, scal, g2, g1, g5, hbox, T0]
          (repeat' first
    | (refine CondV_dec (fun _ => ?_) (fun _ => ?_) <;> try (exfalso; omega))
    | (refine GuardV_td (fun _ => ?_) (fun _ => ?_) <;> try (exfalso; omega))
    | (refine GuardV_fd (fun _ => ?_) (fun _ => ?_) <;> try (exfalso; omega))
    | (refine CondV_split (fun _ => ?_) (fun _ => ?_))
    | (refine Need_of (by first | omega | decide) ?_)
    | refine WpK_cons ?_ ?_
    | refine WpK_guard ?_
    | simp (disch := first | omega | simp only [List.length_append, List.length_set, List.length_cons, List.length_nil] <;> omega | fail) only [evA, ↓evB, ↓astep, ↓aop, aBin, aInt, aStr, aUn, aNil, aMax, aresults, ares, aPack, ↓reduceIte, ↓reduceCtorEq, Nat.reduceEqDiff, Nat.reduceAdd, env0, aLoad, aLoadN, cellsOf, Int.reduceEq, Int.reduceLT, Int.reduceLE, Nat.reduceLeDiff, oneC, aop.fillL, setL, aApp, aAppC_nil, aAppC_own, xop, aSame_ptr, BIG, Bool.or_true, Bool.true_or, Bool.or_false, Bool.false_or, eqCells, eqCell, rowOf, ↓acallop, aBound, aIntOf, flat, flatN, CX_fn, CX_X, CX_pol, aStore, Nat.reduceBEq, List.size_toArray, Int.sub_zero, Int.zero_add, Int.add_zero, Int.toNat_zero, Int.reduceAdd, Int.reduceSub, Int.reduceMul, Int.reduceNeg, Int.reduceToNat, Nat.reduceSub, Nat.reduceMul, Int.natCast_zero, Int.reduceDiv, Int.reduceMod, Int.toNat_natCast, fdiv_nn, min_bits_i, Int.reducePow, Nat.reducePow, Nat.reduceDiv, Nat.reduceMod, mb_i, mb_u, WpC_drawD, WpT_nil, WpT_cons, WpT_guard, WpK_nil, scal, g2, g1, g5, hbox, hq])
          rw [hr0, if_neg hy] at hr
          unfold room
          rw [← hr, max_if]
      · rw [List.drop_eq_nil_of_le (by omega)] at hr
        have e0 : rooms [] y = y := by simp only [rooms]
        rw [e0] at hr
        simp only [lp52_0, evA, ↓evB, ↓astep, ↓aop, aBin, aInt, aStr, aUn, aNil, aMax, aresults, ares, aPack, ↓reduceIte, ↓reduceCtorEq, Nat.reduceEqDiff, Nat.reduceAdd, env0, aLoad, aLoadN, cellsOf, Int.reduceEq, Int.reduceLT, Int.reduceLE, Nat.reduceLeDiff, oneC, aop.fillL, setL, aApp, aAppC_nil, aAppC_own, xop, aSame_ptr, BIG, Bool.or_true, Bool.true_or, Bool.or_false, Bool.false_or, eqCells, eqCell, rowOf, ↓acallop, aBound, aIntOf, flat, flatN, CX_fn, CX_X, CX_pol, aStore, Nat.reduceBEq, List.size_toArray, Int.sub_zero, Int.zero_add, Int.add_zero, Int.toNat_zero, Int.reduceAdd, Int.reduceSub, Int.reduceMul, Int.reduceNeg, Int.reduceToNat, Nat.reduceSub, Nat.reduceMul, Int.natCast_zero, Int.reduceDiv, Int.reduceMod, Int.toNat_natCast, fdiv_nn, min_bits_i, Int.reducePow, Nat.reducePow, Nat.reduceDiv, Nat.reduceMod, mb_i, mb_u, WpC_drawD, WpT_nil, WpT_cons, WpT_guard, WpK_nil, scal, g2, g1, g5, hbox]
        (repeat' first
    | (refine CondV_dec (fun _ => ?_) (fun _ => ?_) <;> try (exfalso; omega))
    | (refine GuardV_td (fun _ => ?_) (fun _ => ?_) <;> try (exfalso; omega))
    | (refine GuardV_fd (fun _ => ?_) (fun _ => ?_) <;> try (exfalso; omega))
    | (refine CondV_split (fun _ => ?_) (fun _ => ?_))
    | (refine Need_of (by first | omega | decide) ?_)
    | refine WpK_cons ?_ ?_
    | refine WpK_guard ?_
    | simp (disch := first | omega | simp only [List.length_append, List.length_set, List.length_cons, List.length_nil] <;> omega | fail) only [evA, ↓evB, ↓astep, ↓aop, aBin, aInt, aStr, aUn, aNil, aMax, aresults, ares, aPack, ↓reduceIte, ↓reduceCtorEq, Nat.reduceEqDiff, Nat.reduceAdd, env0, aLoad, aLoadN, cellsOf, Int.reduceEq, Int.reduceLT, Int.reduceLE, Nat.reduceLeDiff, oneC, aop.fillL, setL, aApp, aAppC_nil, aAppC_own, xop, aSame_ptr, BIG, Bool.or_true, Bool.true_or, Bool.or_false, Bool.false_or, eqCells, eqCell, rowOf, ↓acallop, aBound, aIntOf, flat, flatN, CX_fn, CX_X, CX_pol, aStore, Nat.reduceBEq, List.size_toArray, Int.sub_zero, Int.zero_add, Int.add_zero, Int.toNat_zero, Int.reduceAdd, Int.reduceSub, Int.reduceMul, Int.reduceNeg, Int.reduceToNat, Nat.reduceSub, Nat.reduceMul, Int.natCast_zero, Int.reduceDiv, Int.reduceMod, Int.toNat_natCast, fdiv_nn, min_bits_i, Int.reducePow, Nat.reducePow, Nat.reduceDiv, Nat.reduceMod, mb_i, mb_u, WpC_drawD, WpT_nil, WpT_cons, WpT_guard, WpK_nil, scal, g2, g1, g5, hbox])
        unfold room
        rw [← hr, max_if]
    · exact ⟨0, x - 1, by omega, rfl, rfl, rfl, rfl, rfl, by omega, by omega⟩
end Ev
end Go.Proofs.Ytfbelnjchpffeaa
