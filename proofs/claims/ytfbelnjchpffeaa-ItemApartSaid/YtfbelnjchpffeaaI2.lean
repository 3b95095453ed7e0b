/-
  The document's functions on items: may one be, is it great, are two alike, its line.
-/
import Derived.Test.YtfbelnjchpffeaaI1
namespace Go.Proofs.Ytfbelnjchpffeaa
namespace Ev
open Tag (mk)
set_option linter.unusedSimpArgs false
set_option linter.unusedVariables false
set_option maxRecDepth 4000
set_option maxHeartbeats 4000000
theorem ItemV.parts {H : Heap} {S : Nat → Prop} {t : ByteArray} {b : Bool} {l : List Tr} {v : Value} (h : ItemV H S (.mk t b l) v) :
    ∃ a c, v = .agg #[.string t, .bool b, .slice a l.length c] ∧ ∀ Hc : Heap, Hc = H ++ [.cells [.string t, .bool b, .slice a l.length c] 24 true] → Held Hc S H.length t b l a c := by
  obtain ⟨cs, rfl, hv⟩ := h
  unfold ItemAt at hv
  obtain ⟨a, c, rfl, hsub⟩ := hv
  refine ⟨a, c, rfl, fun Hc hHc => ⟨by rw [hHc]; simp, fun hne => ?_⟩⟩
  obtain ⟨i, T, own, cells, h1, h2, h3, h4, h5⟩ := hsub hne
  exact ⟨i, T, own, cells, h1, h2, h3, by rw [hHc]; exact get_app h4 _, by rw [hHc]; exact h5.app _⟩
theorem Held.val {H : Heap} {S : Nat → Prop} {j : Nat} {t : ByteArray} {b : Bool} {l : List Tr} {a : Option Addr} {c : Nat} (h : Held H S j t b l a c) : ItemV H S (.mk t b l) (.agg #[.string t, .bool b, .slice a l.length c]) :=
  ⟨_, rfl, ItemAt.of h.sub⟩
theorem Held.app {H : Heap} {S : Nat → Prop} {j : Nat} {t : ByteArray} {b : Bool} {l : List Tr} {a : Option Addr} {c : Nat} (h : Held H S j t b l a c) (L : Heap) : Held (H ++ L) S j t b l a c :=
  ⟨get_app h.box L, fun hne => by
    obtain ⟨i, T, own, cells, h1, h2, h3, h4, h5⟩ := h.sub hne
    exact ⟨i, T, own, cells, h1, h2, h3, get_app h4 L, h5.app L⟩⟩
theorem wGreat (t : Tr) (H : Heap) (S : Nat → Prop) (v : Value) (hv : ItemV H S t v) (m : Ev.Mode) (k : Nat) (hk : sz t + 6 ≤ k) : Run (fun v' _ => v' = .bool (great t)) mk (acall T0 k 15 [v] H m) := by
  obtain ⟨t, b, l⟩ := t
  obtain ⟨a, c, rfl, hh⟩ := hv.parts
  obtain ⟨k, rfl⟩ : ∃ q, k = q + 1 := ⟨k - 1, by omega⟩
  refine Run_call (F := ir15) rfl (Nat.le_of_ble_eq_true rfl) ?_
  obtain ⟨Hc, hHc⟩ : ∃ Hc : Heap, Hc = H ++ [.cells [.string t, .bool b, .slice a l.length c] 24 true] := ⟨_, rfl⟩
  have hold := hh Hc hHc
  have hbox := hold.box
  obtain ⟨v, H', hroom, rfl⟩ := Run_get (wRoom _ _ (Nat.le_refl _) 1200 (by decide) (by decide) Hc S _ hold.val ⟨Hc.length, Hc.length⟩ k (by omega))
  have hroom := hroom k (Nat.le_refl _)
  by_cases h0 : room (.mk t b l) 1200 = 0
  · rw [h0] at hroom
    simp only [T0] at hroom
    simp only [ir15, T0]
    (repeat' first
    | (refine CondV_dec (fun _ => ?_) (fun _ => ?_) <;> try (exfalso; omega))
    | (refine GuardV_td (fun _ => ?_) (fun _ => ?_) <;> try (exfalso; omega))
    | (refine GuardV_fd (fun _ => ?_) (fun _ => ?_) <;> try (exfalso; omega))
    | (refine CondV_split (fun _ => ?_) (fun _ => ?_))
    | (refine Need_of (by first | omega | decide) ?_)
    | refine WpK_cons ?_ ?_
    | refine WpK_guard ?_
    | simp (disch := first | omega | simp only [List.length_append, List.length_set, List.length_cons, List.length_nil] <;> omega | fail) only [evA, ↓evB, ↓astep, ↓aop, aBin, aInt, aStr, aUn, aNil, aMax, aresults, ares, aPack, ↓reduceIte, ↓reduceCtorEq, Nat.reduceEqDiff, Nat.reduceAdd, env0, aLoad, aLoadN, cellsOf, Int.reduceEq, Int.reduceLT, Int.reduceLE, Nat.reduceLeDiff, oneC, aop.fillL, setL, aApp, aAppC_nil, aAppC_own, xop, aSame_ptr, BIG, Bool.or_true, Bool.true_or, Bool.or_false, Bool.false_or, eqCells, eqCell, rowOf, ↓acallop, aBound, aIntOf, flat, flatN, CX_fn, CX_X, CX_pol, aStore, Nat.reduceBEq, List.size_toArray, Int.sub_zero, Int.zero_add, Int.add_zero, Int.toNat_zero, Int.reduceAdd, Int.reduceSub, Int.reduceMul, Int.reduceNeg, Int.reduceToNat, Nat.reduceSub, Nat.reduceMul, Int.natCast_zero, Int.reduceDiv, Int.reduceMod, Int.toNat_natCast, fdiv_nn, min_bits_i, Int.reducePow, Nat.reducePow, Nat.reduceDiv, Nat.reduceMod, mb_i, mb_u, WpC_drawD, WpT_nil, WpT_cons, WpT_guard, WpK_nil, scal, ← hHc, hbox, hroom])
    unfold great; rw [h0]; rfl
  · have hp := room_pos (.mk t b l) 1200 (by have := room_le (.mk t b l) 1200; omega)
    have hle := room_le (.mk t b l) 1200
    obtain ⟨v, H', hsize, rfl⟩ := Run_get (wSize _ _ (Nat.le_refl _) (by omega) Hc S _ hold.val ⟨Hc.length, Hc.length⟩ k (by omega))
    have hsize := hsize k (Nat.le_refl _)
    obtain ⟨r, hr⟩ : ∃ r, r = room (.mk t b l) 1200 := ⟨_, rfl⟩
    rw [← hr] at hroom h0
    simp only [T0] at hroom hsize
    simp only [ir15, T0]
    (repeat' first
    | (refine CondV_dec (fun _ => ?_) (fun _ => ?_) <;> try (exfalso; omega))
    | (refine GuardV_td (fun _ => ?_) (fun _ => ?_) <;> try (exfalso; omega))
    | (refine GuardV_fd (fun _ => ?_) (fun _ => ?_) <;> try (exfalso; omega))
    | (refine CondV_split (fun _ => ?_) (fun _ => ?_))
    | (refine Need_of (by first | omega | decide) ?_)
    | refine WpK_cons ?_ ?_
    | refine WpK_guard ?_
    | simp (disch := first | omega | simp only [List.length_append, List.length_set, List.length_cons, List.length_nil] <;> omega | fail) only [evA, ↓evB, ↓astep, ↓aop, aBin, aInt, aStr, aUn, aNil, aMax, aresults, ares, aPack, ↓reduceIte, ↓reduceCtorEq, Nat.reduceEqDiff, Nat.reduceAdd, env0, aLoad, aLoadN, cellsOf, Int.reduceEq, Int.reduceLT, Int.reduceLE, Nat.reduceLeDiff, oneC, aop.fillL, setL, aApp, aAppC_nil, aAppC_own, xop, aSame_ptr, BIG, Bool.or_true, Bool.true_or, Bool.or_false, Bool.false_or, eqCells, eqCell, rowOf, ↓acallop, aBound, aIntOf, flat, flatN, CX_fn, CX_X, CX_pol, aStore, Nat.reduceBEq, List.size_toArray, Int.sub_zero, Int.zero_add, Int.add_zero, Int.toNat_zero, Int.reduceAdd, Int.reduceSub, Int.reduceMul, Int.reduceNeg, Int.reduceToNat, Nat.reduceSub, Nat.reduceMul, Int.natCast_zero, Int.reduceDiv, Int.reduceMod, Int.toNat_natCast, fdiv_nn, min_bits_i, Int.reducePow, Nat.reducePow, Nat.reduceDiv, Nat.reduceMod, mb_i, mb_u, WpC_drawD, WpT_nil, WpT_cons, WpT_guard, WpK_nil, scal, ← hHc, hbox, hroom, hsize, h0])
    unfold great; rw [← hr]; simp [h0]
theorem wMay (t : Tr) (h5 : sz t ≤ 5000) (H : Heap) (S : Nat → Prop) (v : Value) (hv : ItemV H S t v) (m : Ev.Mode) (k : Nat) (hk : sz t + 6 ≤ k) : Run (fun v' _ => v' = .bool (may t)) mk (acall T0 k 16 [v] H m) := by
  obtain ⟨t, b, l⟩ := t
  obtain ⟨a, c, rfl, hh⟩ := hv.parts
  obtain ⟨k, rfl⟩ : ∃ q, k = q + 1 := ⟨k - 1, by omega⟩
  refine Run_call (F := ir16) rfl (Nat.le_of_ble_eq_true rfl) ?_
  obtain ⟨Hc, hHc⟩ : ∃ Hc : Heap, Hc = H ++ [.cells [.string t, .bool b, .slice a l.length c] 24 true] := ⟨_, rfl⟩
  have hold := hh Hc hHc
  have hbox := hold.box
  obtain ⟨v, H', hright, rfl⟩ := Run_get (wRight _ _ (Nat.le_refl _) h5 Hc S _ hold.val ⟨Hc.length, Hc.length⟩ k (by omega))
  obtain ⟨v, H', hdeep, rfl⟩ := Run_get (wDeep _ _ (Nat.le_refl _) h5 Hc S _ hold.val ⟨Hc.length, Hc.length⟩ k (by omega))
  obtain ⟨v, H', hcount, rfl⟩ := Run_get (wCount _ _ (Nat.le_refl _) h5 Hc S _ hold.val ⟨Hc.length, Hc.length⟩ k (by omega))
  have hright := hright k (Nat.le_refl _)
  have hdeep := hdeep k (Nat.le_refl _)
  have hcount := hcount k (Nat.le_refl _)
  unfold may
  obtain ⟨d, hd⟩ : ∃ d, d = dp (.mk t b l) := ⟨_, rfl⟩
  obtain ⟨z, hz⟩ : ∃ d, d = sz (.mk t b l) := ⟨_, rfl⟩
  rw [← hd] at hdeep
  rw [← hz] at hcount
  rw [← hd, ← hz]
  cases hrt : rt (.mk t b l) with
  | false =>
    rw [hrt] at hright
    simp only [T0] at hright
    simp only [ir16, T0]
    (repeat' first
    | (refine CondV_dec (fun _ => ?_) (fun _ => ?_) <;> try (exfalso; omega))
    | (refine GuardV_td (fun _ => ?_) (fun _ => ?_) <;> try (exfalso; omega))
    | (refine GuardV_fd (fun _ => ?_) (fun _ => ?_) <;> try (exfalso; omega))
    | (refine CondV_split (fun _ => ?_) (fun _ => ?_))
    | (refine Need_of (by first | omega | decide) ?_)
    | refine WpK_cons ?_ ?_
    | refine WpK_guard ?_
    | simp (disch := first | omega | simp only [List.length_append, List.length_set, List.length_cons, List.length_nil] <;> omega | fail) only [evA, ↓evB, ↓astep, ↓aop, aBin, aInt, aStr, aUn, aNil, aMax, aresults, ares, aPack, ↓reduceIte, ↓reduceCtorEq, Nat.reduceEqDiff, Nat.reduceAdd, env0, aLoad, aLoadN, cellsOf, Int.reduceEq, Int.reduceLT, Int.reduceLE, Nat.reduceLeDiff, oneC, aop.fillL, setL, aApp, aAppC_nil, aAppC_own, xop, aSame_ptr, BIG, Bool.or_true, Bool.true_or, Bool.or_false, Bool.false_or, eqCells, eqCell, rowOf, ↓acallop, aBound, aIntOf, flat, flatN, CX_fn, CX_X, CX_pol, aStore, Nat.reduceBEq, List.size_toArray, Int.sub_zero, Int.zero_add, Int.add_zero, Int.toNat_zero, Int.reduceAdd, Int.reduceSub, Int.reduceMul, Int.reduceNeg, Int.reduceToNat, Nat.reduceSub, Nat.reduceMul, Int.natCast_zero, Int.reduceDiv, Int.reduceMod, Int.toNat_natCast, fdiv_nn, min_bits_i, Int.reducePow, Nat.reducePow, Nat.reduceDiv, Nat.reduceMod, mb_i, mb_u, WpC_drawD, WpT_nil, WpT_cons, WpT_guard, WpK_nil, scal, ← hHc, hbox, hright])
    rfl
  | true =>
    rw [hrt] at hright
    simp only [T0] at hright hdeep hcount
    simp only [ir16, T0]
    by_cases hd16 : d ≤ 16
    · (repeat' first
    | (refine CondV_dec (fun _ => ?_) (fun _ => ?_) <;> try (exfalso; omega))
    | (refine GuardV_td (fun _ => ?_) (fun _ => ?_) <;> try (exfalso; omega))
    | (refine GuardV_fd (fun _ => ?_) (fun _ => ?_) <;> try (exfalso; omega))
    | (refine CondV_split (fun _ => ?_) (fun _ => ?_))
    | (refine Need_of (by first | omega | decide) ?_)
    | refine WpK_cons ?_ ?_
    | refine WpK_guard ?_
    | simp (disch := first | omega | simp only [List.length_append, List.length_set, List.length_cons, List.length_nil] <;> omega | fail) only [evA, ↓evB, ↓astep, ↓aop, aBin, aInt, aStr, aUn, aNil, aMax, aresults, ares, aPack, ↓reduceIte, ↓reduceCtorEq, Nat.reduceEqDiff, Nat.reduceAdd, env0, aLoad, aLoadN, cellsOf, Int.reduceEq, Int.reduceLT, Int.reduceLE, Nat.reduceLeDiff, oneC, aop.fillL, setL, aApp, aAppC_nil, aAppC_own, xop, aSame_ptr, BIG, Bool.or_true, Bool.true_or, Bool.or_false, Bool.false_or, eqCells, eqCell, rowOf, ↓acallop, aBound, aIntOf, flat, flatN, CX_fn, CX_X, CX_pol, aStore, Nat.reduceBEq, List.size_toArray, Int.sub_zero, Int.zero_add, Int.add_zero, Int.toNat_zero, Int.reduceAdd, Int.reduceSub, Int.reduceMul, Int.reduceNeg, Int.reduceToNat, Nat.reduceSub, Nat.reduceMul, Int.natCast_zero, Int.reduceDiv, Int.reduceMod, Int.toNat_natCast, fdiv_nn, min_bits_i, Int.reducePow, Nat.reducePow, Nat.reduceDiv, Nat.reduceMod, mb_i, mb_u, WpC_drawD, WpT_nil, WpT_cons, WpT_guard, WpK_nil, scal, ← hHc, hbox, hright, hdeep, hcount])
      simp only [hd16, decide_true, Bool.true_and, Value.bool.injEq]
      exact decide_eq_decide.2 (by omega)
    · (repeat' first
    | (refine CondV_dec (fun _ => ?_) (fun _ => ?_) <;> try (exfalso; omega))
    | (refine GuardV_td (fun _ => ?_) (fun _ => ?_) <;> try (exfalso; omega))
    | (refine GuardV_fd (fun _ => ?_) (fun _ => ?_) <;> try (exfalso; omega))
    | (refine CondV_split (fun _ => ?_) (fun _ => ?_))
    | (refine Need_of (by first | omega | decide) ?_)
    | refine WpK_cons ?_ ?_
    | refine WpK_guard ?_
    | simp (disch := first | omega | simp only [List.length_append, List.length_set, List.length_cons, List.length_nil] <;> omega | fail) only [evA, ↓evB, ↓astep, ↓aop, aBin, aInt, aStr, aUn, aNil, aMax, aresults, ares, aPack, ↓reduceIte, ↓reduceCtorEq, Nat.reduceEqDiff, Nat.reduceAdd, env0, aLoad, aLoadN, cellsOf, Int.reduceEq, Int.reduceLT, Int.reduceLE, Nat.reduceLeDiff, oneC, aop.fillL, setL, aApp, aAppC_nil, aAppC_own, xop, aSame_ptr, BIG, Bool.or_true, Bool.true_or, Bool.or_false, Bool.false_or, eqCells, eqCell, rowOf, ↓acallop, aBound, aIntOf, flat, flatN, CX_fn, CX_X, CX_pol, aStore, Nat.reduceBEq, List.size_toArray, Int.sub_zero, Int.zero_add, Int.add_zero, Int.toNat_zero, Int.reduceAdd, Int.reduceSub, Int.reduceMul, Int.reduceNeg, Int.reduceToNat, Nat.reduceSub, Nat.reduceMul, Int.natCast_zero, Int.reduceDiv, Int.reduceMod, Int.toNat_natCast, fdiv_nn, min_bits_i, Int.reducePow, Nat.reducePow, Nat.reduceDiv, Nat.reduceMod, mb_i, mb_u, WpC_drawD, WpT_nil, WpT_cons, WpT_guard, WpK_nil, scal, ← hHc, hbox, hright, hdeep])
      simp [hd16]
/-! ## Alike -/
def ISame (Hc : Heap) (j j' : Nat) (l l' : List Tr) (n : Nat) (e : Env) (H : Heap) : Prop :=
  ∃ (i : Nat), i + n = l.length ∧ e 2 = .pointer (some ⟨j, 0, none⟩) ∧ e 3 = .pointer (some ⟨j', 0, none⟩) ∧ e 5 = .int .i64 (i : Int) ∧ H = Hc ∧ sames (l.drop i) (l'.drop i) = sames l l'
theorem sames_len : ∀ (l l' : List Tr), l.length ≠ l'.length → sames l l' = false
  | [], [], h => absurd rfl h
  | [], _ :: _, _ => by simp [sames]
  | _ :: _, [], _ => by simp [sames]
  | x :: l, y :: l', h => by
    unfold sames
    rw [sames_len l l' (by simpa using h), Bool.and_false]
theorem wSame : ∀ (N : Nat) (t : Tr), sz t ≤ N → sz t ≤ 5000 → ∀ (t' : Tr) (H : Heap) (S S' : Nat → Prop) (v v' : Value), ItemV H S t v → ItemV H S' t' v' → ∀ (m : Ev.Mode) (k : Nat), sz t + 2 ≤ k →
    Run (fun u _ => u = .bool (same t t')) mk (acall T0 k 44 [v, v'] H m) := by
  intro N
  induction N with
  | zero => intro t h; have := sz_pos t; omega
  | succ N ih =>
    intro t hN h5 t' H S S' v v' hv hv' m k hk
    obtain ⟨t, b, l⟩ := t
    obtain ⟨t', b', l'⟩ := t'
    obtain ⟨a, c, rfl, hh⟩ := hv.parts
    obtain ⟨k, rfl⟩ : ∃ q, k = q + 1 := ⟨k - 1, by omega⟩
    have hls := len_szs l
    unfold sz at hN hk h5
    refine Run_call (F := ir44) rfl (Nat.le_of_ble_eq_true rfl) ?_
    obtain ⟨Hb, hHb⟩ : ∃ Hc : Heap, Hc = H ++ [.cells [.string t, .bool b, .slice a l.length c] 24 true] := ⟨_, rfl⟩
    have hold1 := hh Hb hHb
    have hv2 : ItemV Hb S' (.mk t' b' l') v' := by rw [hHb]; exact hv'.app _
    obtain ⟨a', c', rfl, hh'⟩ := hv2.parts
    obtain ⟨Hc, hHc⟩ : ∃ Hc : Heap, Hc = Hb ++ [.cells [.string t', .bool b', .slice a' l'.length c'] 24 true] := ⟨_, rfl⟩
    have hold' := hh' Hc hHc
    have hold : Held Hc S H.length t b l a c := by rw [hHc]; exact hold1.app _
    have hbox := hold.box
    have hbox' := hold'.box
    have hlen : l.length = l'.length ∨ l.length ≠ l'.length := by omega
    simp only [ir44]
    by_cases hok : b = b' ∧ t = t' ∧ l.length = l'.length
    · obtain ⟨rfl, rfl, hll⟩ := hok
      (repeat' first
    | (refine CondV_dec (fun _ => ?_) (fun _ => ?_) <;> try (exfalso; omega))
    | (refine GuardV_td (fun _ => ?_) (fun _ => ?_) <;> try (exfalso; omega))
    | (refine GuardV_fd (fun _ => ?_) (fun _ => ?_) <;> try (exfalso; omega))
    | (refine CondV_split (fun _ => ?_) (fun _ => ?_))
    | (refine Need_of (by first | omega | decide) ?_)
    | refine WpK_cons ?_ ?_
    | refine WpK_guard ?_
    | simp (disch := first | omega | simp only [List.length_append, List.length_set, List.length_cons, List.length_nil] <;> omega | fail) only [evA, ↓evB, ↓astep, ↓aop, aBin, aInt, aStr, aUn, aNil, aMax, aresults, ares, aPack, ↓reduceIte, ↓reduceCtorEq, Nat.reduceEqDiff, Nat.reduceAdd, env0, aLoad, aLoadN, cellsOf, Int.reduceEq, Int.reduceLT, Int.reduceLE, Nat.reduceLeDiff, oneC, aop.fillL, setL, aApp, aAppC_nil, aAppC_own, xop, aSame_ptr, BIG, Bool.or_true, Bool.true_or, Bool.or_false, Bool.false_or, eqCells, eqCell, rowOf, ↓acallop, aBound, aIntOf, flat, flatN, CX_fn, CX_X, CX_pol, aStore, Nat.reduceBEq, List.size_toArray, Int.sub_zero, Int.zero_add, Int.add_zero, Int.toNat_zero, Int.reduceAdd, Int.reduceSub, Int.reduceMul, Int.reduceNeg, Int.reduceToNat, Nat.reduceSub, Nat.reduceMul, Int.natCast_zero, Int.reduceDiv, Int.reduceMod, Int.toNat_natCast, fdiv_nn, min_bits_i, Int.reducePow, Nat.reducePow, Nat.reduceDiv, Nat.reduceMod, mb_i, mb_u, WpC_drawD, WpT_nil, WpT_cons, WpT_guard, WpK_nil, scal, ← hHb, ← hHc, hbox, hbox', beq_self_eq_true])
      refine WpC_loop (ISame Hc H.length Hb.length l l') ?_ (n := l.length) (show l.length < k by omega) ?_
      · rintro n e H1 ⟨i, hi, g2, g3, g5, rfl, hr⟩
        by_cases hc : i < l.length
        · obtain ⟨q, T, own, cells, rfl, rfl, hSq, hq, hle, hit⟩ := hold.get hc
          have hc' : i < l'.length := by omega
          obtain ⟨q', T', own', cells', rfl, rfl, hSq', hq', hle', hit'⟩ := hold'.get hc'
          have hr0 : sames (l.drop i) (l'.drop i) = (same l[i] l'[i] && sames (l.drop (i + 1)) (l'.drop (i + 1))) := by rw [drop_cons' hc, drop_cons' hc', sames]
          have hsl := sz_get hc
          have := ih l[i] (by omega) (by omega) l'[i] H1 S S' _ _ ⟨_, rfl, hit⟩ ⟨_, rfl, hit'⟩ ⟨H1.length, H1.length⟩ k (by omega)
          obtain ⟨v, H', hcall, rfl⟩ := Run_get this
          have hcall := hcall k (Nat.le_refl _)
          simp only [T0] at hcall
          simp only [lp44_0, evA, ↓evB, ↓astep, ↓aop, aBin, aInt, aStr, aUn, aNil, aMax, aresults, ares, aPack, ↓reduceIte, ↓reduceCtorEq, Nat.reduceEqDiff, Nat.reduceAdd, env0, aLoad, aLoadN, cellsOf, Int.reduceEq, Int.reduceLT, Int.reduceLE, Nat.reduceLeDiff, oneC, aop.fillL, setL, aApp, aAppC_nil, aAppC_own, xop, aSame_ptr, BIG, Bool.or_true, Bool.true_or, Bool.or_false, Bool.false_or, eqCells, eqCell, rowOf, ↓acallop, aBound, aIntOf, flat, flatN, CX_fn, CX_X, CX_pol, aStore, Nat.reduceBEq, List.size_toArray, Int.sub_zero, Int.zero_add, Int.add_zero, Int.toNat_zero, Int.reduceAdd, Int.reduceSub, Int.reduceMul, Int.reduceNeg, Int.reduceToNat, Nat.reduceSub, Nat.reduceMul, Int.natCast_zero, Int.reduceDiv, Int.reduceMod, Int.toNat_natCast, fdiv_nn, min_bits_i, Int.reducePow, Nat.reducePow, Nat.reduceDiv, Nat.reduceMod, mb_i, mb_u, WpC_drawD, WpT_nil, WpT_cons, WpT_guard, WpK_nil, scal, g2, g3, g5, hbox, T0]
          cases hrt : same l[i] l'[i] with
          | true =>
            rw [hrt] at hcall hr0
            (repeat' first
    | (refine CondV_dec (fun _ => ?_) (fun _ => ?_) <;> try (exfalso; omega))
    | (refine GuardV_td (fun _ => ?_) (fun _ => ?_) <;> try (exfalso; omega))
    | (refine GuardV_fd (fun _ => ?_) (fun _ => ?_) <;> try (exfalso; omega))
    | (refine CondV_split (fun _ => ?_) (fun _ => ?_))
    | (refine Need_of (by first | omega | decide) ?_)
    | refine WpK_cons ?_ ?_
    | refine WpK_guard ?_
    | simp (disch := first | omega | simp only [List.length_append, List.length_set, List.length_cons, List.length_nil] <;> omega | fail) only [evA, ↓evB, ↓astep, ↓aop, aBin, aInt, aStr, aUn, aNil, aMax, aresults, ares, aPack, ↓reduceIte, ↓reduceCtorEq, Nat.reduceEqDiff, Nat.reduceAdd, env0, aLoad, aLoadN, cellsOf, Int.reduceEq, Int.reduceLT, Int.reduceLE, Nat.reduceLeDiff, oneC, aop.fillL, setL, aApp, aAppC_nil, aAppC_own, xop, aSame_ptr, BIG, Bool.or_true, Bool.true_or, Bool.or_false, Bool.false_or, eqCells, eqCell, rowOf, ↓acallop, aBound, aIntOf, flat, flatN, CX_fn, CX_X, CX_pol, aStore, Nat.reduceBEq, List.size_toArray, Int.sub_zero, Int.zero_add, Int.add_zero, Int.toNat_zero, Int.reduceAdd, Int.reduceSub, Int.reduceMul, Int.reduceNeg, Int.reduceToNat, Nat.reduceSub, Nat.reduceMul, Int.natCast_zero, Int.reduceDiv, Int.reduceMod, Int.toNat_natCast, fdiv_nn, min_bits_i, Int.reducePow, Nat.reducePow, Nat.reduceDiv, Nat.reduceMod, mb_i, mb_u, WpC_drawD, WpT_nil, WpT_cons, WpT_guard, WpK_nil, scal, g2, g3, g5, hbox, hbox', hq, hq', hcall])
            refine ⟨n - 1, by omega, i + 1, by omega, by (first | rfl | (simp only [Env_put_some, Env_put_none, ↓Env_set_at, ↓reduceIte, Nat.reduceEqDiff, g2] <;> rfl)), by (first | rfl | (simp only [Env_put_some, Env_put_none, ↓Env_set_at, ↓reduceIte, Nat.reduceEqDiff, g3] <;> rfl)), by (first | rfl | (simp only [Env_put_some, Env_put_none, ↓Env_set_at, ↓reduceIte, Nat.reduceEqDiff] <;> rfl)), rfl, ?_⟩
            rw [← hr, hr0, Bool.true_and]
          | false =>
            rw [hrt] at hcall hr0
            (repeat' first
    | (refine CondV_dec (fun _ => ?_) (fun _ => ?_) <;> try (exfalso; omega))
    | (refine GuardV_td (fun _ => ?_) (fun _ => ?_) <;> try (exfalso; omega))
    | (refine GuardV_fd (fun _ => ?_) (fun _ => ?_) <;> try (exfalso; omega))
    | (refine CondV_split (fun _ => ?_) (fun _ => ?_))
    | (refine Need_of (by first | omega | decide) ?_)
    | refine WpK_cons ?_ ?_
    | refine WpK_guard ?_
    | simp (disch := first | omega | simp only [List.length_append, List.length_set, List.length_cons, List.length_nil] <;> omega | fail) only [evA, ↓evB, ↓astep, ↓aop, aBin, aInt, aStr, aUn, aNil, aMax, aresults, ares, aPack, ↓reduceIte, ↓reduceCtorEq, Nat.reduceEqDiff, Nat.reduceAdd, env0, aLoad, aLoadN, cellsOf, Int.reduceEq, Int.reduceLT, Int.reduceLE, Nat.reduceLeDiff, oneC, aop.fillL, setL, aApp, aAppC_nil, aAppC_own, xop, aSame_ptr, BIG, Bool.or_true, Bool.true_or, Bool.or_false, Bool.false_or, eqCells, eqCell, rowOf, ↓acallop, aBound, aIntOf, flat, flatN, CX_fn, CX_X, CX_pol, aStore, Nat.reduceBEq, List.size_toArray, Int.sub_zero, Int.zero_add, Int.add_zero, Int.toNat_zero, Int.reduceAdd, Int.reduceSub, Int.reduceMul, Int.reduceNeg, Int.reduceToNat, Nat.reduceSub, Nat.reduceMul, Int.natCast_zero, Int.reduceDiv, Int.reduceMod, Int.toNat_natCast, fdiv_nn, min_bits_i, Int.reducePow, Nat.reducePow, Nat.reduceDiv, Nat.reduceMod, mb_i, mb_u, WpC_drawD, WpT_nil, WpT_cons, WpT_guard, WpK_nil, scal, g2, g3, g5, hbox, hbox', hq, hq', hcall])
            unfold same
            rw [← hr, hr0, Bool.false_and, Bool.and_false]
        · rw [List.drop_eq_nil_of_le (by omega), List.drop_eq_nil_of_le (by omega)] at hr
          have e0 : sames [] [] = true := by simp only [sames]
          rw [e0] at hr
          simp only [lp44_0, evA, ↓evB, ↓astep, ↓aop, aBin, aInt, aStr, aUn, aNil, aMax, aresults, ares, aPack, ↓reduceIte, ↓reduceCtorEq, Nat.reduceEqDiff, Nat.reduceAdd, env0, aLoad, aLoadN, cellsOf, Int.reduceEq, Int.reduceLT, Int.reduceLE, Nat.reduceLeDiff, oneC, aop.fillL, setL, aApp, aAppC_nil, aAppC_own, xop, aSame_ptr, BIG, Bool.or_true, Bool.true_or, Bool.or_false, Bool.false_or, eqCells, eqCell, rowOf, ↓acallop, aBound, aIntOf, flat, flatN, CX_fn, CX_X, CX_pol, aStore, Nat.reduceBEq, List.size_toArray, Int.sub_zero, Int.zero_add, Int.add_zero, Int.toNat_zero, Int.reduceAdd, Int.reduceSub, Int.reduceMul, Int.reduceNeg, Int.reduceToNat, Nat.reduceSub, Nat.reduceMul, Int.natCast_zero, Int.reduceDiv, Int.reduceMod, Int.toNat_natCast, fdiv_nn, min_bits_i, Int.reducePow, Nat.reducePow, Nat.reduceDiv, Nat.reduceMod, mb_i, mb_u, WpC_drawD, WpT_nil, WpT_cons, WpT_guard, WpK_nil, scal, g2, g3, g5, hbox]
          (repeat' first
    | (refine CondV_dec (fun _ => ?_) (fun _ => ?_) <;> try (exfalso; omega))
    | (refine GuardV_td (fun _ => ?_) (fun _ => ?_) <;> try (exfalso; omega))
    | (refine GuardV_fd (fun _ => ?_) (fun _ => ?_) <;> try (exfalso; omega))
    | (refine CondV_split (fun _ => ?_) (fun _ => ?_))
    | (refine Need_of (by first | omega | decide) ?_)
    | refine WpK_cons ?_ ?_
    | refine WpK_guard ?_
    | simp (disch := first | omega | simp only [List.length_append, List.length_set, List.length_cons, List.length_nil] <;> omega | fail) only [evA, ↓evB, ↓astep, ↓aop, aBin, aInt, aStr, aUn, aNil, aMax, aresults, ares, aPack, ↓reduceIte, ↓reduceCtorEq, Nat.reduceEqDiff, Nat.reduceAdd, env0, aLoad, aLoadN, cellsOf, Int.reduceEq, Int.reduceLT, Int.reduceLE, Nat.reduceLeDiff, oneC, aop.fillL, setL, aApp, aAppC_nil, aAppC_own, xop, aSame_ptr, BIG, Bool.or_true, Bool.true_or, Bool.or_false, Bool.false_or, eqCells, eqCell, rowOf, ↓acallop, aBound, aIntOf, flat, flatN, CX_fn, CX_X, CX_pol, aStore, Nat.reduceBEq, List.size_toArray, Int.sub_zero, Int.zero_add, Int.add_zero, Int.toNat_zero, Int.reduceAdd, Int.reduceSub, Int.reduceMul, Int.reduceNeg, Int.reduceToNat, Nat.reduceSub, Nat.reduceMul, Int.natCast_zero, Int.reduceDiv, Int.reduceMod, Int.toNat_natCast, fdiv_nn, min_bits_i, Int.reducePow, Nat.reducePow, Nat.reduceDiv, Nat.reduceMod, mb_i, mb_u, WpC_drawD, WpT_nil, WpT_cons, WpT_guard, WpK_nil, scal, g2, g3, g5, hbox, hbox'])
          unfold same
          rw [← hr]; simp
      · exact ⟨0, by omega, rfl, rfl, rfl, rfl, rfl⟩
    · have hf : same (.mk t b l) (.mk t' b' l') = false := by
        unfold same
        by_cases h1 : b = b'
        · by_cases h2 : t = t'
          · rw [sames_len l l' (fun h3 => hok ⟨h1, h2, h3⟩), Bool.and_false]
          · simp [h2]
        · simp [h1]
      rw [hf]
      by_cases h1 : b = b'
      · subst h1
        by_cases h2 : t = t'
        · subst h2
          have h3 : ¬ l.length = l'.length := fun h3 => hok ⟨rfl, rfl, h3⟩
          (repeat' first
    | (refine CondV_dec (fun _ => ?_) (fun _ => ?_) <;> try (exfalso; omega))
    | (refine GuardV_td (fun _ => ?_) (fun _ => ?_) <;> try (exfalso; omega))
    | (refine GuardV_fd (fun _ => ?_) (fun _ => ?_) <;> try (exfalso; omega))
    | (refine CondV_split (fun _ => ?_) (fun _ => ?_))
    | (refine Need_of (by first | omega | decide) ?_)
    | refine WpK_cons ?_ ?_
    | refine WpK_guard ?_
    | simp (disch := first | omega | simp only [List.length_append, List.length_set, List.length_cons, List.length_nil] <;> omega | fail) only [evA, ↓evB, ↓astep, ↓aop, aBin, aInt, aStr, aUn, aNil, aMax, aresults, ares, aPack, ↓reduceIte, ↓reduceCtorEq, Nat.reduceEqDiff, Nat.reduceAdd, env0, aLoad, aLoadN, cellsOf, Int.reduceEq, Int.reduceLT, Int.reduceLE, Nat.reduceLeDiff, oneC, aop.fillL, setL, aApp, aAppC_nil, aAppC_own, xop, aSame_ptr, BIG, Bool.or_true, Bool.true_or, Bool.or_false, Bool.false_or, eqCells, eqCell, rowOf, ↓acallop, aBound, aIntOf, flat, flatN, CX_fn, CX_X, CX_pol, aStore, Nat.reduceBEq, List.size_toArray, Int.sub_zero, Int.zero_add, Int.add_zero, Int.toNat_zero, Int.reduceAdd, Int.reduceSub, Int.reduceMul, Int.reduceNeg, Int.reduceToNat, Nat.reduceSub, Nat.reduceMul, Int.natCast_zero, Int.reduceDiv, Int.reduceMod, Int.toNat_natCast, fdiv_nn, min_bits_i, Int.reducePow, Nat.reducePow, Nat.reduceDiv, Nat.reduceMod, mb_i, mb_u, WpC_drawD, WpT_nil, WpT_cons, WpT_guard, WpK_nil, scal, ← hHb, ← hHc, hbox, hbox', beq_self_eq_true])
        · (repeat' first
    | (refine CondV_dec (fun _ => ?_) (fun _ => ?_) <;> try (exfalso; omega))
    | (refine GuardV_td (fun _ => ?_) (fun _ => ?_) <;> try (exfalso; omega))
    | (refine GuardV_fd (fun _ => ?_) (fun _ => ?_) <;> try (exfalso; omega))
    | (refine CondV_split (fun _ => ?_) (fun _ => ?_))
    | (refine Need_of (by first | omega | decide) ?_)
    | refine WpK_cons ?_ ?_
    | refine WpK_guard ?_
    | simp (disch := first | omega | simp only [List.length_append, List.length_set, List.length_cons, List.length_nil] <;> omega | fail) only [evA, ↓evB, ↓astep, ↓aop, aBin, aInt, aStr, aUn, aNil, aMax, aresults, ares, aPack, ↓reduceIte, ↓reduceCtorEq, Nat.reduceEqDiff, Nat.reduceAdd, env0, aLoad, aLoadN, cellsOf, Int.reduceEq, Int.reduceLT, Int.reduceLE, Nat.reduceLeDiff, oneC, aop.fillL, setL, aApp, aAppC_nil, aAppC_own, xop, aSame_ptr, BIG, Bool.or_true, Bool.true_or, Bool.or_false, Bool.false_or, eqCells, eqCell, rowOf, ↓acallop, aBound, aIntOf, flat, flatN, CX_fn, CX_X, CX_pol, aStore, Nat.reduceBEq, List.size_toArray, Int.sub_zero, Int.zero_add, Int.add_zero, Int.toNat_zero, Int.reduceAdd, Int.reduceSub, Int.reduceMul, Int.reduceNeg, Int.reduceToNat, Nat.reduceSub, Nat.reduceMul, Int.natCast_zero, Int.reduceDiv, Int.reduceMod, Int.toNat_natCast, fdiv_nn, min_bits_i, Int.reducePow, Nat.reducePow, Nat.reduceDiv, Nat.reduceMod, mb_i, mb_u, WpC_drawD, WpT_nil, WpT_cons, WpT_guard, WpK_nil, scal, ← hHb, ← hHc, hbox, hbox', beq_self_eq_true, h2])
      · have h1' : (b == b') = false := by simpa using h1
        (repeat' first
    | (refine CondV_dec (fun _ => ?_) (fun _ => ?_) <;> try (exfalso; omega))
    | (refine GuardV_td (fun _ => ?_) (fun _ => ?_) <;> try (exfalso; omega))
    | (refine GuardV_fd (fun _ => ?_) (fun _ => ?_) <;> try (exfalso; omega))
    | (refine CondV_split (fun _ => ?_) (fun _ => ?_))
    | (refine Need_of (by first | omega | decide) ?_)
    | refine WpK_cons ?_ ?_
    | refine WpK_guard ?_
    | simp (disch := first | omega | simp only [List.length_append, List.length_set, List.length_cons, List.length_nil] <;> omega | fail) only [evA, ↓evB, ↓astep, ↓aop, aBin, aInt, aStr, aUn, aNil, aMax, aresults, ares, aPack, ↓reduceIte, ↓reduceCtorEq, Nat.reduceEqDiff, Nat.reduceAdd, env0, aLoad, aLoadN, cellsOf, Int.reduceEq, Int.reduceLT, Int.reduceLE, Nat.reduceLeDiff, oneC, aop.fillL, setL, aApp, aAppC_nil, aAppC_own, xop, aSame_ptr, BIG, Bool.or_true, Bool.true_or, Bool.or_false, Bool.false_or, eqCells, eqCell, rowOf, ↓acallop, aBound, aIntOf, flat, flatN, CX_fn, CX_X, CX_pol, aStore, Nat.reduceBEq, List.size_toArray, Int.sub_zero, Int.zero_add, Int.add_zero, Int.toNat_zero, Int.reduceAdd, Int.reduceSub, Int.reduceMul, Int.reduceNeg, Int.reduceToNat, Nat.reduceSub, Nat.reduceMul, Int.natCast_zero, Int.reduceDiv, Int.reduceMod, Int.toNat_natCast, fdiv_nn, min_bits_i, Int.reducePow, Nat.reducePow, Nat.reduceDiv, Nat.reduceMod, mb_i, mb_u, WpC_drawD, WpT_nil, WpT_cons, WpT_guard, WpK_nil, scal, ← hHb, ← hHc, hbox, hbox', h1'])
end Ev
end Go.Proofs.Ytfbelnjchpffeaa
