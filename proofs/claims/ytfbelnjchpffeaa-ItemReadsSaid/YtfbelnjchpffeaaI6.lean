/-
  strings.Builder.
-/
import Derived.Test.YtfbelnjchpffeaaI5
namespace Go.Proofs.Ytfbelnjchpffeaa
namespace Ev
open Tag (mk)
set_option linter.unusedSimpArgs false
set_option linter.unusedVariables false
set_option maxRecDepth 4000
set_option maxHeartbeats 4000000
/-- A builder that holds some bytes; its things lie from 'base' on. -/
def BAt (H : Heap) (base j : Nat) (out : List Nat) : Prop :=
  ∃ p a c, base ≤ j ∧ H[j]? = some (.cells [p, .slice a out.length c] (98 + BIG) true) ∧ (p = .pointer none ∨ p = .pointer (some ⟨j, 0, none⟩)) ∧
    (a = none ∧ c = 0 ∧ out = [] ∨ ∃ q, a = some ⟨q, 0, none⟩ ∧ c = 1 ∧ base ≤ q ∧ q ≠ j ∧ 0 < out.length ∧ H[q]? = some (.cells (bv out) 5 true))
theorem BAt.fr {X : Nat → Prop} {H H' : Heap} {base j : Nat} {out : List Nat} (h : BAt H base j out) (hf : Fr X H H') (hx : ∀ i, base ≤ i → ¬ X i) : BAt H' base j out := by
  obtain ⟨p, a, c, h1, h2, h3, h4⟩ := h
  refine ⟨p, a, c, h1, hf.2 _ _ (hx _ h1) h2, h3, ?_⟩
  rcases h4 with h4 | ⟨q, g1, g2, g3, g4, gn, g5⟩
  · exact .inl h4
  · exact .inr ⟨q, g1, g2, g3, g4, gn, hf.2 _ _ (hx _ g3) g5⟩
theorem BAt.app {H : Heap} {base j : Nat} {out : List Nat} (h : BAt H base j out) (L : Heap) : BAt (H ++ L) base j out := h.fr (.app (fun _ => False) H L) (fun _ _ h => h)
/-- The builder's things. -/
def BX (H : Heap) (j i : Nat) : Prop := i = j ∨ ∃ p n c T, H[j]? = some (.cells [p, .slice (some ⟨i, 0, none⟩) n c] T true)
structure BStep (j : Nat) (H H' : Heap) : Prop where
  fr : Fr (BX H j) H H'
  new : ∀ i, BX H' j i → BX H j i ∨ H.length ≤ i
theorem BStep.refl (j : Nat) (H : Heap) : BStep j H H := ⟨.refl _ _, fun _ h => .inl h⟩
theorem BStep.trans {j : Nat} {A B D : Heap} (h : BStep j A B) (k : BStep j B D) : BStep j A D :=
  ⟨h.fr.new k.fr h.new, fun i hi => by
    rcases k.new i hi with h1 | h1
    · exact h.new i h1
    · have := h.fr.1; exact .inr (by omega)⟩
theorem BStep.app {j : Nat} {H : Heap} (hj : j < H.length) (L : Heap) : BStep j H (H ++ L) := ⟨.app _ _ _, fun i hi => by
  rcases hi with rfl | ⟨p, n, c, T, h⟩
  · exact .inl (.inl rfl)
  · rw [happ_l hj] at h; exact .inl (.inr ⟨p, n, c, T, h⟩)⟩
theorem BStep.mk' {j n c q T : Nat} {p : Value} {H H' : Heap} (hf : Fr (BX H j) H H') (h : H'[j]? = some (.cells [p, .slice (some ⟨q, 0, none⟩) n c] T true)) (hq : BX H j q ∨ H.length ≤ q) : BStep j H H' :=
  ⟨hf, fun i hi => by
    rcases hi with rfl | ⟨p', n', c', T', h'⟩
    · exact .inl (.inl rfl)
    · rw [h] at h'
      simp only [Option.some.injEq, AObj.cells.injEq, List.cons.injEq, Value.slice.injEq, Addr.mk.injEq, and_true] at h'
      obtain ⟨⟨_, rfl, _⟩, _⟩ := h'
      exact hq⟩
theorem BAt.bx {H : Heap} {base j i : Nat} {out : List Nat} (h : BAt H base j out) (hi : BX H j i) : base ≤ i ∧ ∃ cs T, H[i]? = some (.cells cs T true) ∧ (T = 98 + BIG ∨ T = 5) := by
  obtain ⟨p, a, c, h1, h2, h3, h4⟩ := h
  rcases hi with rfl | ⟨p', n', c', T', h'⟩
  · exact ⟨h1, _, _, h2, .inl rfl⟩
  · rw [h2] at h'
    simp only [Option.some.injEq, AObj.cells.injEq, List.cons.injEq, Value.slice.injEq, and_true] at h'
    obtain ⟨⟨_, rfl, _⟩, _⟩ := h'
    rcases h4 with ⟨h5, _⟩ | ⟨q, h5, _, h6, _, _, h7⟩
    · cases h5
    · cases h5; exact ⟨h6, _, _, h7, .inr rfl⟩
theorem BAt.fin {H : Heap} {base j n q T : Nat} {out : List Nat} (h1 : H[j]? = some (.cells [.pointer (some ⟨j, 0, none⟩), .slice (some ⟨q, 0, none⟩) n 1] T true)) (hT : T = 98 + BIG) (hn : n = out.length) (hj : base ≤ j) (hq : base ≤ q) (hne : q ≠ j) (ho : 0 < out.length)
    (h2 : H[q]? = some (.cells (bv out) 5 true)) : BAt H base j out := by
  subst hn; subst hT
  exact ⟨_, _, _, hj, h1, .inr rfl, .inr ⟨q, rfl, rfl, hq, hne, ho, h2⟩⟩
theorem wWriteByte (H : Heap) (base j : Nat) (out : List Nat) (x : Nat) (hb : BAt H base j out) (ho : out.length ≤ 100000000) (m : Ev.Mode) (hm1 : m.lim ≤ base) (hm2 : m.fb ≤ base) (k : Nat) (hk : 2 ≤ k) :
    Run (fun v H' => v = .nilIface ∧ BAt H' base j (out ++ [x]) ∧ BStep j H H') mk (acall T0 (k + 1) 60 [.pointer (some ⟨j, 0, none⟩), .int .u8 (x : Int)] H m) := by
  obtain ⟨p, a, c, h1, h2, h3, h4⟩ := hb
  have hj := lt_of_get h2
  obtain ⟨k, rfl⟩ : ∃ q, k = q + 2 := ⟨k - 2, by omega⟩
  refine Run_call (F := ir60) rfl (Nat.le_of_ble_eq_true rfl) ?_
  simp only [ir60, T0]
  have hbig : 98 + BIG = 1000000 + 98 := rfl
  simp only [BIG, Nat.reduceAdd] at h2
  rcases h4 with ⟨rfl, rfl, rfl⟩ | ⟨q, rfl, rfl, g3, g4, gn, g5⟩
  · rcases h3 with rfl | rfl
    · (repeat' first
    | (refine CondV_dec (fun _ => ?_) (fun _ => ?_) <;> try (exfalso; omega))
    | (refine GuardV_td (fun _ => ?_) (fun _ => ?_) <;> try (exfalso; omega))
    | (refine GuardV_fd (fun _ => ?_) (fun _ => ?_) <;> try (exfalso; omega))
    | (refine CondV_split (fun _ => ?_) (fun _ => ?_))
    | (refine Need_of (by first | omega | decide) ?_)
    | refine WpK_cons ?_ ?_
    | refine WpK_guard ?_
    | simp (disch := first | omega | simp only [List.length_append, List.length_set, List.length_cons, List.length_nil] <;> omega | fail) only [evA, ↓evB, ↓astep, ↓aop, aBin, aInt, aStr, aUn, aNil, aMax, aresults, ares, aPack, ↓reduceIte, ↓reduceCtorEq, Nat.reduceEqDiff, Nat.reduceAdd, env0, aLoad, aLoadN, cellsOf, Int.reduceEq, Int.reduceLT, Int.reduceLE, Nat.reduceLeDiff, oneC, aop.fillL, setL, aApp, aAppC_nil, aAppC_own, xop, aSame_ptr, BIG, Bool.or_true, Bool.true_or, Bool.or_false, Bool.false_or, eqCells, eqCell, rowOf, ↓acallop, aBound, aIntOf, flat, flatN, CX_fn, CX_X, CX_pol, aStore, Nat.reduceBEq, List.size_toArray, Int.sub_zero, Int.zero_add, Int.add_zero, Int.toNat_zero, Int.reduceAdd, Int.reduceSub, Int.reduceMul, Int.reduceNeg, Int.reduceToNat, Nat.reduceSub, Nat.reduceMul, Int.natCast_zero, Int.reduceDiv, Int.reduceMod, Int.toNat_natCast, fdiv_nn, min_bits_i, Int.reducePow, Nat.reducePow, Nat.reduceDiv, Nat.reduceMod, mb_i, mb_u, WpC_drawD, WpT_nil, WpT_cons, WpT_guard, WpK_nil, scal, fn94, ir94, h2])
      refine ⟨BAt.fin (by rw [happ_l (by simp [hj])]; exact hset_self (by simp [hj]) _) rfl (by simp) h1 (q := H.length + 1) (by omega) (by omega) (by simp) (by rw [happ_ge (by simp)]; simp [bv]), ?_⟩
      exact .mk' ((Fr.set (X := BX H j) (.inl rfl) _).appl _) (by rw [happ_l (by simp [hj])]; exact hset_self (by simp [hj]) _) (.inr (by omega))
    · (repeat' first
    | (refine CondV_dec (fun _ => ?_) (fun _ => ?_) <;> try (exfalso; omega))
    | (refine GuardV_td (fun _ => ?_) (fun _ => ?_) <;> try (exfalso; omega))
    | (refine GuardV_fd (fun _ => ?_) (fun _ => ?_) <;> try (exfalso; omega))
    | (refine CondV_split (fun _ => ?_) (fun _ => ?_))
    | (refine Need_of (by first | omega | decide) ?_)
    | refine WpK_cons ?_ ?_
    | refine WpK_guard ?_
    | simp (disch := first | omega | simp only [List.length_append, List.length_set, List.length_cons, List.length_nil] <;> omega | fail) only [evA, ↓evB, ↓astep, ↓aop, aBin, aInt, aStr, aUn, aNil, aMax, aresults, ares, aPack, ↓reduceIte, ↓reduceCtorEq, Nat.reduceEqDiff, Nat.reduceAdd, env0, aLoad, aLoadN, cellsOf, Int.reduceEq, Int.reduceLT, Int.reduceLE, Nat.reduceLeDiff, oneC, aop.fillL, setL, aApp, aAppC_nil, aAppC_own, xop, aSame_ptr, BIG, Bool.or_true, Bool.true_or, Bool.or_false, Bool.false_or, eqCells, eqCell, rowOf, ↓acallop, aBound, aIntOf, flat, flatN, CX_fn, CX_X, CX_pol, aStore, Nat.reduceBEq, List.size_toArray, Int.sub_zero, Int.zero_add, Int.add_zero, Int.toNat_zero, Int.reduceAdd, Int.reduceSub, Int.reduceMul, Int.reduceNeg, Int.reduceToNat, Nat.reduceSub, Nat.reduceMul, Int.natCast_zero, Int.reduceDiv, Int.reduceMod, Int.toNat_natCast, fdiv_nn, min_bits_i, Int.reducePow, Nat.reducePow, Nat.reduceDiv, Nat.reduceMod, mb_i, mb_u, WpC_drawD, WpT_nil, WpT_cons, WpT_guard, WpK_nil, scal, fn94, ir94, h2])
      refine ⟨BAt.fin (by rw [happ_l (by simp [hj])]; exact hset_self (by simp [hj]) _) rfl (by simp) h1 (q := H.length + 1) (by omega) (by omega) (by simp) (by rw [happ_ge (by simp)]; simp [bv]), ?_⟩
      exact .mk' ((Fr.set (X := BX H j) (.inl rfl) _).appl _) (by rw [happ_l (by simp [hj])]; exact hset_self (by simp [hj]) _) (.inr (by omega))
  · have hq := lt_of_get g5
    rcases h3 with rfl | rfl
    · (repeat' first
    | (refine CondV_dec (fun _ => ?_) (fun _ => ?_) <;> try (exfalso; omega))
    | (refine GuardV_td (fun _ => ?_) (fun _ => ?_) <;> try (exfalso; omega))
    | (refine GuardV_fd (fun _ => ?_) (fun _ => ?_) <;> try (exfalso; omega))
    | (refine CondV_split (fun _ => ?_) (fun _ => ?_))
    | (refine Need_of (by first | omega | decide) ?_)
    | refine WpK_cons ?_ ?_
    | refine WpK_guard ?_
    | simp (disch := first | omega | simp only [List.length_append, List.length_set, List.length_cons, List.length_nil] <;> omega | fail) only [evA, ↓evB, ↓astep, ↓aop, aBin, aInt, aStr, aUn, aNil, aMax, aresults, ares, aPack, ↓reduceIte, ↓reduceCtorEq, Nat.reduceEqDiff, Nat.reduceAdd, env0, aLoad, aLoadN, cellsOf, Int.reduceEq, Int.reduceLT, Int.reduceLE, Nat.reduceLeDiff, oneC, aop.fillL, setL, aApp, aAppC_nil, aAppC_own, xop, aSame_ptr, BIG, Bool.or_true, Bool.true_or, Bool.or_false, Bool.false_or, eqCells, eqCell, rowOf, ↓acallop, aBound, aIntOf, flat, flatN, CX_fn, CX_X, CX_pol, aStore, Nat.reduceBEq, List.size_toArray, Int.sub_zero, Int.zero_add, Int.add_zero, Int.toNat_zero, Int.reduceAdd, Int.reduceSub, Int.reduceMul, Int.reduceNeg, Int.reduceToNat, Nat.reduceSub, Nat.reduceMul, Int.natCast_zero, Int.reduceDiv, Int.reduceMod, Int.toNat_natCast, fdiv_nn, min_bits_i, Int.reducePow, Nat.reducePow, Nat.reduceDiv, Nat.reduceMod, mb_i, mb_u, WpC_drawD, WpT_nil, WpT_cons, WpT_guard, WpK_nil, scal, fn94, ir94, h2, g5])
      refine ⟨BAt.fin (by rw [happ_l (by simp [hj])]; exact hset_self (by simp [hj]) _) rfl (by simp) h1 (q := H.length + 1) (by omega) (by omega) (by simp) (by rw [happ_ge (by simp)]; simp [bv]), ?_⟩
      exact .mk' ((((Fr.set (X := BX H j) (.inl rfl) _).sets (.inr ⟨_, _, _, _, h2⟩) _).sets (.inl rfl) _).appl _) (by rw [happ_l (by simp [hj])]; exact hset_self (by simp [hj]) _) (.inr (by omega))
    · (repeat' first
    | (refine CondV_dec (fun _ => ?_) (fun _ => ?_) <;> try (exfalso; omega))
    | (refine GuardV_td (fun _ => ?_) (fun _ => ?_) <;> try (exfalso; omega))
    | (refine GuardV_fd (fun _ => ?_) (fun _ => ?_) <;> try (exfalso; omega))
    | (refine CondV_split (fun _ => ?_) (fun _ => ?_))
    | (refine Need_of (by first | omega | decide) ?_)
    | refine WpK_cons ?_ ?_
    | refine WpK_guard ?_
    | simp (disch := first | omega | simp only [List.length_append, List.length_set, List.length_cons, List.length_nil] <;> omega | fail) only [evA, ↓evB, ↓astep, ↓aop, aBin, aInt, aStr, aUn, aNil, aMax, aresults, ares, aPack, ↓reduceIte, ↓reduceCtorEq, Nat.reduceEqDiff, Nat.reduceAdd, env0, aLoad, aLoadN, cellsOf, Int.reduceEq, Int.reduceLT, Int.reduceLE, Nat.reduceLeDiff, oneC, aop.fillL, setL, aApp, aAppC_nil, aAppC_own, xop, aSame_ptr, BIG, Bool.or_true, Bool.true_or, Bool.or_false, Bool.false_or, eqCells, eqCell, rowOf, ↓acallop, aBound, aIntOf, flat, flatN, CX_fn, CX_X, CX_pol, aStore, Nat.reduceBEq, List.size_toArray, Int.sub_zero, Int.zero_add, Int.add_zero, Int.toNat_zero, Int.reduceAdd, Int.reduceSub, Int.reduceMul, Int.reduceNeg, Int.reduceToNat, Nat.reduceSub, Nat.reduceMul, Int.natCast_zero, Int.reduceDiv, Int.reduceMod, Int.toNat_natCast, fdiv_nn, min_bits_i, Int.reducePow, Nat.reducePow, Nat.reduceDiv, Nat.reduceMod, mb_i, mb_u, WpC_drawD, WpT_nil, WpT_cons, WpT_guard, WpK_nil, scal, fn94, ir94, h2, g5])
      refine ⟨BAt.fin (by rw [happ_l (by simp [hj])]; exact hset_self (by simp [hj]) _) rfl (by simp) h1 (q := H.length + 1) (by omega) (by omega) (by simp) (by rw [happ_ge (by simp)]; simp [bv]), ?_⟩
      exact .mk' (((Fr.set (X := BX H j) (.inr ⟨_, _, _, _, h2⟩) _).sets (.inl rfl) _).appl _) (by rw [happ_l (by simp [hj])]; exact hset_self (by simp [hj]) _) (.inr (by omega))
theorem wWriteString (H : Heap) (base j : Nat) (out : List Nat) (s : ByteArray) (hb : BAt H base j out) (ho : out.length + s.size ≤ 100000000) (m : Ev.Mode) (hm1 : m.lim ≤ base) (hm2 : m.fb ≤ base) (k : Nat) (hk : 2 ≤ k) :
    Run (fun v H' => v = .tuple #[.int .i64 (s.size : Int), .nilIface] ∧ BAt H' base j (out ++ bl s) ∧ BStep j H H') mk (acall T0 (k + 1) 92 [.pointer (some ⟨j, 0, none⟩), .string s] H m) := by
  obtain ⟨p, a, c, h1, h2, h3, h4⟩ := hb
  have hj := lt_of_get h2
  obtain ⟨k, rfl⟩ : ∃ q, k = q + 2 := ⟨k - 2, by omega⟩
  refine Run_call (F := ir92) rfl (Nat.le_of_ble_eq_true rfl) ?_
  simp only [ir92, T0]
  simp only [BIG, Nat.reduceAdd] at h2
  have hbv := bytesL_bv s
  have hone := bv_oneC (bl s)
  by_cases hs : s.size = 0
  · have hbl : bl s = [] := List.eq_nil_of_length_eq_zero (by rw [bl_length]; exact hs)
    rw [hbl] at hbv hone ⊢
    rcases h4 with ⟨rfl, rfl, rfl⟩ | ⟨q, rfl, rfl, g3, g4, gn, g5⟩
    · rcases h3 with rfl | rfl
      all_goals
        (repeat' first
    | (refine CondV_dec (fun _ => ?_) (fun _ => ?_) <;> try (exfalso; omega))
    | (refine GuardV_td (fun _ => ?_) (fun _ => ?_) <;> try (exfalso; omega))
    | (refine GuardV_fd (fun _ => ?_) (fun _ => ?_) <;> try (exfalso; omega))
    | (refine CondV_split (fun _ => ?_) (fun _ => ?_))
    | (refine Need_of (by first | omega | decide) ?_)
    | refine WpK_cons ?_ ?_
    | refine WpK_guard ?_
    | simp (disch := first | omega | simp only [List.length_append, List.length_set, List.length_cons, List.length_nil] <;> omega | fail) only [evA, ↓evB, ↓astep, ↓aop, aBin, aInt, aStr, aUn, aNil, aMax, aresults, ares, aPack, ↓reduceIte, ↓reduceCtorEq, Nat.reduceEqDiff, Nat.reduceAdd, env0, aLoad, aLoadN, cellsOf, Int.reduceEq, Int.reduceLT, Int.reduceLE, Nat.reduceLeDiff, oneC, aop.fillL, setL, aApp, aAppC_nil, aAppC_own, xop, aSame_ptr, BIG, Bool.or_true, Bool.true_or, Bool.or_false, Bool.false_or, eqCells, eqCell, rowOf, ↓acallop, aBound, aIntOf, flat, flatN, CX_fn, CX_X, CX_pol, aStore, Nat.reduceBEq, List.size_toArray, Int.sub_zero, Int.zero_add, Int.add_zero, Int.toNat_zero, Int.reduceAdd, Int.reduceSub, Int.reduceMul, Int.reduceNeg, Int.reduceToNat, Nat.reduceSub, Nat.reduceMul, Int.natCast_zero, Int.reduceDiv, Int.reduceMod, Int.toNat_natCast, fdiv_nn, min_bits_i, Int.reducePow, Nat.reducePow, Nat.reduceDiv, Nat.reduceMod, mb_i, mb_u, WpC_drawD, WpT_nil, WpT_cons, WpT_guard, WpK_nil, scal, fn94, ir94, h2, hbv, hone, hs])
        exact ⟨⟨_, none, 0, h1, hset_self hj _, .inr rfl, .inl ⟨rfl, rfl, rfl⟩⟩, ⟨.set (X := BX H j) (.inl rfl) _, fun i hi => by
          rcases hi with rfl | ⟨p', n', c', T', h'⟩
          · exact .inl (.inl rfl)
          · rw [hset_self hj] at h'; simp at h'⟩⟩
    · have hq := lt_of_get g5
      rcases h3 with rfl | rfl
      all_goals
        (repeat' first
    | (refine CondV_dec (fun _ => ?_) (fun _ => ?_) <;> try (exfalso; omega))
    | (refine GuardV_td (fun _ => ?_) (fun _ => ?_) <;> try (exfalso; omega))
    | (refine GuardV_fd (fun _ => ?_) (fun _ => ?_) <;> try (exfalso; omega))
    | (refine CondV_split (fun _ => ?_) (fun _ => ?_))
    | (refine Need_of (by first | omega | decide) ?_)
    | refine WpK_cons ?_ ?_
    | refine WpK_guard ?_
    | simp (disch := first | omega | simp only [List.length_append, List.length_set, List.length_cons, List.length_nil] <;> omega | fail) only [evA, ↓evB, ↓astep, ↓aop, aBin, aInt, aStr, aUn, aNil, aMax, aresults, ares, aPack, ↓reduceIte, ↓reduceCtorEq, Nat.reduceEqDiff, Nat.reduceAdd, env0, aLoad, aLoadN, cellsOf, Int.reduceEq, Int.reduceLT, Int.reduceLE, Nat.reduceLeDiff, oneC, aop.fillL, setL, aApp, aAppC_nil, aAppC_own, xop, aSame_ptr, BIG, Bool.or_true, Bool.true_or, Bool.or_false, Bool.false_or, eqCells, eqCell, rowOf, ↓acallop, aBound, aIntOf, flat, flatN, CX_fn, CX_X, CX_pol, aStore, Nat.reduceBEq, List.size_toArray, Int.sub_zero, Int.zero_add, Int.add_zero, Int.toNat_zero, Int.reduceAdd, Int.reduceSub, Int.reduceMul, Int.reduceNeg, Int.reduceToNat, Nat.reduceSub, Nat.reduceMul, Int.natCast_zero, Int.reduceDiv, Int.reduceMod, Int.toNat_natCast, fdiv_nn, min_bits_i, Int.reducePow, Nat.reducePow, Nat.reduceDiv, Nat.reduceMod, mb_i, mb_u, WpC_drawD, WpT_nil, WpT_cons, WpT_guard, WpK_nil, scal, fn94, ir94, h2, g5, hbv, hone, hs])
        exact ⟨BAt.fin (hset_self hj _) rfl rfl h1 (q := q) g3 g4 gn (by rw [hset_ne (Ne.symm g4)]; exact g5), .mk' (.set (X := BX H j) (.inl rfl) _) (hset_self hj _) (.inl (.inr ⟨_, _, _, _, h2⟩))⟩
  · have hlen := bl_length s
    rcases h4 with ⟨rfl, rfl, rfl⟩ | ⟨q, rfl, rfl, g3, g4, gn, g5⟩
    · rcases h3 with rfl | rfl
      all_goals
        (repeat' first
    | (refine CondV_dec (fun _ => ?_) (fun _ => ?_) <;> try (exfalso; omega))
    | (refine GuardV_td (fun _ => ?_) (fun _ => ?_) <;> try (exfalso; omega))
    | (refine GuardV_fd (fun _ => ?_) (fun _ => ?_) <;> try (exfalso; omega))
    | (refine CondV_split (fun _ => ?_) (fun _ => ?_))
    | (refine Need_of (by first | omega | decide) ?_)
    | refine WpK_cons ?_ ?_
    | refine WpK_guard ?_
    | simp (disch := first | omega | simp only [List.length_append, List.length_set, List.length_cons, List.length_nil] <;> omega | fail) only [evA, ↓evB, ↓astep, ↓aop, aBin, aInt, aStr, aUn, aNil, aMax, aresults, ares, aPack, ↓reduceIte, ↓reduceCtorEq, Nat.reduceEqDiff, Nat.reduceAdd, env0, aLoad, aLoadN, cellsOf, Int.reduceEq, Int.reduceLT, Int.reduceLE, Nat.reduceLeDiff, oneC, aop.fillL, setL, aApp, aAppC_nil, aAppC_own, xop, aSame_ptr, BIG, Bool.or_true, Bool.true_or, Bool.or_false, Bool.false_or, eqCells, eqCell, rowOf, ↓acallop, aBound, aIntOf, flat, flatN, CX_fn, CX_X, CX_pol, aStore, Nat.reduceBEq, List.size_toArray, Int.sub_zero, Int.zero_add, Int.add_zero, Int.toNat_zero, Int.reduceAdd, Int.reduceSub, Int.reduceMul, Int.reduceNeg, Int.reduceToNat, Nat.reduceSub, Nat.reduceMul, Int.natCast_zero, Int.reduceDiv, Int.reduceMod, Int.toNat_natCast, fdiv_nn, min_bits_i, Int.reducePow, Nat.reducePow, Nat.reduceDiv, Nat.reduceMod, mb_i, mb_u, WpC_drawD, WpT_nil, WpT_cons, WpT_guard, WpK_nil, scal, fn94, ir94, h2, hbv, hone, hs])
        refine ⟨BAt.fin (by rw [happ_l (by simp [hj])]; exact hset_self (by simp [hj]) _) rfl (by simp [hlen]) h1 (q := H.length) (by omega) (by omega) (by first | omega | (simp; omega)) (by rw [happ_ge (by simp)]; simp), ?_⟩
        exact .mk' ((Fr.set (X := BX H j) (.inl rfl) _).appl _) (by rw [happ_l (by simp [hj])]; exact hset_self (by simp [hj]) _) (.inr (by omega))
    · have hq := lt_of_get g5
      rcases h3 with rfl | rfl
      all_goals
        (repeat' first
    | (refine CondV_dec (fun _ => ?_) (fun _ => ?_) <;> try (exfalso; omega))
    | (refine GuardV_td (fun _ => ?_) (fun _ => ?_) <;> try (exfalso; omega))
    | (refine GuardV_fd (fun _ => ?_) (fun _ => ?_) <;> try (exfalso; omega))
    | (refine CondV_split (fun _ => ?_) (fun _ => ?_))
    | (refine Need_of (by first | omega | decide) ?_)
    | refine WpK_cons ?_ ?_
    | refine WpK_guard ?_
    | simp (disch := first | omega | simp only [List.length_append, List.length_set, List.length_cons, List.length_nil] <;> omega | fail) only [evA, ↓evB, ↓astep, ↓aop, aBin, aInt, aStr, aUn, aNil, aMax, aresults, ares, aPack, ↓reduceIte, ↓reduceCtorEq, Nat.reduceEqDiff, Nat.reduceAdd, env0, aLoad, aLoadN, cellsOf, Int.reduceEq, Int.reduceLT, Int.reduceLE, Nat.reduceLeDiff, oneC, aop.fillL, setL, aApp, aAppC_nil, aAppC_own, xop, aSame_ptr, BIG, Bool.or_true, Bool.true_or, Bool.or_false, Bool.false_or, eqCells, eqCell, rowOf, ↓acallop, aBound, aIntOf, flat, flatN, CX_fn, CX_X, CX_pol, aStore, Nat.reduceBEq, List.size_toArray, Int.sub_zero, Int.zero_add, Int.add_zero, Int.toNat_zero, Int.reduceAdd, Int.reduceSub, Int.reduceMul, Int.reduceNeg, Int.reduceToNat, Nat.reduceSub, Nat.reduceMul, Int.natCast_zero, Int.reduceDiv, Int.reduceMod, Int.toNat_natCast, fdiv_nn, min_bits_i, Int.reducePow, Nat.reducePow, Nat.reduceDiv, Nat.reduceMod, mb_i, mb_u, WpC_drawD, WpT_nil, WpT_cons, WpT_guard, WpK_nil, scal, fn94, ir94, h2, g5, hbv, hone, hs])
        refine ⟨BAt.fin (by rw [happ_l (by simp [hj])]; exact hset_self (by simp [hj]) _) rfl (by simp [hlen]) h1 (q := H.length) (by omega) (by omega) (by first | omega | (simp only [List.length_append]; omega)) (by rw [happ_ge (by simp)]; simp [bv_append]), ?_⟩
        first
          | exact .mk' ((((Fr.set (X := BX H j) (.inl rfl) _).sets (.inr ⟨_, _, _, _, h2⟩) _).sets (.inl rfl) _).appl _) (by rw [happ_l (by simp [hj])]; exact hset_self (by simp [hj]) _) (.inr (by omega))
          | exact .mk' (((Fr.set (X := BX H j) (.inr ⟨_, _, _, _, h2⟩) _).sets (.inl rfl) _).appl _) (by rw [happ_l (by simp [hj])]; exact hset_self (by simp [hj]) _) (.inr (by omega))
theorem wString (H : Heap) (base j : Nat) (out : List Nat) (hb : BAt H base j out) (ho : out.length ≤ 100000000) (m : Ev.Mode) (hm1 : m.lim ≤ base) (k : Nat) :
    Run (fun v H' => v = .string (bs out) ∧ BStep j H H') mk (acall T0 (k + 1) 61 [.pointer (some ⟨j, 0, none⟩)] H m) := by
  obtain ⟨p, a, c, h1, h2, h3, h4⟩ := hb
  have hj := lt_of_get h2
  refine Run_call (F := ir61) rfl (Nat.le_of_ble_eq_true rfl) ?_
  simp only [ir61, T0]
  simp only [BIG, Nat.reduceAdd] at h2
  rcases h4 with ⟨rfl, rfl, rfl⟩ | ⟨q, rfl, rfl, g3, g4, gn, g5⟩
  · (repeat' first
    | (refine CondV_dec (fun _ => ?_) (fun _ => ?_) <;> try (exfalso; omega))
    | (refine GuardV_td (fun _ => ?_) (fun _ => ?_) <;> try (exfalso; omega))
    | (refine GuardV_fd (fun _ => ?_) (fun _ => ?_) <;> try (exfalso; omega))
    | (refine CondV_split (fun _ => ?_) (fun _ => ?_))
    | (refine Need_of (by first | omega | decide) ?_)
    | refine WpK_cons ?_ ?_
    | refine WpK_guard ?_
    | simp (disch := first | omega | simp only [List.length_append, List.length_set, List.length_cons, List.length_nil] <;> omega | fail) only [evA, ↓evB, ↓astep, ↓aop, aBin, aInt, aStr, aUn, aNil, aMax, aresults, ares, aPack, ↓reduceIte, ↓reduceCtorEq, Nat.reduceEqDiff, Nat.reduceAdd, env0, aLoad, aLoadN, cellsOf, Int.reduceEq, Int.reduceLT, Int.reduceLE, Nat.reduceLeDiff, oneC, aop.fillL, setL, aApp, aAppC_nil, aAppC_own, xop, aSame_ptr, BIG, Bool.or_true, Bool.true_or, Bool.or_false, Bool.false_or, eqCells, eqCell, rowOf, ↓acallop, aBound, aIntOf, flat, flatN, CX_fn, CX_X, CX_pol, aStore, Nat.reduceBEq, List.size_toArray, Int.sub_zero, Int.zero_add, Int.add_zero, Int.toNat_zero, Int.reduceAdd, Int.reduceSub, Int.reduceMul, Int.reduceNeg, Int.reduceToNat, Nat.reduceSub, Nat.reduceMul, Int.natCast_zero, Int.reduceDiv, Int.reduceMod, Int.toNat_natCast, fdiv_nn, min_bits_i, Int.reducePow, Nat.reducePow, Nat.reduceDiv, Nat.reduceMod, mb_i, mb_u, WpC_drawD, WpT_nil, WpT_cons, WpT_guard, WpK_nil, scal, h2])
    exact ⟨rfl, .refl _ _⟩
  · have hq := lt_of_get g5
    have hbl := bv_length out
    have htk : List.take out.length (bv out) = bv out := bv_take out
    (repeat' first
    | (refine CondV_dec (fun _ => ?_) (fun _ => ?_) <;> try (exfalso; omega))
    | (refine GuardV_td (fun _ => ?_) (fun _ => ?_) <;> try (exfalso; omega))
    | (refine GuardV_fd (fun _ => ?_) (fun _ => ?_) <;> try (exfalso; omega))
    | (refine CondV_split (fun _ => ?_) (fun _ => ?_))
    | (refine Need_of (by first | omega | decide) ?_)
    | refine WpK_cons ?_ ?_
    | refine WpK_guard ?_
    | simp (disch := first | omega | simp only [List.length_append, List.length_set, List.length_cons, List.length_nil] <;> omega | fail) only [evA, ↓evB, ↓astep, ↓aop, aBin, aInt, aStr, aUn, aNil, aMax, aresults, ares, aPack, ↓reduceIte, ↓reduceCtorEq, Nat.reduceEqDiff, Nat.reduceAdd, env0, aLoad, aLoadN, cellsOf, Int.reduceEq, Int.reduceLT, Int.reduceLE, Nat.reduceLeDiff, oneC, aop.fillL, setL, aApp, aAppC_nil, aAppC_own, xop, aSame_ptr, BIG, Bool.or_true, Bool.true_or, Bool.or_false, Bool.false_or, eqCells, eqCell, rowOf, ↓acallop, aBound, aIntOf, flat, flatN, CX_fn, CX_X, CX_pol, aStore, Nat.reduceBEq, List.size_toArray, Int.sub_zero, Int.zero_add, Int.add_zero, Int.toNat_zero, Int.reduceAdd, Int.reduceSub, Int.reduceMul, Int.reduceNeg, Int.reduceToNat, Nat.reduceSub, Nat.reduceMul, Int.natCast_zero, Int.reduceDiv, Int.reduceMod, Int.toNat_natCast, fdiv_nn, min_bits_i, Int.reducePow, Nat.reducePow, Nat.reduceDiv, Nat.reduceMod, mb_i, mb_u, WpC_drawD, WpT_nil, WpT_cons, WpT_guard, WpK_nil, scal, h2, g5, htk])
    exact ⟨rfl, .mk' (.set (X := BX H j) (.inr ⟨_, _, _, _, h2⟩) _) (by rw [hset_ne g4]; exact h2) (.inl (.inr ⟨_, _, _, _, h2⟩))⟩
end Ev
end Go.Proofs.Ytfbelnjchpffeaa
