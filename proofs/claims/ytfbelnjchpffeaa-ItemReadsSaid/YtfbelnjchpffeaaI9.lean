/-
  The document's reading of an item.
-/
import Derived.Test.YtfbelnjchpffeaaJ0
namespace Go.Proofs.Ytfbelnjchpffeaa
namespace Ev
open Tag (mk)
set_option linter.unusedSimpArgs false
set_option linter.unusedVariables false
set_option maxRecDepth 4000
set_option maxHeartbeats 4000000
theorem hxs_pair (s : ByteArray) (i : Nat) (h : i + 1 < s.size) : hxs ((bl s).drop i) = if 0 ≤ hv (bAt s i) ∧ 0 ≤ hv (bAt s (i + 1)) then ((16 * hv (bAt s i) + hv (bAt s (i + 1))).toNat :: (hxs ((bl s).drop (i + 2))).1, (hxs ((bl s).drop (i + 2))).2) else ([], (bl s).drop i) := by
  rw [bl_drop s i (by omega), bl_drop s (i + 1) h, hxs]
theorem hxs_end (s : ByteArray) (i : Nat) (h : s.size ≤ i + 1) : hxs ((bl s).drop i) = ([], (bl s).drop i) := by
  rcases Nat.lt_or_ge i s.size with h1 | h1
  · rw [bl_drop s i h1, bl_drop_all s (i + 1) h]; rfl
  · rw [bl_drop_all s i h1]; rfl
def IHxP (s : ByteArray) (i0 : Nat) (Hb : Heap) (n : Nat) (e : Env) (H : Heap) : Prop :=
  ∃ (i : Nat) (out : List Nat) (a : Option Addr) (c : Nat), i + n = s.size ∧ i0 ≤ i ∧ e 0 = .string s ∧ e 1 = .int .i64 (i : Int) ∧ e 8 = .slice a out.length c ∧ i0 + 2 * out.length ≤ i ∧ e 6 = .pointer (some ⟨Hb.length, 0, none⟩) ∧
    Hb.length + 1 ≤ H.length ∧ H[Hb.length]? = some (.cells [.string ⟨#[]⟩, .bool false, .slice none 0 0] 24 true) ∧ Fr (fun _ => False) Hb H ∧
    (out = [] ∧ a = none ∧ c = 0 ∨ ∃ q, a = some ⟨q, 0, none⟩ ∧ c = 1 ∧ Hb.length < q ∧ 0 < out.length ∧ H[q]? = some (.cells (bv out) 5 true)) ∧
    (out ++ (hxs ((bl s).drop i)).1, (hxs ((bl s).drop i)).2) = hxs ((bl s).drop i0)
def prsV (s : ByteArray) (H : Heap) (base : Nat) (r : Option (Tr × List Nat)) (u : Value) : Prop :=
  ∃ x, (match r with
    | none => u = .tuple #[x, .int .i64 (-1)] ∧ ItemV H (fun i => base ≤ i) (.mk ⟨#[]⟩ false []) x
    | some (t, rest) => u = .tuple #[x, .int .i64 ((s.size - rest.length : Nat) : Int)] ∧ rest.length ≤ s.size ∧ ItemV H (fun i => base ≤ i) t x)
theorem ItemV.empty (H : Heap) (S : Nat → Prop) (t : ByteArray) : ItemV H S (.mk t false []) (.agg #[.string t, .bool false, .slice none 0 0]) := ⟨_, rfl, ItemAt.of (l := []) (fun h => absurd rfl h)⟩
/-- A row of items that grows. -/
def RowI (H : Heap) (base : Nat) (a : Option Addr) (c : Nat) (acc : List Tr) : Prop :=
  acc = [] ∧ a = none ∧ c = 0 ∨ ∃ q cells, a = some ⟨q, 0, none⟩ ∧ c = 3 ∧ base ≤ q ∧ acc ≠ [] ∧ H[q]? = some (.cells cells 24 true) ∧ ItemsAt H (fun x => base ≤ x ∧ x ≠ q) acc cells
theorem RowI.fr {X : Nat → Prop} {H H' : Heap} {base : Nat} {a : Option Addr} {c : Nat} {acc : List Tr} (h : RowI H base a c acc) (hf : Fr X H H') (hx : ∀ i, base ≤ i → i < H.length → ¬ X i) : RowI H' base a c acc := by
  rcases h with h | ⟨q, cells, h1, h2, h3, hn, h4, h5⟩
  · exact .inl h
  · exact .inr ⟨q, cells, h1, h2, h3, hn, hf.2 _ _ (hx q h3 (lt_of_get h4)) h4, ItemsAt.mono (fun x o hs ho => ⟨hs, hf.2 _ _ (hx x hs.1 (lt_of_get ho)) ho⟩) _ _ h5⟩
/-- What stands in a growing row is a tree. -/
theorem RowI.tree {H : Heap} {base : Nat} {a : Option Addr} {c : Nat} {acc : List Tr} (h : RowI H base a c acc) (t : ByteArray) (b : Bool) : ItemV H (fun x => base ≤ x) (.mk t b acc) (.agg #[.string t, .bool b, .slice a acc.length c]) := by
  refine ⟨_, rfl, ItemAt.of fun hne => ?_⟩
  rcases h with ⟨h, _⟩ | ⟨q, cells, h1, h2, h3, hn, h4, h5⟩
  · exact absurd h hne
  · exact ⟨q, _, _, cells, h1, h2, h3, h4, ItemsAt.mono (fun x o hs ho => ⟨hs.1, ho⟩) _ _ h5⟩
/-- One more: the first. -/
theorem RowI.one {H H' : Heap} {base q : Nat} {t : Tr} {us : List Value} (hu : ItemAt H (fun x => base ≤ x) t us) (hf : ∀ (i : Nat) (o : AObj), base ≤ i → H[i]? = some o → H'[i]? = some o) (hq : H'[q]? = some (.cells us 24 true)) (hb : base ≤ q) (hl : H.length ≤ q) : RowI H' base (some ⟨q, 0, none⟩) 3 [t] :=
  .inr ⟨q, us, rfl, rfl, hb, by simp, hq, by
    have := ItemsAt.snoc (l := []) (cs := []) (H := H') (S := fun x => base ≤ x ∧ x ≠ q) ItemsAt.nil (ItemAt.mono (fun x o hs ho => ⟨⟨hs, by have := lt_of_get ho; omega⟩, hf _ _ hs ho⟩) _ _ hu)
    simpa using this⟩
/-- One more: behind others. -/
theorem RowI.more {H H' : Heap} {base q q' : Nat} {acc : List Tr} {cells us : List Value} {t : Tr} (hr : ItemsAt H (fun x => base ≤ x ∧ x ≠ q) acc cells) (hu : ItemAt H (fun x => base ≤ x ∧ x ≠ q) t us) (hf : ∀ (i : Nat) (o : AObj), base ≤ i → i ≠ q → H[i]? = some o → H'[i]? = some o) (hq : H'[q']? = some (.cells (cells ++ us) 24 true)) (hb : base ≤ q') (hl : H.length ≤ q') : RowI H' base (some ⟨q', 0, none⟩) 3 (acc ++ [t]) :=
  .inr ⟨q', _, rfl, rfl, hb, by simp, hq, ItemsAt.snoc (ItemsAt.mono (fun x o hs ho => ⟨⟨hs.1, by have := lt_of_get ho; omega⟩, hf _ _ hs.1 hs.2 ho⟩) _ _ hr) (ItemAt.mono (fun x o hs ho => ⟨⟨hs.1, by have := lt_of_get ho; omega⟩, hf _ _ hs.1 hs.2 ho⟩) _ _ hu)⟩
def IPl (s : ByteArray) (Hb : Heap) (deep F : Nat) (R : Option (List Tr × List Nat)) (n : Nat) (e : Env) (H : Heap) : Prop :=
  ∃ (i : Nat) (acc : List Tr) (a : Option Addr) (c f' : Nat), i + n = s.size ∧ e 0 = .string s ∧ e 1 = .int .i64 (i : Int) ∧ e 2 = .int .i64 (deep : Int) ∧ e 6 = .pointer (some ⟨Hb.length, 0, none⟩) ∧ e 9 = .pointer (some ⟨Hb.length + 1, 0, none⟩) ∧
    Hb.length + 2 ≤ H.length ∧ H[Hb.length]? = some (.cells [.string ⟨#[]⟩, .bool false, .slice none 0 0] 24 true) ∧ H[Hb.length + 1]? = some (.cells [.string ⟨#[]⟩, .bool true, .slice a acc.length c] 24 true) ∧
    Fr (fun _ => False) Hb H ∧ RowI H (Hb.length + 2) a c acc ∧ acc.length ≤ i ∧ f' ≤ F ∧ 2 * (s.size - i) + (if acc = [] then 3 else 1) ≤ f' ∧ lst f' (deep + 1) ((bl s).drop i) acc = R
theorem wParse (s : ByteArray) (hs : s.size ≤ 100000) : ∀ (f : Nat) (deep i : Nat), deep ≤ 17 → i ≤ s.size → 2 * (s.size - i) + 2 ≤ f → ∀ (H : Heap) (m : Ev.Mode), m.lim ≤ H.length → m.fb ≤ H.length → ∀ (k : Nat), f + s.size + 30 ≤ k →
    Run (fun u H' => Fr (fun _ => False) H H' ∧ prsV s H' H.length (prs f deep ((bl s).drop i)) u) mk (acall T0 k 83 [.string s, .int .i64 (i : Int), .int .i64 (deep : Int)] H m) := by
  intro f
  induction f using Nat.strongRecOn with
  | _ f ih =>
    intro deep i hd hi hf H m hm1 hm2 k hk
    obtain ⟨f, rfl⟩ : ∃ q, f = q + 1 := ⟨f - 1, by omega⟩
    obtain ⟨k, rfl⟩ : ∃ q, k = q + 1 := ⟨k - 1, by omega⟩
    refine Run_call (F := ir83) rfl (Nat.le_of_ble_eq_true rfl) ?_
    simp only [ir83]
    have hem : ItemV (H ++ [.cells [.string ⟨#[]⟩, .bool false, .slice none 0 0] 24 true]) (fun i => H.length ≤ i) (.mk ⟨#[]⟩ false []) (.agg #[.string ⟨#[]⟩, .bool false, .slice none 0 0]) := .empty _ _ _
    by_cases hdd : 16 < deep
    · (repeat' first
    | (refine CondV_dec (fun _ => ?_) (fun _ => ?_) <;> try (exfalso; omega))
    | (refine GuardV_td (fun _ => ?_) (fun _ => ?_) <;> try (exfalso; omega))
    | (refine GuardV_fd (fun _ => ?_) (fun _ => ?_) <;> try (exfalso; omega))
    | (refine CondV_split (fun _ => ?_) (fun _ => ?_))
    | (refine Need_of (by first | omega | decide) ?_)
    | refine WpK_cons ?_ ?_
    | refine WpK_guard ?_
    | simp (disch := first | omega | simp only [List.length_append, List.length_set, List.length_cons, List.length_nil] <;> omega | fail) only [evA, ↓evB, ↓astep, ↓aop, aBin, aInt, aStr, aUn, aNil, aMax, aresults, ares, aPack, ↓reduceIte, ↓reduceCtorEq, Nat.reduceEqDiff, Nat.reduceAdd, env0, aLoad, aLoadN, cellsOf, Int.reduceEq, Int.reduceLT, Int.reduceLE, Nat.reduceLeDiff, oneC, aop.fillL, setL, aApp, aAppC_nil, aAppC_own, xop, aSame_ptr, BIG, Bool.or_true, Bool.true_or, Bool.or_false, Bool.false_or, eqCells, eqCell, rowOf, ↓acallop, aBound, aIntOf, flat, flatN, CX_fn, CX_X, CX_pol, aStore, Nat.reduceBEq, List.size_toArray, Int.sub_zero, Int.zero_add, Int.add_zero, Int.toNat_zero, Int.reduceAdd, Int.reduceSub, Int.reduceMul, Int.reduceNeg, Int.reduceToNat, Nat.reduceSub, Nat.reduceMul, Int.natCast_zero, Int.reduceDiv, Int.reduceMod, Int.toNat_natCast, fdiv_nn, min_bits_i, Int.reducePow, Nat.reducePow, Nat.reduceDiv, Nat.reduceMod, mb_i, mb_u, WpC_drawD, WpT_nil, WpT_cons, WpT_guard, WpK_nil, scal])
      all_goals
        refine ⟨.app _ _ _, ?_⟩
        rw [prs_deep hdd]
        exact ⟨_, rfl, hem⟩
    by_cases hie : s.size ≤ i
    · (repeat' first
    | (refine CondV_dec (fun _ => ?_) (fun _ => ?_) <;> try (exfalso; omega))
    | (refine GuardV_td (fun _ => ?_) (fun _ => ?_) <;> try (exfalso; omega))
    | (refine GuardV_fd (fun _ => ?_) (fun _ => ?_) <;> try (exfalso; omega))
    | (refine CondV_split (fun _ => ?_) (fun _ => ?_))
    | (refine Need_of (by first | omega | decide) ?_)
    | refine WpK_cons ?_ ?_
    | refine WpK_guard ?_
    | simp (disch := first | omega | simp only [List.length_append, List.length_set, List.length_cons, List.length_nil] <;> omega | fail) only [evA, ↓evB, ↓astep, ↓aop, aBin, aInt, aStr, aUn, aNil, aMax, aresults, ares, aPack, ↓reduceIte, ↓reduceCtorEq, Nat.reduceEqDiff, Nat.reduceAdd, env0, aLoad, aLoadN, cellsOf, Int.reduceEq, Int.reduceLT, Int.reduceLE, Nat.reduceLeDiff, oneC, aop.fillL, setL, aApp, aAppC_nil, aAppC_own, xop, aSame_ptr, BIG, Bool.or_true, Bool.true_or, Bool.or_false, Bool.false_or, eqCells, eqCell, rowOf, ↓acallop, aBound, aIntOf, flat, flatN, CX_fn, CX_X, CX_pol, aStore, Nat.reduceBEq, List.size_toArray, Int.sub_zero, Int.zero_add, Int.add_zero, Int.toNat_zero, Int.reduceAdd, Int.reduceSub, Int.reduceMul, Int.reduceNeg, Int.reduceToNat, Nat.reduceSub, Nat.reduceMul, Int.natCast_zero, Int.reduceDiv, Int.reduceMod, Int.toNat_natCast, fdiv_nn, min_bits_i, Int.reducePow, Nat.reducePow, Nat.reduceDiv, Nat.reduceMod, mb_i, mb_u, WpC_drawD, WpT_nil, WpT_cons, WpT_guard, WpK_nil, scal])
      refine ⟨.app _ _ _, ?_⟩
      rw [bl_drop_all s i hie, prs_nil]
      exact ⟨_, rfl, hem⟩
    have hil : i < s.size := by omega
    have hlt := bAt_lt s i
    have hcons := bl_drop s i hil
    by_cases h45 : bAt s i = 45
    · have e45 : (bAt s i : Int) = 45 := by omega
      (repeat' first
    | (refine CondV_dec (fun _ => ?_) (fun _ => ?_) <;> try (exfalso; omega))
    | (refine GuardV_td (fun _ => ?_) (fun _ => ?_) <;> try (exfalso; omega))
    | (refine GuardV_fd (fun _ => ?_) (fun _ => ?_) <;> try (exfalso; omega))
    | (refine CondV_split (fun _ => ?_) (fun _ => ?_))
    | (refine Need_of (by first | omega | decide) ?_)
    | refine WpK_cons ?_ ?_
    | refine WpK_guard ?_
    | simp (disch := first | omega | simp only [List.length_append, List.length_set, List.length_cons, List.length_nil] <;> omega | fail) only [evA, ↓evB, ↓astep, ↓aop, aBin, aInt, aStr, aUn, aNil, aMax, aresults, ares, aPack, ↓reduceIte, ↓reduceCtorEq, Nat.reduceEqDiff, Nat.reduceAdd, env0, aLoad, aLoadN, cellsOf, Int.reduceEq, Int.reduceLT, Int.reduceLE, Nat.reduceLeDiff, oneC, aop.fillL, setL, aApp, aAppC_nil, aAppC_own, xop, aSame_ptr, BIG, Bool.or_true, Bool.true_or, Bool.or_false, Bool.false_or, eqCells, eqCell, rowOf, ↓acallop, aBound, aIntOf, flat, flatN, CX_fn, CX_X, CX_pol, aStore, Nat.reduceBEq, List.size_toArray, Int.sub_zero, Int.zero_add, Int.add_zero, Int.toNat_zero, Int.reduceAdd, Int.reduceSub, Int.reduceMul, Int.reduceNeg, Int.reduceToNat, Nat.reduceSub, Nat.reduceMul, Int.natCast_zero, Int.reduceDiv, Int.reduceMod, Int.toNat_natCast, fdiv_nn, min_bits_i, Int.reducePow, Nat.reducePow, Nat.reduceDiv, Nat.reduceMod, mb_i, mb_u, WpC_drawD, WpT_nil, WpT_cons, WpT_guard, WpK_nil, scal, e45])
      refine ⟨.app _ _ _, ?_⟩
      rw [hcons, prs_cons hdd]
      simp only [h45, if_true]
      refine ⟨_, ?_, ?_, hem⟩
      · rw [List.length_drop, bl_length, show ((s.size - (s.size - (i + 1)) : Nat) : Int) = (i : Int) + 1 by omega]
      · rw [List.length_drop, bl_length]; omega
    by_cases h40 : bAt s i = 40
    · have e40 : (bAt s i : Int) = 40 := by omega
      have hpr : prs (f + 1) deep ((bl s).drop i) = (lst f (deep + 1) ((bl s).drop (i + 1)) []).map fun p => (.mk ⟨#[]⟩ true p.1, p.2) := by
        rw [hcons, prs_cons hdd]; simp only [if_neg h45, if_pos h40]
      rw [hpr]
      obtain ⟨R, hR⟩ : ∃ R, R = lst f (deep + 1) ((bl s).drop (i + 1)) [] := ⟨_, rfl⟩
      rw [← hR]
      (repeat' first
    | (refine CondV_dec (fun _ => ?_) (fun _ => ?_) <;> try (exfalso; omega))
    | (refine GuardV_td (fun _ => ?_) (fun _ => ?_) <;> try (exfalso; omega))
    | (refine GuardV_fd (fun _ => ?_) (fun _ => ?_) <;> try (exfalso; omega))
    | (refine CondV_split (fun _ => ?_) (fun _ => ?_))
    | (refine Need_of (by first | omega | decide) ?_)
    | refine WpK_cons ?_ ?_
    | refine WpK_guard ?_
    | simp (disch := first | omega | simp only [List.length_append, List.length_set, List.length_cons, List.length_nil] <;> omega | fail) only [evA, ↓evB, ↓astep, ↓aop, aBin, aInt, aStr, aUn, aNil, aMax, aresults, ares, aPack, ↓reduceIte, ↓reduceCtorEq, Nat.reduceEqDiff, Nat.reduceAdd, env0, aLoad, aLoadN, cellsOf, Int.reduceEq, Int.reduceLT, Int.reduceLE, Nat.reduceLeDiff, oneC, aop.fillL, setL, aApp, aAppC_nil, aAppC_own, xop, aSame_ptr, BIG, Bool.or_true, Bool.true_or, Bool.or_false, Bool.false_or, eqCells, eqCell, rowOf, ↓acallop, aBound, aIntOf, flat, flatN, CX_fn, CX_X, CX_pol, aStore, Nat.reduceBEq, List.size_toArray, Int.sub_zero, Int.zero_add, Int.add_zero, Int.toNat_zero, Int.reduceAdd, Int.reduceSub, Int.reduceMul, Int.reduceNeg, Int.reduceToNat, Nat.reduceSub, Nat.reduceMul, Int.natCast_zero, Int.reduceDiv, Int.reduceMod, Int.toNat_natCast, fdiv_nn, min_bits_i, Int.reducePow, Nat.reducePow, Nat.reduceDiv, Nat.reduceMod, mb_i, mb_u, WpC_drawD, WpT_nil, WpT_cons, WpT_guard, WpK_nil, scal, e40])
      refine WpC_loop (IPl s H deep f R) ?_ (n := s.size - (i + 1)) (show s.size - (i + 1) < k by omega) ?_
      · rintro n e H1 ⟨x, acc, a, c, f', hx, g0, g1, g2, g6, g9, hL1, hz6, hz9, hfr1, hrow, hax, hfF, hf', hr⟩
        have w1 : IntKind.i64.wrap ((x : Int) + 1) = (x : Int) + 1 := wrap_i64 _ (by omega) (by omega)
        have hL6 := lt_of_get hz6
        have hL9 := lt_of_get hz9
        by_cases hxe : s.size ≤ x
        · rw [bl_drop_all s x hxe, lst_nil] at hr
          simp only [lp83_1, evA, ↓evB, ↓astep, ↓aop, aBin, aInt, aStr, aUn, aNil, aMax, aresults, ares, aPack, ↓reduceIte, ↓reduceCtorEq, Nat.reduceEqDiff, Nat.reduceAdd, env0, aLoad, aLoadN, cellsOf, Int.reduceEq, Int.reduceLT, Int.reduceLE, Nat.reduceLeDiff, oneC, aop.fillL, setL, aApp, aAppC_nil, aAppC_own, xop, aSame_ptr, BIG, Bool.or_true, Bool.true_or, Bool.or_false, Bool.false_or, eqCells, eqCell, rowOf, ↓acallop, aBound, aIntOf, flat, flatN, CX_fn, CX_X, CX_pol, aStore, Nat.reduceBEq, List.size_toArray, Int.sub_zero, Int.zero_add, Int.add_zero, Int.toNat_zero, Int.reduceAdd, Int.reduceSub, Int.reduceMul, Int.reduceNeg, Int.reduceToNat, Nat.reduceSub, Nat.reduceMul, Int.natCast_zero, Int.reduceDiv, Int.reduceMod, Int.toNat_natCast, fdiv_nn, min_bits_i, Int.reducePow, Nat.reducePow, Nat.reduceDiv, Nat.reduceMod, mb_i, mb_u, WpC_drawD, WpT_nil, WpT_cons, WpT_guard, WpK_nil, scal, g0, g1, g2, g6, g9, T0]
          (repeat' first
    | (refine CondV_dec (fun _ => ?_) (fun _ => ?_) <;> try (exfalso; omega))
    | (refine GuardV_td (fun _ => ?_) (fun _ => ?_) <;> try (exfalso; omega))
    | (refine GuardV_fd (fun _ => ?_) (fun _ => ?_) <;> try (exfalso; omega))
    | (refine CondV_split (fun _ => ?_) (fun _ => ?_))
    | (refine Need_of (by first | omega | decide) ?_)
    | refine WpK_cons ?_ ?_
    | refine WpK_guard ?_
    | simp (disch := first | omega | simp only [List.length_append, List.length_set, List.length_cons, List.length_nil] <;> omega | fail) only [evA, ↓evB, ↓astep, ↓aop, aBin, aInt, aStr, aUn, aNil, aMax, aresults, ares, aPack, ↓reduceIte, ↓reduceCtorEq, Nat.reduceEqDiff, Nat.reduceAdd, env0, aLoad, aLoadN, cellsOf, Int.reduceEq, Int.reduceLT, Int.reduceLE, Nat.reduceLeDiff, oneC, aop.fillL, setL, aApp, aAppC_nil, aAppC_own, xop, aSame_ptr, BIG, Bool.or_true, Bool.true_or, Bool.or_false, Bool.false_or, eqCells, eqCell, rowOf, ↓acallop, aBound, aIntOf, flat, flatN, CX_fn, CX_X, CX_pol, aStore, Nat.reduceBEq, List.size_toArray, Int.sub_zero, Int.zero_add, Int.add_zero, Int.toNat_zero, Int.reduceAdd, Int.reduceSub, Int.reduceMul, Int.reduceNeg, Int.reduceToNat, Nat.reduceSub, Nat.reduceMul, Int.natCast_zero, Int.reduceDiv, Int.reduceMod, Int.toNat_natCast, fdiv_nn, min_bits_i, Int.reducePow, Nat.reducePow, Nat.reduceDiv, Nat.reduceMod, mb_i, mb_u, WpC_drawD, WpT_nil, WpT_cons, WpT_guard, WpK_nil, scal, g0, g1, g2, g6, g9, hz6, hz9])
          rw [← hr]
          exact ⟨hfr1.new (.set (X := fun y => y = H.length) rfl _) (fun y hy => .inr (by omega)), _, rfl, .empty _ _ _⟩
        have hxl : x < s.size := by omega
        have hxc := bl_drop s x hxl
        obtain ⟨f'', rfl⟩ : ∃ q, f' = q + 1 := ⟨f' - 1, by split at hf' <;> omega⟩
        rw [hxc, lst_cons] at hr
        have hb := bAt_lt s x
        by_cases h41 : bAt s x = 41
        · have e41 : (bAt s x : Int) = 41 := by omega
          rw [if_pos h41] at hr
          simp only [lp83_1, evA, ↓evB, ↓astep, ↓aop, aBin, aInt, aStr, aUn, aNil, aMax, aresults, ares, aPack, ↓reduceIte, ↓reduceCtorEq, Nat.reduceEqDiff, Nat.reduceAdd, env0, aLoad, aLoadN, cellsOf, Int.reduceEq, Int.reduceLT, Int.reduceLE, Nat.reduceLeDiff, oneC, aop.fillL, setL, aApp, aAppC_nil, aAppC_own, xop, aSame_ptr, BIG, Bool.or_true, Bool.true_or, Bool.or_false, Bool.false_or, eqCells, eqCell, rowOf, ↓acallop, aBound, aIntOf, flat, flatN, CX_fn, CX_X, CX_pol, aStore, Nat.reduceBEq, List.size_toArray, Int.sub_zero, Int.zero_add, Int.add_zero, Int.toNat_zero, Int.reduceAdd, Int.reduceSub, Int.reduceMul, Int.reduceNeg, Int.reduceToNat, Nat.reduceSub, Nat.reduceMul, Int.natCast_zero, Int.reduceDiv, Int.reduceMod, Int.toNat_natCast, fdiv_nn, min_bits_i, Int.reducePow, Nat.reducePow, Nat.reduceDiv, Nat.reduceMod, mb_i, mb_u, WpC_drawD, WpT_nil, WpT_cons, WpT_guard, WpK_nil, scal, g0, g1, g2, g6, g9, T0]
          (repeat' first
    | (refine CondV_dec (fun _ => ?_) (fun _ => ?_) <;> try (exfalso; omega))
    | (refine GuardV_td (fun _ => ?_) (fun _ => ?_) <;> try (exfalso; omega))
    | (refine GuardV_fd (fun _ => ?_) (fun _ => ?_) <;> try (exfalso; omega))
    | (refine CondV_split (fun _ => ?_) (fun _ => ?_))
    | (refine Need_of (by first | omega | decide) ?_)
    | refine WpK_cons ?_ ?_
    | refine WpK_guard ?_
    | simp (disch := first | omega | simp only [List.length_append, List.length_set, List.length_cons, List.length_nil] <;> omega | fail) only [evA, ↓evB, ↓astep, ↓aop, aBin, aInt, aStr, aUn, aNil, aMax, aresults, ares, aPack, ↓reduceIte, ↓reduceCtorEq, Nat.reduceEqDiff, Nat.reduceAdd, env0, aLoad, aLoadN, cellsOf, Int.reduceEq, Int.reduceLT, Int.reduceLE, Nat.reduceLeDiff, oneC, aop.fillL, setL, aApp, aAppC_nil, aAppC_own, xop, aSame_ptr, BIG, Bool.or_true, Bool.true_or, Bool.or_false, Bool.false_or, eqCells, eqCell, rowOf, ↓acallop, aBound, aIntOf, flat, flatN, CX_fn, CX_X, CX_pol, aStore, Nat.reduceBEq, List.size_toArray, Int.sub_zero, Int.zero_add, Int.add_zero, Int.toNat_zero, Int.reduceAdd, Int.reduceSub, Int.reduceMul, Int.reduceNeg, Int.reduceToNat, Nat.reduceSub, Nat.reduceMul, Int.natCast_zero, Int.reduceDiv, Int.reduceMod, Int.toNat_natCast, fdiv_nn, min_bits_i, Int.reducePow, Nat.reducePow, Nat.reduceDiv, Nat.reduceMod, mb_i, mb_u, WpC_drawD, WpT_nil, WpT_cons, WpT_guard, WpK_nil, scal, g0, g1, g2, g6, g9, hz6, hz9, e41])
          rw [← hr]
          have hfs : Fr (fun y => y = H.length) H1 (H1.set H.length (.cells [.string ⟨#[]⟩, .bool true, .slice a acc.length c] 24 true)) := .set (X := fun y => y = H.length) rfl _
          refine ⟨hfr1.new hfs (fun y hy => .inr (by omega)), .agg #[.string ⟨#[]⟩, .bool true, .slice a acc.length c], ?_, ?_, ?_⟩
          · rw [List.length_drop, bl_length, show ((s.size - (s.size - (x + 1)) : Nat) : Int) = (x : Int) + 1 by omega]
          · rw [List.length_drop, bl_length]; omega
          · exact ((hrow.fr hfs (fun y hy _ => by omega)).tree _ _).mono fun y o hy ho => ⟨by omega, ho⟩
        rw [if_neg h41] at hr
        have h41i : ¬ (bAt s x : Int) = 41 := by omega
        have hzs : Fr (fun y => y = H.length) H1 (H1.set H.length (.cells [.string ⟨#[]⟩, .bool false, .slice none 0 0] 24 true)) := .set (X := fun y => y = H.length) rfl _
        by_cases hsep : acc ≠ [] ∧ bAt s x ≠ 32
        · rw [if_pos hsep] at hr
          have h32i : ¬ (bAt s x : Int) = 32 := by omega
          have hal : 0 < acc.length := List.length_pos_iff.2 hsep.1
          simp only [lp83_1, evA, ↓evB, ↓astep, ↓aop, aBin, aInt, aStr, aUn, aNil, aMax, aresults, ares, aPack, ↓reduceIte, ↓reduceCtorEq, Nat.reduceEqDiff, Nat.reduceAdd, env0, aLoad, aLoadN, cellsOf, Int.reduceEq, Int.reduceLT, Int.reduceLE, Nat.reduceLeDiff, oneC, aop.fillL, setL, aApp, aAppC_nil, aAppC_own, xop, aSame_ptr, BIG, Bool.or_true, Bool.true_or, Bool.or_false, Bool.false_or, eqCells, eqCell, rowOf, ↓acallop, aBound, aIntOf, flat, flatN, CX_fn, CX_X, CX_pol, aStore, Nat.reduceBEq, List.size_toArray, Int.sub_zero, Int.zero_add, Int.add_zero, Int.toNat_zero, Int.reduceAdd, Int.reduceSub, Int.reduceMul, Int.reduceNeg, Int.reduceToNat, Nat.reduceSub, Nat.reduceMul, Int.natCast_zero, Int.reduceDiv, Int.reduceMod, Int.toNat_natCast, fdiv_nn, min_bits_i, Int.reducePow, Nat.reducePow, Nat.reduceDiv, Nat.reduceMod, mb_i, mb_u, WpC_drawD, WpT_nil, WpT_cons, WpT_guard, WpK_nil, scal, g0, g1, g2, g6, g9, T0]
          (repeat' first
    | (refine CondV_dec (fun _ => ?_) (fun _ => ?_) <;> try (exfalso; omega))
    | (refine GuardV_td (fun _ => ?_) (fun _ => ?_) <;> try (exfalso; omega))
    | (refine GuardV_fd (fun _ => ?_) (fun _ => ?_) <;> try (exfalso; omega))
    | (refine CondV_split (fun _ => ?_) (fun _ => ?_))
    | (refine Need_of (by first | omega | decide) ?_)
    | refine WpK_cons ?_ ?_
    | refine WpK_guard ?_
    | simp (disch := first | omega | simp only [List.length_append, List.length_set, List.length_cons, List.length_nil] <;> omega | fail) only [evA, ↓evB, ↓astep, ↓aop, aBin, aInt, aStr, aUn, aNil, aMax, aresults, ares, aPack, ↓reduceIte, ↓reduceCtorEq, Nat.reduceEqDiff, Nat.reduceAdd, env0, aLoad, aLoadN, cellsOf, Int.reduceEq, Int.reduceLT, Int.reduceLE, Nat.reduceLeDiff, oneC, aop.fillL, setL, aApp, aAppC_nil, aAppC_own, xop, aSame_ptr, BIG, Bool.or_true, Bool.true_or, Bool.or_false, Bool.false_or, eqCells, eqCell, rowOf, ↓acallop, aBound, aIntOf, flat, flatN, CX_fn, CX_X, CX_pol, aStore, Nat.reduceBEq, List.size_toArray, Int.sub_zero, Int.zero_add, Int.add_zero, Int.toNat_zero, Int.reduceAdd, Int.reduceSub, Int.reduceMul, Int.reduceNeg, Int.reduceToNat, Nat.reduceSub, Nat.reduceMul, Int.natCast_zero, Int.reduceDiv, Int.reduceMod, Int.toNat_natCast, fdiv_nn, min_bits_i, Int.reducePow, Nat.reducePow, Nat.reduceDiv, Nat.reduceMod, mb_i, mb_u, WpC_drawD, WpT_nil, WpT_cons, WpT_guard, WpK_nil, scal, g0, g1, g2, g6, g9, hz6, hz9, h41i, h32i])
          rw [← hr]
          exact ⟨hfr1.new hzs (fun y hy => .inr (by omega)), _, rfl, .empty _ _ _⟩
        rw [if_neg hsep] at hr
        obtain ⟨i', hi'⟩ : ∃ i', i' = if acc = [] then x else x + 1 := ⟨_, rfl⟩
        have hin : (if acc = [] then bAt s x :: (bl s).drop (x + 1) else (bl s).drop (x + 1)) = (bl s).drop i' := by
          rw [hi']; split
          · exact hxc.symm
          · rfl
        rw [hin] at hr
        have hxi : x ≤ i' ∧ i' ≤ x + 1 := by rw [hi']; split <;> omega
        have hfu : 2 * (s.size - i') + 2 ≤ f'' := by rw [hi']; split <;> rename_i h <;> simp only [h, if_true, if_false] at hf' <;> omega
        obtain ⟨u, H2, hcall, hfr2, xv, hpv⟩ := Run_get (ih f'' (by omega) (deep + 1) i' (by omega) (by omega) hfu H1 m (by omega) (by omega) k (by omega))
        have hcall := hcall k (Nat.le_refl _)
        rw [show ((deep + 1 : Nat) : Int) = (deep : Int) + 1 by omega] at hcall
        have hL2 := hfr2.1
        have hz6b := hfr2.2 _ _ (fun h => h) hz6
        have hz9b := hfr2.2 _ _ (fun h => h) hz9
        have hrow2 := hrow.fr hfr2 (fun _ _ _ h => h)
        cases hp : prs f'' (deep + 1) ((bl s).drop i') with
        | none =>
          rw [hp] at hr hpv
          simp only at hr hpv
          obtain ⟨rfl, xs, rfl, hxt⟩ := hpv
          obtain ⟨xa, xc, rfl, hxs⟩ := hxt.cells
          simp only [Tr.text, Tr.list, Tr.sub, List.length_nil] at hcall
          simp only [T0] at hcall
          simp only [lp83_1, evA, ↓evB, ↓astep, ↓aop, aBin, aInt, aStr, aUn, aNil, aMax, aresults, ares, aPack, ↓reduceIte, ↓reduceCtorEq, Nat.reduceEqDiff, Nat.reduceAdd, env0, aLoad, aLoadN, cellsOf, Int.reduceEq, Int.reduceLT, Int.reduceLE, Nat.reduceLeDiff, oneC, aop.fillL, setL, aApp, aAppC_nil, aAppC_own, xop, aSame_ptr, BIG, Bool.or_true, Bool.true_or, Bool.or_false, Bool.false_or, eqCells, eqCell, rowOf, ↓acallop, aBound, aIntOf, flat, flatN, CX_fn, CX_X, CX_pol, aStore, Nat.reduceBEq, List.size_toArray, Int.sub_zero, Int.zero_add, Int.add_zero, Int.toNat_zero, Int.reduceAdd, Int.reduceSub, Int.reduceMul, Int.reduceNeg, Int.reduceToNat, Nat.reduceSub, Nat.reduceMul, Int.natCast_zero, Int.reduceDiv, Int.reduceMod, Int.toNat_natCast, fdiv_nn, min_bits_i, Int.reducePow, Nat.reducePow, Nat.reduceDiv, Nat.reduceMod, mb_i, mb_u, WpC_drawD, WpT_nil, WpT_cons, WpT_guard, WpK_nil, scal, g0, g1, g2, g6, g9, T0]
          by_cases hacc : acc = []
          · rw [if_pos hacc] at hi'
            subst hi'
            have hal : acc.length = 0 := by rw [hacc]; rfl
            (repeat' first
    | (refine CondV_dec (fun _ => ?_) (fun _ => ?_) <;> try (exfalso; omega))
    | (refine GuardV_td (fun _ => ?_) (fun _ => ?_) <;> try (exfalso; omega))
    | (refine GuardV_fd (fun _ => ?_) (fun _ => ?_) <;> try (exfalso; omega))
    | (refine CondV_split (fun _ => ?_) (fun _ => ?_))
    | (refine Need_of (by first | omega | decide) ?_)
    | refine WpK_cons ?_ ?_
    | refine WpK_guard ?_
    | simp (disch := first | omega | simp only [List.length_append, List.length_set, List.length_cons, List.length_nil] <;> omega | fail) only [evA, ↓evB, ↓astep, ↓aop, aBin, aInt, aStr, aUn, aNil, aMax, aresults, ares, aPack, ↓reduceIte, ↓reduceCtorEq, Nat.reduceEqDiff, Nat.reduceAdd, env0, aLoad, aLoadN, cellsOf, Int.reduceEq, Int.reduceLT, Int.reduceLE, Nat.reduceLeDiff, oneC, aop.fillL, setL, aApp, aAppC_nil, aAppC_own, xop, aSame_ptr, BIG, Bool.or_true, Bool.true_or, Bool.or_false, Bool.false_or, eqCells, eqCell, rowOf, ↓acallop, aBound, aIntOf, flat, flatN, CX_fn, CX_X, CX_pol, aStore, Nat.reduceBEq, List.size_toArray, Int.sub_zero, Int.zero_add, Int.add_zero, Int.toNat_zero, Int.reduceAdd, Int.reduceSub, Int.reduceMul, Int.reduceNeg, Int.reduceToNat, Nat.reduceSub, Nat.reduceMul, Int.natCast_zero, Int.reduceDiv, Int.reduceMod, Int.toNat_natCast, fdiv_nn, min_bits_i, Int.reducePow, Nat.reducePow, Nat.reduceDiv, Nat.reduceMod, mb_i, mb_u, WpC_drawD, WpT_nil, WpT_cons, WpT_guard, WpK_nil, scal, g0, g1, g2, g6, g9, hz6, hz9, h41i, hcall, hz6b, hz9b])
            rw [← hr]
            exact ⟨(hfr1.trans hfr2).new ((Fr.set (X := fun y => y = H.length) rfl _).appl _) (fun y hy => .inr (by omega)), _, rfl, .empty _ _ _⟩
          · rw [if_neg hacc] at hi'
            subst hi'
            have hal : 0 < acc.length := List.length_pos_iff.2 hacc
            have h32 : (bAt s x : Int) = 32 := by
              by_cases h : bAt s x = 32
              · omega
              · exact absurd ⟨hacc, h⟩ hsep
            rw [show ((x + 1 : Nat) : Int) = (x : Int) + 1 by omega] at hcall
            (repeat' first
    | (refine CondV_dec (fun _ => ?_) (fun _ => ?_) <;> try (exfalso; omega))
    | (refine GuardV_td (fun _ => ?_) (fun _ => ?_) <;> try (exfalso; omega))
    | (refine GuardV_fd (fun _ => ?_) (fun _ => ?_) <;> try (exfalso; omega))
    | (refine CondV_split (fun _ => ?_) (fun _ => ?_))
    | (refine Need_of (by first | omega | decide) ?_)
    | refine WpK_cons ?_ ?_
    | refine WpK_guard ?_
    | simp (disch := first | omega | simp only [List.length_append, List.length_set, List.length_cons, List.length_nil] <;> omega | fail) only [evA, ↓evB, ↓astep, ↓aop, aBin, aInt, aStr, aUn, aNil, aMax, aresults, ares, aPack, ↓reduceIte, ↓reduceCtorEq, Nat.reduceEqDiff, Nat.reduceAdd, env0, aLoad, aLoadN, cellsOf, Int.reduceEq, Int.reduceLT, Int.reduceLE, Nat.reduceLeDiff, oneC, aop.fillL, setL, aApp, aAppC_nil, aAppC_own, xop, aSame_ptr, BIG, Bool.or_true, Bool.true_or, Bool.or_false, Bool.false_or, eqCells, eqCell, rowOf, ↓acallop, aBound, aIntOf, flat, flatN, CX_fn, CX_X, CX_pol, aStore, Nat.reduceBEq, List.size_toArray, Int.sub_zero, Int.zero_add, Int.add_zero, Int.toNat_zero, Int.reduceAdd, Int.reduceSub, Int.reduceMul, Int.reduceNeg, Int.reduceToNat, Nat.reduceSub, Nat.reduceMul, Int.natCast_zero, Int.reduceDiv, Int.reduceMod, Int.toNat_natCast, fdiv_nn, min_bits_i, Int.reducePow, Nat.reducePow, Nat.reduceDiv, Nat.reduceMod, mb_i, mb_u, WpC_drawD, WpT_nil, WpT_cons, WpT_guard, WpK_nil, scal, g0, g1, g2, g6, g9, w1, hz6, hz9, h41i, h32, hcall, hz6b, hz9b])
            rw [← hr]
            exact ⟨(hfr1.trans hfr2).new ((Fr.set (X := fun y => y = H.length) rfl _).appl _) (fun y hy => .inr (by omega)), _, rfl, .empty _ _ _⟩
        | some p =>
          obtain ⟨y, rest⟩ := p
          rw [hp] at hr hpv
          simp only at hr hpv
          obtain ⟨rfl, hrl, xs, rfl, hxt⟩ := hpv
          obtain ⟨xa, xc, rfl, hxs⟩ := hxt.cells
          obtain ⟨r1, _, r3⟩ := prs_rest (by omega) hp
          rw [r3] at hr
          obtain ⟨nx, hnx⟩ : ∃ nx, nx = s.size - rest.length := ⟨_, rfl⟩
          rw [← hnx] at hr r1 hcall
          simp only [T0] at hcall
          simp only [lp83_1, evA, ↓evB, ↓astep, ↓aop, aBin, aInt, aStr, aUn, aNil, aMax, aresults, ares, aPack, ↓reduceIte, ↓reduceCtorEq, Nat.reduceEqDiff, Nat.reduceAdd, env0, aLoad, aLoadN, cellsOf, Int.reduceEq, Int.reduceLT, Int.reduceLE, Nat.reduceLeDiff, oneC, aop.fillL, setL, aApp, aAppC_nil, aAppC_own, xop, aSame_ptr, BIG, Bool.or_true, Bool.true_or, Bool.or_false, Bool.false_or, eqCells, eqCell, rowOf, ↓acallop, aBound, aIntOf, flat, flatN, CX_fn, CX_X, CX_pol, aStore, Nat.reduceBEq, List.size_toArray, Int.sub_zero, Int.zero_add, Int.add_zero, Int.toNat_zero, Int.reduceAdd, Int.reduceSub, Int.reduceMul, Int.reduceNeg, Int.reduceToNat, Nat.reduceSub, Nat.reduceMul, Int.natCast_zero, Int.reduceDiv, Int.reduceMod, Int.toNat_natCast, fdiv_nn, min_bits_i, Int.reducePow, Nat.reducePow, Nat.reduceDiv, Nat.reduceMod, mb_i, mb_u, WpC_drawD, WpT_nil, WpT_cons, WpT_guard, WpK_nil, scal, g0, g1, g2, g6, g9, T0]
          by_cases hacc : acc = []
          · rw [if_pos hacc] at hi'
            subst hi'
            have hal : acc.length = 0 := by rw [hacc]; rfl
            rcases hrow2 with ⟨_, rfl, rfl⟩ | ⟨q, cells, _, _, _, hne, _⟩
            · (repeat' first
    | (refine CondV_dec (fun _ => ?_) (fun _ => ?_) <;> try (exfalso; omega))
    | (refine GuardV_td (fun _ => ?_) (fun _ => ?_) <;> try (exfalso; omega))
    | (refine GuardV_fd (fun _ => ?_) (fun _ => ?_) <;> try (exfalso; omega))
    | (refine CondV_split (fun _ => ?_) (fun _ => ?_))
    | (refine Need_of (by first | omega | decide) ?_)
    | refine WpK_cons ?_ ?_
    | refine WpK_guard ?_
    | simp (disch := first | omega | simp only [List.length_append, List.length_set, List.length_cons, List.length_nil] <;> omega | fail) only [evA, ↓evB, ↓astep, ↓aop, aBin, aInt, aStr, aUn, aNil, aMax, aresults, ares, aPack, ↓reduceIte, ↓reduceCtorEq, Nat.reduceEqDiff, Nat.reduceAdd, env0, aLoad, aLoadN, cellsOf, Int.reduceEq, Int.reduceLT, Int.reduceLE, Nat.reduceLeDiff, oneC, aop.fillL, setL, aApp, aAppC_nil, aAppC_own, xop, aSame_ptr, BIG, Bool.or_true, Bool.true_or, Bool.or_false, Bool.false_or, eqCells, eqCell, rowOf, ↓acallop, aBound, aIntOf, flat, flatN, CX_fn, CX_X, CX_pol, aStore, Nat.reduceBEq, List.size_toArray, Int.sub_zero, Int.zero_add, Int.add_zero, Int.toNat_zero, Int.reduceAdd, Int.reduceSub, Int.reduceMul, Int.reduceNeg, Int.reduceToNat, Nat.reduceSub, Nat.reduceMul, Int.natCast_zero, Int.reduceDiv, Int.reduceMod, Int.toNat_natCast, fdiv_nn, min_bits_i, Int.reducePow, Nat.reducePow, Nat.reduceDiv, Nat.reduceMod, mb_i, mb_u, WpC_drawD, WpT_nil, WpT_cons, WpT_guard, WpK_nil, scal, g0, g1, g2, g6, g9, hz6, hz9, h41i, hcall, hz6b, hz9b])
              obtain ⟨Hz, hHz⟩ : ∃ Hz : Heap, Hz = H2.set (H.length + 1) (.cells [.string ⟨#[]⟩, .bool true, .slice (some ⟨H2.length + 2, 0, none⟩) 1 3] 24 true) ++ [.cells [.string y.text, .bool y.list, .slice xa y.sub.length xc] 24 true, .cells [.string y.text, .bool y.list, .slice xa y.sub.length xc] 24 true, .cells [.string y.text, .bool y.list, .slice xa y.sub.length xc] 24 true] := ⟨_, rfl⟩
              rw [← hHz]
              have hLz : Hz.length = H2.length + 3 := by rw [hHz]; simp
              have hfz : Fr (fun z => z = H.length + 1) H2 Hz := by rw [hHz]; exact (Fr.set (X := fun z => z = H.length + 1) rfl _).appl _
              have hut : ItemAt H2 (fun z => H.length + 2 ≤ z) y [.string y.text, .bool y.list, .slice xa y.sub.length xc] := ItemAt.mono (fun z o hz ho => ⟨by omega, ho⟩) _ _ hxt
              subst hacc
              refine ⟨s.size - nx, by omega, nx, [y], some ⟨H2.length + 2, 0, none⟩, 3, f'', by omega, by (first | rfl | (simp only [Env_put_some, Env_put_none, ↓Env_set_at, ↓reduceIte, Nat.reduceEqDiff, g0] <;> rfl)), by (first | rfl | (simp only [Env_put_some, Env_put_none, ↓Env_set_at, ↓reduceIte, Nat.reduceEqDiff] <;> rfl)), by (first | rfl | (simp only [Env_put_some, Env_put_none, ↓Env_set_at, ↓reduceIte, Nat.reduceEqDiff, g2] <;> rfl)), by (first | rfl | (simp only [Env_put_some, Env_put_none, ↓Env_set_at, ↓reduceIte, Nat.reduceEqDiff, g6] <;> rfl)), by (first | rfl | (simp only [Env_put_some, Env_put_none, ↓Env_set_at, ↓reduceIte, Nat.reduceEqDiff, g9] <;> rfl)), by omega, hfz.2 _ _ (by omega) hz6b, ?_, (hfr1.trans hfr2).new hfz (fun z hz => .inr (by omega)), RowI.one hut (fun z o hz ho => hfz.2 _ _ (by omega) ho) (by rw [hHz, happ_ge (by simp)]; simp) (by omega) (by omega), by simp; omega, by omega, ?_, hr⟩
              · rw [hHz, happ_l (by simp; omega), hset_self (by omega)]; rfl
              · rw [if_neg (by simp)]; simp only [if_true] at hf'; omega
            · exact absurd hacc hne
          · rw [if_neg hacc] at hi'
            subst hi'
            have hal : 0 < acc.length := List.length_pos_iff.2 hacc
            have h32 : (bAt s x : Int) = 32 := by
              by_cases h : bAt s x = 32
              · omega
              · exact absurd ⟨hacc, h⟩ hsep
            rw [show ((x + 1 : Nat) : Int) = (x : Int) + 1 by omega] at hcall
            rcases hrow2 with ⟨h, _⟩ | ⟨q, cells, rfl, rfl, hq1, hne, hq2, hq3⟩
            · exact absurd h hacc
            · have hcl := hq3.length
              have hlq := lt_of_get hq2
              have htk : List.take (acc.length * 3) cells = cells := List.take_of_length_le (by omega)
              (repeat' first
    | (refine CondV_dec (fun _ => ?_) (fun _ => ?_) <;> try (exfalso; omega))
    | (refine GuardV_td (fun _ => ?_) (fun _ => ?_) <;> try (exfalso; omega))
    | (refine GuardV_fd (fun _ => ?_) (fun _ => ?_) <;> try (exfalso; omega))
    | (refine CondV_split (fun _ => ?_) (fun _ => ?_))
    | (refine Need_of (by first | omega | decide) ?_)
    | refine WpK_cons ?_ ?_
    | refine WpK_guard ?_
    | simp (disch := first | omega | simp only [List.length_append, List.length_set, List.length_cons, List.length_nil] <;> omega | fail) only [evA, ↓evB, ↓astep, ↓aop, aBin, aInt, aStr, aUn, aNil, aMax, aresults, ares, aPack, ↓reduceIte, ↓reduceCtorEq, Nat.reduceEqDiff, Nat.reduceAdd, env0, aLoad, aLoadN, cellsOf, Int.reduceEq, Int.reduceLT, Int.reduceLE, Nat.reduceLeDiff, oneC, aop.fillL, setL, aApp, aAppC_nil, aAppC_own, xop, aSame_ptr, BIG, Bool.or_true, Bool.true_or, Bool.or_false, Bool.false_or, eqCells, eqCell, rowOf, ↓acallop, aBound, aIntOf, flat, flatN, CX_fn, CX_X, CX_pol, aStore, Nat.reduceBEq, List.size_toArray, Int.sub_zero, Int.zero_add, Int.add_zero, Int.toNat_zero, Int.reduceAdd, Int.reduceSub, Int.reduceMul, Int.reduceNeg, Int.reduceToNat, Nat.reduceSub, Nat.reduceMul, Int.natCast_zero, Int.reduceDiv, Int.reduceMod, Int.toNat_natCast, fdiv_nn, min_bits_i, Int.reducePow, Nat.reducePow, Nat.reduceDiv, Nat.reduceMod, mb_i, mb_u, WpC_drawD, WpT_nil, WpT_cons, WpT_guard, WpK_nil, scal, g0, g1, g2, g6, g9, w1, hz6, hz9, h41i, h32, hcall, hz6b, hz9b, hq2, htk])
              obtain ⟨Hz, hHz⟩ : ∃ Hz : Heap, Hz = (H2.set q .dead).set (H.length + 1) (.cells [.string ⟨#[]⟩, .bool true, .slice (some ⟨H2.length + 2, 0, none⟩) (acc.length + 1) 3] 24 true) ++ [.cells [.string y.text, .bool y.list, .slice xa y.sub.length xc] 24 true, .cells [.string y.text, .bool y.list, .slice xa y.sub.length xc] 24 true, .cells (cells ++ [.string y.text, .bool y.list, .slice xa y.sub.length xc]) 24 true] := ⟨_, rfl⟩
              rw [← hHz]
              have hLz : Hz.length = H2.length + 3 := by rw [hHz]; simp
              have hfz : Fr (fun z => z = q ∨ z = H.length + 1) H2 Hz := by rw [hHz]; exact ((Fr.set (X := fun z => z = q ∨ z = H.length + 1) (.inl rfl) _).sets (.inr rfl) _).appl _
              have hqH1 : q < H1.length := by
                rcases hrow with ⟨h, _⟩ | ⟨q', _, e1, _, _, _, h4, _⟩
                · exact absurd h hacc
                · cases e1; exact lt_of_get h4
              have hut : ItemAt H2 (fun z => H.length + 2 ≤ z ∧ z ≠ q) y [.string y.text, .bool y.list, .slice xa y.sub.length xc] := ItemAt.mono (fun z o hz ho => ⟨⟨by omega, by omega⟩, ho⟩) _ _ hxt
              refine ⟨s.size - nx, by omega, nx, acc ++ [y], some ⟨H2.length + 2, 0, none⟩, 3, f'', by omega, by (first | rfl | (simp only [Env_put_some, Env_put_none, ↓Env_set_at, ↓reduceIte, Nat.reduceEqDiff, g0] <;> rfl)), by (first | rfl | (simp only [Env_put_some, Env_put_none, ↓Env_set_at, ↓reduceIte, Nat.reduceEqDiff] <;> rfl)), by (first | rfl | (simp only [Env_put_some, Env_put_none, ↓Env_set_at, ↓reduceIte, Nat.reduceEqDiff, g2] <;> rfl)), by (first | rfl | (simp only [Env_put_some, Env_put_none, ↓Env_set_at, ↓reduceIte, Nat.reduceEqDiff, g6] <;> rfl)), by (first | rfl | (simp only [Env_put_some, Env_put_none, ↓Env_set_at, ↓reduceIte, Nat.reduceEqDiff, g9] <;> rfl)), by omega, hfz.2 _ _ (by omega) hz6b, ?_, (hfr1.trans hfr2).new hfz (fun z hz => .inr (by omega)), RowI.more hq3 hut (fun z o hz hne ho => hfz.2 _ _ (by omega) ho) (by rw [hHz, happ_ge (by simp)]; simp) (by omega) (by omega), by simp; omega, by omega, ?_, hr⟩
              · rw [hHz, happ_l (by simp; omega), hset_self (by simp; omega)]; simp
              · rw [if_neg (by simp)]; omega
      · refine ⟨i + 1, [], none, 0, f, by omega, by (first | rfl | (simp only [Env_put_some, Env_put_none, ↓Env_set_at, ↓reduceIte, Nat.reduceEqDiff] <;> rfl)), by (first | rfl | (simp only [Env_put_some, Env_put_none, ↓Env_set_at, ↓reduceIte, Nat.reduceEqDiff] <;> rfl)), by (first | rfl | (simp only [Env_put_some, Env_put_none, ↓Env_set_at, ↓reduceIte, Nat.reduceEqDiff] <;> rfl)), by (first | rfl | (simp only [Env_put_some, Env_put_none, ↓Env_set_at, ↓reduceIte, Nat.reduceEqDiff] <;> rfl)), by (first | rfl | (simp only [Env_put_some, Env_put_none, ↓Env_set_at, ↓reduceIte, Nat.reduceEqDiff] <;> rfl)), by simp, by simp, by simp, .app _ _ _, .inl ⟨rfl, rfl, rfl⟩, by simp, Nat.le_refl _, by simp; omega, hR.symm⟩
    · have hpr : prs (f + 1) deep ((bl s).drop i) = if (hxs ((bl s).drop i)).1 = [] then none else some (.mk (bs (hxs ((bl s).drop i)).1) false [], (hxs ((bl s).drop i)).2) := by
        rw [hcons, prs_cons hdd]; simp only [if_neg h45, if_neg h40]
      rw [hpr]
      (repeat' first
    | (refine CondV_dec (fun _ => ?_) (fun _ => ?_) <;> try (exfalso; omega))
    | (refine GuardV_td (fun _ => ?_) (fun _ => ?_) <;> try (exfalso; omega))
    | (refine GuardV_fd (fun _ => ?_) (fun _ => ?_) <;> try (exfalso; omega))
    | (refine CondV_split (fun _ => ?_) (fun _ => ?_))
    | (refine Need_of (by first | omega | decide) ?_)
    | refine WpK_cons ?_ ?_
    | refine WpK_guard ?_
    | simp (disch := first | omega | simp only [List.length_append, List.length_set, List.length_cons, List.length_nil] <;> omega | fail) only [evA, ↓evB, ↓astep, ↓aop, aBin, aInt, aStr, aUn, aNil, aMax, aresults, ares, aPack, ↓reduceIte, ↓reduceCtorEq, Nat.reduceEqDiff, Nat.reduceAdd, env0, aLoad, aLoadN, cellsOf, Int.reduceEq, Int.reduceLT, Int.reduceLE, Nat.reduceLeDiff, oneC, aop.fillL, setL, aApp, aAppC_nil, aAppC_own, xop, aSame_ptr, BIG, Bool.or_true, Bool.true_or, Bool.or_false, Bool.false_or, eqCells, eqCell, rowOf, ↓acallop, aBound, aIntOf, flat, flatN, CX_fn, CX_X, CX_pol, aStore, Nat.reduceBEq, List.size_toArray, Int.sub_zero, Int.zero_add, Int.add_zero, Int.toNat_zero, Int.reduceAdd, Int.reduceSub, Int.reduceMul, Int.reduceNeg, Int.reduceToNat, Nat.reduceSub, Nat.reduceMul, Int.natCast_zero, Int.reduceDiv, Int.reduceMod, Int.toNat_natCast, fdiv_nn, min_bits_i, Int.reducePow, Nat.reducePow, Nat.reduceDiv, Nat.reduceMod, mb_i, mb_u, WpC_drawD, WpT_nil, WpT_cons, WpT_guard, WpK_nil, scal])
      refine WpC_loop (IHxP s i H) ?_ (n := s.size - i) (show s.size - i < k by omega) ?_
      · rintro n e H1 ⟨x, out, a, c, hx, hxi, g0, g1, g8, hol, g6, hL1, hz, hfr1, hrow, hr⟩
        have e1 : ((x : Int) + 1).toNat = x + 1 := by omega
        have w1 : IntKind.i64.wrap ((x : Int) + 1) = (x : Int) + 1 := wrap_i64 _ (by omega) (by omega)
        by_cases hcont : x + 1 < s.size ∧ 0 ≤ hv (bAt s x) ∧ 0 ≤ hv (bAt s (x + 1))
        · obtain ⟨c1, c2, c3⟩ := hcont
          obtain ⟨a1, a2⟩ := hxc_hv _ c2
          obtain ⟨b1, b2⟩ := hxc_hv _ c3
          obtain ⟨u1, K1, hd1, rfl⟩ := Run_get (wDigit (bAt s x) (bAt_lt s x) H1 ⟨H1.length, H1.length⟩ k (by omega))
          obtain ⟨u2, K2, hd2, rfl⟩ := Run_get (wDigit (bAt s (x + 1)) (bAt_lt s (x + 1)) H1 ⟨H1.length, H1.length⟩ k (by omega))
          have hd1 := hd1 k (Nat.le_refl _)
          have hd2 := hd2 k (Nat.le_refl _)
          obtain ⟨w, hw⟩ : ∃ w : Nat, 16 * hv (bAt s x) + hv (bAt s (x + 1)) = (w : Int) := ⟨(16 * hv (bAt s x) + hv (bAt s (x + 1))).toNat, by omega⟩
          have hw256 : w < 256 := by omega
          rw [hxs_pair s x c1, if_pos ⟨c2, c3⟩, hw, Int.toNat_natCast] at hr
          simp only [T0] at hd1 hd2
          simp only [lp83_0, evA, ↓evB, ↓astep, ↓aop, aBin, aInt, aStr, aUn, aNil, aMax, aresults, ares, aPack, ↓reduceIte, ↓reduceCtorEq, Nat.reduceEqDiff, Nat.reduceAdd, env0, aLoad, aLoadN, cellsOf, Int.reduceEq, Int.reduceLT, Int.reduceLE, Nat.reduceLeDiff, oneC, aop.fillL, setL, aApp, aAppC_nil, aAppC_own, xop, aSame_ptr, BIG, Bool.or_true, Bool.true_or, Bool.or_false, Bool.false_or, eqCells, eqCell, rowOf, ↓acallop, aBound, aIntOf, flat, flatN, CX_fn, CX_X, CX_pol, aStore, Nat.reduceBEq, List.size_toArray, Int.sub_zero, Int.zero_add, Int.add_zero, Int.toNat_zero, Int.reduceAdd, Int.reduceSub, Int.reduceMul, Int.reduceNeg, Int.reduceToNat, Nat.reduceSub, Nat.reduceMul, Int.natCast_zero, Int.reduceDiv, Int.reduceMod, Int.toNat_natCast, fdiv_nn, min_bits_i, Int.reducePow, Nat.reducePow, Nat.reduceDiv, Nat.reduceMod, mb_i, mb_u, WpC_drawD, WpT_nil, WpT_cons, WpT_guard, WpK_nil, scal, g0, g1, g8, T0]
          rcases hrow with ⟨rfl, rfl, rfl⟩ | ⟨q, rfl, rfl, hq1, hq2, hq3⟩
          · (repeat' first
    | (refine CondV_dec (fun _ => ?_) (fun _ => ?_) <;> try (exfalso; omega))
    | (refine GuardV_td (fun _ => ?_) (fun _ => ?_) <;> try (exfalso; omega))
    | (refine GuardV_fd (fun _ => ?_) (fun _ => ?_) <;> try (exfalso; omega))
    | (refine CondV_split (fun _ => ?_) (fun _ => ?_))
    | (refine Need_of (by first | omega | decide) ?_)
    | refine WpK_cons ?_ ?_
    | refine WpK_guard ?_
    | simp (disch := first | omega | simp only [List.length_append, List.length_set, List.length_cons, List.length_nil] <;> omega | fail) only [evA, ↓evB, ↓astep, ↓aop, aBin, aInt, aStr, aUn, aNil, aMax, aresults, ares, aPack, ↓reduceIte, ↓reduceCtorEq, Nat.reduceEqDiff, Nat.reduceAdd, env0, aLoad, aLoadN, cellsOf, Int.reduceEq, Int.reduceLT, Int.reduceLE, Nat.reduceLeDiff, oneC, aop.fillL, setL, aApp, aAppC_nil, aAppC_own, xop, aSame_ptr, BIG, Bool.or_true, Bool.true_or, Bool.or_false, Bool.false_or, eqCells, eqCell, rowOf, ↓acallop, aBound, aIntOf, flat, flatN, CX_fn, CX_X, CX_pol, aStore, Nat.reduceBEq, List.size_toArray, Int.sub_zero, Int.zero_add, Int.add_zero, Int.toNat_zero, Int.reduceAdd, Int.reduceSub, Int.reduceMul, Int.reduceNeg, Int.reduceToNat, Nat.reduceSub, Nat.reduceMul, Int.natCast_zero, Int.reduceDiv, Int.reduceMod, Int.toNat_natCast, fdiv_nn, min_bits_i, Int.reducePow, Nat.reducePow, Nat.reduceDiv, Nat.reduceMod, mb_i, mb_u, WpC_drawD, WpT_nil, WpT_cons, WpT_guard, WpK_nil, scal, g0, g1, g8, w1, e1, hd1, hd2, hw])
            refine ⟨n - 2, by omega, x + 2, [w], _, 1, by omega, by omega, by (first | rfl | (simp only [Env_put_some, Env_put_none, ↓Env_set_at, ↓reduceIte, Nat.reduceEqDiff, g0] <;> rfl)), by (first | rfl | (simp only [Env_put_some, Env_put_none, ↓Env_set_at, ↓reduceIte, Nat.reduceEqDiff] <;> rfl)), by (first | rfl | (simp only [Env_put_some, Env_put_none, ↓Env_set_at, ↓reduceIte, Nat.reduceEqDiff] <;> rfl)), by simp; omega, by (first | rfl | (simp only [Env_put_some, Env_put_none, ↓Env_set_at, ↓reduceIte, Nat.reduceEqDiff, g6] <;> rfl)), by simp; omega, by rw [happ_l (by omega)]; exact hz, hfr1.appl _, .inr ⟨H1.length + 1, rfl, rfl, by omega, by simp, by rw [happ_ge (by omega)]; simp [bv]⟩, ?_⟩
            simpa using hr
          · have hlq := lt_of_get hq3
            have hbl := bv_length out
            have htk := bv_take out
            (repeat' first
    | (refine CondV_dec (fun _ => ?_) (fun _ => ?_) <;> try (exfalso; omega))
    | (refine GuardV_td (fun _ => ?_) (fun _ => ?_) <;> try (exfalso; omega))
    | (refine GuardV_fd (fun _ => ?_) (fun _ => ?_) <;> try (exfalso; omega))
    | (refine CondV_split (fun _ => ?_) (fun _ => ?_))
    | (refine Need_of (by first | omega | decide) ?_)
    | refine WpK_cons ?_ ?_
    | refine WpK_guard ?_
    | simp (disch := first | omega | simp only [List.length_append, List.length_set, List.length_cons, List.length_nil] <;> omega | fail) only [evA, ↓evB, ↓astep, ↓aop, aBin, aInt, aStr, aUn, aNil, aMax, aresults, ares, aPack, ↓reduceIte, ↓reduceCtorEq, Nat.reduceEqDiff, Nat.reduceAdd, env0, aLoad, aLoadN, cellsOf, Int.reduceEq, Int.reduceLT, Int.reduceLE, Nat.reduceLeDiff, oneC, aop.fillL, setL, aApp, aAppC_nil, aAppC_own, xop, aSame_ptr, BIG, Bool.or_true, Bool.true_or, Bool.or_false, Bool.false_or, eqCells, eqCell, rowOf, ↓acallop, aBound, aIntOf, flat, flatN, CX_fn, CX_X, CX_pol, aStore, Nat.reduceBEq, List.size_toArray, Int.sub_zero, Int.zero_add, Int.add_zero, Int.toNat_zero, Int.reduceAdd, Int.reduceSub, Int.reduceMul, Int.reduceNeg, Int.reduceToNat, Nat.reduceSub, Nat.reduceMul, Int.natCast_zero, Int.reduceDiv, Int.reduceMod, Int.toNat_natCast, fdiv_nn, min_bits_i, Int.reducePow, Nat.reducePow, Nat.reduceDiv, Nat.reduceMod, mb_i, mb_u, WpC_drawD, WpT_nil, WpT_cons, WpT_guard, WpK_nil, scal, g0, g1, g8, w1, e1, hd1, hd2, hw, hq3, htk])
            refine ⟨n - 2, by omega, x + 2, out ++ [w], _, 1, by omega, by omega, by (first | rfl | (simp only [Env_put_some, Env_put_none, ↓Env_set_at, ↓reduceIte, Nat.reduceEqDiff, g0] <;> rfl)), by (first | rfl | (simp only [Env_put_some, Env_put_none, ↓Env_set_at, ↓reduceIte, Nat.reduceEqDiff] <;> rfl)), ?_, by simp; omega, by (first | rfl | (simp only [Env_put_some, Env_put_none, ↓Env_set_at, ↓reduceIte, Nat.reduceEqDiff, g6] <;> rfl)), by simp; omega, by rw [happ_l (by simp; omega), hset_ne (by omega)]; exact hz, ?_, .inr ⟨H1.length + 1, rfl, rfl, by omega, by simp, by rw [happ_ge (by simp)]; simp⟩, ?_⟩
            · simp only [List.length_append, List.length_cons, List.length_nil]; (first | rfl | (simp only [Env_put_some, Env_put_none, ↓Env_set_at, ↓reduceIte, Nat.reduceEqDiff] <;> rfl))
            · exact hfr1.new ((Fr.set (X := fun y => y = q) rfl _).appl _) (fun y hy => .inr (by omega))
            · simpa [List.append_assoc] using hr
        · have hend : hxs ((bl s).drop x) = ([], (bl s).drop x) := by
            by_cases h1 : x + 1 < s.size
            · rw [hxs_pair s x h1, if_neg (fun h => hcont ⟨h1, h.1, h.2⟩)]
            · exact hxs_end s x (by omega)
          rw [hend] at hr
          simp only [List.append_nil] at hr
          rw [← hr]
          have hxle : x ≤ s.size := by omega
          have hrest : ((bl s).drop x).length = s.size - x := by rw [List.length_drop, bl_length]
          have hres : ((s.size - (s.size - x) : Nat) : Int) = (x : Int) := by omega
          have hLH : H.length < H1.length := by omega
          by_cases h1 : x + 1 < s.size
          · obtain ⟨u1, K1, hd1, rfl⟩ := Run_get (wDigit (bAt s x) (bAt_lt s x) H1 ⟨H1.length, H1.length⟩ k (by omega))
            obtain ⟨u2, K2, hd2, rfl⟩ := Run_get (wDigit (bAt s (x + 1)) (bAt_lt s (x + 1)) H1 ⟨H1.length, H1.length⟩ k (by omega))
            have hd1 := hd1 k (Nat.le_refl _)
            have hd2 := hd2 k (Nat.le_refl _)
            have hneg : ¬ (0 ≤ hv (bAt s x) ∧ 0 ≤ hv (bAt s (x + 1))) := fun h => hcont ⟨h1, h.1, h.2⟩
            simp only [T0] at hd1 hd2
            simp only [lp83_0, evA, ↓evB, ↓astep, ↓aop, aBin, aInt, aStr, aUn, aNil, aMax, aresults, ares, aPack, ↓reduceIte, ↓reduceCtorEq, Nat.reduceEqDiff, Nat.reduceAdd, env0, aLoad, aLoadN, cellsOf, Int.reduceEq, Int.reduceLT, Int.reduceLE, Nat.reduceLeDiff, oneC, aop.fillL, setL, aApp, aAppC_nil, aAppC_own, xop, aSame_ptr, BIG, Bool.or_true, Bool.true_or, Bool.or_false, Bool.false_or, eqCells, eqCell, rowOf, ↓acallop, aBound, aIntOf, flat, flatN, CX_fn, CX_X, CX_pol, aStore, Nat.reduceBEq, List.size_toArray, Int.sub_zero, Int.zero_add, Int.add_zero, Int.toNat_zero, Int.reduceAdd, Int.reduceSub, Int.reduceMul, Int.reduceNeg, Int.reduceToNat, Nat.reduceSub, Nat.reduceMul, Int.natCast_zero, Int.reduceDiv, Int.reduceMod, Int.toNat_natCast, fdiv_nn, min_bits_i, Int.reducePow, Nat.reducePow, Nat.reduceDiv, Nat.reduceMod, mb_i, mb_u, WpC_drawD, WpT_nil, WpT_cons, WpT_guard, WpK_nil, scal, g0, g1, g8, T0]
            rcases hrow with ⟨rfl, rfl, rfl⟩ | ⟨q, rfl, rfl, hq1, hq2, hq3⟩
            · (repeat' first
    | (refine CondV_dec (fun _ => ?_) (fun _ => ?_) <;> try (exfalso; omega))
    | (refine GuardV_td (fun _ => ?_) (fun _ => ?_) <;> try (exfalso; omega))
    | (refine GuardV_fd (fun _ => ?_) (fun _ => ?_) <;> try (exfalso; omega))
    | (refine CondV_split (fun _ => ?_) (fun _ => ?_))
    | (refine Need_of (by first | omega | decide) ?_)
    | refine WpK_cons ?_ ?_
    | refine WpK_guard ?_
    | simp (disch := first | omega | simp only [List.length_append, List.length_set, List.length_cons, List.length_nil] <;> omega | fail) only [evA, ↓evB, ↓astep, ↓aop, aBin, aInt, aStr, aUn, aNil, aMax, aresults, ares, aPack, ↓reduceIte, ↓reduceCtorEq, Nat.reduceEqDiff, Nat.reduceAdd, env0, aLoad, aLoadN, cellsOf, Int.reduceEq, Int.reduceLT, Int.reduceLE, Nat.reduceLeDiff, oneC, aop.fillL, setL, aApp, aAppC_nil, aAppC_own, xop, aSame_ptr, BIG, Bool.or_true, Bool.true_or, Bool.or_false, Bool.false_or, eqCells, eqCell, rowOf, ↓acallop, aBound, aIntOf, flat, flatN, CX_fn, CX_X, CX_pol, aStore, Nat.reduceBEq, List.size_toArray, Int.sub_zero, Int.zero_add, Int.add_zero, Int.toNat_zero, Int.reduceAdd, Int.reduceSub, Int.reduceMul, Int.reduceNeg, Int.reduceToNat, Nat.reduceSub, Nat.reduceMul, Int.natCast_zero, Int.reduceDiv, Int.reduceMod, Int.toNat_natCast, fdiv_nn, min_bits_i, Int.reducePow, Nat.reducePow, Nat.reduceDiv, Nat.reduceMod, mb_i, mb_u, WpC_drawD, WpT_nil, WpT_cons, WpT_guard, WpK_nil, scal, g0, g1, g8, g6, w1, e1, hd1, hd2, hz])
              all_goals exact ⟨hfr1.new (.set (X := fun y => y = H.length) rfl _) (fun y hy => .inr (by omega)), _, rfl, .empty _ _ _⟩
            · have hne : out ≠ [] := fun h => by subst h; simp at hq2
              have htk := bv_take out
              have hbl := bv_length out
              (repeat' first
    | (refine CondV_dec (fun _ => ?_) (fun _ => ?_) <;> try (exfalso; omega))
    | (refine GuardV_td (fun _ => ?_) (fun _ => ?_) <;> try (exfalso; omega))
    | (refine GuardV_fd (fun _ => ?_) (fun _ => ?_) <;> try (exfalso; omega))
    | (refine CondV_split (fun _ => ?_) (fun _ => ?_))
    | (refine Need_of (by first | omega | decide) ?_)
    | refine WpK_cons ?_ ?_
    | refine WpK_guard ?_
    | simp (disch := first | omega | simp only [List.length_append, List.length_set, List.length_cons, List.length_nil] <;> omega | fail) only [evA, ↓evB, ↓astep, ↓aop, aBin, aInt, aStr, aUn, aNil, aMax, aresults, ares, aPack, ↓reduceIte, ↓reduceCtorEq, Nat.reduceEqDiff, Nat.reduceAdd, env0, aLoad, aLoadN, cellsOf, Int.reduceEq, Int.reduceLT, Int.reduceLE, Nat.reduceLeDiff, oneC, aop.fillL, setL, aApp, aAppC_nil, aAppC_own, xop, aSame_ptr, BIG, Bool.or_true, Bool.true_or, Bool.or_false, Bool.false_or, eqCells, eqCell, rowOf, ↓acallop, aBound, aIntOf, flat, flatN, CX_fn, CX_X, CX_pol, aStore, Nat.reduceBEq, List.size_toArray, Int.sub_zero, Int.zero_add, Int.add_zero, Int.toNat_zero, Int.reduceAdd, Int.reduceSub, Int.reduceMul, Int.reduceNeg, Int.reduceToNat, Nat.reduceSub, Nat.reduceMul, Int.natCast_zero, Int.reduceDiv, Int.reduceMod, Int.toNat_natCast, fdiv_nn, min_bits_i, Int.reducePow, Nat.reducePow, Nat.reduceDiv, Nat.reduceMod, mb_i, mb_u, WpC_drawD, WpT_nil, WpT_cons, WpT_guard, WpK_nil, scal, g0, g1, g8, g6, w1, e1, hd1, hd2, hz, hq3, htk])
              all_goals
                simp only [hne, if_false]
                refine ⟨hfr1.new (.set (X := fun y => y = H.length) rfl _) (fun y hy => .inr (by omega)), _, ?_, by rw [hrest]; omega, .empty _ _ _⟩
                rw [hrest, hres]; rfl
          · simp only [lp83_0, evA, ↓evB, ↓astep, ↓aop, aBin, aInt, aStr, aUn, aNil, aMax, aresults, ares, aPack, ↓reduceIte, ↓reduceCtorEq, Nat.reduceEqDiff, Nat.reduceAdd, env0, aLoad, aLoadN, cellsOf, Int.reduceEq, Int.reduceLT, Int.reduceLE, Nat.reduceLeDiff, oneC, aop.fillL, setL, aApp, aAppC_nil, aAppC_own, xop, aSame_ptr, BIG, Bool.or_true, Bool.true_or, Bool.or_false, Bool.false_or, eqCells, eqCell, rowOf, ↓acallop, aBound, aIntOf, flat, flatN, CX_fn, CX_X, CX_pol, aStore, Nat.reduceBEq, List.size_toArray, Int.sub_zero, Int.zero_add, Int.add_zero, Int.toNat_zero, Int.reduceAdd, Int.reduceSub, Int.reduceMul, Int.reduceNeg, Int.reduceToNat, Nat.reduceSub, Nat.reduceMul, Int.natCast_zero, Int.reduceDiv, Int.reduceMod, Int.toNat_natCast, fdiv_nn, min_bits_i, Int.reducePow, Nat.reducePow, Nat.reduceDiv, Nat.reduceMod, mb_i, mb_u, WpC_drawD, WpT_nil, WpT_cons, WpT_guard, WpK_nil, scal, g0, g1, g8, T0]
            rcases hrow with ⟨rfl, rfl, rfl⟩ | ⟨q, rfl, rfl, hq1, hq2, hq3⟩
            · (repeat' first
    | (refine CondV_dec (fun _ => ?_) (fun _ => ?_) <;> try (exfalso; omega))
    | (refine GuardV_td (fun _ => ?_) (fun _ => ?_) <;> try (exfalso; omega))
    | (refine GuardV_fd (fun _ => ?_) (fun _ => ?_) <;> try (exfalso; omega))
    | (refine CondV_split (fun _ => ?_) (fun _ => ?_))
    | (refine Need_of (by first | omega | decide) ?_)
    | refine WpK_cons ?_ ?_
    | refine WpK_guard ?_
    | simp (disch := first | omega | simp only [List.length_append, List.length_set, List.length_cons, List.length_nil] <;> omega | fail) only [evA, ↓evB, ↓astep, ↓aop, aBin, aInt, aStr, aUn, aNil, aMax, aresults, ares, aPack, ↓reduceIte, ↓reduceCtorEq, Nat.reduceEqDiff, Nat.reduceAdd, env0, aLoad, aLoadN, cellsOf, Int.reduceEq, Int.reduceLT, Int.reduceLE, Nat.reduceLeDiff, oneC, aop.fillL, setL, aApp, aAppC_nil, aAppC_own, xop, aSame_ptr, BIG, Bool.or_true, Bool.true_or, Bool.or_false, Bool.false_or, eqCells, eqCell, rowOf, ↓acallop, aBound, aIntOf, flat, flatN, CX_fn, CX_X, CX_pol, aStore, Nat.reduceBEq, List.size_toArray, Int.sub_zero, Int.zero_add, Int.add_zero, Int.toNat_zero, Int.reduceAdd, Int.reduceSub, Int.reduceMul, Int.reduceNeg, Int.reduceToNat, Nat.reduceSub, Nat.reduceMul, Int.natCast_zero, Int.reduceDiv, Int.reduceMod, Int.toNat_natCast, fdiv_nn, min_bits_i, Int.reducePow, Nat.reducePow, Nat.reduceDiv, Nat.reduceMod, mb_i, mb_u, WpC_drawD, WpT_nil, WpT_cons, WpT_guard, WpK_nil, scal, g0, g1, g8, g6, w1, e1, hz])
              all_goals exact ⟨hfr1.new (.set (X := fun y => y = H.length) rfl _) (fun y hy => .inr (by omega)), _, rfl, .empty _ _ _⟩
            · have hne : out ≠ [] := fun h => by subst h; simp at hq2
              have htk := bv_take out
              have hbl := bv_length out
              (repeat' first
    | (refine CondV_dec (fun _ => ?_) (fun _ => ?_) <;> try (exfalso; omega))
    | (refine GuardV_td (fun _ => ?_) (fun _ => ?_) <;> try (exfalso; omega))
    | (refine GuardV_fd (fun _ => ?_) (fun _ => ?_) <;> try (exfalso; omega))
    | (refine CondV_split (fun _ => ?_) (fun _ => ?_))
    | (refine Need_of (by first | omega | decide) ?_)
    | refine WpK_cons ?_ ?_
    | refine WpK_guard ?_
    | simp (disch := first | omega | simp only [List.length_append, List.length_set, List.length_cons, List.length_nil] <;> omega | fail) only [evA, ↓evB, ↓astep, ↓aop, aBin, aInt, aStr, aUn, aNil, aMax, aresults, ares, aPack, ↓reduceIte, ↓reduceCtorEq, Nat.reduceEqDiff, Nat.reduceAdd, env0, aLoad, aLoadN, cellsOf, Int.reduceEq, Int.reduceLT, Int.reduceLE, Nat.reduceLeDiff, oneC, aop.fillL, setL, aApp, aAppC_nil, aAppC_own, xop, aSame_ptr, BIG, Bool.or_true, Bool.true_or, Bool.or_false, Bool.false_or, eqCells, eqCell, rowOf, ↓acallop, aBound, aIntOf, flat, flatN, CX_fn, CX_X, CX_pol, aStore, Nat.reduceBEq, List.size_toArray, Int.sub_zero, Int.zero_add, Int.add_zero, Int.toNat_zero, Int.reduceAdd, Int.reduceSub, Int.reduceMul, Int.reduceNeg, Int.reduceToNat, Nat.reduceSub, Nat.reduceMul, Int.natCast_zero, Int.reduceDiv, Int.reduceMod, Int.toNat_natCast, fdiv_nn, min_bits_i, Int.reducePow, Nat.reducePow, Nat.reduceDiv, Nat.reduceMod, mb_i, mb_u, WpC_drawD, WpT_nil, WpT_cons, WpT_guard, WpK_nil, scal, g0, g1, g8, g6, w1, e1, hz, hq3, htk])
              all_goals
                simp only [hne, if_false]
                refine ⟨hfr1.new (.set (X := fun y => y = H.length) rfl _) (fun y hy => .inr (by omega)), _, ?_, by rw [hrest]; omega, .empty _ _ _⟩
                rw [hrest, hres]; rfl
      · refine ⟨i, [], none, 0, by omega, by omega, rfl, rfl, rfl, by simp, by (first | rfl | (simp only [Env_put_some, Env_put_none, ↓Env_set_at, ↓reduceIte, Nat.reduceEqDiff] <;> rfl)), by simp, by simp, .app _ _ _, .inl ⟨rfl, rfl, rfl⟩, rfl⟩
end Ev
end Go.Proofs.Ytfbelnjchpffeaa
