/-
  Read, both ways; and the laws ItemShows and ItemReads.
-/
import Derived.Test.YtfbelnjchpffeaaJ1
namespace Go.Proofs.Ytfbelnjchpffeaa
namespace Ev
open Tag (mk)
set_option linter.unusedSimpArgs false
set_option linter.unusedVariables false
set_option maxRecDepth 4000
set_option maxHeartbeats 8000000
def ReadPost (s : ByteArray) (H : Heap) (u : Value) (H' : Heap) : Prop :=
  ∃ t v, Fr (fun _ => False) H H' ∧ ItemV H' (fun i => H.length ≤ i) t v ∧ ((RdOK s t ∧ u = .tuple #[v, .int .i64 0]) ∨ ((∀ t', ¬ RdOK s t') ∧ t = .mk ⟨#[]⟩ false [] ∧ u = .tuple #[v, .int .i64 3]))
theorem bl_empty {x : ByteArray} (h : bl x = []) : x = ⟨#[]⟩ := by
  have := str_empty x; rw [this]; exact bl_nil.1 h
theorem wReadI (s : ByteArray) (hs : s.size ≤ 100000) (H : Heap) (m : Ev.Mode) (hm1 : m.lim ≤ H.length) (hm2 : m.fb ≤ H.length) (k : Nat) (hk : 4 * s.size + 60 ≤ k) :
    Run (ReadPost s H) mk (acall T0 k 43 [.string s] H m) := by
  obtain ⟨k, rfl⟩ : ∃ q, k = q + 1 := ⟨k - 1, by omega⟩
  refine Run_call (F := ir43) rfl (Nat.le_of_ble_eq_true rfl) ?_
  obtain ⟨Ha, hHa⟩ : ∃ Ha : Heap, Ha = H ++ [.cells [.string ⟨#[]⟩, .bool false, .slice none 0 0] 24 true, .cells [.string s, .int .i64 0, .bool false] 131 true] := ⟨_, rfl⟩
  have hLa : Ha.length = H.length + 2 := by rw [hHa]; simp
  have hra : Ha[H.length + 1]? = some (rdr s 0 false) := by rw [hHa]; simp [rdr]
  have hza : Ha[H.length]? = some (.cells [.string ⟨#[]⟩, .bool false, .slice none 0 0] 24 true) := by rw [hHa]; simp
  have hfa : Fr (fun _ => False) H Ha := by rw [hHa]; exact .app _ _ _
  obtain ⟨u, H1, hcall, x', n', bad', t, hr1, hf1, ⟨us, rfl, hut⟩, hsz, hpost⟩ := Run_get (wItem (2 * s.size + 2) 1 0 s (by decide) (by decide) hs (Nat.le_refl _) Ha (H.length + 1) hra m (by omega) (by omega) k (by omega))
  have hcall := hcall k (Nat.le_refl _)
  obtain ⟨ua, uc, rfl, hus⟩ := hut.cells
  rw [show ((1 : Nat) : Int) = 1 from rfl] at hcall
  have hz1 := hf1.2 _ _ (show ¬ H.length = H.length + 1 by omega) hza
  have hL1 := hf1.1
  have hr1' := hr1
  rw [rdr] at hr1'
  have no : (bad' = true ∨ ¬ x' = ⟨#[]⟩) → ∀ t', ¬ RdOK s t' := by
    intro hb t' ⟨h1, h2⟩
    have h1 := (may_iff t').1 h1
    have hp := (prs_ok s t').2 ⟨h1.1, h1.2.1, h2⟩
    rcases hpost with ⟨hb', rest, hq, _, hx, _⟩ | ⟨_, hov⟩
    · rw [hp] at hq; cases hq
      rcases hb with hb | hb
      · rw [hb] at hb'; cases hb'
      · exact hb (bl_empty hx)
    · have := hov t' [] hp; omega
  have bad : ∀ (H2 : Heap), Fr (fun i => H.length ≤ i) H1 H2 → (bad' = true ∨ ¬ x' = ⟨#[]⟩) → ReadPost s H (.tuple #[.agg #[.string ⟨#[]⟩, .bool false, .slice none 0 0], .int .i64 3]) H2 := fun H2 h2 hb =>
    ⟨.mk ⟨#[]⟩ false [], _, (hfa.new hf1 (fun i hi => .inr (by omega))).new h2 (fun i hi => .inr hi), .empty _ _ _, .inr ⟨no hb, rfl, rfl⟩⟩
  simp only [T0] at hcall
  simp only [ir43, T0]
  cases hbd : bad' with
  | true =>
    rw [hbd] at hr1'
    (repeat' first
    | (refine CondV_dec (fun _ => ?_) (fun _ => ?_) <;> try (exfalso; omega))
    | (refine GuardV_td (fun _ => ?_) (fun _ => ?_) <;> try (exfalso; omega))
    | (refine GuardV_fd (fun _ => ?_) (fun _ => ?_) <;> try (exfalso; omega))
    | (refine CondV_split (fun _ => ?_) (fun _ => ?_))
    | (refine Need_of (by first | omega | decide) ?_)
    | refine WpK_cons ?_ ?_
    | refine WpK_guard ?_
    | simp (disch := first | omega | simp only [List.length_append, List.length_set, List.length_cons, List.length_nil] <;> omega | fail) only [evA, ↓evB, ↓astep, ↓aop, aBin, aInt, aStr, aUn, aNil, aMax, aresults, ares, aPack, ↓reduceIte, ↓reduceCtorEq, Nat.reduceEqDiff, Nat.reduceAdd, env0, aLoad, aLoadN, cellsOf, Int.reduceEq, Int.reduceLT, Int.reduceLE, Nat.reduceLeDiff, oneC, aop.fillL, setL, aApp, aAppC_nil, aAppC_own, xop, aSame_ptr, BIG, Bool.or_true, Bool.true_or, Bool.or_false, Bool.false_or, eqCells, eqCell, rowOf, ↓acallop, aBound, aIntOf, flat, flatN, CX_fn, CX_X, CX_pol, aStore, Nat.reduceBEq, List.size_toArray, Int.sub_zero, Int.zero_add, Int.add_zero, Int.toNat_zero, Int.reduceAdd, Int.reduceSub, Int.reduceMul, Int.reduceNeg, Int.reduceToNat, Nat.reduceSub, Nat.reduceMul, Int.natCast_zero, Int.reduceDiv, Int.reduceMod, Int.toNat_natCast, fdiv_nn, min_bits_i, Int.reducePow, Nat.reducePow, Nat.reduceDiv, Nat.reduceMod, mb_i, mb_u, WpC_drawD, WpT_nil, WpT_cons, WpT_guard, WpK_nil, scal, happ_assoc, ← hHa, hcall, hr1', hz1])
    exact bad _ ((Fr.set (X := fun i => H.length ≤ i) (Nat.le_refl _) _).appl _) (.inl hbd)
  | false =>
    rw [hbd] at hr1'
    by_cases hxe : x' = ⟨#[]⟩
    · subst hxe
      (repeat' first
    | (refine CondV_dec (fun _ => ?_) (fun _ => ?_) <;> try (exfalso; omega))
    | (refine GuardV_td (fun _ => ?_) (fun _ => ?_) <;> try (exfalso; omega))
    | (refine GuardV_fd (fun _ => ?_) (fun _ => ?_) <;> try (exfalso; omega))
    | (refine CondV_split (fun _ => ?_) (fun _ => ?_))
    | (refine Need_of (by first | omega | decide) ?_)
    | refine WpK_cons ?_ ?_
    | refine WpK_guard ?_
    | simp (disch := first | omega | simp only [List.length_append, List.length_set, List.length_cons, List.length_nil] <;> omega | fail) only [evA, ↓evB, ↓astep, ↓aop, aBin, aInt, aStr, aUn, aNil, aMax, aresults, ares, aPack, ↓reduceIte, ↓reduceCtorEq, Nat.reduceEqDiff, Nat.reduceAdd, env0, aLoad, aLoadN, cellsOf, Int.reduceEq, Int.reduceLT, Int.reduceLE, Nat.reduceLeDiff, oneC, aop.fillL, setL, aApp, aAppC_nil, aAppC_own, xop, aSame_ptr, BIG, Bool.or_true, Bool.true_or, Bool.or_false, Bool.false_or, eqCells, eqCell, rowOf, ↓acallop, aBound, aIntOf, flat, flatN, CX_fn, CX_X, CX_pol, aStore, Nat.reduceBEq, List.size_toArray, Int.sub_zero, Int.zero_add, Int.add_zero, Int.toNat_zero, Int.reduceAdd, Int.reduceSub, Int.reduceMul, Int.reduceNeg, Int.reduceToNat, Nat.reduceSub, Nat.reduceMul, Int.natCast_zero, Int.reduceDiv, Int.reduceMod, Int.toNat_natCast, fdiv_nn, min_bits_i, Int.reducePow, Nat.reducePow, Nat.reduceDiv, Nat.reduceMod, mb_i, mb_u, WpC_drawD, WpT_nil, WpT_cons, WpT_guard, WpK_nil, scal, happ_assoc, ← hHa, hcall, hr1', hz1])
      rcases hpost with ⟨_, rest, hq, h1, hx, _⟩ | ⟨h, _⟩
      · have hr0 : rest = [] := by rw [← hx]; rfl
        subst hr0
        have hok := (prs_ok s t).1 hq
        have hfz : ∀ (o p : AObj), Fr (fun i => i = H.length) H1 (H1.set H.length o ++ [p]) := fun o p => (Fr.set (X := fun i => i = H.length) rfl _).appl _
        refine ⟨t, _, (hfa.new hf1 (fun i hi => .inr (by omega))).new (hfz _ _) (fun i hi => .inr (by omega)), ⟨_, rfl, ItemAt.mono (fun i o hi ho => ⟨by omega, (hfz _ _).2 _ _ (by omega) ho⟩) _ _ hut⟩, .inl ⟨⟨(may_iff t).2 ⟨hok.1, hok.2.1, by omega⟩, hok.2.2⟩, rfl⟩⟩
      · rw [hbd] at h; cases h
    · (repeat' first
    | (refine CondV_dec (fun _ => ?_) (fun _ => ?_) <;> try (exfalso; omega))
    | (refine GuardV_td (fun _ => ?_) (fun _ => ?_) <;> try (exfalso; omega))
    | (refine GuardV_fd (fun _ => ?_) (fun _ => ?_) <;> try (exfalso; omega))
    | (refine CondV_split (fun _ => ?_) (fun _ => ?_))
    | (refine Need_of (by first | omega | decide) ?_)
    | refine WpK_cons ?_ ?_
    | refine WpK_guard ?_
    | simp (disch := first | omega | simp only [List.length_append, List.length_set, List.length_cons, List.length_nil] <;> omega | fail) only [evA, ↓evB, ↓astep, ↓aop, aBin, aInt, aStr, aUn, aNil, aMax, aresults, ares, aPack, ↓reduceIte, ↓reduceCtorEq, Nat.reduceEqDiff, Nat.reduceAdd, env0, aLoad, aLoadN, cellsOf, Int.reduceEq, Int.reduceLT, Int.reduceLE, Nat.reduceLeDiff, oneC, aop.fillL, setL, aApp, aAppC_nil, aAppC_own, xop, aSame_ptr, BIG, Bool.or_true, Bool.true_or, Bool.or_false, Bool.false_or, eqCells, eqCell, rowOf, ↓acallop, aBound, aIntOf, flat, flatN, CX_fn, CX_X, CX_pol, aStore, Nat.reduceBEq, List.size_toArray, Int.sub_zero, Int.zero_add, Int.add_zero, Int.toNat_zero, Int.reduceAdd, Int.reduceSub, Int.reduceMul, Int.reduceNeg, Int.reduceToNat, Nat.reduceSub, Nat.reduceMul, Int.natCast_zero, Int.reduceDiv, Int.reduceMod, Int.toNat_natCast, fdiv_nn, min_bits_i, Int.reducePow, Nat.reducePow, Nat.reduceDiv, Nat.reduceMod, mb_i, mb_u, WpC_drawD, WpT_nil, WpT_cons, WpT_guard, WpK_nil, scal, happ_assoc, ← hHa, hcall, hr1', hz1, hxe])
      exact bad _ ((Fr.set (X := fun i => H.length ≤ i) (Nat.le_refl _) _).appl _) (.inr hxe)
theorem wReadR (s : ByteArray) (hs : s.size ≤ 5000) (H : Heap) (m : Ev.Mode) (hm1 : m.lim ≤ H.length) (hm2 : m.fb ≤ H.length) (k : Nat) (hk : 4 * s.size + 60 ≤ k) :
    Run (ReadPost s H) mk (acall T0 k 45 [.string s] H m) := by
  obtain ⟨k, rfl⟩ : ∃ q, k = q + 1 := ⟨k - 1, by omega⟩
  refine Run_call (F := ir45) rfl (Nat.le_of_ble_eq_true rfl) ?_
  obtain ⟨Ha, hHa⟩ : ∃ Ha : Heap, Ha = H ++ [.cells [.string ⟨#[]⟩, .bool false, .slice none 0 0] 24 true] := ⟨_, rfl⟩
  have hLa : Ha.length = H.length + 1 := by rw [hHa]; simp
  have hza : Ha[H.length]? = some (.cells [.string ⟨#[]⟩, .bool false, .slice none 0 0] 24 true) := by rw [hHa]; simp
  have hfa : Fr (fun _ => False) H Ha := by rw [hHa]; exact .app _ _ _
  obtain ⟨u, H1, hcall, hf1, v, hpv⟩ := Run_get (wParse s (by omega) (2 * s.size + 2) 1 0 (by decide) (Nat.zero_le _) (by omega) Ha m (by omega) (by omega) k (by omega))
  have hcall := hcall k (Nat.le_refl _)
  rw [List.drop_zero] at hpv
  rw [show ((1 : Nat) : Int) = 1 from rfl, show ((0 : Nat) : Int) = 0 from rfl] at hcall
  have hz1 := hf1.2 _ _ (fun h => h) hza
  have hL1 := hf1.1
  have hfset : ∀ (o p : AObj), Fr (fun i => H.length ≤ i) H1 (H1.set H.length o ++ [p]) := fun o p => (Fr.set (X := fun i => H.length ≤ i) (Nat.le_refl _) _).appl _
  have bad : ∀ (o p : AObj), (∀ t', ¬ RdOK s t') → ReadPost s H (.tuple #[.agg #[.string ⟨#[]⟩, .bool false, .slice none 0 0], .int .i64 3]) (H1.set H.length o ++ [p]) := fun o p hb =>
    ⟨.mk ⟨#[]⟩ false [], _, (hfa.trans hf1).new (hfset o p) (fun i hi => .inr hi), .empty _ _ _, .inr ⟨hb, rfl, rfl⟩⟩
  have no : ∀ t', RdOK s t' → prs (2 * s.size + 2) 1 (bl s) = some (t', []) := fun t' ⟨h1, h2⟩ => by
    have h1 := (may_iff t').1 h1
    exact (prs_ok s t').2 ⟨h1.1, h1.2.1, h2⟩
  cases hp : prs (2 * s.size + 2) 1 (bl s) with
  | none =>
    rw [hp] at hpv
    obtain ⟨rfl, us, rfl, hut⟩ := hpv
    obtain ⟨ua, uc, rfl, hus⟩ := hut.cells
    simp only [T0] at hcall
    simp only [ir45, T0]
    (repeat' first
    | (refine CondV_dec (fun _ => ?_) (fun _ => ?_) <;> try (exfalso; omega))
    | (refine GuardV_td (fun _ => ?_) (fun _ => ?_) <;> try (exfalso; omega))
    | (refine GuardV_fd (fun _ => ?_) (fun _ => ?_) <;> try (exfalso; omega))
    | (refine CondV_split (fun _ => ?_) (fun _ => ?_))
    | (refine Need_of (by first | omega | decide) ?_)
    | refine WpK_cons ?_ ?_
    | refine WpK_guard ?_
    | simp (disch := first | omega | simp only [List.length_append, List.length_set, List.length_cons, List.length_nil] <;> omega | fail) only [evA, ↓evB, ↓astep, ↓aop, aBin, aInt, aStr, aUn, aNil, aMax, aresults, ares, aPack, ↓reduceIte, ↓reduceCtorEq, Nat.reduceEqDiff, Nat.reduceAdd, env0, aLoad, aLoadN, cellsOf, Int.reduceEq, Int.reduceLT, Int.reduceLE, Nat.reduceLeDiff, oneC, aop.fillL, setL, aApp, aAppC_nil, aAppC_own, xop, aSame_ptr, BIG, Bool.or_true, Bool.true_or, Bool.or_false, Bool.false_or, eqCells, eqCell, rowOf, ↓acallop, aBound, aIntOf, flat, flatN, CX_fn, CX_X, CX_pol, aStore, Nat.reduceBEq, List.size_toArray, Int.sub_zero, Int.zero_add, Int.add_zero, Int.toNat_zero, Int.reduceAdd, Int.reduceSub, Int.reduceMul, Int.reduceNeg, Int.reduceToNat, Nat.reduceSub, Nat.reduceMul, Int.natCast_zero, Int.reduceDiv, Int.reduceMod, Int.toNat_natCast, fdiv_nn, min_bits_i, Int.reducePow, Nat.reducePow, Nat.reduceDiv, Nat.reduceMod, mb_i, mb_u, WpC_drawD, WpT_nil, WpT_cons, WpT_guard, WpK_nil, scal, ← hHa, hcall, hz1])
    exact bad _ _ (fun t' h => by have := no t' h; rw [hp] at this; cases this)
  | some p =>
    obtain ⟨t, rest⟩ := p
    rw [hp] at hpv
    obtain ⟨rfl, hrl, us, rfl, hut⟩ := hpv
    obtain ⟨ua, uc, rfl, hus⟩ := hut.cells
    have hps := (prs_sound _).1 _ _ _ _ hp
    have hsh := sz_shw t hps.2.1
    have hln := congrArg List.length hps.1
    rw [bl_length, List.length_append] at hln
    by_cases hr0 : rest = []
    · subst hr0
      simp only [List.length_nil, Nat.sub_zero] at hcall
      obtain ⟨H2, hH2⟩ : ∃ H2 : Heap, H2 = H1 ++ [.cells [.string t.text, .bool t.list, .slice ua t.sub.length uc] 24 true] := ⟨_, rfl⟩
      have hv2 : ItemV H2 (fun i => Ha.length ≤ i) t (.agg #[.string t.text, .bool t.list, .slice ua t.sub.length uc]) := by rw [hH2]; exact ItemV.app _ ⟨_, rfl, hut⟩
      have hl2 : H2[H1.length]? = some (.cells [.string t.text, .bool t.list, .slice ua t.sub.length uc] 24 true) := by rw [hH2]; simp
      have hz2 : H2[H.length]? = some (.cells [.string ⟨#[]⟩, .bool false, .slice none 0 0] 24 true) := by rw [hH2]; exact get_app hz1 _
      obtain ⟨v, H3, hmay, rfl⟩ := Run_get (wMay t (by omega) H2 _ _ hv2 ⟨H2.length, H2.length⟩ k (by omega))
      have hmay := hmay k (Nat.le_refl _)
      have hlt2 : H.length < H2.length := by rw [hH2]; simp; omega
      have hlt3 : H1.length < H2.length := by rw [hH2]; simp
      have hfs2 : ∀ (o : AObj), Fr (fun i => H.length ≤ i) H1 (H2.set H.length o) := fun o => by rw [hH2]; exact ((Fr.refl (fun i => H.length ≤ i) H1).appl _).sets (Nat.le_refl _) _
      cases hm : may t with
      | true =>
        rw [hm] at hmay
        simp only [T0] at hcall hmay
        simp only [ir45, T0]
        (repeat' first
    | (refine CondV_dec (fun _ => ?_) (fun _ => ?_) <;> try (exfalso; omega))
    | (refine GuardV_td (fun _ => ?_) (fun _ => ?_) <;> try (exfalso; omega))
    | (refine GuardV_fd (fun _ => ?_) (fun _ => ?_) <;> try (exfalso; omega))
    | (refine CondV_split (fun _ => ?_) (fun _ => ?_))
    | (refine Need_of (by first | omega | decide) ?_)
    | refine WpK_cons ?_ ?_
    | refine WpK_guard ?_
    | simp (disch := first | omega | simp only [List.length_append, List.length_set, List.length_cons, List.length_nil] <;> omega | fail) only [evA, ↓evB, ↓astep, ↓aop, aBin, aInt, aStr, aUn, aNil, aMax, aresults, ares, aPack, ↓reduceIte, ↓reduceCtorEq, Nat.reduceEqDiff, Nat.reduceAdd, env0, aLoad, aLoadN, cellsOf, Int.reduceEq, Int.reduceLT, Int.reduceLE, Nat.reduceLeDiff, oneC, aop.fillL, setL, aApp, aAppC_nil, aAppC_own, xop, aSame_ptr, BIG, Bool.or_true, Bool.true_or, Bool.or_false, Bool.false_or, eqCells, eqCell, rowOf, ↓acallop, aBound, aIntOf, flat, flatN, CX_fn, CX_X, CX_pol, aStore, Nat.reduceBEq, List.size_toArray, Int.sub_zero, Int.zero_add, Int.add_zero, Int.toNat_zero, Int.reduceAdd, Int.reduceSub, Int.reduceMul, Int.reduceNeg, Int.reduceToNat, Nat.reduceSub, Nat.reduceMul, Int.natCast_zero, Int.reduceDiv, Int.reduceMod, Int.toNat_natCast, fdiv_nn, min_bits_i, Int.reducePow, Nat.reducePow, Nat.reduceDiv, Nat.reduceMod, mb_i, mb_u, WpC_drawD, WpT_nil, WpT_cons, WpT_guard, WpK_nil, scal, ← hHa, hcall, ← hH2, hmay, hl2, hz2])
        have hfz : ∀ (o : AObj), Fr (fun i => i = H.length) H2 (H2.set H.length o) := fun o => .set (X := fun i => i = H.length) rfl _
        exact ⟨t, _, (hfa.trans hf1).new (hfs2 _) (fun i hi => .inr hi), hv2.mono (fun i o hi ho => ⟨by omega, (hfz _).2 _ _ (by omega) ho⟩), .inl ⟨⟨hm, by rw [hps.1, List.append_nil]⟩, rfl⟩⟩
      | false =>
        rw [hm] at hmay
        simp only [T0] at hcall hmay
        simp only [ir45, T0]
        (repeat' first
    | (refine CondV_dec (fun _ => ?_) (fun _ => ?_) <;> try (exfalso; omega))
    | (refine GuardV_td (fun _ => ?_) (fun _ => ?_) <;> try (exfalso; omega))
    | (refine GuardV_fd (fun _ => ?_) (fun _ => ?_) <;> try (exfalso; omega))
    | (refine CondV_split (fun _ => ?_) (fun _ => ?_))
    | (refine Need_of (by first | omega | decide) ?_)
    | refine WpK_cons ?_ ?_
    | refine WpK_guard ?_
    | simp (disch := first | omega | simp only [List.length_append, List.length_set, List.length_cons, List.length_nil] <;> omega | fail) only [evA, ↓evB, ↓astep, ↓aop, aBin, aInt, aStr, aUn, aNil, aMax, aresults, ares, aPack, ↓reduceIte, ↓reduceCtorEq, Nat.reduceEqDiff, Nat.reduceAdd, env0, aLoad, aLoadN, cellsOf, Int.reduceEq, Int.reduceLT, Int.reduceLE, Nat.reduceLeDiff, oneC, aop.fillL, setL, aApp, aAppC_nil, aAppC_own, xop, aSame_ptr, BIG, Bool.or_true, Bool.true_or, Bool.or_false, Bool.false_or, eqCells, eqCell, rowOf, ↓acallop, aBound, aIntOf, flat, flatN, CX_fn, CX_X, CX_pol, aStore, Nat.reduceBEq, List.size_toArray, Int.sub_zero, Int.zero_add, Int.add_zero, Int.toNat_zero, Int.reduceAdd, Int.reduceSub, Int.reduceMul, Int.reduceNeg, Int.reduceToNat, Nat.reduceSub, Nat.reduceMul, Int.natCast_zero, Int.reduceDiv, Int.reduceMod, Int.toNat_natCast, fdiv_nn, min_bits_i, Int.reducePow, Nat.reducePow, Nat.reduceDiv, Nat.reduceMod, mb_i, mb_u, WpC_drawD, WpT_nil, WpT_cons, WpT_guard, WpK_nil, scal, ← hHa, hcall, ← hH2, hmay, hl2, hz2])
        refine ⟨.mk ⟨#[]⟩ false [], _, (hfa.trans hf1).new (hfs2 _) (fun i hi => .inr hi), .empty _ _ _, .inr ⟨fun t' h => ?_, rfl, rfl⟩⟩
        have := no t' h
        rw [hp] at this
        cases this
        have := h.1
        rw [hm] at this; cases this
    · have hrp : 0 < rest.length := List.length_pos_iff.2 hr0
      simp only [T0] at hcall
      simp only [ir45, T0]
      (repeat' first
    | (refine CondV_dec (fun _ => ?_) (fun _ => ?_) <;> try (exfalso; omega))
    | (refine GuardV_td (fun _ => ?_) (fun _ => ?_) <;> try (exfalso; omega))
    | (refine GuardV_fd (fun _ => ?_) (fun _ => ?_) <;> try (exfalso; omega))
    | (refine CondV_split (fun _ => ?_) (fun _ => ?_))
    | (refine Need_of (by first | omega | decide) ?_)
    | refine WpK_cons ?_ ?_
    | refine WpK_guard ?_
    | simp (disch := first | omega | simp only [List.length_append, List.length_set, List.length_cons, List.length_nil] <;> omega | fail) only [evA, ↓evB, ↓astep, ↓aop, aBin, aInt, aStr, aUn, aNil, aMax, aresults, ares, aPack, ↓reduceIte, ↓reduceCtorEq, Nat.reduceEqDiff, Nat.reduceAdd, env0, aLoad, aLoadN, cellsOf, Int.reduceEq, Int.reduceLT, Int.reduceLE, Nat.reduceLeDiff, oneC, aop.fillL, setL, aApp, aAppC_nil, aAppC_own, xop, aSame_ptr, BIG, Bool.or_true, Bool.true_or, Bool.or_false, Bool.false_or, eqCells, eqCell, rowOf, ↓acallop, aBound, aIntOf, flat, flatN, CX_fn, CX_X, CX_pol, aStore, Nat.reduceBEq, List.size_toArray, Int.sub_zero, Int.zero_add, Int.add_zero, Int.toNat_zero, Int.reduceAdd, Int.reduceSub, Int.reduceMul, Int.reduceNeg, Int.reduceToNat, Nat.reduceSub, Nat.reduceMul, Int.natCast_zero, Int.reduceDiv, Int.reduceMod, Int.toNat_natCast, fdiv_nn, min_bits_i, Int.reducePow, Nat.reducePow, Nat.reduceDiv, Nat.reduceMod, mb_i, mb_u, WpC_drawD, WpT_nil, WpT_cons, WpT_guard, WpK_nil, scal, ← hHa, hcall, hz1])
      exact bad _ _ (fun t' h => by have := no t' h; rw [hp] at this; cases this; exact hr0 rfl)
end Ev
end Go.Proofs.Ytfbelnjchpffeaa
