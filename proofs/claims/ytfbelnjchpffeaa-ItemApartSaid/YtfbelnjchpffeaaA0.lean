/-
  A copy of an item: all its rows are the copy's own.
-/
import Derived.Test.YtfbelnjchpffeaaI5
namespace Go.Proofs.Ytfbelnjchpffeaa
namespace Ev
open Tag (mk)
set_option linter.unusedSimpArgs false
set_option linter.unusedVariables false
set_option maxRecDepth 4000
set_option maxHeartbeats 4000000
/-- A thing of cells that may be written. -/
def Own (H : Heap) (x : Nat) : Prop := ∃ cells T, H[x]? = some (.cells cells T true)
theorem Own.mv {H H' : Heap} {x : Nat} {o : AObj} (h : Own H x) (ho : H[x]? = some o) (ho' : H'[x]? = some o) : Own H' x := by
  obtain ⟨cells, T, h⟩ := h
  rw [ho] at h; cases h
  exact ⟨cells, T, ho'⟩
/-! ## A copy -/
def ICopyO (Hb : Heap) (S : Nat → Prop) (t : ByteArray) (b : Bool) (l : List Tr) (a : Option Addr) (cc : Nat) (n : Nat) (e : Env) (H : Heap) : Prop :=
  ∃ (i : Nat) (a' : Option Addr) (c' : Nat), i + n = l.length ∧ e 2 = .pointer (some ⟨Hb.length + 1, 0, none⟩) ∧ e 3 = .pointer (some ⟨Hb.length + 2, 0, none⟩) ∧ e 12 = .slice a l.length cc ∧ e 13 = .int .i64 (l.length : Int) ∧ e 14 = .int .i64 (i : Int) ∧
    Hb.length + 3 ≤ H.length ∧ Held H S Hb.length t b l a cc ∧ Fr (fun _ => False) Hb H ∧
    H[Hb.length + 1]? = some (.cells [.string ⟨#[]⟩, .bool false, .slice none 0 0] 24 true) ∧
    H[Hb.length + 2]? = some (.cells [.string t, .bool b, .slice a' i c'] 24 true) ∧
    (i = 0 ∧ a' = none ∧ c' = 0 ∨ ∃ q cells, a' = some ⟨q, 0, none⟩ ∧ c' = 3 ∧ Hb.length + 3 ≤ q ∧ H[q]? = some (.cells cells 24 true) ∧ ItemsAt H (fun x => Hb.length + 3 ≤ x ∧ x ≠ q ∧ Own H x) (l.take i) cells)
theorem wCopyO : ∀ (N : Nat) (t : Tr), sz t ≤ N → sz t ≤ 5000 → ∀ (H : Heap) (S : Nat → Prop) (v : Value), ItemV H S t v → ∀ (m : Ev.Mode), m.lim ≤ H.length → m.fb ≤ H.length → ∀ (k : Nat), sz t + 2 ≤ k →
    Run (fun u H' => ItemV H' (fun x => H.length ≤ x ∧ Own H' x) t u ∧ Fr (fun _ => False) H H') mk (acall T0 k 58 [v] H m) := by
  intro N
  induction N with
  | zero => intro t h; have := sz_pos t; omega
  | succ N ih =>
    intro t hN h5 H S v hv m hm1 hm2 k hk
    obtain ⟨t, b, l⟩ := t
    obtain ⟨a, c, rfl, hh⟩ := hv.lt.parts
    obtain ⟨k, rfl⟩ : ∃ q, k = q + 1 := ⟨k - 1, by omega⟩
    have hls := len_szs l
    unfold sz at hN hk h5
    refine Run_call (F := ir58) rfl (Nat.le_of_ble_eq_true rfl) ?_
    obtain ⟨Hc, hHc⟩ : ∃ Hc : Heap, Hc = H ++ [.cells [.string t, .bool b, .slice a l.length c] 24 true] := ⟨_, rfl⟩
    have hold := hh Hc hHc
    have hbox := hold.box
    have hfr : Fr (fun _ => False) H Hc := by rw [hHc]; exact .app _ _ _
    have hLc : Hc.length = H.length + 1 := by rw [hHc]; simp
    simp only [ir58]
    (repeat' first
    | (refine CondV_dec (fun _ => ?_) (fun _ => ?_) <;> try (exfalso; omega))
    | (refine GuardV_td (fun _ => ?_) (fun _ => ?_) <;> try (exfalso; omega))
    | (refine GuardV_fd (fun _ => ?_) (fun _ => ?_) <;> try (exfalso; omega))
    | (refine CondV_split (fun _ => ?_) (fun _ => ?_))
    | (refine Need_of (by first | omega | decide) ?_)
    | refine WpK_cons ?_ ?_
    | refine WpK_guard ?_
    | simp (disch := first | omega | simp only [List.length_append, List.length_set, List.length_cons, List.length_nil] <;> omega | fail) only [evA, ↓evB, ↓astep, ↓aop, aBin, aInt, aStr, aUn, aNil, aMax, aresults, ares, aPack, ↓reduceIte, ↓reduceCtorEq, Nat.reduceEqDiff, Nat.reduceAdd, env0, aLoad, aLoadN, cellsOf, Int.reduceEq, Int.reduceLT, Int.reduceLE, Nat.reduceLeDiff, oneC, aop.fillL, setL, aApp, aAppC_nil, aAppC_own, xop, aSame_ptr, BIG, Bool.or_true, Bool.true_or, Bool.or_false, Bool.false_or, eqCells, eqCell, rowOf, ↓acallop, aBound, aIntOf, flat, flatN, CX_fn, CX_X, CX_pol, aStore, Nat.reduceBEq, List.size_toArray, Int.sub_zero, Int.zero_add, Int.add_zero, Int.toNat_zero, Int.reduceAdd, Int.reduceSub, Int.reduceMul, Int.reduceNeg, Int.reduceToNat, Nat.reduceSub, Nat.reduceMul, Int.natCast_zero, Int.reduceDiv, Int.reduceMod, Int.toNat_natCast, fdiv_nn, min_bits_i, Int.reducePow, Nat.reducePow, Nat.reduceDiv, Nat.reduceMod, mb_i, mb_u, WpC_drawD, WpT_nil, WpT_cons, WpT_guard, WpK_nil, scal, ← hHc, hbox, happ_assoc])
    refine WpC_loop (ICopyO H (fun i => S i ∧ i < H.length) t b l a c) ?_ (n := l.length) (show l.length < k by omega) ?_
    · rintro n e H1 ⟨i, a', c', hi, g2, g3, g12, g13, g14, hL, hold1, hfr1, hr2, hr3, hrow⟩
      by_cases hc : i < l.length
      · obtain ⟨q, T, own, cells, rfl, rfl, hSq, hq, hle, hit⟩ := hold1.get hc
        obtain ⟨ai, ci, hcell, hsubi⟩ := hit.cells
        have hsl := sz_get hc
        obtain ⟨H2, hH2⟩ : ∃ H2 : Heap, H2 = H1 ++ [.cells [.string l[i].text, .bool l[i].list, .slice ai l[i].sub.length ci] 24 true] := ⟨_, rfl⟩
        have hL2 : H2.length = H1.length + 1 := by rw [hH2]; simp
        have hfr2 : Fr (fun _ => False) H1 H2 := by rw [hH2]; exact .app _ _ _
        have hv2 : ItemV H2 (fun i => S i ∧ i < H.length) l[i] (.agg #[.string l[i].text, .bool l[i].list, .slice ai l[i].sub.length ci]) := by
          have : ItemV H1 (fun i => S i ∧ i < H.length) l[i] (.agg #[.string l[i].text, .bool l[i].list, .slice ai l[i].sub.length ci]) := ⟨_, rfl, hcell ▸ hit⟩
          rw [hH2]; exact this.app _
        have := ih l[i] (by omega) (by omega) H2 _ _ hv2 m (by omega) (by omega) k (by omega)
        obtain ⟨u, H3, hcall, hu, hfr3⟩ := Run_get this
        have hcall := hcall k (Nat.le_refl _)
        obtain ⟨us, rfl, hut⟩ := hu
        obtain ⟨au, cu, rfl, husub⟩ := hut.cells
        have hl2 : H2[H1.length]? = some (.cells [.string l[i].text, .bool l[i].list, .slice ai l[i].sub.length ci] 24 true) := by rw [hH2]; simp
        have hfr13 := hfr2.trans hfr3
        have hr3b := hfr13.2 _ _ (fun h => h) hr3
        have hr3c := hfr2.2 _ _ (fun h => h) hr3
        have hr2b := hfr13.2 _ _ (fun h => h) hr2
        have hold3 := hold1.fr hfr13 (fun h => h) (fun _ _ h => h)
        have hL3 := hfr3.1
        have htake : l.take (i + 1) = l.take i ++ [l[i]] := by rw [List.take_succ_eq_append_getElem hc]
        simp only [T0] at hcall
        simp only [lp58_0, evA, ↓evB, ↓astep, ↓aop, aBin, aInt, aStr, aUn, aNil, aMax, aresults, ares, aPack, ↓reduceIte, ↓reduceCtorEq, Nat.reduceEqDiff, Nat.reduceAdd, env0, aLoad, aLoadN, cellsOf, Int.reduceEq, Int.reduceLT, Int.reduceLE, Nat.reduceLeDiff, oneC, aop.fillL, setL, aApp, aAppC_nil, aAppC_own, xop, aSame_ptr, BIG, Bool.or_true, Bool.true_or, Bool.or_false, Bool.false_or, eqCells, eqCell, rowOf, ↓acallop, aBound, aIntOf, flat, flatN, CX_fn, CX_X, CX_pol, aStore, Nat.reduceBEq, List.size_toArray, Int.sub_zero, Int.zero_add, Int.add_zero, Int.toNat_zero, Int.reduceAdd, Int.reduceSub, Int.reduceMul, Int.reduceNeg, Int.reduceToNat, Nat.reduceSub, Nat.reduceMul, Int.natCast_zero, Int.reduceDiv, Int.reduceMod, Int.toNat_natCast, fdiv_nn, min_bits_i, Int.reducePow, Nat.reducePow, Nat.reduceDiv, Nat.reduceMod, mb_i, mb_u, WpC_drawD, WpT_nil, WpT_cons, WpT_guard, WpK_nil, scal, g2, g3, g12, g13, g14, T0]
        rcases hrow with ⟨hi0, rfl, rfl⟩ | ⟨q', cells', rfl, rfl, hq'1, hq'2, hrows⟩
        · (repeat' first
    | (refine CondV_dec (fun _ => ?_) (fun _ => ?_) <;> try (exfalso; omega))
    | (refine GuardV_td (fun _ => ?_) (fun _ => ?_) <;> try (exfalso; omega))
    | (refine GuardV_fd (fun _ => ?_) (fun _ => ?_) <;> try (exfalso; omega))
    | (refine CondV_split (fun _ => ?_) (fun _ => ?_))
    | (refine Need_of (by first | omega | decide) ?_)
    | refine WpK_cons ?_ ?_
    | refine WpK_guard ?_
    | simp (disch := first | omega | simp only [List.length_append, List.length_set, List.length_cons, List.length_nil] <;> omega | fail) only [evA, ↓evB, ↓astep, ↓aop, aBin, aInt, aStr, aUn, aNil, aMax, aresults, ares, aPack, ↓reduceIte, ↓reduceCtorEq, Nat.reduceEqDiff, Nat.reduceAdd, env0, aLoad, aLoadN, cellsOf, Int.reduceEq, Int.reduceLT, Int.reduceLE, Nat.reduceLeDiff, oneC, aop.fillL, setL, aApp, aAppC_nil, aAppC_own, xop, aSame_ptr, BIG, Bool.or_true, Bool.true_or, Bool.or_false, Bool.false_or, eqCells, eqCell, rowOf, ↓acallop, aBound, aIntOf, flat, flatN, CX_fn, CX_X, CX_pol, aStore, Nat.reduceBEq, List.size_toArray, Int.sub_zero, Int.zero_add, Int.add_zero, Int.toNat_zero, Int.reduceAdd, Int.reduceSub, Int.reduceMul, Int.reduceNeg, Int.reduceToNat, Nat.reduceSub, Nat.reduceMul, Int.natCast_zero, Int.reduceDiv, Int.reduceMod, Int.toNat_natCast, fdiv_nn, min_bits_i, Int.reducePow, Nat.reducePow, Nat.reduceDiv, Nat.reduceMod, mb_i, mb_u, WpC_drawD, WpT_nil, WpT_cons, WpT_guard, WpK_nil, scal, g2, g3, g12, g13, g14, hq, hcell, hr3, ← hH2, hl2, hcall, hr3b, hr3c])
          obtain ⟨Hz, hHz⟩ : ∃ Hz : Heap, Hz = H3.set (H.length + 2) (.cells [.string t, .bool b, .slice (some ⟨H3.length + 1, 0, none⟩) 1 3] 24 true) ++ [.cells [.string l[i].text, .bool l[i].list, .slice au l[i].sub.length cu] 24 true, .cells [.string l[i].text, .bool l[i].list, .slice au l[i].sub.length cu] 24 true] := ⟨_, rfl⟩
          rw [← hHz]
          have hLz : Hz.length = H3.length + 2 := by rw [hHz]; simp
          have hfz : Fr (fun x => x = H.length + 2) H3 Hz := by rw [hHz]; exact (Fr.set (X := fun x => x = H.length + 2) rfl _).appl _
          refine ⟨n - 1, by omega, i + 1, some ⟨H3.length + 1, 0, none⟩, 3, by omega, by (first | rfl | (simp only [Env_put_some, Env_put_none, ↓Env_set_at, ↓reduceIte, Nat.reduceEqDiff, g2] <;> rfl)), by (first | rfl | (simp only [Env_put_some, Env_put_none, ↓Env_set_at, ↓reduceIte, Nat.reduceEqDiff, g3] <;> rfl)), by (first | rfl | (simp only [Env_put_some, Env_put_none, ↓Env_set_at, ↓reduceIte, Nat.reduceEqDiff, g12] <;> rfl)), by (first | rfl | (simp only [Env_put_some, Env_put_none, ↓Env_set_at, ↓reduceIte, Nat.reduceEqDiff, g13] <;> rfl)), by (first | rfl | (simp only [Env_put_some, Env_put_none, ↓Env_set_at, ↓reduceIte, Nat.reduceEqDiff] <;> rfl)), by omega, hold3.fr hfz (by omega) (fun x hx => by omega), (hfr1.trans hfr13).new hfz (fun x hx => .inr (by omega)), hfz.2 _ _ (by omega) hr2b, ?_, .inr ⟨H3.length + 1, _, rfl, rfl, by omega, (by rw [hHz, happ_ge (by simp)]; simp; rfl), ?_⟩⟩
          · rw [hHz, happ_l (by simp; omega), hset_self (by omega), hi0]
          · rw [htake, show l.take i = [] by rw [hi0]; rfl]
            refine ItemsAt.snoc (l := []) (cs := []) ItemsAt.nil ?_
            exact ItemAt.mono (fun x o hx ho => by
                have g1 := lt_of_get ho
                have g2 := hx.1
                have g3 := hfz.2 _ _ (by omega) ho
                exact ⟨⟨by omega, by omega, hx.2.mv ho g3⟩, g3⟩) _ _ hut
        · have hq'3 := hfr13.2 _ _ (fun h => h) hq'2
          have hlq := lt_of_get hq'2
          have hcl := hrows.length
          rw [List.length_take, Nat.min_eq_left (by omega)] at hcl
          have htk : List.take (i * 3) cells' = cells' := List.take_of_length_le (by omega)
          (repeat' first
    | (refine CondV_dec (fun _ => ?_) (fun _ => ?_) <;> try (exfalso; omega))
    | (refine GuardV_td (fun _ => ?_) (fun _ => ?_) <;> try (exfalso; omega))
    | (refine GuardV_fd (fun _ => ?_) (fun _ => ?_) <;> try (exfalso; omega))
    | (refine CondV_split (fun _ => ?_) (fun _ => ?_))
    | (refine Need_of (by first | omega | decide) ?_)
    | refine WpK_cons ?_ ?_
    | refine WpK_guard ?_
    | simp (disch := first | omega | simp only [List.length_append, List.length_set, List.length_cons, List.length_nil] <;> omega | fail) only [evA, ↓evB, ↓astep, ↓aop, aBin, aInt, aStr, aUn, aNil, aMax, aresults, ares, aPack, ↓reduceIte, ↓reduceCtorEq, Nat.reduceEqDiff, Nat.reduceAdd, env0, aLoad, aLoadN, cellsOf, Int.reduceEq, Int.reduceLT, Int.reduceLE, Nat.reduceLeDiff, oneC, aop.fillL, setL, aApp, aAppC_nil, aAppC_own, xop, aSame_ptr, BIG, Bool.or_true, Bool.true_or, Bool.or_false, Bool.false_or, eqCells, eqCell, rowOf, ↓acallop, aBound, aIntOf, flat, flatN, CX_fn, CX_X, CX_pol, aStore, Nat.reduceBEq, List.size_toArray, Int.sub_zero, Int.zero_add, Int.add_zero, Int.toNat_zero, Int.reduceAdd, Int.reduceSub, Int.reduceMul, Int.reduceNeg, Int.reduceToNat, Nat.reduceSub, Nat.reduceMul, Int.natCast_zero, Int.reduceDiv, Int.reduceMod, Int.toNat_natCast, fdiv_nn, min_bits_i, Int.reducePow, Nat.reducePow, Nat.reduceDiv, Nat.reduceMod, mb_i, mb_u, WpC_drawD, WpT_nil, WpT_cons, WpT_guard, WpK_nil, scal, g2, g3, g12, g13, g14, hq, hcell, hr3, ← hH2, hl2, hcall, hr3b, hr3c, hq'2, hq'3, htk])
          obtain ⟨Hz, hHz⟩ : ∃ Hz : Heap, Hz = (H3.set q' .dead).set (H.length + 2) (.cells [.string t, .bool b, .slice (some ⟨H3.length + 1, 0, none⟩) (i + 1) 3] 24 true) ++ [.cells [.string l[i].text, .bool l[i].list, .slice au l[i].sub.length cu] 24 true, .cells (cells' ++ [.string l[i].text, .bool l[i].list, .slice au l[i].sub.length cu]) 24 true] := ⟨_, rfl⟩
          rw [← hHz]
          have hLz : Hz.length = H3.length + 2 := by rw [hHz]; simp
          have hfz : Fr (fun x => x = q' ∨ x = H.length + 2) H3 Hz := by rw [hHz]; exact ((Fr.set (X := fun x => x = q' ∨ x = H.length + 2) (.inl rfl) _).sets (.inr rfl) _).appl _
          refine ⟨n - 1, by omega, i + 1, some ⟨H3.length + 1, 0, none⟩, 3, by omega, by (first | rfl | (simp only [Env_put_some, Env_put_none, ↓Env_set_at, ↓reduceIte, Nat.reduceEqDiff, g2] <;> rfl)), by (first | rfl | (simp only [Env_put_some, Env_put_none, ↓Env_set_at, ↓reduceIte, Nat.reduceEqDiff, g3] <;> rfl)), by (first | rfl | (simp only [Env_put_some, Env_put_none, ↓Env_set_at, ↓reduceIte, Nat.reduceEqDiff, g12] <;> rfl)), by (first | rfl | (simp only [Env_put_some, Env_put_none, ↓Env_set_at, ↓reduceIte, Nat.reduceEqDiff, g13] <;> rfl)), by (first | rfl | (simp only [Env_put_some, Env_put_none, ↓Env_set_at, ↓reduceIte, Nat.reduceEqDiff] <;> rfl)), by omega, hold3.fr hfz (by omega) (fun x hx => by omega), (hfr1.trans hfr13).new hfz (fun x hx => .inr (by omega)), hfz.2 _ _ (by omega) hr2b, ?_, .inr ⟨H3.length + 1, _, rfl, rfl, by omega, (by rw [hHz, happ_ge (by simp)]; simp; rfl), ?_⟩⟩
          · rw [hHz, happ_l (by simp; omega), hset_self (by simp; omega)]
          · rw [htake]
            refine ItemsAt.snoc (ItemsAt.mono (fun x o hx ho => by
                have g1 := lt_of_get ho
                have g2 := hx.1
                have g4 := hx.2.1
                have g3 := hfz.2 _ _ (by omega) (hfr13.2 _ _ (fun h => h) ho)
                exact ⟨⟨g2, by omega, hx.2.2.mv ho g3⟩, g3⟩) _ _ hrows) ?_
            exact ItemAt.mono (fun x o hx ho => by
                have g1 := lt_of_get ho
                have g2 := hx.1
                have g3 := hfz.2 _ _ (by omega) ho
                exact ⟨⟨by omega, by omega, hx.2.mv ho g3⟩, g3⟩) _ _ hut
      · simp only [lp58_0, evA, ↓evB, ↓astep, ↓aop, aBin, aInt, aStr, aUn, aNil, aMax, aresults, ares, aPack, ↓reduceIte, ↓reduceCtorEq, Nat.reduceEqDiff, Nat.reduceAdd, env0, aLoad, aLoadN, cellsOf, Int.reduceEq, Int.reduceLT, Int.reduceLE, Nat.reduceLeDiff, oneC, aop.fillL, setL, aApp, aAppC_nil, aAppC_own, xop, aSame_ptr, BIG, Bool.or_true, Bool.true_or, Bool.or_false, Bool.false_or, eqCells, eqCell, rowOf, ↓acallop, aBound, aIntOf, flat, flatN, CX_fn, CX_X, CX_pol, aStore, Nat.reduceBEq, List.size_toArray, Int.sub_zero, Int.zero_add, Int.add_zero, Int.toNat_zero, Int.reduceAdd, Int.reduceSub, Int.reduceMul, Int.reduceNeg, Int.reduceToNat, Nat.reduceSub, Nat.reduceMul, Int.natCast_zero, Int.reduceDiv, Int.reduceMod, Int.toNat_natCast, fdiv_nn, min_bits_i, Int.reducePow, Nat.reducePow, Nat.reduceDiv, Nat.reduceMod, mb_i, mb_u, WpC_drawD, WpT_nil, WpT_cons, WpT_guard, WpK_nil, scal, g2, g3, g12, g13, g14]
        have hie : i = l.length := by omega
        subst hie
        rw [List.take_length] at hrow
        (repeat' first
    | (refine CondV_dec (fun _ => ?_) (fun _ => ?_) <;> try (exfalso; omega))
    | (refine GuardV_td (fun _ => ?_) (fun _ => ?_) <;> try (exfalso; omega))
    | (refine GuardV_fd (fun _ => ?_) (fun _ => ?_) <;> try (exfalso; omega))
    | (refine CondV_split (fun _ => ?_) (fun _ => ?_))
    | (refine Need_of (by first | omega | decide) ?_)
    | refine WpK_cons ?_ ?_
    | refine WpK_guard ?_
    | simp (disch := first | omega | simp only [List.length_append, List.length_set, List.length_cons, List.length_nil] <;> omega | fail) only [evA, ↓evB, ↓astep, ↓aop, aBin, aInt, aStr, aUn, aNil, aMax, aresults, ares, aPack, ↓reduceIte, ↓reduceCtorEq, Nat.reduceEqDiff, Nat.reduceAdd, env0, aLoad, aLoadN, cellsOf, Int.reduceEq, Int.reduceLT, Int.reduceLE, Nat.reduceLeDiff, oneC, aop.fillL, setL, aApp, aAppC_nil, aAppC_own, xop, aSame_ptr, BIG, Bool.or_true, Bool.true_or, Bool.or_false, Bool.false_or, eqCells, eqCell, rowOf, ↓acallop, aBound, aIntOf, flat, flatN, CX_fn, CX_X, CX_pol, aStore, Nat.reduceBEq, List.size_toArray, Int.sub_zero, Int.zero_add, Int.add_zero, Int.toNat_zero, Int.reduceAdd, Int.reduceSub, Int.reduceMul, Int.reduceNeg, Int.reduceToNat, Nat.reduceSub, Nat.reduceMul, Int.natCast_zero, Int.reduceDiv, Int.reduceMod, Int.toNat_natCast, fdiv_nn, min_bits_i, Int.reducePow, Nat.reducePow, Nat.reduceDiv, Nat.reduceMod, mb_i, mb_u, WpC_drawD, WpT_nil, WpT_cons, WpT_guard, WpK_nil, scal, g2, g3, g12, g13, g14, hr2, hr3])
        have hfx : Fr (fun x => x = H.length + 1) H1 (H1.set (H.length + 1) (.cells [.string t, .bool b, .slice a' l.length c'] 24 true)) := .set (X := fun x => x = H.length + 1) rfl _
        refine ⟨⟨_, rfl, ItemAt.of fun hne => ?_⟩, hfr1.new hfx (fun i hi => .inr (by omega))⟩
        rcases hrow with ⟨h1, h2, h3⟩ | ⟨q, cells, rfl, rfl, hq1, hq2, hq3⟩
        · exact absurd (List.eq_nil_of_length_eq_zero h1) hne
        · have g3 := hfx.2 _ _ (by omega) hq2
          exact ⟨q, _, _, cells, rfl, rfl, ⟨by omega, _, _, g3⟩, g3, ItemsAt.mono (fun x o hx ho => by
            have g2 := hx.1
            have g4 := hfx.2 _ _ (by omega) ho
            exact ⟨⟨by omega, hx.2.2.mv ho g4⟩, g4⟩) _ _ hq3⟩
    · refine ⟨0, none, 0, by omega, by (first | rfl | (simp only [Env_put_some, Env_put_none, ↓Env_set_at, ↓reduceIte, Nat.reduceEqDiff, hLc] <;> rfl)), by (first | rfl | (simp only [Env_put_some, Env_put_none, ↓Env_set_at, ↓reduceIte, Nat.reduceEqDiff, hLc] <;> rfl)), rfl, rfl, rfl, ?_, ?_, ?_, ?_, ?_, .inl ⟨rfl, rfl, rfl⟩⟩
      · simp [hLc]
      · exact hold.app _
      · exact hfr.appl _
      · rw [happ_ge (by omega), hLc, Nat.sub_self]; rfl
      · rw [happ_ge (by omega), hLc, show H.length + 2 - (H.length + 1) = 1 by omega]; rfl

theorem wCopyI (t : Tr) (hm : may t = true) (H : Heap) (S : Nat → Prop) (v : Value) (hv : ItemV H S t v) (m : Ev.Mode) (hm1 : m.lim ≤ H.length) (hm2 : m.fb ≤ H.length) (k : Nat) (hk : sz t + 12 ≤ k) (h5 : sz t ≤ 5000) :
    Run (fun u H' => ItemV H' (fun x => H.length ≤ x ∧ Own H' x) t u ∧ Fr (fun _ => False) H H') mk (acall T0 k 18 [v] H m) := by
  obtain ⟨x, b, l⟩ := t
  obtain ⟨a, c, rfl, hh⟩ := hv.parts
  obtain ⟨t, ht⟩ : ∃ t, t = Tr.mk x b l := ⟨_, rfl⟩
  rw [← ht] at hk hm h5 ⊢
  obtain ⟨k, rfl⟩ : ∃ q, k = q + 1 := ⟨k - 1, by omega⟩
  refine Run_call (F := ir18) rfl (Nat.le_of_ble_eq_true rfl) ?_
  obtain ⟨Hc, hHc⟩ : ∃ Hc : Heap, Hc = H ++ [.cells [.string x, .bool b, .slice a l.length c] 24 true, .cells [.string ⟨#[]⟩, .bool false, .slice none 0 0] 24 true] := ⟨_, rfl⟩
  have hLc : Hc.length = H.length + 2 := by rw [hHc]; simp
  have hold0 := hh _ rfl
  have hold : Held Hc S H.length x b l a c := by
    have := hold0.app [.cells [.string ⟨#[]⟩, .bool false, .slice none 0 0] 24 true]
    rw [hHc]; simpa using this
  have hbox := hold.box
  have hb2 : Hc[H.length + 1]? = some (.cells [.string ⟨#[]⟩, .bool false, .slice none 0 0] 24 true) := by rw [hHc, happ_ge (by omega), show H.length + 1 - H.length = 1 by omega]; rfl
  have hvc := hold.val
  rw [← ht] at hvc
  have hfr0 : Fr (fun _ => False) H Hc := by rw [hHc]; exact .app _ _ _
  obtain ⟨w, K3, hmay, rfl⟩ := Run_get (wMayI t Hc _ _ hvc ⟨Hc.length, Hc.length⟩ k (by omega))
  have hmay := hmay k (Nat.le_refl _)
  rw [hm] at hmay
  obtain ⟨u, H3, hcall, hu, hfr3⟩ := Run_get (wCopyO _ t (Nat.le_refl _) h5 Hc _ _ hvc m (by omega) (by omega) k (by omega))
  have hcall := hcall k (Nat.le_refl _)
  obtain ⟨us, rfl, hut⟩ := hu
  obtain ⟨au, cu, rfl, husub⟩ := hut.cells
  have hb3 := hfr3.2 _ _ (fun h => h) hb2
  have hL3 := hfr3.1
  have hlt3 := lt_of_get hb3
  simp only [T0] at hmay hcall
  simp only [ir18, T0]
  (repeat' first
    | (refine CondV_dec (fun _ => ?_) (fun _ => ?_) <;> try (exfalso; omega))
    | (refine GuardV_td (fun _ => ?_) (fun _ => ?_) <;> try (exfalso; omega))
    | (refine GuardV_fd (fun _ => ?_) (fun _ => ?_) <;> try (exfalso; omega))
    | (refine CondV_split (fun _ => ?_) (fun _ => ?_))
    | (refine Need_of (by first | omega | decide) ?_)
    | refine WpK_cons ?_ ?_
    | refine WpK_guard ?_
    | simp (disch := first | omega | simp only [List.length_append, List.length_set, List.length_cons, List.length_nil] <;> omega | fail) only [evA, ↓evB, ↓astep, ↓aop, aBin, aInt, aStr, aUn, aNil, aMax, aresults, ares, aPack, ↓reduceIte, ↓reduceCtorEq, Nat.reduceEqDiff, Nat.reduceAdd, env0, aLoad, aLoadN, cellsOf, Int.reduceEq, Int.reduceLT, Int.reduceLE, Nat.reduceLeDiff, oneC, aop.fillL, setL, aApp, aAppC_nil, aAppC_own, xop, aSame_ptr, BIG, Bool.or_true, Bool.true_or, Bool.or_false, Bool.false_or, eqCells, eqCell, rowOf, ↓acallop, aBound, aIntOf, flat, flatN, CX_fn, CX_X, CX_pol, aStore, Nat.reduceBEq, List.size_toArray, Int.sub_zero, Int.zero_add, Int.add_zero, Int.toNat_zero, Int.reduceAdd, Int.reduceSub, Int.reduceMul, Int.reduceNeg, Int.reduceToNat, Nat.reduceSub, Nat.reduceMul, Int.natCast_zero, Int.reduceDiv, Int.reduceMod, Int.toNat_natCast, fdiv_nn, min_bits_i, Int.reducePow, Nat.reducePow, Nat.reduceDiv, Nat.reduceMod, mb_i, mb_u, WpC_drawD, WpT_nil, WpT_cons, WpT_guard, WpK_nil, scal, happ_assoc, ← hHc, hbox, hmay, hcall, hb3])
  have hfz : Fr (fun x => x = H.length + 1) H3 (H3.set (H.length + 1) (.cells [.string t.text, .bool t.list, .slice au t.sub.length cu] 24 true)) := .set (X := fun x => x = H.length + 1) rfl _
  refine ⟨⟨_, rfl, ItemAt.mono (fun x o hx ho => ?_) _ _ hut⟩, (hfr0.trans hfr3).new hfz (fun i hi => .inr (by omega))⟩
  have g2 := hx.1
  have g4 := hfz.2 _ _ (by omega) ho
  exact ⟨⟨by omega, hx.2.mv ho g4⟩, g4⟩
end Ev
end Go.Proofs.Ytfbelnjchpffeaa
