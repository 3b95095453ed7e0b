/-
  The laws ItemShows and ItemReads.
-/
import Derived.Test.YtfbelnjchpffeaaI12
namespace Go.Proofs.Ytfbelnjchpffeaa
namespace Ev
open Tag (mk)
set_option linter.unusedSimpArgs false
set_option linter.unusedVariables false
set_option maxRecDepth 4000
set_option maxHeartbeats 8000000
theorem hx_lt (l : List Nat) (h : ∀ b ∈ l, b < 256) : ∀ b ∈ hx l, b < 256 := by
  intro b hb
  simp only [hx, List.mem_flatMap] at hb
  obtain ⟨c, hc, hb⟩ := hb
  have := h c hc
  simp only [List.mem_cons, List.not_mem_nil, or_false] at hb
  have hx1 : ∀ i, i < 16 → hxc i < 256 := fun i hi => by unfold hxc; split <;> omega
  rcases hb with rfl | rfl
  · exact hx1 _ (by omega)
  · exact hx1 _ (by omega)
mutual
theorem shw_lt : ∀ t : Tr, ∀ b ∈ shw t, b < 256
  | .mk t b l, x, hx => by
    have h := shws_lt true l
    unfold shw at hx
    split at hx
    · simp only [List.mem_append, List.mem_cons, List.not_mem_nil, or_false] at hx
      rcases hx with (rfl | hx) | rfl
      · decide
      · exact h x hx
      · decide
    · split at hx
      · simp only [List.mem_cons, List.not_mem_nil, or_false] at hx; omega
      · exact hx_lt _ (bl_lt t) x hx
theorem shws_lt : ∀ (f : Bool) (l : List Tr), ∀ b ∈ shws f l, b < 256
  | _, [], x, hx => by simp [shws] at hx
  | f, t :: l, x, hx => by
    have h1 := shw_lt t
    have h2 := shws_lt false l
    unfold shws at hx
    simp only [List.mem_append] at hx
    rcases hx with (hx | hx) | hx
    · split at hx
      · cases hx
      · simp only [List.mem_cons, List.not_mem_nil, or_false] at hx; omega
    · exact h1 x hx
    · exact h2 x hx
end
theorem wReads (s : ByteArray) (hs63 : s.size ≤ 9223372036854775807) : ∃ k, Run (fun v _ => v = .bool true) mk (acall T0 k 10 [.string s] [] ⟨0, 0⟩) := by
  refine ⟨40 * s.size + 60000, ?_⟩
  obtain ⟨k, hk⟩ : ∃ k, 40 * s.size + 60000 = k + 1 := ⟨40 * s.size + 59999, by omega⟩
  rw [hk]
  refine Run_call (F := ir10) rfl (Nat.le_of_ble_eq_true rfl) ?_
  by_cases hbig : 4000 < s.size
  · simp only [ir10, T0]
    (repeat' first
    | (refine CondV_dec (fun _ => ?_) (fun _ => ?_) <;> try (exfalso; omega))
    | (refine GuardV_td (fun _ => ?_) (fun _ => ?_) <;> try (exfalso; omega))
    | (refine GuardV_fd (fun _ => ?_) (fun _ => ?_) <;> try (exfalso; omega))
    | (refine CondV_split (fun _ => ?_) (fun _ => ?_))
    | (refine Need_of (by first | omega | decide) ?_)
    | refine WpK_cons ?_ ?_
    | refine WpK_guard ?_
    | simp (disch := first | omega | simp only [List.length_append, List.length_set, List.length_cons, List.length_nil] <;> omega | fail) only [evA, ↓evB, ↓astep, ↓aop, aBin, aInt, aStr, aUn, aNil, aMax, aresults, ares, aPack, ↓reduceIte, ↓reduceCtorEq, Nat.reduceEqDiff, Nat.reduceAdd, env0, aLoad, aLoadN, cellsOf, Int.reduceEq, Int.reduceLT, Int.reduceLE, Nat.reduceLeDiff, oneC, aop.fillL, setL, aApp, aAppC_nil, aAppC_own, xop, aSame_ptr, BIG, Bool.or_true, Bool.true_or, Bool.or_false, Bool.false_or, eqCells, eqCell, rowOf, ↓acallop, aBound, aIntOf, flat, flatN, CX_fn, CX_X, CX_pol, aStore, Nat.reduceBEq, List.size_toArray, Int.sub_zero, Int.zero_add, Int.add_zero, Int.toNat_zero, Int.reduceAdd, Int.reduceSub, Int.reduceMul, Int.reduceNeg, Int.reduceToNat, Nat.reduceSub, Nat.reduceMul, Int.natCast_zero, Int.reduceDiv, Int.reduceMod, Int.toNat_natCast, fdiv_nn, min_bits_i, Int.reducePow, Nat.reducePow, Nat.reduceDiv, Nat.reduceMod, mb_i, mb_u, WpC_drawD, WpT_nil, WpT_cons, WpT_guard, WpK_nil, scal, XAlive_eq])
  obtain ⟨u1, H1, hc1, t, v, hf1, hv1, hp1⟩ := Run_get (wReadI s (by omega) [] ⟨0, 0⟩ (Nat.le_refl _) (Nat.le_refl _) k (by omega))
  have hc1 := hc1 k (Nat.le_refl _)
  obtain ⟨us, rfl, hut⟩ := hv1
  obtain ⟨ua, uc, rfl, hus⟩ := hut.cells
  obtain ⟨H2, hH2⟩ : ∃ H2 : Heap, H2 = H1 ++ [.cells [.string t.text, .bool t.list, .slice ua t.sub.length uc] 24 true] := ⟨_, rfl⟩
  have hv2 : ItemV H2 (fun _ => True) t (.agg #[.string t.text, .bool t.list, .slice ua t.sub.length uc]) := by rw [hH2]; exact ItemV.app _ (ItemV.mono ⟨_, rfl, hut⟩ (fun i o _ ho => ⟨trivial, ho⟩))
  have hl2 : H2[H1.length]? = some (.cells [.string t.text, .bool t.list, .slice ua t.sub.length uc] 24 true) := by rw [hH2]; simp
  obtain ⟨u2, H3, hc2, t', v', hf3, hv3, hp2⟩ := Run_get (wReadR s (by omega) H2 ⟨0, 0⟩ (Nat.zero_le _) (Nat.zero_le _) k (by omega))
  have hc2 := hc2 k (Nat.le_refl _)
  obtain ⟨ws, rfl, hwt⟩ := hv3
  obtain ⟨wa, wc, rfl, hws⟩ := hwt.cells
  have hl3 := hf3.2 _ _ (fun h => h) hl2
  have hv3' : ItemV H3 (fun _ => True) t (.agg #[.string t.text, .bool t.list, .slice ua t.sub.length uc]) := hv2.fr hf3 (fun _ _ h => h)
  obtain ⟨H4, hH4⟩ : ∃ H4 : Heap, H4 = H3 ++ [.cells [.string t'.text, .bool t'.list, .slice wa t'.sub.length wc] 24 true] := ⟨_, rfl⟩
  have hl4 : H4[H1.length]? = some (.cells [.string t.text, .bool t.list, .slice ua t.sub.length uc] 24 true) := by rw [hH4]; exact get_app hl3 _
  have hl5 : H4[H3.length]? = some (.cells [.string t'.text, .bool t'.list, .slice wa t'.sub.length wc] 24 true) := by rw [hH4]; simp
  have hv4 : ItemV H4 (fun _ => True) t (.agg #[.string t.text, .bool t.list, .slice ua t.sub.length uc]) := by rw [hH4]; exact hv3'.app _
  have hv5 : ItemV H4 (fun _ => True) t' (.agg #[.string t'.text, .bool t'.list, .slice wa t'.sub.length wc]) := by rw [hH4]; exact ItemV.app _ (ItemV.mono ⟨_, rfl, hwt⟩ (fun i o _ ho => ⟨trivial, ho⟩))
  have hsz : ∀ t, RdOK s t → sz t ≤ 4000 ∧ byt t ≤ 4000 := fun t h => by
    have h1 := sz_shw t ((may_iff t).1 h.1).1
    rw [h.2, bl_length] at h1
    omega
  rcases hp1 with ⟨hok, rfl⟩ | ⟨hno, rfl, rfl⟩
  · rcases hp2 with ⟨hok', rfl⟩ | ⟨hno', _, _⟩
    rotate_left
    · exact absurd hok (hno' t)
    have htt := shw_inj hok hok'
    have hsame : same t t' = true := (same_eq t t').2 htt
    have := hsz t hok
    obtain ⟨w, H5, hc3, rfl⟩ := Run_get (wSame _ t (Nat.le_refl _) (by omega) t' H4 _ _ _ _ hv4 hv5 ⟨H4.length, H4.length⟩ k (by omega))
    have hc3 := hc3 k (Nat.le_refl _)
    rw [hsame] at hc3
    obtain ⟨w, H6, hc4, rfl⟩ := Run_get (wShowI t (by omega) (by omega) H4 _ _ hv4 ⟨H4.length, H4.length⟩ (Nat.le_refl _) (Nat.le_refl _) k (by omega))
    have hc4 := hc4 k (Nat.le_refl _)
    rw [if_pos hok.1, hok.2, bs_bl] at hc4
    simp only [T0] at hc1 hc2 hc3 hc4
    simp only [ir10, T0]
    (repeat' first
    | (refine CondV_dec (fun _ => ?_) (fun _ => ?_) <;> try (exfalso; omega))
    | (refine GuardV_td (fun _ => ?_) (fun _ => ?_) <;> try (exfalso; omega))
    | (refine GuardV_fd (fun _ => ?_) (fun _ => ?_) <;> try (exfalso; omega))
    | (refine CondV_split (fun _ => ?_) (fun _ => ?_))
    | (refine Need_of (by first | omega | decide) ?_)
    | refine WpK_cons ?_ ?_
    | refine WpK_guard ?_
    | simp (disch := first | omega | simp only [List.length_append, List.length_set, List.length_cons, List.length_nil] <;> omega | fail) only [evA, ↓evB, ↓astep, ↓aop, aBin, aInt, aStr, aUn, aNil, aMax, aresults, ares, aPack, ↓reduceIte, ↓reduceCtorEq, Nat.reduceEqDiff, Nat.reduceAdd, env0, aLoad, aLoadN, cellsOf, Int.reduceEq, Int.reduceLT, Int.reduceLE, Nat.reduceLeDiff, oneC, aop.fillL, setL, aApp, aAppC_nil, aAppC_own, xop, aSame_ptr, BIG, Bool.or_true, Bool.true_or, Bool.or_false, Bool.false_or, eqCells, eqCell, rowOf, ↓acallop, aBound, aIntOf, flat, flatN, CX_fn, CX_X, CX_pol, aStore, Nat.reduceBEq, List.size_toArray, Int.sub_zero, Int.zero_add, Int.add_zero, Int.toNat_zero, Int.reduceAdd, Int.reduceSub, Int.reduceMul, Int.reduceNeg, Int.reduceToNat, Nat.reduceSub, Nat.reduceMul, Int.natCast_zero, Int.reduceDiv, Int.reduceMod, Int.toNat_natCast, fdiv_nn, min_bits_i, Int.reducePow, Nat.reducePow, Nat.reduceDiv, Nat.reduceMod, mb_i, mb_u, WpC_drawD, WpT_nil, WpT_cons, WpT_guard, WpK_nil, scal, XAlive_eq, hc1, ← hH2, hc2, ← hH4, hl4, hl5, hc3, hc4])
  · rcases hp2 with ⟨hok', _⟩ | ⟨_, rfl, rfl⟩
    · exact absurd hok' (hno t')
    have hsame : same (.mk ⟨#[]⟩ false []) (.mk ⟨#[]⟩ false []) = true := (same_eq _ _).2 rfl
    obtain ⟨w, H5, hc3, rfl⟩ := Run_get (wSame _ _ (Nat.le_refl _) (by simp [sz, szs]) _ H4 _ _ _ _ hv4 hv5 ⟨H4.length, H4.length⟩ k (by simp [sz, szs]; omega))
    have hc3 := hc3 k (Nat.le_refl _)
    rw [hsame] at hc3
    simp only [T0] at hc1 hc2 hc3
    simp only [ir10, T0]
    (repeat' first
    | (refine CondV_dec (fun _ => ?_) (fun _ => ?_) <;> try (exfalso; omega))
    | (refine GuardV_td (fun _ => ?_) (fun _ => ?_) <;> try (exfalso; omega))
    | (refine GuardV_fd (fun _ => ?_) (fun _ => ?_) <;> try (exfalso; omega))
    | (refine CondV_split (fun _ => ?_) (fun _ => ?_))
    | (refine Need_of (by first | omega | decide) ?_)
    | refine WpK_cons ?_ ?_
    | refine WpK_guard ?_
    | simp (disch := first | omega | simp only [List.length_append, List.length_set, List.length_cons, List.length_nil] <;> omega | fail) only [evA, ↓evB, ↓astep, ↓aop, aBin, aInt, aStr, aUn, aNil, aMax, aresults, ares, aPack, ↓reduceIte, ↓reduceCtorEq, Nat.reduceEqDiff, Nat.reduceAdd, env0, aLoad, aLoadN, cellsOf, Int.reduceEq, Int.reduceLT, Int.reduceLE, Nat.reduceLeDiff, oneC, aop.fillL, setL, aApp, aAppC_nil, aAppC_own, xop, aSame_ptr, BIG, Bool.or_true, Bool.true_or, Bool.or_false, Bool.false_or, eqCells, eqCell, rowOf, ↓acallop, aBound, aIntOf, flat, flatN, CX_fn, CX_X, CX_pol, aStore, Nat.reduceBEq, List.size_toArray, Int.sub_zero, Int.zero_add, Int.add_zero, Int.toNat_zero, Int.reduceAdd, Int.reduceSub, Int.reduceMul, Int.reduceNeg, Int.reduceToNat, Nat.reduceSub, Nat.reduceMul, Int.natCast_zero, Int.reduceDiv, Int.reduceMod, Int.toNat_natCast, fdiv_nn, min_bits_i, Int.reducePow, Nat.reducePow, Nat.reduceDiv, Nat.reduceMod, mb_i, mb_u, WpC_drawD, WpT_nil, WpT_cons, WpT_guard, WpK_nil, scal, XAlive_eq, hc1, ← hH2, hc2, ← hH4, hl4, hl5, hc3])
theorem wShows (t : Tr) (H : Heap) (S : Nat → Prop) (v : Value) (hv : ItemV H S t v) : ∃ k, Run (fun v _ => v = .bool true) mk (acall T0 k 9 [v] H ⟨H.length, 0⟩) := by
  refine ⟨40 * (sz t + byt t) + 600000, ?_⟩
  obtain ⟨k, hk⟩ : ∃ k, 40 * (sz t + byt t) + 600000 = k + 1 := ⟨40 * (sz t + byt t) + 599999, by omega⟩
  rw [hk]
  obtain ⟨x, b, l⟩ := t
  obtain ⟨a, c, rfl, hh⟩ := hv.parts
  obtain ⟨t, ht⟩ : ∃ t, t = Tr.mk x b l := ⟨_, rfl⟩
  rw [← ht] at hk
  refine Run_call (F := ir9) rfl (Nat.le_of_ble_eq_true rfl) ?_
  obtain ⟨Hc, hHc⟩ : ∃ Hc : Heap, Hc = H ++ [.cells [.string x, .bool b, .slice a l.length c] 24 true] := ⟨_, rfl⟩
  have hold := hh Hc hHc
  have hbox := hold.box
  have hLc : Hc.length = H.length + 1 := by rw [hHc]; simp
  have hvc := hold.val
  rw [← ht] at hvc
  obtain ⟨w, K1, hg, rfl⟩ := Run_get (wGreat t Hc _ _ hvc ⟨Hc.length, Hc.length⟩ k (by omega))
  have hg := hg k (Nat.le_refl _)
  cases hgr : great t with
  | true =>
    rw [hgr] at hg
    simp only [T0] at hg
    simp only [ir9, T0]
    (repeat' first
    | (refine CondV_dec (fun _ => ?_) (fun _ => ?_) <;> try (exfalso; omega))
    | (refine GuardV_td (fun _ => ?_) (fun _ => ?_) <;> try (exfalso; omega))
    | (refine GuardV_fd (fun _ => ?_) (fun _ => ?_) <;> try (exfalso; omega))
    | (refine CondV_split (fun _ => ?_) (fun _ => ?_))
    | (refine Need_of (by first | omega | decide) ?_)
    | refine WpK_cons ?_ ?_
    | refine WpK_guard ?_
    | simp (disch := first | omega | simp only [List.length_append, List.length_set, List.length_cons, List.length_nil] <;> omega | fail) only [evA, ↓evB, ↓astep, ↓aop, aBin, aInt, aStr, aUn, aNil, aMax, aresults, ares, aPack, ↓reduceIte, ↓reduceCtorEq, Nat.reduceEqDiff, Nat.reduceAdd, env0, aLoad, aLoadN, cellsOf, Int.reduceEq, Int.reduceLT, Int.reduceLE, Nat.reduceLeDiff, oneC, aop.fillL, setL, aApp, aAppC_nil, aAppC_own, xop, aSame_ptr, BIG, Bool.or_true, Bool.true_or, Bool.or_false, Bool.false_or, eqCells, eqCell, rowOf, ↓acallop, aBound, aIntOf, flat, flatN, CX_fn, CX_X, CX_pol, aStore, Nat.reduceBEq, List.size_toArray, Int.sub_zero, Int.zero_add, Int.add_zero, Int.toNat_zero, Int.reduceAdd, Int.reduceSub, Int.reduceMul, Int.reduceNeg, Int.reduceToNat, Nat.reduceSub, Nat.reduceMul, Int.natCast_zero, Int.reduceDiv, Int.reduceMod, Int.toNat_natCast, fdiv_nn, min_bits_i, Int.reducePow, Nat.reducePow, Nat.reduceDiv, Nat.reduceMod, mb_i, mb_u, WpC_drawD, WpT_nil, WpT_cons, WpT_guard, WpK_nil, scal, ← hHc, hbox, XAlive_eq, hg])
  | false =>
    rw [hgr] at hg
    obtain ⟨g1, g2⟩ := great_no hgr
    have hsl := shw_len t
    obtain ⟨w, K2, hshow, rfl⟩ := Run_get (wShowI t (by omega) (by omega) Hc _ _ hvc ⟨Hc.length, Hc.length⟩ (Nat.le_refl _) (Nat.le_refl _) k (by omega))
    have hshow := hshow k (Nat.le_refl _)
    obtain ⟨w, K3, hmay, rfl⟩ := Run_get (wMay t (by omega) Hc _ _ hvc ⟨Hc.length, Hc.length⟩ k (by omega))
    have hmay := hmay k (Nat.le_refl _)
    cases hm : may t with
    | false =>
      rw [hm] at hmay hshow
      simp only [Bool.false_eq_true, if_false] at hshow
      simp only [T0] at hg hmay hshow
      simp only [ir9, T0]
      (repeat' first
    | (refine CondV_dec (fun _ => ?_) (fun _ => ?_) <;> try (exfalso; omega))
    | (refine GuardV_td (fun _ => ?_) (fun _ => ?_) <;> try (exfalso; omega))
    | (refine GuardV_fd (fun _ => ?_) (fun _ => ?_) <;> try (exfalso; omega))
    | (refine CondV_split (fun _ => ?_) (fun _ => ?_))
    | (refine Need_of (by first | omega | decide) ?_)
    | refine WpK_cons ?_ ?_
    | refine WpK_guard ?_
    | simp (disch := first | omega | simp only [List.length_append, List.length_set, List.length_cons, List.length_nil] <;> omega | fail) only [evA, ↓evB, ↓astep, ↓aop, aBin, aInt, aStr, aUn, aNil, aMax, aresults, ares, aPack, ↓reduceIte, ↓reduceCtorEq, Nat.reduceEqDiff, Nat.reduceAdd, env0, aLoad, aLoadN, cellsOf, Int.reduceEq, Int.reduceLT, Int.reduceLE, Nat.reduceLeDiff, oneC, aop.fillL, setL, aApp, aAppC_nil, aAppC_own, xop, aSame_ptr, BIG, Bool.or_true, Bool.true_or, Bool.or_false, Bool.false_or, eqCells, eqCell, rowOf, ↓acallop, aBound, aIntOf, flat, flatN, CX_fn, CX_X, CX_pol, aStore, Nat.reduceBEq, List.size_toArray, Int.sub_zero, Int.zero_add, Int.add_zero, Int.toNat_zero, Int.reduceAdd, Int.reduceSub, Int.reduceMul, Int.reduceNeg, Int.reduceToNat, Nat.reduceSub, Nat.reduceMul, Int.natCast_zero, Int.reduceDiv, Int.reduceMod, Int.toNat_natCast, fdiv_nn, min_bits_i, Int.reducePow, Nat.reducePow, Nat.reduceDiv, Nat.reduceMod, mb_i, mb_u, WpC_drawD, WpT_nil, WpT_cons, WpT_guard, WpK_nil, scal, ← hHc, hbox, XAlive_eq, hg, hmay, hshow])
    | true =>
      rw [hm] at hmay hshow
      simp only [if_true] at hshow
      have hbl : bl (bs (shw t)) = shw t := bl_bs _ (shw_lt t)
      obtain ⟨u1, H1, hc1, t', v', hf1, hv1, hp1⟩ := Run_get (wReadI (bs (shw t)) (by rw [bs_size]; omega) Hc ⟨H.length, 0⟩ (by simp; omega) (Nat.zero_le _) k (by rw [bs_size]; omega))
      have hc1 := hc1 k (Nat.le_refl _)
      have hL1 := hf1.1
      have hok : RdOK (bs (shw t)) t := ⟨hm, hbl.symm⟩
      rcases hp1 with ⟨hok', rfl⟩ | ⟨hno, _, _⟩
      rotate_left
      · exact absurd hok (hno t)
      have htt := shw_inj hok hok'
      obtain ⟨us, rfl, hut⟩ := hv1
      obtain ⟨ua, uc, rfl, hus⟩ := hut.cells
      obtain ⟨H2, hH2⟩ : ∃ H2 : Heap, H2 = H1 ++ [.cells [.string t'.text, .bool t'.list, .slice ua t'.sub.length uc] 24 true] := ⟨_, rfl⟩
      have hl2 : H2[H1.length]? = some (.cells [.string t'.text, .bool t'.list, .slice ua t'.sub.length uc] 24 true) := by rw [hH2]; simp
      have hb1 := hf1.2 _ _ (fun h => h) hbox
      have hb2 : H2[H.length]? = some (.cells [.string x, .bool b, .slice a l.length c] 24 true) := by rw [hH2]; exact get_app hb1 _
      have hvx : ItemV H2 S t (.agg #[.string x, .bool b, .slice a l.length c]) := by rw [hH2]; exact ItemV.app _ (hvc.fr hf1 (fun _ _ h => h))
      have hvy : ItemV H2 (fun _ => True) t' (.agg #[.string t'.text, .bool t'.list, .slice ua t'.sub.length uc]) := by rw [hH2]; exact ItemV.app _ (ItemV.mono ⟨_, rfl, hut⟩ (fun i o _ ho => ⟨trivial, ho⟩))
      obtain ⟨w, K4, hrs, rfl⟩ := Run_get (wShowR _ t (Nat.le_refl _) (by omega) (by omega) H2 _ _ hvx ⟨H2.length, H2.length⟩ k (by omega))
      have hrs := hrs k (Nat.le_refl _)
      obtain ⟨w, K5, hsm, rfl⟩ := Run_get (wSame _ t (Nat.le_refl _) (by omega) t' H2 _ _ _ _ hvx hvy ⟨H2.length, H2.length⟩ k (by omega))
      have hsm := hsm k (Nat.le_refl _)
      rw [(same_eq t t').2 htt] at hsm
      simp only [T0] at hg hmay hshow hc1 hrs hsm
      simp only [ir9, T0]
      (repeat' first
    | (refine CondV_dec (fun _ => ?_) (fun _ => ?_) <;> try (exfalso; omega))
    | (refine GuardV_td (fun _ => ?_) (fun _ => ?_) <;> try (exfalso; omega))
    | (refine GuardV_fd (fun _ => ?_) (fun _ => ?_) <;> try (exfalso; omega))
    | (refine CondV_split (fun _ => ?_) (fun _ => ?_))
    | (refine Need_of (by first | omega | decide) ?_)
    | refine WpK_cons ?_ ?_
    | refine WpK_guard ?_
    | simp (disch := first | omega | simp only [List.length_append, List.length_set, List.length_cons, List.length_nil] <;> omega | fail) only [evA, ↓evB, ↓astep, ↓aop, aBin, aInt, aStr, aUn, aNil, aMax, aresults, ares, aPack, ↓reduceIte, ↓reduceCtorEq, Nat.reduceEqDiff, Nat.reduceAdd, env0, aLoad, aLoadN, cellsOf, Int.reduceEq, Int.reduceLT, Int.reduceLE, Nat.reduceLeDiff, oneC, aop.fillL, setL, aApp, aAppC_nil, aAppC_own, xop, aSame_ptr, BIG, Bool.or_true, Bool.true_or, Bool.or_false, Bool.false_or, eqCells, eqCell, rowOf, ↓acallop, aBound, aIntOf, flat, flatN, CX_fn, CX_X, CX_pol, aStore, Nat.reduceBEq, List.size_toArray, Int.sub_zero, Int.zero_add, Int.add_zero, Int.toNat_zero, Int.reduceAdd, Int.reduceSub, Int.reduceMul, Int.reduceNeg, Int.reduceToNat, Nat.reduceSub, Nat.reduceMul, Int.natCast_zero, Int.reduceDiv, Int.reduceMod, Int.toNat_natCast, fdiv_nn, min_bits_i, Int.reducePow, Nat.reducePow, Nat.reduceDiv, Nat.reduceMod, mb_i, mb_u, WpC_drawD, WpT_nil, WpT_cons, WpT_guard, WpK_nil, scal, ← hHc, hbox, XAlive_eq, hg, hmay, hshow, hc1, ← hH2, hl2, hb2, hrs, hsm])
theorem item_arg {H : Heap} {v : Value} (h : IsV Try.prog H 24 v) : ∃ t, ItemV H (fun i => i < H.length) t v :=
  isv_tr Try.underlying24 (by kernel_rfl) Try.underlying9 Try.underlying4 Try.underlying22 (by kernel_rfl) h
theorem main_ItemShows (H : Heap) (args : List Value) (h : IsVs Try.prog H Try.f9.params.toList args) : ∃ k, Run (fun v' _ => v' = .bool true) mk (acall T0 k 9 args H ⟨H.length, 0⟩) := by
  rw [Try.params9] at h
  obtain ⟨v0, r0, rfl, h0, h⟩ := args_cons h
  obtain rfl := args_nil h
  obtain ⟨t, ht⟩ := item_arg h0
  exact wShows t H _ _ ht
theorem main_ItemReads (args : List Value) (h : IsVs Try.prog [] Try.f10.params.toList args) : ∃ k, Run (fun v' _ => v' = .bool true) mk (acall T0 k 10 args [] ⟨0, 0⟩) := by
  rw [Try.params10] at h
  obtain ⟨v0, r0, rfl, h0, h⟩ := args_cons h
  obtain rfl := args_nil h
  obtain ⟨s, rfl, hs⟩ := isv_string Try.underlying9 h0
  exact wReads s (by unfold maxLen at hs; omega)
end Ev
end Go.Proofs.Ytfbelnjchpffeaa
