/-
  The law SnapRuns.
-/
import Derived.Test.YtfbelnjchpffeaaS9
namespace Go.Proofs.Ytfbelnjchpffeaa
namespace Ev
namespace L11
open Tag (mk)
open L15
set_option linter.unusedSimpArgs false
set_option linter.unusedVariables false
set_option maxRecDepth 4000
set_option maxHeartbeats 4000000
theorem cpy_per (g : Nat → Nat) (back : Nat) (hb : 0 < back) (hg : ∀ i, g (i + back) = g i) : ∀ (n : Nat) (out : List Nat), back ≤ out.length → (∀ i, i < out.length → out.getD i 0 = g i) → ∀ i, i < out.length + n → (cpy n back out).getD i 0 = g i
  | 0, out, _, h, i, hi => h i hi
  | n + 1, out, hbl, h, i, hi => by
    rw [cpy]
    refine cpy_per g back hb hg n _ (by simp; omega) (fun j hj => ?_) i (by simp; omega)
    simp only [List.length_append, List.length_cons, List.length_nil] at hj
    rcases Nat.lt_or_ge j out.length with h' | h'
    · rw [List.getD_eq_getElem?_getD, List.getElem?_append_left h', ← List.getD_eq_getElem?_getD]; exact h j h'
    · obtain rfl : j = out.length := by omega
      rw [List.getD_eq_getElem?_getD, List.getElem?_append_right (Nat.le_refl _), Nat.sub_self]
      show out.getD (out.length - back) 0 = _
      rw [h _ (by omega), ← hg (out.length - back)]
      congr 1; omega
/-- The block of a run. -/
theorem runs_elems (s t : ByteArray) (k : Nat) (hs : 0 < s.size ∧ s.size ≤ 60) (hk : 0 < k ∧ k ≤ 64) (h : bl t = [4 * (s.size - 1)] ++ (bl s ++ [4 * (k - 1) + 2, s.size, 0])) : elsS t (s.size + k) (t.size + 2) 0 [] = (0, cpy k s.size (bl s)) := by
  have hsz : t.size = s.size + 4 := by rw [← bl_length, h]; simp [bl_length]
  have hb0 : bAt t 0 = 4 * (s.size - 1) := by rw [bAt_bl, h]; rfl
  have hd : (bl t).drop (s.size + 1) = [4 * (k - 1) + 2, s.size, 0] := by
    rw [h, List.singleton_append, List.drop_succ_cons, List.drop_left' (bl_length s)]
  have hb1 : bAt t (s.size + 1) = 4 * (k - 1) + 2 := by
    rw [bAt_bl]
    have : ((bl t).drop (s.size + 1))[0]? = some (4 * (k - 1) + 2) := by rw [hd]; rfl
    rw [List.getElem?_drop] at this
    rw [List.getD_eq_getElem?_getD, this]; rfl
  have hy0 : byt t 1 s.size = bl s := by
    rw [byt, h]
    show List.take s.size (bl s ++ _) = bl s
    exact List.take_left' (bl_length s)
  have hy1 : byt t (s.size + 2) 2 = [s.size, 0] := by
    rw [byt, show s.size + 2 = (s.size + 1) + 1 from rfl, ← List.drop_drop, hd]; rfl
  have e1 : elS t (s.size + k) 0 [] = (0, s.size + 1, bl s) := by
    rw [elS]
    simp only [hb0]
    rw [if_pos (by omega), show 4 * (s.size - 1) / 4 = s.size - 1 by omega, litS, if_pos (by omega), litE, if_neg (by simp; omega), if_neg (by omega), show s.size - 1 + 1 = s.size by omega, Nat.zero_add, hy0, List.nil_append, Nat.add_comm 1]
  have hl : ltl [s.size, 0] = s.size := ltl_zeros s.size 1
  have e2 : elS t (s.size + k) (s.size + 1) (bl s) = (0, s.size + 4, cpy k s.size (bl s)) := by
    rw [elS]
    simp only [hb1]
    rw [if_neg (by omega), if_neg (by omega), if_pos (by omega), show (4 * (k - 1) + 2) / 4 + 1 = k by omega, farS, if_pos (by omega), show s.size + 1 + 1 = s.size + 2 from rfl, hy1, hl, Nat.zero_mul, Nat.zero_add, cpS, if_neg (by rw [bl_length]; omega)]
  have e3 : (cpy k s.size (bl s)).length = s.size + k := by rw [cpy_len, bl_length]
  rw [elsS, if_pos (by omega), e1, if_pos rfl]
  show elsS t (s.size + k) (t.size + 1) (s.size + 1) (bl s) = _
  rw [elsS, if_pos (by omega), e2, if_pos rfl]
  obtain ⟨q, hq⟩ : ∃ q, t.size = q + 1 := ⟨t.size - 1, by omega⟩
  show elsS t (s.size + k) t.size (s.size + 4) (cpy k s.size (bl s)) = _
  have : ∀ q, elsS t (s.size + k) (q + 1) (s.size + 4) (cpy k s.size (bl s)) = (0, cpy k s.size (bl s)) := fun q => by
    rw [elsS, if_neg (by omega), if_neg (by omega)]
  rw [show elsS t (s.size + k) t.size (s.size + 4) (cpy k s.size (bl s)) = elsS t (s.size + k) (q + 1) (s.size + 4) (cpy k s.size (bl s)) by rw [hq]]
  exact this q
def I13' (s T : ByteArray) (m : Nat) (e : Env) (H : Heap) : Prop :=
  ∃ i : Nat, i + m = T.size ∧ e 0 = .string s ∧ e 7 = .string T ∧ e 9 = .int .i64 (i : Int)
theorem wRuns (s : ByteArray) (n : Nat) (hs : s.size < 2 ^ 63) (hn : n < 256) : Run (fun v _ => v = .bool true) mk (acall D6 300 13 [.string s, .int .u8 (n : Int)] [] ⟨0, 0⟩) := by
  refine Run_call (F := ir13) rfl (Nat.le_of_ble_eq_true rfl) ?_
  by_cases hbig : s.size = 0 ∨ 60 < s.size
  · simp only [ir13, D6]
    (repeat' first
    | (refine CondV_dec (fun _ => ?_) (fun _ => ?_) <;> try (exfalso; omega))
    | (refine GuardV_td (fun _ => ?_) (fun _ => ?_) <;> try (exfalso; omega))
    | (refine GuardV_fd (fun _ => ?_) (fun _ => ?_) <;> try (exfalso; omega))
    | (refine CondV_split (fun _ => ?_) (fun _ => ?_))
    | (refine Need_of (by first | omega | decide) ?_)
    | refine WpK_cons ?_ ?_
    | refine WpK_guard ?_
    | simp (disch := first | omega | simp only [List.length_append, List.length_set, List.length_cons, List.length_nil] <;> omega | fail) only [evA, ↓evB, ↓astep, ↓aop, aBin, aInt, aStr, aUn, aNil, aMax, aresults, ares, aPack, ↓reduceIte, ↓reduceCtorEq, Nat.reduceEqDiff, Nat.reduceAdd, env0, aLoad, aLoadN, cellsOf, Int.reduceEq, Int.reduceLT, Int.reduceLE, Nat.reduceLeDiff, oneC, aop.fillL, setL, aApp, aAppC_nil, aAppC_own, xop, eqCells, eqCell, rowOf, ↓acallop, aBound, aIntOf, flat, flatN, CX_fn, CX_X, CX_pol, aStore, Nat.reduceBEq, List.size_toArray, Int.sub_zero, Int.zero_add, Int.add_zero, Int.toNat_zero, Int.reduceAdd, Int.reduceSub, Int.reduceMul, Int.reduceNeg, Int.reduceToNat, Nat.reduceSub, Nat.reduceMul, Int.natCast_zero, Int.reduceDiv, Int.reduceMod, Int.toNat_natCast, fdiv_nn, min_bits_i, Int.reducePow, Nat.reducePow, Nat.reduceDiv, Nat.reduceMod, mb_i, mb_u, WpC_drawD, WpT_nil, WpT_cons, WpT_guard, WpK_nil, scal, XAlive_eq])
  obtain ⟨k, hk⟩ : ∃ k, k = 1 + n % 64 := ⟨_, rfl⟩
  have ek : 1 + (n : Int) % 64 = (k : Int) := by omega
  have f1 : (s.size : Int) + (k : Int) = ((s.size + k : Nat) : Int) := by omega
  have f2 : 4 * ((s.size : Int) - 1) = ((4 * (s.size - 1) : Nat) : Int) := by omega
  have f3 : 4 * ((k : Int) - 1) + 2 = ((4 * (k - 1) + 2 : Nat) : Int) := by omega
  have b2 : ∀ a b : Nat, ({ data := #[UInt8.ofNat a, UInt8.ofNat b] } : ByteArray) = bs [a, b] := fun _ _ => rfl
  have b3 : ∀ a b : Nat, ({ data := #[UInt8.ofNat a, UInt8.ofNat b, UInt8.ofNat 0] } : ByteArray) = bs [a, b, 0] := fun _ _ => rfl
  have b3' : ∀ a b : Nat, ({ data := #[UInt8.ofNat a, UInt8.ofNat b, 0] } : ByteArray) = bs [a, b, 0] := fun _ _ => rfl
  by_cases h128 : 128 ≤ s.size + k
  · simp only [ir13, D6]
    (repeat' first
    | (refine CondV_dec (fun _ => ?_) (fun _ => ?_) <;> try (exfalso; omega))
    | (refine GuardV_td (fun _ => ?_) (fun _ => ?_) <;> try (exfalso; omega))
    | (refine GuardV_fd (fun _ => ?_) (fun _ => ?_) <;> try (exfalso; omega))
    | (refine CondV_split (fun _ => ?_) (fun _ => ?_))
    | (refine Need_of (by first | omega | decide) ?_)
    | refine WpK_cons ?_ ?_
    | refine WpK_guard ?_
    | simp (disch := first | omega | simp only [List.length_append, List.length_set, List.length_cons, List.length_nil] <;> omega | fail) only [evA, ↓evB, ↓astep, ↓aop, aBin, aInt, aStr, aUn, aNil, aMax, aresults, ares, aPack, ↓reduceIte, ↓reduceCtorEq, Nat.reduceEqDiff, Nat.reduceAdd, env0, aLoad, aLoadN, cellsOf, Int.reduceEq, Int.reduceLT, Int.reduceLE, Nat.reduceLeDiff, oneC, aop.fillL, setL, aApp, aAppC_nil, aAppC_own, xop, eqCells, eqCell, rowOf, ↓acallop, aBound, aIntOf, flat, flatN, CX_fn, CX_X, CX_pol, aStore, Nat.reduceBEq, List.size_toArray, Int.sub_zero, Int.zero_add, Int.add_zero, Int.toNat_zero, Int.reduceAdd, Int.reduceSub, Int.reduceMul, Int.reduceNeg, Int.reduceToNat, Nat.reduceSub, Nat.reduceMul, Int.natCast_zero, Int.reduceDiv, Int.reduceMod, Int.toNat_natCast, fdiv_nn, min_bits_i, Int.reducePow, Nat.reducePow, Nat.reduceDiv, Nat.reduceMod, mb_i, mb_u, WpC_drawD, WpT_nil, WpT_cons, WpT_guard, WpK_nil, scal, XAlive_eq, ek, f1, f2, f3, allBytes, byteOf, Int.toNat_natCast, b2, b3, b3', bs_byte, ByteArray.size_append])
  · obtain ⟨T, hT⟩ : ∃ T, T = bs (cpy k s.size (bl s)) := ⟨_, rfl⟩
    have hTs : T.size = s.size + k := by rw [hT, bs_size, cpy_len, bl_length]
    obtain ⟨t, ht⟩ : ∃ t, t = bs [4 * (s.size - 1)] ++ (s ++ bs [4 * (k - 1) + 2, s.size, 0]) := ⟨_, rfl⟩
    have hbt : bl t = [4 * (s.size - 1)] ++ (bl s ++ [4 * (k - 1) + 2, s.size, 0]) := by
      rw [ht, bl_append, bl_append, bl_bs _ (by simp; omega), bl_bs _ (by simp; omega)]
    have hblk : bs [s.size + k, 4 * (s.size - 1)] ++ s ++ bs [4 * (k - 1) + 2, s.size, 0] = bs (szb (s.size + k)) ++ t := by
      rw [szb, if_pos (by omega), ht, ← ByteArray.append_assoc, ← ByteArray.append_assoc, bs_append]; rfl
    have hnx : nx (bl (bs (szb (s.size + k)) ++ t)) 0 0 = (s.size + k, (szb (s.size + k)).length, 0) := by rw [bl_append, bl_bs _ (szb_lt _ (by omega))]; exact szb_nx _ (by omega) _
    have hcut : (bs (szb (s.size + k)) ++ t).extract (szb (s.size + k)).length (bs (szb (s.size + k)) ++ t).size = t := by
      apply bl_inj
      rw [bl_extract, bl_append, bl_bs _ (szb_lt _ (by omega)), List.take_of_length_le (by rw [List.length_append, bl_length, ByteArray.size_append, bs_size]; exact Nat.le_refl _), List.drop_left' rfl]
    have hun : XUnp [.string (bs [s.size + k, 4 * (s.size - 1)] ++ s ++ bs [4 * (k - 1) + 2, s.size, 0]), .int .i64 200, .pointer none] = some (.tuple #[.string T, .int .i64 0]) := by
      have hts : t.size ≤ 64 := by rw [← bl_length, hbt]; simp [bl_length]; omega
      have h3 : (szb (s.size + k)).length ≤ 2 := by unfold szb; split <;> simp
      rw [hblk, XUnp_eq, if_pos ⟨by rw [ByteArray.size_append, bs_size]; omega, by omega, by rw [hnx]; intro _ _; show s.size + k ≤ 50000; omega⟩]
      rw [unpV, hnx]
      simp only
      rw [if_neg (by simp), if_neg (by omega), if_neg (by omega), hcut, runs_elems s t k (by omega) (by omega) hbt]
      rw [if_neg (by simp), ← hT]; rfl
    have hper := cpy_per (fun i => (bl s).getD (i % s.size) 0) s.size (by omega) (fun i => by simp only [Nat.add_mod_right]) k (bl s) (by rw [bl_length]; exact Nat.le_refl _) (fun i hi => by rw [bl_length] at hi; show _ = (bl s).getD (i % s.size) 0; rw [Nat.mod_eq_of_lt hi])
    have hTb : ∀ i, i < T.size → bAt T i = bAt s (i % s.size) := fun i hi => by
      rw [bAt_bl, bAt_bl, hT, bl_bs _ (cpy_lt _ _ _ (bl_lt s))]
      exact hper i (by rw [bl_length]; omega)
    simp only [ir13, D6]
    (repeat' first
    | (refine CondV_dec (fun _ => ?_) (fun _ => ?_) <;> try (exfalso; omega))
    | (refine GuardV_td (fun _ => ?_) (fun _ => ?_) <;> try (exfalso; omega))
    | (refine GuardV_fd (fun _ => ?_) (fun _ => ?_) <;> try (exfalso; omega))
    | (refine CondV_split (fun _ => ?_) (fun _ => ?_))
    | (refine Need_of (by first | omega | decide) ?_)
    | refine WpK_cons ?_ ?_
    | refine WpK_guard ?_
    | simp (disch := first | omega | simp only [List.length_append, List.length_set, List.length_cons, List.length_nil] <;> omega | fail) only [evA, ↓evB, ↓astep, ↓aop, aBin, aInt, aStr, aUn, aNil, aMax, aresults, ares, aPack, ↓reduceIte, ↓reduceCtorEq, Nat.reduceEqDiff, Nat.reduceAdd, env0, aLoad, aLoadN, cellsOf, Int.reduceEq, Int.reduceLT, Int.reduceLE, Nat.reduceLeDiff, oneC, aop.fillL, setL, aApp, aAppC_nil, aAppC_own, xop, eqCells, eqCell, rowOf, ↓acallop, aBound, aIntOf, flat, flatN, CX_fn, CX_X, CX_pol, aStore, Nat.reduceBEq, List.size_toArray, Int.sub_zero, Int.zero_add, Int.add_zero, Int.toNat_zero, Int.reduceAdd, Int.reduceSub, Int.reduceMul, Int.reduceNeg, Int.reduceToNat, Nat.reduceSub, Nat.reduceMul, Int.natCast_zero, Int.reduceDiv, Int.reduceMod, Int.toNat_natCast, fdiv_nn, min_bits_i, Int.reducePow, Nat.reducePow, Nat.reduceDiv, Nat.reduceMod, mb_i, mb_u, WpC_drawD, WpT_nil, WpT_cons, WpT_guard, WpK_nil, scal, XAlive_eq, ek, f1, f2, f3, allBytes, byteOf, Int.toNat_natCast, b2, b3, b3', bs_byte, ByteArray.size_append, hun, hTs])
    all_goals
      refine WpC_loop (I13' s T) ?_ (n := T.size) (by omega) ?_
      · rintro m e H ⟨i, hi, h0, h7, h9⟩
        have f4 : (i : Int) % (s.size : Int) = ((i % s.size : Nat) : Int) := by omega
        have hmod : i % s.size < s.size := Nat.mod_lt _ (by omega)
        simp only [lp13_0, evA, ↓evB, ↓astep, ↓aop, aBin, aInt, aStr, aUn, aNil, aMax, aresults, ares, aPack, ↓reduceIte, ↓reduceCtorEq, Nat.reduceEqDiff, Nat.reduceAdd, env0, aLoad, aLoadN, cellsOf, Int.reduceEq, Int.reduceLT, Int.reduceLE, Nat.reduceLeDiff, oneC, aop.fillL, setL, aApp, aAppC_nil, aAppC_own, xop, eqCells, eqCell, rowOf, ↓acallop, aBound, aIntOf, flat, flatN, CX_fn, CX_X, CX_pol, aStore, Nat.reduceBEq, List.size_toArray, Int.sub_zero, Int.zero_add, Int.add_zero, Int.toNat_zero, Int.reduceAdd, Int.reduceSub, Int.reduceMul, Int.reduceNeg, Int.reduceToNat, Nat.reduceSub, Nat.reduceMul, Int.natCast_zero, Int.reduceDiv, Int.reduceMod, Int.toNat_natCast, fdiv_nn, min_bits_i, Int.reducePow, Nat.reducePow, Nat.reduceDiv, Nat.reduceMod, mb_i, mb_u, WpC_drawD, WpT_nil, WpT_cons, WpT_guard, WpK_nil, scal, h0, h7, h9]
        refine CondV_dec (fun hc => ?_) (fun hc => ?_)
        · have := hTb i (by omega)
          (repeat' first
    | (refine CondV_dec (fun _ => ?_) (fun _ => ?_) <;> try (exfalso; omega))
    | (refine GuardV_td (fun _ => ?_) (fun _ => ?_) <;> try (exfalso; omega))
    | (refine GuardV_fd (fun _ => ?_) (fun _ => ?_) <;> try (exfalso; omega))
    | (refine CondV_split (fun _ => ?_) (fun _ => ?_))
    | (refine Need_of (by first | omega | decide) ?_)
    | refine WpK_cons ?_ ?_
    | refine WpK_guard ?_
    | simp (disch := first | omega | simp only [List.length_append, List.length_set, List.length_cons, List.length_nil] <;> omega | fail) only [evA, ↓evB, ↓astep, ↓aop, aBin, aInt, aStr, aUn, aNil, aMax, aresults, ares, aPack, ↓reduceIte, ↓reduceCtorEq, Nat.reduceEqDiff, Nat.reduceAdd, env0, aLoad, aLoadN, cellsOf, Int.reduceEq, Int.reduceLT, Int.reduceLE, Nat.reduceLeDiff, oneC, aop.fillL, setL, aApp, aAppC_nil, aAppC_own, xop, eqCells, eqCell, rowOf, ↓acallop, aBound, aIntOf, flat, flatN, CX_fn, CX_X, CX_pol, aStore, Nat.reduceBEq, List.size_toArray, Int.sub_zero, Int.zero_add, Int.add_zero, Int.toNat_zero, Int.reduceAdd, Int.reduceSub, Int.reduceMul, Int.reduceNeg, Int.reduceToNat, Nat.reduceSub, Nat.reduceMul, Int.natCast_zero, Int.reduceDiv, Int.reduceMod, Int.toNat_natCast, fdiv_nn, min_bits_i, Int.reducePow, Nat.reducePow, Nat.reduceDiv, Nat.reduceMod, mb_i, mb_u, WpC_drawD, WpT_nil, WpT_cons, WpT_guard, WpK_nil, scal, h0, h7, h9, f4, this])
          exact ⟨m - 1, by omega, i + 1, by omega, by (first | rfl | (simp only [Env_put_some, Env_put_none, ↓Env_set_at, ↓reduceIte, Nat.reduceEqDiff, h0] <;> rfl)), by (first | rfl | (simp only [Env_put_some, Env_put_none, ↓Env_set_at, ↓reduceIte, Nat.reduceEqDiff, h7] <;> rfl)), by (first | rfl | (simp only [Env_put_some, Env_put_none, ↓Env_set_at, ↓reduceIte, Nat.reduceEqDiff] <;> rfl))⟩
        · (repeat' first
    | (refine CondV_dec (fun _ => ?_) (fun _ => ?_) <;> try (exfalso; omega))
    | (refine GuardV_td (fun _ => ?_) (fun _ => ?_) <;> try (exfalso; omega))
    | (refine GuardV_fd (fun _ => ?_) (fun _ => ?_) <;> try (exfalso; omega))
    | (refine CondV_split (fun _ => ?_) (fun _ => ?_))
    | (refine Need_of (by first | omega | decide) ?_)
    | refine WpK_cons ?_ ?_
    | refine WpK_guard ?_
    | simp (disch := first | omega | simp only [List.length_append, List.length_set, List.length_cons, List.length_nil] <;> omega | fail) only [evA, ↓evB, ↓astep, ↓aop, aBin, aInt, aStr, aUn, aNil, aMax, aresults, ares, aPack, ↓reduceIte, ↓reduceCtorEq, Nat.reduceEqDiff, Nat.reduceAdd, env0, aLoad, aLoadN, cellsOf, Int.reduceEq, Int.reduceLT, Int.reduceLE, Nat.reduceLeDiff, oneC, aop.fillL, setL, aApp, aAppC_nil, aAppC_own, xop, eqCells, eqCell, rowOf, ↓acallop, aBound, aIntOf, flat, flatN, CX_fn, CX_X, CX_pol, aStore, Nat.reduceBEq, List.size_toArray, Int.sub_zero, Int.zero_add, Int.add_zero, Int.toNat_zero, Int.reduceAdd, Int.reduceSub, Int.reduceMul, Int.reduceNeg, Int.reduceToNat, Nat.reduceSub, Nat.reduceMul, Int.natCast_zero, Int.reduceDiv, Int.reduceMod, Int.toNat_natCast, fdiv_nn, min_bits_i, Int.reducePow, Nat.reducePow, Nat.reduceDiv, Nat.reduceMod, mb_i, mb_u, WpC_drawD, WpT_nil, WpT_cons, WpT_guard, WpK_nil, scal, h0, h7, h9])
      · exact ⟨0, by omega, by (first | rfl | (simp only [Env_put_some, Env_put_none, ↓Env_set_at, ↓reduceIte, Nat.reduceEqDiff] <;> rfl)), by (first | rfl | (simp only [Env_put_some, Env_put_none, ↓Env_set_at, ↓reduceIte, Nat.reduceEqDiff] <;> rfl)), by (first | rfl | (simp only [Env_put_some, Env_put_none, ↓Env_set_at, ↓reduceIte, Nat.reduceEqDiff] <;> rfl))⟩
theorem wf_u8 {n : Int} (h : (Lit.int .u8 n).wf = true) : 0 ≤ n ∧ n < 256 := by
  simp [Lit.wf, IntKind.min, IntKind.max, IntKind.signed, IntKind.bits] at h
  omega
theorem main_SnapPlain (args : List Value) (h : IsVs Try.prog [] Try.f12.params.toList args) : ∃ k, Run (fun v' _ => v' = .bool true) mk (acall D6 k 12 args [] ⟨0, 0⟩) := by
  rw [Try.params12] at h
  obtain ⟨v0, r0, rfl, h0, h⟩ := args_cons h
  obtain ⟨v1, r1, rfl, h1, h⟩ := args_cons h
  obtain rfl := args_nil h
  obtain ⟨s, rfl, hs⟩ := isv_string Try.underlying9 h0
  obtain ⟨n, rfl, w0⟩ := isv_int Try.underlying5 h1
  have := wf_u8 w0
  obtain ⟨m, rfl⟩ : ∃ m : Nat, n = m := ⟨n.toNat, by omega⟩
  exact ⟨50, wPlain s m (by unfold maxLen at hs; omega) (by omega)⟩
theorem main_SnapRuns (args : List Value) (h : IsVs Try.prog [] Try.f13.params.toList args) : ∃ k, Run (fun v' _ => v' = .bool true) mk (acall D6 k 13 args [] ⟨0, 0⟩) := by
  rw [Try.params13] at h
  obtain ⟨v0, r0, rfl, h0, h⟩ := args_cons h
  obtain ⟨v1, r1, rfl, h1, h⟩ := args_cons h
  obtain rfl := args_nil h
  obtain ⟨s, rfl, hs⟩ := isv_string Try.underlying9 h0
  obtain ⟨n, rfl, w0⟩ := isv_int Try.underlying5 h1
  have := wf_u8 w0
  obtain ⟨m, rfl⟩ : ∃ m : Nat, n = m := ⟨n.toNat, by omega⟩
  exact ⟨300, wRuns s m (by unfold maxLen at hs; omega) (by omega)⟩
end L11
end Ev
end Go.Proofs.Ytfbelnjchpffeaa
