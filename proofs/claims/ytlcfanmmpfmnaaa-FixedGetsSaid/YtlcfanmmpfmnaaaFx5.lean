/-
  The laws FixedPuts and FixedGets: what their code answers.
-/
import Derived.Test.YtlcfanmmpfmnaaaFx4
namespace Go.Proofs.Ytlcfanmmpfmnaaa
namespace Ev
open Tag (mk)
set_option linter.unusedSimpArgs false
set_option linter.unusedVariables false
set_option maxRecDepth 4000

theorem lsts_nm : ∀ (k N : Nat), N < 2 ^ (8 * k) → nm (lsts k N) = N
  | 0, N, h => by have : N = 0 := by simpa using h
                  subst this; rfl
  | k + 1, N, h => by
    rw [lsts]
    split
    · rename_i h0; subst h0; rfl
    · rw [nm_append, lsts_nm k (N / 256) (by
        have : 2 ^ (8 * (k + 1)) = 2 ^ (8 * k) * 256 := by rw [show 8 * (k + 1) = 8 * k + 8 by omega, Nat.pow_add]
        omega)]
      omega
theorem lsts_byte : ∀ (k N : Nat), ∀ b ∈ lsts k N, b < 256
  | 0, N, b, h => by simp [lsts] at h
  | k + 1, N, b, h => by
    rw [lsts] at h
    split at h
    · simp at h
    · rcases List.mem_append.1 h with h | h
      · exact lsts_byte k _ b h
      · simp at h; omega
theorem lsts_head : ∀ (k N : Nat), N < 2 ^ (8 * k) → (lsts k N).head? ≠ some 0
  | 0, N, h => by simp [lsts]
  | k + 1, N, h => by
    have hq : N / 256 < 2 ^ (8 * k) := by
      have : 2 ^ (8 * (k + 1)) = 2 ^ (8 * k) * 256 := by rw [show 8 * (k + 1) = 8 * k + 8 by omega, Nat.pow_add]
      omega
    have ih := lsts_head k (N / 256) hq
    have hn := lsts_nm k (N / 256) hq
    rw [lsts]
    split
    · simp
    · cases hl : lsts k (N / 256) with
      | nil =>
        rw [hl] at hn
        have : N / 256 = 0 := by rw [← hn]; rfl
        simp; omega
      | cons b l => rw [hl] at ih; simpa using ih
theorem nm_inj : ∀ (l l' : List Nat), l.length = l'.length → (∀ b ∈ l, b < 256) → (∀ b ∈ l', b < 256) → nm l = nm l' → l = l'
  | [], [], _, _, _, _ => rfl
  | [], _ :: _, h, _, _, _ => by simp at h
  | _ :: _, [], h, _, _, _ => by simp at h
  | a :: l, b :: l', h, ha, hb, he => by
    have hl : l.length = l'.length := by simpa using h
    have q1 := nm_lt l (fun b h => ha b (by simp [h]))
    have q2 := nm_lt l' (fun b h => hb b (by simp [h]))
    rw [nm_cons, nm_cons, ← hl] at he
    rw [← hl] at q2
    have : a = b := by
      rcases Nat.lt_trichotomy a b with h1 | h1 | h1
      · exfalso
        have : (a + 1) * 256 ^ l.length ≤ b * 256 ^ l.length := Nat.mul_le_mul_right _ h1
        rw [Nat.add_mul] at this; omega
      · exact h1
      · exfalso
        have : (b + 1) * 256 ^ l.length ≤ a * 256 ^ l.length := Nat.mul_le_mul_right _ h1
        rw [Nat.add_mul] at this; omega
    subst this
    rw [nm_inj l l' hl (fun b h => ha b (by simp [h])) (fun b h => hb b (by simp [h])) (by omega)]
theorem nm_zeros : ∀ (k : Nat) (l : List Nat), nm (List.replicate k 0 ++ l) = nm l
  | 0, l => by simp
  | k + 1, l => by rw [List.replicate_succ, List.cons_append, nm_cons, nm_zeros k l]; simp
theorem lsts_fit (N sz : Nat) (hs : sz ≤ 8) (hN : N < 2 ^ 64) : (lsts 8 N).length ≤ sz ↔ N < 2 ^ (8 * sz) := by
  constructor
  · intro h
    have := nm_lt (lsts 8 N) (lsts_byte 8 N)
    rw [lsts_nm 8 N hN] at this
    refine Nat.lt_of_lt_of_le this ?_
    rw [Nat.pow_mul]
    exact Nat.pow_le_pow_right (by omega) h
  · intro h
    rw [lsts_le h hs]; exact lsts_len sz N
theorem dg_pad (N sz : Nat) (hs : sz ≤ 8) (hN : N < 2 ^ 64) (h : N < 2 ^ (8 * sz)) : (dg N sz).reverse = List.replicate (sz - (lsts 8 N).length) 0 ++ lsts 8 N := by
  have hl := (lsts_fit N sz hs hN).2 h
  refine nm_inj _ _ (by simp [dg_length]; omega) (fun b hb => dg_lt N sz b (by simpa using hb)) (fun b hb => ?_) ?_
  · rcases List.mem_append.1 hb with hb | hb
    · have := List.eq_of_mem_replicate hb; omega
    · exact lsts_byte 8 N b hb
  · rw [nm_zeros, dg_nm sz N h, lsts_nm 8 N hN]
theorem lsts_of_nm : ∀ (k : Nat) (l : List Nat), l.length ≤ k → (∀ b ∈ l, b < 256) → l.head? ≠ some 0 → lsts k (nm l) = l := by
  intro k
  induction k with
  | zero =>
    intro l hl _ _
    obtain rfl := List.length_eq_zero_iff.1 (show l.length = 0 by omega)
    rfl
  | succ k ih =>
    intro l hl hb hh
    rcases List.eq_nil_or_concat l with rfl | ⟨l', b, rfl⟩
    · rfl
    · rw [List.concat_eq_append] at *
      have hb0 := hb b (by simp)
      have hne : nm (l' ++ [b]) ≠ 0 := by
        cases l' with
        | nil => simp at hh; simp [nm]; omega
        | cons c l'' =>
          simp at hh
          rw [List.cons_append, nm_cons]
          have : 1 * 256 ^ (l'' ++ [b]).length ≤ c * 256 ^ (l'' ++ [b]).length := Nat.mul_le_mul_right _ (by omega)
          have : 0 < 256 ^ (l'' ++ [b]).length := Nat.pow_pos (by omega)
          omega
      rw [lsts, if_neg hne, nm_append, show (nm l' * 256 + b) / 256 = nm l' by omega, show (nm l' * 256 + b) % 256 = b by omega, ih l' (by simp at hl; omega) (fun b h => hb b (by simp [h])) (by
        cases l' with
        | nil => simp
        | cons c l'' => simpa using hh)]

theorem w11 (s : ByteArray) (hs : s.size < 2 ^ 63) (k : Nat) : Run (fun v H' => v = .bool true) mk (acall C9 (k + 1) 11 [.string s] [] ⟨0, 0⟩) := by
  have hlb := bl_length s
  have hbb := bl_lt s
  refine Run_call (F := ir11) rfl (Nat.le_of_ble_eq_true rfl) ?_
  by_cases h8 : 8 < s.size
  · have g1 : ∀ t, getV t s = (0, 5) := fun t => by rw [getV, if_neg (by omega), if_pos h8]
    have g2 : leastV s = (0, 5) := by rw [leastV, if_pos h8]
    simp only [ir11]
    (repeat' first
    | (refine CondV_dec (fun _ => ?_) (fun _ => ?_) <;> try (exfalso; omega))
    | (refine GuardV_td (fun _ => ?_) (fun _ => ?_) <;> try (exfalso; omega))
    | (refine GuardV_fd (fun _ => ?_) (fun _ => ?_) <;> try (exfalso; omega))
    | (refine CondV_split (fun _ => ?_) (fun _ => ?_))
    | (refine Need_of (by first | omega | decide) ?_)
    | simp (disch := first | omega | (simp only [List.length_append, List.length_set, List.length_cons, List.length_nil] <;> omega)) only [WpC_skip, WpC_exit, WpC_ret, WpC_seq, WpC_reg, WpC_draw, WpC_block, WpC_cond, WpO_cons, WpO_nil, WpO_guard, WpD_cons, WpD_nil, WpD_guard, ↓astep, ↓aop, aBin, aInt, aStr, aUn, aNil, aMax, ↓oev_t, ↓oev_c, Run_some, Run_ite, Run_ite', map_ite, map_ite', bind_ite, Option.map_some, Option.bind_some, Option.map_none, Option.bind_none, CondV_true, CondV_false, GuardV_tt, GuardV_tf, GuardV_ft, GuardV_ff, GuardV_undef, SeqK_normal, SeqK_exit, SeqK_ret, EndK_ret, EndK_normal, ResK_some, aresults, ares, aPack, blkX_exit, blkX_normal, blkX_ret, Env_put_some, Env_put_none, ↓Env_set_at, ↓reduceIte, ↓reduceCtorEq, Nat.reduceEqDiff, Nat.reduceAdd, env0, List.getElem?_cons_zero, List.getElem?_cons_succ, Option.getD_some, decide_eq_true_eq, decide_eq_false_iff_not, Bool.not_eq_true', Bool.not_true, Bool.not_false, ixs_get, bytesL_get, bytesL_length, aLoad, cellsOf, List.map_cons, List.map_nil, ne_eq, not_true_eq_false, not_false_eq_true, true_and, and_true, false_and, and_false, true_implies, implies_true, false_implies, Nat.zero_add, decide_true, decide_false, Nat.mul_one, Need_true, int_beq, int_bne, not_dec, wrap_i64, wrap_u64, wrap_u8, wrap_u16, wrap_u32, tmod_nn, tdiv_nn, min_bits, Int.toNat_natCast, wrap_or, Int.reduceEq, Int.reduceLT, Int.reduceLE, Nat.reduceLeDiff, cells_int, cells_bool, cells_string, cells_pointer, cells_slice, cells_map, cells_func, cells_nilFunc, cells_iface, cells_nilIface, cells_agg, arr1_size, arr1_list, List.all_cons, List.all_nil, Bool.and_true, Bool.and_self, oneC, List.length_cons, List.length_nil, aop.fillL, setL, List.set_cons_zero, List.set_cons_succ, aApp, rowOf, get_last, List.drop_zero, List.take_succ_cons, List.take_zero, List.drop_succ_cons, List.take_nil, List.drop_nil, bv_length, bv_take, allBytes_bv, allBytes_snoc, allBytes_one, List.length_append, get_at, bv_snoc, bv_take_le, Nat.le_refl, ↓acallop, List.toList_toArray, List.append_nil, List.nil_append, aBound, aIntOf, ByteArray.size_extract, eq_self, flat, flatN, bs_size, C9_32, C9_33, C9_40, C9_41, C9_42, C9_43, C9_44, C9_45, C9_46, C9_47, C9_48, XAlive_eq, XGetF_eq, XGetL_eq, neV, id_eq, Int.toNat_zero, g1, g2, empty_eq])
    all_goals first | rfl | (exfalso; omega)
  · by_cases h0 : s.size = 0
    · have g1 : ∀ t, getV t s = (0, 1) := fun t => by rw [getV, if_pos h0]
      have g2 : leastV s = (0, 0) := by
        rw [leastV, if_neg h8, if_neg (by omega), List.length_eq_zero_iff.1 (by rw [hlb]; exact h0 : (bl s).length = 0)]; rfl
      simp only [ir11]
      (repeat' first
    | (refine CondV_dec (fun _ => ?_) (fun _ => ?_) <;> try (exfalso; omega))
    | (refine GuardV_td (fun _ => ?_) (fun _ => ?_) <;> try (exfalso; omega))
    | (refine GuardV_fd (fun _ => ?_) (fun _ => ?_) <;> try (exfalso; omega))
    | (refine CondV_split (fun _ => ?_) (fun _ => ?_))
    | (refine Need_of (by first | omega | decide) ?_)
    | simp (disch := first | omega | (simp only [List.length_append, List.length_set, List.length_cons, List.length_nil] <;> omega)) only [WpC_skip, WpC_exit, WpC_ret, WpC_seq, WpC_reg, WpC_draw, WpC_block, WpC_cond, WpO_cons, WpO_nil, WpO_guard, WpD_cons, WpD_nil, WpD_guard, ↓astep, ↓aop, aBin, aInt, aStr, aUn, aNil, aMax, ↓oev_t, ↓oev_c, Run_some, Run_ite, Run_ite', map_ite, map_ite', bind_ite, Option.map_some, Option.bind_some, Option.map_none, Option.bind_none, CondV_true, CondV_false, GuardV_tt, GuardV_tf, GuardV_ft, GuardV_ff, GuardV_undef, SeqK_normal, SeqK_exit, SeqK_ret, EndK_ret, EndK_normal, ResK_some, aresults, ares, aPack, blkX_exit, blkX_normal, blkX_ret, Env_put_some, Env_put_none, ↓Env_set_at, ↓reduceIte, ↓reduceCtorEq, Nat.reduceEqDiff, Nat.reduceAdd, env0, List.getElem?_cons_zero, List.getElem?_cons_succ, Option.getD_some, decide_eq_true_eq, decide_eq_false_iff_not, Bool.not_eq_true', Bool.not_true, Bool.not_false, ixs_get, bytesL_get, bytesL_length, aLoad, cellsOf, List.map_cons, List.map_nil, ne_eq, not_true_eq_false, not_false_eq_true, true_and, and_true, false_and, and_false, true_implies, implies_true, false_implies, Nat.zero_add, decide_true, decide_false, Nat.mul_one, Need_true, int_beq, int_bne, not_dec, wrap_i64, wrap_u64, wrap_u8, wrap_u16, wrap_u32, tmod_nn, tdiv_nn, min_bits, Int.toNat_natCast, wrap_or, Int.reduceEq, Int.reduceLT, Int.reduceLE, Nat.reduceLeDiff, cells_int, cells_bool, cells_string, cells_pointer, cells_slice, cells_map, cells_func, cells_nilFunc, cells_iface, cells_nilIface, cells_agg, arr1_size, arr1_list, List.all_cons, List.all_nil, Bool.and_true, Bool.and_self, oneC, List.length_cons, List.length_nil, aop.fillL, setL, List.set_cons_zero, List.set_cons_succ, aApp, rowOf, get_last, List.drop_zero, List.take_succ_cons, List.take_zero, List.drop_succ_cons, List.take_nil, List.drop_nil, bv_length, bv_take, allBytes_bv, allBytes_snoc, allBytes_one, List.length_append, get_at, bv_snoc, bv_take_le, Nat.le_refl, ↓acallop, List.toList_toArray, List.append_nil, List.nil_append, aBound, aIntOf, ByteArray.size_extract, eq_self, flat, flatN, bs_size, C9_32, C9_33, C9_40, C9_41, C9_42, C9_43, C9_44, C9_45, C9_46, C9_47, C9_48, XAlive_eq, XGetF_eq, XGetL_eq, neV, id_eq, Int.toNat_zero, g1, g2, empty_eq])
      all_goals first | rfl | (exfalso; omega)
    · have g1 : ∀ t, getV t s = (nm (t (bl s)), 0) := fun t => by rw [getV, if_neg h0, if_neg h8]
      have hrev : bl (bs (bl s).reverse) = (bl s).reverse := bl_bs _ fun b h => hbb b (by simpa using h)
      have hn : nm (bl s) < 2 ^ 64 := Nat.lt_of_lt_of_le (nm_lt (bl s) hbb) (by rw [hlb]; exact Nat.le_trans (Nat.pow_le_pow_right (by omega) (by omega : s.size ≤ 8)) (by decide))
      by_cases hz : bAt s 0 = 0
      · have g2 : leastV s = (0, 3) := by rw [leastV, if_neg h8, if_pos ⟨h0, hz⟩]
        simp only [ir11]
        (repeat' first
    | (refine CondV_dec (fun _ => ?_) (fun _ => ?_) <;> try (exfalso; omega))
    | (refine GuardV_td (fun _ => ?_) (fun _ => ?_) <;> try (exfalso; omega))
    | (refine GuardV_fd (fun _ => ?_) (fun _ => ?_) <;> try (exfalso; omega))
    | (refine CondV_split (fun _ => ?_) (fun _ => ?_))
    | (refine Need_of (by first | omega | decide) ?_)
    | simp (disch := first | omega | (simp only [List.length_append, List.length_set, List.length_cons, List.length_nil] <;> omega)) only [WpC_skip, WpC_exit, WpC_ret, WpC_seq, WpC_reg, WpC_draw, WpC_block, WpC_cond, WpO_cons, WpO_nil, WpO_guard, WpD_cons, WpD_nil, WpD_guard, ↓astep, ↓aop, aBin, aInt, aStr, aUn, aNil, aMax, ↓oev_t, ↓oev_c, Run_some, Run_ite, Run_ite', map_ite, map_ite', bind_ite, Option.map_some, Option.bind_some, Option.map_none, Option.bind_none, CondV_true, CondV_false, GuardV_tt, GuardV_tf, GuardV_ft, GuardV_ff, GuardV_undef, SeqK_normal, SeqK_exit, SeqK_ret, EndK_ret, EndK_normal, ResK_some, aresults, ares, aPack, blkX_exit, blkX_normal, blkX_ret, Env_put_some, Env_put_none, ↓Env_set_at, ↓reduceIte, ↓reduceCtorEq, Nat.reduceEqDiff, Nat.reduceAdd, env0, List.getElem?_cons_zero, List.getElem?_cons_succ, Option.getD_some, decide_eq_true_eq, decide_eq_false_iff_not, Bool.not_eq_true', Bool.not_true, Bool.not_false, ixs_get, bytesL_get, bytesL_length, aLoad, cellsOf, List.map_cons, List.map_nil, ne_eq, not_true_eq_false, not_false_eq_true, true_and, and_true, false_and, and_false, true_implies, implies_true, false_implies, Nat.zero_add, decide_true, decide_false, Nat.mul_one, Need_true, int_beq, int_bne, not_dec, wrap_i64, wrap_u64, wrap_u8, wrap_u16, wrap_u32, tmod_nn, tdiv_nn, min_bits, Int.toNat_natCast, wrap_or, Int.reduceEq, Int.reduceLT, Int.reduceLE, Nat.reduceLeDiff, cells_int, cells_bool, cells_string, cells_pointer, cells_slice, cells_map, cells_func, cells_nilFunc, cells_iface, cells_nilIface, cells_agg, arr1_size, arr1_list, List.all_cons, List.all_nil, Bool.and_true, Bool.and_self, oneC, List.length_cons, List.length_nil, aop.fillL, setL, List.set_cons_zero, List.set_cons_succ, aApp, rowOf, get_last, List.drop_zero, List.take_succ_cons, List.take_zero, List.drop_succ_cons, List.take_nil, List.drop_nil, bv_length, bv_take, allBytes_bv, allBytes_snoc, allBytes_one, List.length_append, get_at, bv_snoc, bv_take_le, Nat.le_refl, ↓acallop, List.toList_toArray, List.append_nil, List.nil_append, aBound, aIntOf, ByteArray.size_extract, eq_self, flat, flatN, bs_size, C9_32, C9_33, C9_40, C9_41, C9_42, C9_43, C9_44, C9_45, C9_46, C9_47, C9_48, XAlive_eq, XGetF_eq, XGetL_eq, XNumber_eq, XTurned_eq, neV, id_eq, Int.toNat_zero, g1, g2, empty_eq, hrev, bs_size, List.length_reverse, hz])
        all_goals first | rfl | (exfalso; omega)
      · have g2 : leastV s = (nm (bl s), 0) := by rw [leastV, if_neg h8, if_neg (by omega)]
        have g3 : lsts 8 (nm (bl s)) = bl s := lsts_of_nm 8 (bl s) (by omega) hbb (by
          rw [List.head?_eq_getElem?, bl_get, if_pos (by omega)]; simpa using hz)
        simp only [ir11]
        (repeat' first
    | (refine CondV_dec (fun _ => ?_) (fun _ => ?_) <;> try (exfalso; omega))
    | (refine GuardV_td (fun _ => ?_) (fun _ => ?_) <;> try (exfalso; omega))
    | (refine GuardV_fd (fun _ => ?_) (fun _ => ?_) <;> try (exfalso; omega))
    | (refine CondV_split (fun _ => ?_) (fun _ => ?_))
    | (refine Need_of (by first | omega | decide) ?_)
    | simp (disch := first | omega | (simp only [List.length_append, List.length_set, List.length_cons, List.length_nil] <;> omega)) only [WpC_skip, WpC_exit, WpC_ret, WpC_seq, WpC_reg, WpC_draw, WpC_block, WpC_cond, WpO_cons, WpO_nil, WpO_guard, WpD_cons, WpD_nil, WpD_guard, ↓astep, ↓aop, aBin, aInt, aStr, aUn, aNil, aMax, ↓oev_t, ↓oev_c, Run_some, Run_ite, Run_ite', map_ite, map_ite', bind_ite, Option.map_some, Option.bind_some, Option.map_none, Option.bind_none, CondV_true, CondV_false, GuardV_tt, GuardV_tf, GuardV_ft, GuardV_ff, GuardV_undef, SeqK_normal, SeqK_exit, SeqK_ret, EndK_ret, EndK_normal, ResK_some, aresults, ares, aPack, blkX_exit, blkX_normal, blkX_ret, Env_put_some, Env_put_none, ↓Env_set_at, ↓reduceIte, ↓reduceCtorEq, Nat.reduceEqDiff, Nat.reduceAdd, env0, List.getElem?_cons_zero, List.getElem?_cons_succ, Option.getD_some, decide_eq_true_eq, decide_eq_false_iff_not, Bool.not_eq_true', Bool.not_true, Bool.not_false, ixs_get, bytesL_get, bytesL_length, aLoad, cellsOf, List.map_cons, List.map_nil, ne_eq, not_true_eq_false, not_false_eq_true, true_and, and_true, false_and, and_false, true_implies, implies_true, false_implies, Nat.zero_add, decide_true, decide_false, Nat.mul_one, Need_true, int_beq, int_bne, not_dec, wrap_i64, wrap_u64, wrap_u8, wrap_u16, wrap_u32, tmod_nn, tdiv_nn, min_bits, Int.toNat_natCast, wrap_or, Int.reduceEq, Int.reduceLT, Int.reduceLE, Nat.reduceLeDiff, cells_int, cells_bool, cells_string, cells_pointer, cells_slice, cells_map, cells_func, cells_nilFunc, cells_iface, cells_nilIface, cells_agg, arr1_size, arr1_list, List.all_cons, List.all_nil, Bool.and_true, Bool.and_self, oneC, List.length_cons, List.length_nil, aop.fillL, setL, List.set_cons_zero, List.set_cons_succ, aApp, rowOf, get_last, List.drop_zero, List.take_succ_cons, List.take_zero, List.drop_succ_cons, List.take_nil, List.drop_nil, bv_length, bv_take, allBytes_bv, allBytes_snoc, allBytes_one, List.length_append, get_at, bv_snoc, bv_take_le, Nat.le_refl, ↓acallop, List.toList_toArray, List.append_nil, List.nil_append, aBound, aIntOf, ByteArray.size_extract, eq_self, flat, flatN, bs_size, C9_32, C9_33, C9_40, C9_41, C9_42, C9_43, C9_44, C9_45, C9_46, C9_47, C9_48, XAlive_eq, XGetF_eq, XGetL_eq, XNumber_eq, XTurned_eq, XLst_eq, neV, id_eq, Int.toNat_zero, g1, g2, empty_eq, hrev, bs_size, List.length_reverse, g3, bs_bl])
        all_goals first | rfl | (exfalso; omega)

theorem lst_least (N : Nat) (hN : N < 2 ^ 64) : leastV (bs (lsts 8 N)) = (N, 0) := by
  have h1 := lsts_len 8 N
  have h2 := lsts_head 8 N hN
  have h3 := bl_bs _ (lsts_byte 8 N)
  rw [leastV, if_neg (by rw [bs_size]; omega), if_neg, h3, lsts_nm 8 N hN]
  rintro ⟨q1, q2⟩
  rw [bs_size] at q1
  apply h2
  rw [bAt_bl, h3] at q2
  cases hl : lsts 8 N with
  | nil => rw [hl] at q1; exact absurd rfl q1
  | cons b l => rw [hl] at q2; simp at q2; subst q2; rfl

theorem w10 (N : Nat) (hN : N < 2 ^ 64) (z : Int) (hz0 : -9223372036854775808 ≤ z) (hz1 : z ≤ 9223372036854775807) (k : Nat) : Run (fun v H' => v = .bool true) mk (acall C9 (k + 1) 10 [.int .u64 (N : Int), .int .i64 z] [] ⟨0, 0⟩) := by
  have hll := lsts_len 8 N
  have hle := lst_least N hN
  refine Run_call (F := ir10) rfl (Nat.le_of_ble_eq_true rfl) ?_
  by_cases hz : z < 1 ∨ 8 < z
  · have g1 : ∀ t, putV t N z = (⟨#[]⟩, 1) := fun t => by rw [putV, if_pos hz]
    simp only [ir10]
    (repeat' first
    | (refine CondV_dec (fun _ => ?_) (fun _ => ?_) <;> try (exfalso; omega))
    | (refine GuardV_td (fun _ => ?_) (fun _ => ?_) <;> try (exfalso; omega))
    | (refine GuardV_fd (fun _ => ?_) (fun _ => ?_) <;> try (exfalso; omega))
    | (refine CondV_split (fun _ => ?_) (fun _ => ?_))
    | (refine Need_of (by first | omega | decide) ?_)
    | simp (disch := first | omega | (simp only [List.length_append, List.length_set, List.length_cons, List.length_nil] <;> omega)) only [WpC_skip, WpC_exit, WpC_ret, WpC_seq, WpC_reg, WpC_draw, WpC_block, WpC_cond, WpO_cons, WpO_nil, WpO_guard, WpD_cons, WpD_nil, WpD_guard, ↓astep, ↓aop, aBin, aInt, aStr, aUn, aNil, aMax, ↓oev_t, ↓oev_c, Run_some, Run_ite, Run_ite', map_ite, map_ite', bind_ite, Option.map_some, Option.bind_some, Option.map_none, Option.bind_none, CondV_true, CondV_false, GuardV_tt, GuardV_tf, GuardV_ft, GuardV_ff, GuardV_undef, SeqK_normal, SeqK_exit, SeqK_ret, EndK_ret, EndK_normal, ResK_some, aresults, ares, aPack, blkX_exit, blkX_normal, blkX_ret, Env_put_some, Env_put_none, ↓Env_set_at, ↓reduceIte, ↓reduceCtorEq, Nat.reduceEqDiff, Nat.reduceAdd, env0, List.getElem?_cons_zero, List.getElem?_cons_succ, Option.getD_some, decide_eq_true_eq, decide_eq_false_iff_not, Bool.not_eq_true', Bool.not_true, Bool.not_false, ixs_get, bytesL_get, bytesL_length, aLoad, cellsOf, List.map_cons, List.map_nil, ne_eq, not_true_eq_false, not_false_eq_true, true_and, and_true, false_and, and_false, true_implies, implies_true, false_implies, Nat.zero_add, decide_true, decide_false, Nat.mul_one, Need_true, int_beq, int_bne, not_dec, wrap_i64, wrap_u64, wrap_u8, wrap_u16, wrap_u32, tmod_nn, tdiv_nn, min_bits, Int.toNat_natCast, wrap_or, Int.reduceEq, Int.reduceLT, Int.reduceLE, Nat.reduceLeDiff, cells_int, cells_bool, cells_string, cells_pointer, cells_slice, cells_map, cells_func, cells_nilFunc, cells_iface, cells_nilIface, cells_agg, arr1_size, arr1_list, List.all_cons, List.all_nil, Bool.and_true, Bool.and_self, oneC, List.length_cons, List.length_nil, aop.fillL, setL, List.set_cons_zero, List.set_cons_succ, aApp, rowOf, get_last, List.drop_zero, List.take_succ_cons, List.take_zero, List.drop_succ_cons, List.take_nil, List.drop_nil, bv_length, bv_take, allBytes_bv, allBytes_snoc, allBytes_one, List.length_append, get_at, bv_snoc, bv_take_le, Nat.le_refl, ↓acallop, List.toList_toArray, List.append_nil, List.nil_append, aBound, aIntOf, ByteArray.size_extract, eq_self, flat, flatN, bs_size, C9_32, C9_33, C9_40, C9_41, C9_42, C9_43, C9_44, C9_45, C9_46, C9_47, C9_48, XAlive_eq, XPutF_eq, XGetL_eq, XLst_eq, seV, neV, id_eq, g1, hle])
    all_goals first | rfl | (exfalso; omega)
  · obtain ⟨sz, rfl⟩ : ∃ sz : Nat, z = sz := ⟨z.toNat, by omega⟩
    have hfit := lsts_fit N sz (by omega) hN
    by_cases hf : N < 2 ^ (8 * sz)
    · have hlen := hfit.2 hf
      have g1 : ∀ t, putV t N sz = (bs (t (dg N sz)), 0) := fun t => by rw [putV, if_neg hz]; simp [hf]
      have g2 : bigV N sz = (bs (dg N sz).reverse, true) := by rw [bigV, if_neg (by omega), dg_pad N sz (by omega) hN hf]; simp
      have hd1 := bl_bs _ (dg_lt N sz)
      have hd2 : bl (bs (dg N sz).reverse) = (dg N sz).reverse := bl_bs _ fun b h => dg_lt N sz b (by simpa using h)
      have hdl := dg_length N sz
      have hnm := dg_nm sz N hf
      have g3 : getV List.reverse (bs (dg N sz)) = (N, 0) := by rw [getV, bs_size, hdl, if_neg (by omega), if_neg (by omega), hd1, hnm]
      have g4 : getV id (bs (dg N sz).reverse) = (N, 0) := by rw [getV, bs_size, List.length_reverse, hdl, if_neg (by omega), if_neg (by omega), hd2, id_eq, hnm]
      simp only [ir10]
      (repeat' first
    | (refine CondV_dec (fun _ => ?_) (fun _ => ?_) <;> try (exfalso; omega))
    | (refine GuardV_td (fun _ => ?_) (fun _ => ?_) <;> try (exfalso; omega))
    | (refine GuardV_fd (fun _ => ?_) (fun _ => ?_) <;> try (exfalso; omega))
    | (refine CondV_split (fun _ => ?_) (fun _ => ?_))
    | (refine Need_of (by first | omega | decide) ?_)
    | simp (disch := first | omega | (simp only [List.length_append, List.length_set, List.length_cons, List.length_nil] <;> omega)) only [WpC_skip, WpC_exit, WpC_ret, WpC_seq, WpC_reg, WpC_draw, WpC_block, WpC_cond, WpO_cons, WpO_nil, WpO_guard, WpD_cons, WpD_nil, WpD_guard, ↓astep, ↓aop, aBin, aInt, aStr, aUn, aNil, aMax, ↓oev_t, ↓oev_c, Run_some, Run_ite, Run_ite', map_ite, map_ite', bind_ite, Option.map_some, Option.bind_some, Option.map_none, Option.bind_none, CondV_true, CondV_false, GuardV_tt, GuardV_tf, GuardV_ft, GuardV_ff, GuardV_undef, SeqK_normal, SeqK_exit, SeqK_ret, EndK_ret, EndK_normal, ResK_some, aresults, ares, aPack, blkX_exit, blkX_normal, blkX_ret, Env_put_some, Env_put_none, ↓Env_set_at, ↓reduceIte, ↓reduceCtorEq, Nat.reduceEqDiff, Nat.reduceAdd, env0, List.getElem?_cons_zero, List.getElem?_cons_succ, Option.getD_some, decide_eq_true_eq, decide_eq_false_iff_not, Bool.not_eq_true', Bool.not_true, Bool.not_false, ixs_get, bytesL_get, bytesL_length, aLoad, cellsOf, List.map_cons, List.map_nil, ne_eq, not_true_eq_false, not_false_eq_true, true_and, and_true, false_and, and_false, true_implies, implies_true, false_implies, Nat.zero_add, decide_true, decide_false, Nat.mul_one, Need_true, int_beq, int_bne, not_dec, wrap_i64, wrap_u64, wrap_u8, wrap_u16, wrap_u32, tmod_nn, tdiv_nn, min_bits, Int.toNat_natCast, wrap_or, Int.reduceEq, Int.reduceLT, Int.reduceLE, Nat.reduceLeDiff, cells_int, cells_bool, cells_string, cells_pointer, cells_slice, cells_map, cells_func, cells_nilFunc, cells_iface, cells_nilIface, cells_agg, arr1_size, arr1_list, List.all_cons, List.all_nil, Bool.and_true, Bool.and_self, oneC, List.length_cons, List.length_nil, aop.fillL, setL, List.set_cons_zero, List.set_cons_succ, aApp, rowOf, get_last, List.drop_zero, List.take_succ_cons, List.take_zero, List.drop_succ_cons, List.take_nil, List.drop_nil, bv_length, bv_take, allBytes_bv, allBytes_snoc, allBytes_one, List.length_append, get_at, bv_snoc, bv_take_le, Nat.le_refl, ↓acallop, List.toList_toArray, List.append_nil, List.nil_append, aBound, aIntOf, ByteArray.size_extract, eq_self, flat, flatN, bs_size, C9_32, C9_33, C9_40, C9_41, C9_42, C9_43, C9_44, C9_45, C9_46, C9_47, C9_48, XAlive_eq, XPutF_eq, XGetL_eq, XGetF_eq, XLst_eq, XRBig_eq, XTurned_eq, seV, neV, sbV, id_eq, g1, g2, g3, g4, hle, hd1, hd2, List.reverse_reverse, List.length_reverse, hdl])
      all_goals first | rfl | (exfalso; omega) | trace_state
    · have hlen : ¬ (lsts 8 N).length ≤ sz := fun h => hf (hfit.1 h)
      have g1 : ∀ t, putV t N sz = (⟨#[]⟩, 5) := fun t => by rw [putV, if_neg hz]; simp [hf]
      have g2 : bigV N sz = (⟨#[]⟩, false) := by rw [bigV, if_pos (by omega)]
      simp only [ir10]
      (repeat' first
    | (refine CondV_dec (fun _ => ?_) (fun _ => ?_) <;> try (exfalso; omega))
    | (refine GuardV_td (fun _ => ?_) (fun _ => ?_) <;> try (exfalso; omega))
    | (refine GuardV_fd (fun _ => ?_) (fun _ => ?_) <;> try (exfalso; omega))
    | (refine CondV_split (fun _ => ?_) (fun _ => ?_))
    | (refine Need_of (by first | omega | decide) ?_)
    | simp (disch := first | omega | (simp only [List.length_append, List.length_set, List.length_cons, List.length_nil] <;> omega)) only [WpC_skip, WpC_exit, WpC_ret, WpC_seq, WpC_reg, WpC_draw, WpC_block, WpC_cond, WpO_cons, WpO_nil, WpO_guard, WpD_cons, WpD_nil, WpD_guard, ↓astep, ↓aop, aBin, aInt, aStr, aUn, aNil, aMax, ↓oev_t, ↓oev_c, Run_some, Run_ite, Run_ite', map_ite, map_ite', bind_ite, Option.map_some, Option.bind_some, Option.map_none, Option.bind_none, CondV_true, CondV_false, GuardV_tt, GuardV_tf, GuardV_ft, GuardV_ff, GuardV_undef, SeqK_normal, SeqK_exit, SeqK_ret, EndK_ret, EndK_normal, ResK_some, aresults, ares, aPack, blkX_exit, blkX_normal, blkX_ret, Env_put_some, Env_put_none, ↓Env_set_at, ↓reduceIte, ↓reduceCtorEq, Nat.reduceEqDiff, Nat.reduceAdd, env0, List.getElem?_cons_zero, List.getElem?_cons_succ, Option.getD_some, decide_eq_true_eq, decide_eq_false_iff_not, Bool.not_eq_true', Bool.not_true, Bool.not_false, ixs_get, bytesL_get, bytesL_length, aLoad, cellsOf, List.map_cons, List.map_nil, ne_eq, not_true_eq_false, not_false_eq_true, true_and, and_true, false_and, and_false, true_implies, implies_true, false_implies, Nat.zero_add, decide_true, decide_false, Nat.mul_one, Need_true, int_beq, int_bne, not_dec, wrap_i64, wrap_u64, wrap_u8, wrap_u16, wrap_u32, tmod_nn, tdiv_nn, min_bits, Int.toNat_natCast, wrap_or, Int.reduceEq, Int.reduceLT, Int.reduceLE, Nat.reduceLeDiff, cells_int, cells_bool, cells_string, cells_pointer, cells_slice, cells_map, cells_func, cells_nilFunc, cells_iface, cells_nilIface, cells_agg, arr1_size, arr1_list, List.all_cons, List.all_nil, Bool.and_true, Bool.and_self, oneC, List.length_cons, List.length_nil, aop.fillL, setL, List.set_cons_zero, List.set_cons_succ, aApp, rowOf, get_last, List.drop_zero, List.take_succ_cons, List.take_zero, List.drop_succ_cons, List.take_nil, List.drop_nil, bv_length, bv_take, allBytes_bv, allBytes_snoc, allBytes_one, List.length_append, get_at, bv_snoc, bv_take_le, Nat.le_refl, ↓acallop, List.toList_toArray, List.append_nil, List.nil_append, aBound, aIntOf, ByteArray.size_extract, eq_self, flat, flatN, bs_size, C9_32, C9_33, C9_40, C9_41, C9_42, C9_43, C9_44, C9_45, C9_46, C9_47, C9_48, XAlive_eq, XPutF_eq, XGetL_eq, XGetF_eq, XLst_eq, XRBig_eq, XTurned_eq, seV, neV, sbV, id_eq, g1, g2, hle])
      all_goals first | rfl | (exfalso; omega) | trace_state
end Ev
end Go.Proofs.Ytlcfanmmpfmnaaa
