/-
  leb.Size, the plain Put, and the law LebPuts.
-/
import Derived.Test.YtlcfanmmpfmnaaaLeb2
namespace Go.Proofs.Ytlcfanmmpfmnaaa
namespace Ev
open Tag (mk)
set_option linter.unusedSimpArgs false
set_option linter.unusedVariables false
set_option maxRecDepth 4000
noncomputable def C3 : Cf := { P := Try.prog, G := 0, fn := fun f => if f = 16 then some ir16 else if f = 17 then some ir17 else none, pol := fun f => if f = 16 then .ro else .gen, al := alT, X := fun _ => none }
theorem C3_X : C3.X 16 = none := rfl
theorem C3_pol : C3.pol 16 = .ro := rfl
theorem C3_ok : C3.Ok where
  mixed := by kernel_rfl
  alok k h := by cases h
  fn f F h := by
    simp only [C3] at h
    split at h
    · rename_i hf; subst hf; cases h; exact ⟨_, Try.func16, cmp16, nm16⟩
    · split at h
      · rename_i hf; subst hf; cases h; exact ⟨_, Try.func17, cmp17, nm17⟩
      · cases h
  X f g h := by cases h

theorem putl_le : ∀ (k n j : Nat), n < 2 ^ j → (put k n).length ≤ j + 1
  | 0, n, j, h => by simp [put]
  | k + 1, n, j, h => by
    simp only [put]
    split
    · simp
    · rename_i hn
      have hj : 7 ≤ j := by
        rcases Nat.lt_or_ge j 7 with h' | h'
        · have : 2 ^ j ≤ 2 ^ 7 := Nat.pow_le_pow_right (by omega) (by omega)
          omega
        · exact h'
      have := putl_le k (n / 128) (j - 7) (by
        have : 2 ^ j = 2 ^ (j - 7) * 128 := by rw [show j = (j - 7) + 7 by omega, Nat.pow_add]; simp
        omega)
      simp only [List.length_cons]; omega

theorem bl_bs' (l : List Nat) : bl (bs l) = l.map (· % 256) := by
  simp only [bl, bs, List.toList_toArray, List.map_map]
  apply List.map_congr_left
  intro b _
  simp
theorem bs_one (b : Nat) : ({ data := #[UInt8.ofNat b] } : ByteArray) = bs [b] := rfl
theorem bs_cons (b : Nat) (l : List Nat) : bs [b] ++ bs l = bs (b :: l) := bl_inj (by rw [bl_append, bl_bs', bl_bs', bl_bs']; simp)

def I17 (N : Nat) (n : Nat) (e : Env) (H : Heap) : Prop :=
  ∃ (c : Nat), e 0 = .int .u64 (n : Int) ∧ e 3 = .int .i64 (c : Int) ∧ n ≤ N ∧ 1 ≤ c ∧ c ≤ 66 ∧ c + (put (n + 1) n).length = (put (N + 1) N).length + 1
theorem w17 (N : Nat) (hN : N < 2 ^ 64) (k : Nat) (hk : N < k) : Run (fun v H' => v = .int .i64 ((put (N + 1) N).length : Int)) mk (acall C3 (k + 1) 17 [.int .u64 (N : Int)] [] ⟨0, 0⟩) := by
  refine Run_call (F := ir17) rfl (Nat.le_of_ble_eq_true rfl) ?_
  simp only [ir17, WpC_skip, WpC_exit, WpC_ret, WpC_seq, WpC_reg, WpC_draw, WpC_block, WpC_cond, WpO_cons, WpO_nil, WpO_guard, WpD_cons, WpD_nil, WpD_guard, ↓astep, ↓aop, aBin, aInt, aStr, aUn, aNil, aMax, ↓oev_t, ↓oev_c, Run_some, Run_ite, Run_ite', map_ite, map_ite', bind_ite, Option.map_some, Option.bind_some, Option.map_none, Option.bind_none, CondV_true, CondV_false, GuardV_tt, GuardV_tf, GuardV_ft, GuardV_ff, GuardV_undef, SeqK_normal, SeqK_exit, SeqK_ret, EndK_ret, EndK_normal, ResK_some, aresults, ares, aPack, blkX_exit, blkX_normal, blkX_ret, Env_put_some, Env_put_none, ↓Env_set_at, ↓reduceIte, ↓reduceCtorEq, Nat.reduceEqDiff, Nat.reduceAdd, env0, List.getElem?_cons_zero, List.getElem?_cons_succ, Option.getD_some, decide_eq_true_eq, decide_eq_false_iff_not, Bool.not_eq_true', Bool.not_true, Bool.not_false, ixs_get, bytesL_get, bytesL_length, aLoad, cellsOf, List.map_cons, List.map_nil, ne_eq, not_true_eq_false, not_false_eq_true, true_and, and_true, false_and, and_false, true_implies, implies_true, false_implies, Nat.zero_add, decide_true, decide_false, Nat.mul_one, Need_true, int_beq, int_bne, not_dec, wrap_i64, wrap_u64, wrap_u8, wrap_u16, wrap_u32, tmod_nn, tdiv_nn, min_bits, Int.toNat_natCast, wrap_or, Int.reduceEq, Int.reduceLT, Int.reduceLE, Nat.reduceLeDiff, cells_int, cells_bool, cells_string, cells_pointer, cells_slice, cells_map, cells_func, cells_nilFunc, cells_iface, cells_nilIface, cells_agg, arr1_size, arr1_list, List.all_cons, List.all_nil, Bool.and_true, Bool.and_self, oneC, List.length_cons, List.length_nil, aop.fillL, setL, List.set_cons_zero, List.set_cons_succ, aApp, rowOf, get_last, List.drop_zero, List.take_succ_cons, List.take_zero, List.drop_succ_cons, List.take_nil, List.drop_nil, bv_length, bv_take, allBytes_bv, allBytes_snoc, allBytes_one, List.length_append, get_at, bv_snoc, bv_take_le, Nat.le_refl, ↓acallop, List.toList_toArray, List.append_nil, List.nil_append, aBound, aIntOf, ByteArray.size_extract, eq_self, flat, flatN, bs_size]
  refine WpC_loop (I17 N) ?_ (n := N) hk ?_
  · rintro n e H ⟨c, h0, h3, hn, hc1, hc, hl⟩
    have hlen := putl_le (N + 1) N 64 hN
    have more : 128 ≤ n → (put (n + 1) n).length = (put (n / 128 + 1) (n / 128)).length + 1 := fun h => by
      rw [put, if_neg (by omega), put_more _ n (by omega)]; simp
    have last : n < 128 → (put (n + 1) n).length = 1 := fun h => by rw [put, if_pos h]; rfl
    have pos : 1 ≤ (put (n / 128 + 1) (n / 128)).length := by rw [put]; split <;> simp
    simp only [lp17_0, WpC_skip, WpC_exit, WpC_ret, WpC_seq, WpC_reg, WpC_draw, WpC_block, WpC_cond, WpO_cons, WpO_nil, WpO_guard, WpD_cons, WpD_nil, WpD_guard, ↓astep, ↓aop, aBin, aInt, aStr, aUn, aNil, aMax, ↓oev_t, ↓oev_c, Run_some, Run_ite, Run_ite', map_ite, map_ite', bind_ite, Option.map_some, Option.bind_some, Option.map_none, Option.bind_none, CondV_true, CondV_false, GuardV_tt, GuardV_tf, GuardV_ft, GuardV_ff, GuardV_undef, SeqK_normal, SeqK_exit, SeqK_ret, EndK_ret, EndK_normal, ResK_some, aresults, ares, aPack, blkX_exit, blkX_normal, blkX_ret, Env_put_some, Env_put_none, ↓Env_set_at, ↓reduceIte, ↓reduceCtorEq, Nat.reduceEqDiff, Nat.reduceAdd, env0, List.getElem?_cons_zero, List.getElem?_cons_succ, Option.getD_some, decide_eq_true_eq, decide_eq_false_iff_not, Bool.not_eq_true', Bool.not_true, Bool.not_false, ixs_get, bytesL_get, bytesL_length, aLoad, cellsOf, List.map_cons, List.map_nil, ne_eq, not_true_eq_false, not_false_eq_true, true_and, and_true, false_and, and_false, true_implies, implies_true, false_implies, Nat.zero_add, decide_true, decide_false, Nat.mul_one, Need_true, int_beq, int_bne, not_dec, wrap_i64, wrap_u64, wrap_u8, wrap_u16, wrap_u32, tmod_nn, tdiv_nn, min_bits, Int.toNat_natCast, wrap_or, Int.reduceEq, Int.reduceLT, Int.reduceLE, Nat.reduceLeDiff, cells_int, cells_bool, cells_string, cells_pointer, cells_slice, cells_map, cells_func, cells_nilFunc, cells_iface, cells_nilIface, cells_agg, arr1_size, arr1_list, List.all_cons, List.all_nil, Bool.and_true, Bool.and_self, oneC, List.length_cons, List.length_nil, aop.fillL, setL, List.set_cons_zero, List.set_cons_succ, aApp, rowOf, get_last, List.drop_zero, List.take_succ_cons, List.take_zero, List.drop_succ_cons, List.take_nil, List.drop_nil, bv_length, bv_take, allBytes_bv, allBytes_snoc, allBytes_one, List.length_append, get_at, bv_snoc, bv_take_le, Nat.le_refl, ↓acallop, List.toList_toArray, List.append_nil, List.nil_append, aBound, aIntOf, ByteArray.size_extract, eq_self, flat, flatN, bs_size, h0, h3]
    (repeat' first
    | (refine CondV_dec (fun _ => ?_) (fun _ => ?_) <;> try (exfalso; omega))
    | (refine GuardV_td (fun _ => ?_) (fun _ => ?_) <;> try (exfalso; omega))
    | (refine GuardV_fd (fun _ => ?_) (fun _ => ?_) <;> try (exfalso; omega))
    | (refine CondV_split (fun _ => ?_) (fun _ => ?_))
    | (refine Need_of (by first | omega | decide) ?_)
    | simp (disch := first | omega | (simp only [List.length_append, List.length_set, List.length_cons, List.length_nil] <;> omega)) only [WpC_skip, WpC_exit, WpC_ret, WpC_seq, WpC_reg, WpC_draw, WpC_block, WpC_cond, WpO_cons, WpO_nil, WpO_guard, WpD_cons, WpD_nil, WpD_guard, ↓astep, ↓aop, aBin, aInt, aStr, aUn, aNil, aMax, ↓oev_t, ↓oev_c, Run_some, Run_ite, Run_ite', map_ite, map_ite', bind_ite, Option.map_some, Option.bind_some, Option.map_none, Option.bind_none, CondV_true, CondV_false, GuardV_tt, GuardV_tf, GuardV_ft, GuardV_ff, GuardV_undef, SeqK_normal, SeqK_exit, SeqK_ret, EndK_ret, EndK_normal, ResK_some, aresults, ares, aPack, blkX_exit, blkX_normal, blkX_ret, Env_put_some, Env_put_none, ↓Env_set_at, ↓reduceIte, ↓reduceCtorEq, Nat.reduceEqDiff, Nat.reduceAdd, env0, List.getElem?_cons_zero, List.getElem?_cons_succ, Option.getD_some, decide_eq_true_eq, decide_eq_false_iff_not, Bool.not_eq_true', Bool.not_true, Bool.not_false, ixs_get, bytesL_get, bytesL_length, aLoad, cellsOf, List.map_cons, List.map_nil, ne_eq, not_true_eq_false, not_false_eq_true, true_and, and_true, false_and, and_false, true_implies, implies_true, false_implies, Nat.zero_add, decide_true, decide_false, Nat.mul_one, Need_true, int_beq, int_bne, not_dec, wrap_i64, wrap_u64, wrap_u8, wrap_u16, wrap_u32, tmod_nn, tdiv_nn, min_bits, Int.toNat_natCast, wrap_or, Int.reduceEq, Int.reduceLT, Int.reduceLE, Nat.reduceLeDiff, cells_int, cells_bool, cells_string, cells_pointer, cells_slice, cells_map, cells_func, cells_nilFunc, cells_iface, cells_nilIface, cells_agg, arr1_size, arr1_list, List.all_cons, List.all_nil, Bool.and_true, Bool.and_self, oneC, List.length_cons, List.length_nil, aop.fillL, setL, List.set_cons_zero, List.set_cons_succ, aApp, rowOf, get_last, List.drop_zero, List.take_succ_cons, List.take_zero, List.drop_succ_cons, List.take_nil, List.drop_nil, bv_length, bv_take, allBytes_bv, allBytes_snoc, allBytes_one, List.length_append, get_at, bv_snoc, bv_take_le, Nat.le_refl, ↓acallop, List.toList_toArray, List.append_nil, List.nil_append, aBound, aIntOf, ByteArray.size_extract, eq_self, flat, flatN, bs_size, h0, h3])
    · refine ⟨n / 128, by omega, c + 1, ?_, ?_, by omega, by omega, by omega, by omega⟩
      · (first | rfl | (simp only [WpC_skip, WpC_exit, WpC_ret, WpC_seq, WpC_reg, WpC_draw, WpC_block, WpC_cond, WpO_cons, WpO_nil, WpO_guard, WpD_cons, WpD_nil, WpD_guard, ↓astep, ↓aop, aBin, aInt, aStr, aUn, aNil, aMax, ↓oev_t, ↓oev_c, Run_some, Run_ite, Run_ite', map_ite, map_ite', bind_ite, Option.map_some, Option.bind_some, Option.map_none, Option.bind_none, CondV_true, CondV_false, GuardV_tt, GuardV_tf, GuardV_ft, GuardV_ff, GuardV_undef, SeqK_normal, SeqK_exit, SeqK_ret, EndK_ret, EndK_normal, ResK_some, aresults, ares, aPack, blkX_exit, blkX_normal, blkX_ret, Env_put_some, Env_put_none, ↓Env_set_at, ↓reduceIte, ↓reduceCtorEq, Nat.reduceEqDiff, Nat.reduceAdd, env0, List.getElem?_cons_zero, List.getElem?_cons_succ, Option.getD_some, decide_eq_true_eq, decide_eq_false_iff_not, Bool.not_eq_true', Bool.not_true, Bool.not_false, ixs_get, bytesL_get, bytesL_length, aLoad, cellsOf, List.map_cons, List.map_nil, ne_eq, not_true_eq_false, not_false_eq_true, true_and, and_true, false_and, and_false, true_implies, implies_true, false_implies, Nat.zero_add, decide_true, decide_false, Nat.mul_one, Need_true, int_beq, int_bne, not_dec, wrap_i64, wrap_u64, wrap_u8, wrap_u16, wrap_u32, tmod_nn, tdiv_nn, min_bits, Int.toNat_natCast, wrap_or, Int.reduceEq, Int.reduceLT, Int.reduceLE, Nat.reduceLeDiff, cells_int, cells_bool, cells_string, cells_pointer, cells_slice, cells_map, cells_func, cells_nilFunc, cells_iface, cells_nilIface, cells_agg, arr1_size, arr1_list, List.all_cons, List.all_nil, Bool.and_true, Bool.and_self, oneC, List.length_cons, List.length_nil, aop.fillL, setL, List.set_cons_zero, List.set_cons_succ, aApp, rowOf, get_last, List.drop_zero, List.take_succ_cons, List.take_zero, List.drop_succ_cons, List.take_nil, List.drop_nil, bv_length, bv_take, allBytes_bv, allBytes_snoc, allBytes_one, List.length_append, get_at, bv_snoc, bv_take_le, Nat.le_refl, ↓acallop, List.toList_toArray, List.append_nil, List.nil_append, aBound, aIntOf, ByteArray.size_extract, eq_self, flat, flatN, bs_size] <;> rfl))
      · (first | rfl | (simp only [WpC_skip, WpC_exit, WpC_ret, WpC_seq, WpC_reg, WpC_draw, WpC_block, WpC_cond, WpO_cons, WpO_nil, WpO_guard, WpD_cons, WpD_nil, WpD_guard, ↓astep, ↓aop, aBin, aInt, aStr, aUn, aNil, aMax, ↓oev_t, ↓oev_c, Run_some, Run_ite, Run_ite', map_ite, map_ite', bind_ite, Option.map_some, Option.bind_some, Option.map_none, Option.bind_none, CondV_true, CondV_false, GuardV_tt, GuardV_tf, GuardV_ft, GuardV_ff, GuardV_undef, SeqK_normal, SeqK_exit, SeqK_ret, EndK_ret, EndK_normal, ResK_some, aresults, ares, aPack, blkX_exit, blkX_normal, blkX_ret, Env_put_some, Env_put_none, ↓Env_set_at, ↓reduceIte, ↓reduceCtorEq, Nat.reduceEqDiff, Nat.reduceAdd, env0, List.getElem?_cons_zero, List.getElem?_cons_succ, Option.getD_some, decide_eq_true_eq, decide_eq_false_iff_not, Bool.not_eq_true', Bool.not_true, Bool.not_false, ixs_get, bytesL_get, bytesL_length, aLoad, cellsOf, List.map_cons, List.map_nil, ne_eq, not_true_eq_false, not_false_eq_true, true_and, and_true, false_and, and_false, true_implies, implies_true, false_implies, Nat.zero_add, decide_true, decide_false, Nat.mul_one, Need_true, int_beq, int_bne, not_dec, wrap_i64, wrap_u64, wrap_u8, wrap_u16, wrap_u32, tmod_nn, tdiv_nn, min_bits, Int.toNat_natCast, wrap_or, Int.reduceEq, Int.reduceLT, Int.reduceLE, Nat.reduceLeDiff, cells_int, cells_bool, cells_string, cells_pointer, cells_slice, cells_map, cells_func, cells_nilFunc, cells_iface, cells_nilIface, cells_agg, arr1_size, arr1_list, List.all_cons, List.all_nil, Bool.and_true, Bool.and_self, oneC, List.length_cons, List.length_nil, aop.fillL, setL, List.set_cons_zero, List.set_cons_succ, aApp, rowOf, get_last, List.drop_zero, List.take_succ_cons, List.take_zero, List.drop_succ_cons, List.take_nil, List.drop_nil, bv_length, bv_take, allBytes_bv, allBytes_snoc, allBytes_one, List.length_append, get_at, bv_snoc, bv_take_le, Nat.le_refl, ↓acallop, List.toList_toArray, List.append_nil, List.nil_append, aBound, aIntOf, ByteArray.size_extract, eq_self, flat, flatN, bs_size] <;> rfl))
    · rw [show (put (N + 1) N).length = c by omega]
  · exact ⟨1, rfl, rfl, by omega, by omega, by omega, by omega⟩

theorem w16 : ∀ (N : Nat), N < 2 ^ 64 → ∀ (k : Nat), N < k → Run (fun v H' => v = .string (bs (put (N + 1) N))) mk (acall C3 (k + 1) 16 [.int .u64 (N : Int)] [] ⟨0, 0⟩) := by
  intro N
  induction N using Nat.strongRecOn with
  | _ N ih =>
    intro hN k hk
    refine Run_call (F := ir16) rfl (Nat.le_of_ble_eq_true rfl) ?_
    by_cases h128 : 128 ≤ N
    · obtain ⟨k', rfl⟩ : ∃ k', k = k' + 1 := ⟨k - 1, by omega⟩
      obtain ⟨H1, h1⟩ := Run_ex (ih (N / 128) (by omega) (by omega) k' (by omega))
      rw [show ((N / 128 : Nat) : Int) = (N : Int) / 128 by omega] at h1
      have hlen := putl_le (N / 128 + 1) (N / 128) 64 (by omega)
      have e1 : ((N : Int) % 128 + 128) = ((N % 128 + 128 : Nat) : Int) := by omega
      simp only [ir16]
      (repeat' first
    | (refine CondV_dec (fun _ => ?_) (fun _ => ?_) <;> try (exfalso; omega))
    | (refine GuardV_td (fun _ => ?_) (fun _ => ?_) <;> try (exfalso; omega))
    | (refine GuardV_fd (fun _ => ?_) (fun _ => ?_) <;> try (exfalso; omega))
    | (refine CondV_split (fun _ => ?_) (fun _ => ?_))
    | (refine Need_of (by first | omega | decide) ?_)
    | simp (disch := first | omega | (simp only [List.length_append, List.length_set, List.length_cons, List.length_nil] <;> omega)) only [WpC_skip, WpC_exit, WpC_ret, WpC_seq, WpC_reg, WpC_draw, WpC_block, WpC_cond, WpO_cons, WpO_nil, WpO_guard, WpD_cons, WpD_nil, WpD_guard, ↓astep, ↓aop, aBin, aInt, aStr, aUn, aNil, aMax, ↓oev_t, ↓oev_c, Run_some, Run_ite, Run_ite', map_ite, map_ite', bind_ite, Option.map_some, Option.bind_some, Option.map_none, Option.bind_none, CondV_true, CondV_false, GuardV_tt, GuardV_tf, GuardV_ft, GuardV_ff, GuardV_undef, SeqK_normal, SeqK_exit, SeqK_ret, EndK_ret, EndK_normal, ResK_some, aresults, ares, aPack, blkX_exit, blkX_normal, blkX_ret, Env_put_some, Env_put_none, ↓Env_set_at, ↓reduceIte, ↓reduceCtorEq, Nat.reduceEqDiff, Nat.reduceAdd, env0, List.getElem?_cons_zero, List.getElem?_cons_succ, Option.getD_some, decide_eq_true_eq, decide_eq_false_iff_not, Bool.not_eq_true', Bool.not_true, Bool.not_false, ixs_get, bytesL_get, bytesL_length, aLoad, cellsOf, List.map_cons, List.map_nil, ne_eq, not_true_eq_false, not_false_eq_true, true_and, and_true, false_and, and_false, true_implies, implies_true, false_implies, Nat.zero_add, decide_true, decide_false, Nat.mul_one, Need_true, int_beq, int_bne, not_dec, wrap_i64, wrap_u64, wrap_u8, wrap_u16, wrap_u32, tmod_nn, tdiv_nn, min_bits, Int.toNat_natCast, wrap_or, Int.reduceEq, Int.reduceLT, Int.reduceLE, Nat.reduceLeDiff, cells_int, cells_bool, cells_string, cells_pointer, cells_slice, cells_map, cells_func, cells_nilFunc, cells_iface, cells_nilIface, cells_agg, arr1_size, arr1_list, List.all_cons, List.all_nil, Bool.and_true, Bool.and_self, oneC, List.length_cons, List.length_nil, aop.fillL, setL, List.set_cons_zero, List.set_cons_succ, aApp, rowOf, get_last, List.drop_zero, List.take_succ_cons, List.take_zero, List.drop_succ_cons, List.take_nil, List.drop_nil, bv_length, bv_take, allBytes_bv, allBytes_snoc, allBytes_one, List.length_append, get_at, bv_snoc, bv_take_le, Nat.le_refl, ↓acallop, List.toList_toArray, List.append_nil, List.nil_append, aBound, aIntOf, ByteArray.size_extract, eq_self, flat, flatN, bs_size, C3_X, C3_pol, h1, e1, bs_one, bs_cons])
      rw [put.eq_2 N N, if_neg (by omega), put_more _ N (by omega)]
    · simp only [ir16]
      (repeat' first
    | (refine CondV_dec (fun _ => ?_) (fun _ => ?_) <;> try (exfalso; omega))
    | (refine GuardV_td (fun _ => ?_) (fun _ => ?_) <;> try (exfalso; omega))
    | (refine GuardV_fd (fun _ => ?_) (fun _ => ?_) <;> try (exfalso; omega))
    | (refine CondV_split (fun _ => ?_) (fun _ => ?_))
    | (refine Need_of (by first | omega | decide) ?_)
    | simp (disch := first | omega | (simp only [List.length_append, List.length_set, List.length_cons, List.length_nil] <;> omega)) only [WpC_skip, WpC_exit, WpC_ret, WpC_seq, WpC_reg, WpC_draw, WpC_block, WpC_cond, WpO_cons, WpO_nil, WpO_guard, WpD_cons, WpD_nil, WpD_guard, ↓astep, ↓aop, aBin, aInt, aStr, aUn, aNil, aMax, ↓oev_t, ↓oev_c, Run_some, Run_ite, Run_ite', map_ite, map_ite', bind_ite, Option.map_some, Option.bind_some, Option.map_none, Option.bind_none, CondV_true, CondV_false, GuardV_tt, GuardV_tf, GuardV_ft, GuardV_ff, GuardV_undef, SeqK_normal, SeqK_exit, SeqK_ret, EndK_ret, EndK_normal, ResK_some, aresults, ares, aPack, blkX_exit, blkX_normal, blkX_ret, Env_put_some, Env_put_none, ↓Env_set_at, ↓reduceIte, ↓reduceCtorEq, Nat.reduceEqDiff, Nat.reduceAdd, env0, List.getElem?_cons_zero, List.getElem?_cons_succ, Option.getD_some, decide_eq_true_eq, decide_eq_false_iff_not, Bool.not_eq_true', Bool.not_true, Bool.not_false, ixs_get, bytesL_get, bytesL_length, aLoad, cellsOf, List.map_cons, List.map_nil, ne_eq, not_true_eq_false, not_false_eq_true, true_and, and_true, false_and, and_false, true_implies, implies_true, false_implies, Nat.zero_add, decide_true, decide_false, Nat.mul_one, Need_true, int_beq, int_bne, not_dec, wrap_i64, wrap_u64, wrap_u8, wrap_u16, wrap_u32, tmod_nn, tdiv_nn, min_bits, Int.toNat_natCast, wrap_or, Int.reduceEq, Int.reduceLT, Int.reduceLE, Nat.reduceLeDiff, cells_int, cells_bool, cells_string, cells_pointer, cells_slice, cells_map, cells_func, cells_nilFunc, cells_iface, cells_nilIface, cells_agg, arr1_size, arr1_list, List.all_cons, List.all_nil, Bool.and_true, Bool.and_self, oneC, List.length_cons, List.length_nil, aop.fillL, setL, List.set_cons_zero, List.set_cons_succ, aApp, rowOf, get_last, List.drop_zero, List.take_succ_cons, List.take_zero, List.drop_succ_cons, List.take_nil, List.drop_nil, bv_length, bv_take, allBytes_bv, allBytes_snoc, allBytes_one, List.length_append, get_at, bv_snoc, bv_take_le, Nat.le_refl, ↓acallop, List.toList_toArray, List.append_nil, List.nil_append, aBound, aIntOf, ByteArray.size_extract, eq_self, flat, flatN, bs_size, C3_X, C3_pol])
      rw [put, if_pos (by omega)]; rfl

def XSize (args : List Value) : Option Value :=
  match args with
  | [.int .u64 n] => if 0 ≤ n ∧ n < 2 ^ 64 then some (.int .i64 ((put (n.toNat + 1) n.toNat).length : Int)) else none
  | _ => none
theorem XSize_eq (n : Int) : XSize [.int .u64 n] = if 0 ≤ n ∧ n < 2 ^ 64 then some (.int .i64 ((put (n.toNat + 1) n.toNat).length : Int)) else none := rfl
theorem x16 : XOk Try.prog 16 XPut := .of C3_ok rfl (f := 16) ⟨_, Try.func16, cmp16, nm16⟩ fun args v h => by
  unfold XPut at h
  split at h
  · rename_i n
    split at h
    · rename_i hs; cases h
      have := w16 n.toNat (by omega) (n.toNat + 1) (by omega)
      rw [show ((n.toNat : Nat) : Int) = n by omega] at this
      exact ⟨rfl, rfl, n.toNat + 1 + 1, 0, this⟩
    · cases h
  · cases h
theorem x17 : XOk Try.prog 17 XSize := .of C3_ok rfl (f := 17) ⟨_, Try.func17, cmp17, nm17⟩ fun args v h => by
  unfold XSize at h
  split at h
  · rename_i n
    split at h
    · rename_i hs; cases h
      have := w17 n.toNat (by omega) (n.toNat + 1) (by omega)
      rw [show ((n.toNat : Nat) : Int) = n by omega] at this
      exact ⟨rfl, rfl, n.toNat + 1 + 1, 0, this⟩
    · cases h
  · cases h

noncomputable def C4 : Cf := { P := Try.prog, G := 0, fn := fun f => if f = 5 then some ir5 else none, pol := fun _ => .gen, al := alT, X := fun f => if f = 12 then some XAlive else if f = 13 then some XNext else if f = 15 then some XPut else if f = 16 then some XPut else if f = 17 then some XSize else none }
theorem C4_12 : C4.X 12 = some XAlive := rfl
theorem C4_13 : C4.X 13 = some XNext := rfl
theorem C4_15 : C4.X 15 = some XPut := rfl
theorem C4_16 : C4.X 16 = some XPut := rfl
theorem C4_17 : C4.X 17 = some XSize := rfl
theorem C4_ok : C4.Ok where
  mixed := by kernel_rfl
  alok k h := by cases h
  fn f F h := by
    simp only [C4] at h
    split at h
    · rename_i hf; subst hf; cases h; exact ⟨_, Try.func5, cmp5, nm5⟩
    · cases h
  X f g h := by
    simp only [C4] at h
    split at h
    · rename_i hf; subst hf; cases h; exact x12
    · split at h
      · rename_i hf; subst hf; cases h; exact x13
      · split at h
        · rename_i hf; subst hf; cases h; exact x15
        · split at h
          · rename_i hf; subst hf; cases h; exact x16
          · split at h
            · rename_i hf; subst hf; cases h; exact x17
            · cases h

/-- What was written is read as it was. -/
theorem nx_of_put : ∀ (n i a : Nat) (rest : List Nat), i ≤ 9 → a + n * 2 ^ (7 * i) < 2 ^ 64 → (0 < i → 0 < n) → nx (put (n + 1) n ++ rest) i a = (a + n * 2 ^ (7 * i), i + (put (n + 1) n).length, 0) := by
  intro n
  induction n using Nat.strongRecOn with
  | _ n ih =>
    intro i a rest hi hlt h0
    by_cases h : n < 128
    · rw [put, if_pos h]
      show nx (n :: rest) i a = _
      rw [nx, if_neg, if_pos h, Nat.mod_eq_of_lt h]
      · rfl
      · rintro (⟨rfl, h1⟩ | ⟨h1, h2⟩)
        · simp only [Nat.reduceMul, Nat.reducePow] at hlt; omega
        · have := h0 h2; omega
    · have hi8 : i ≤ 8 := by
        rcases Nat.lt_or_ge 8 i with h' | h'
        · obtain rfl : i = 9 := by omega
          simp only [Nat.reduceMul, Nat.reducePow] at hlt; omega
        · exact h'
      have hp : put (n + 1) n = (n % 128 + 128) :: put (n / 128 + 1) (n / 128) := by rw [put, if_neg h, put_more _ n (by omega)]
      rw [hp, List.cons_append, nx, if_neg (by omega), if_neg (by omega), show (n % 128 + 128) % 128 = n % 128 by omega]
      have e1 : a + n % 128 * 2 ^ (7 * i) + n / 128 * 2 ^ (7 * (i + 1)) = a + n * 2 ^ (7 * i) := by
        rw [show 7 * (i + 1) = 7 * i + 7 by omega, Nat.pow_add, Nat.mul_comm (2 ^ (7 * i)) (2 ^ 7), ← Nat.mul_assoc, Nat.add_assoc, ← Nat.add_mul]
        congr 2
        omega
      rw [ih (n / 128) (by omega) (i + 1) _ rest (by omega) (by rw [e1]; exact hlt) (by omega), e1]
      simp; omega

theorem nx_put_more (n : Nat) (hn : n < 2 ^ 64) (s : ByteArray) : nx (bl (bs (put (n + 1) n) ++ s)) 0 0 = (n, (put (n + 1) n).length, 0) := by
  rw [bl_append, bl_bs _ (put_lt _ _), nx_of_put n 0 0 _ (by omega) (by simpa using hn) (by omega)]
  simp

theorem w5 (n : Int) (hn0 : 0 ≤ n) (hn1 : n < 2 ^ 64) (s : ByteArray) (hs : s.size < 2 ^ 63) (k : Nat) : Run (fun v H' => v = .bool true) mk (acall C4 (k + 1) 5 [.int .u64 n, .string s] [] ⟨0, 0⟩) := by
  refine Run_call (F := ir5) rfl (Nat.le_of_ble_eq_true rfl) ?_
  have hlen := putl_le (n.toNat + 1) n.toNat 64 (by omega)
  have hnx := nx_put_more n.toNat (by omega) s
  have en : ((n.toNat : Nat) : Int) = n := by omega
  simp only [ir5]
  (repeat' first
    | (refine CondV_dec (fun _ => ?_) (fun _ => ?_) <;> try (exfalso; omega))
    | (refine GuardV_td (fun _ => ?_) (fun _ => ?_) <;> try (exfalso; omega))
    | (refine GuardV_fd (fun _ => ?_) (fun _ => ?_) <;> try (exfalso; omega))
    | (refine CondV_split (fun _ => ?_) (fun _ => ?_))
    | (refine Need_of (by first | omega | decide) ?_)
    | simp (disch := first | omega | (simp only [List.length_append, List.length_set, List.length_cons, List.length_nil] <;> omega)) only [WpC_skip, WpC_exit, WpC_ret, WpC_seq, WpC_reg, WpC_draw, WpC_block, WpC_cond, WpO_cons, WpO_nil, WpO_guard, WpD_cons, WpD_nil, WpD_guard, ↓astep, ↓aop, aBin, aInt, aStr, aUn, aNil, aMax, ↓oev_t, ↓oev_c, Run_some, Run_ite, Run_ite', map_ite, map_ite', bind_ite, Option.map_some, Option.bind_some, Option.map_none, Option.bind_none, CondV_true, CondV_false, GuardV_tt, GuardV_tf, GuardV_ft, GuardV_ff, GuardV_undef, SeqK_normal, SeqK_exit, SeqK_ret, EndK_ret, EndK_normal, ResK_some, aresults, ares, aPack, blkX_exit, blkX_normal, blkX_ret, Env_put_some, Env_put_none, ↓Env_set_at, ↓reduceIte, ↓reduceCtorEq, Nat.reduceEqDiff, Nat.reduceAdd, env0, List.getElem?_cons_zero, List.getElem?_cons_succ, Option.getD_some, decide_eq_true_eq, decide_eq_false_iff_not, Bool.not_eq_true', Bool.not_true, Bool.not_false, ixs_get, bytesL_get, bytesL_length, aLoad, cellsOf, List.map_cons, List.map_nil, ne_eq, not_true_eq_false, not_false_eq_true, true_and, and_true, false_and, and_false, true_implies, implies_true, false_implies, Nat.zero_add, decide_true, decide_false, Nat.mul_one, Need_true, int_beq, int_bne, not_dec, wrap_i64, wrap_u64, wrap_u8, wrap_u16, wrap_u32, tmod_nn, tdiv_nn, min_bits, Int.toNat_natCast, wrap_or, Int.reduceEq, Int.reduceLT, Int.reduceLE, Nat.reduceLeDiff, cells_int, cells_bool, cells_string, cells_pointer, cells_slice, cells_map, cells_func, cells_nilFunc, cells_iface, cells_nilIface, cells_agg, arr1_size, arr1_list, List.all_cons, List.all_nil, Bool.and_true, Bool.and_self, oneC, List.length_cons, List.length_nil, aop.fillL, setL, List.set_cons_zero, List.set_cons_succ, aApp, rowOf, get_last, List.drop_zero, List.take_succ_cons, List.take_zero, List.drop_succ_cons, List.take_nil, List.drop_nil, bv_length, bv_take, allBytes_bv, allBytes_snoc, allBytes_one, List.length_append, get_at, bv_snoc, bv_take_le, Nat.le_refl, ↓acallop, List.toList_toArray, List.append_nil, List.nil_append, aBound, aIntOf, ByteArray.size_extract, eq_self, flat, flatN, bs_size, C4_12, C4_13, C4_15, C4_16, C4_17, XNext_eq, XPut_eq, XAlive_eq, XSize_eq, nxV, hnx, ByteArray.size_append, en])
end Ev
end Go.Proofs.Ytlcfanmmpfmnaaa
