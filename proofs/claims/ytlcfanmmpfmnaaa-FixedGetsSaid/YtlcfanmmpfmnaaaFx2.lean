/-
  The package fixed: the functions that are called from outside.
-/
import Derived.Test.YtlcfanmmpfmnaaaFx
namespace Go.Proofs.Ytlcfanmmpfmnaaa
namespace Ev
open Tag (mk)
set_option linter.unusedSimpArgs false
set_option linter.unusedVariables false
set_option maxRecDepth 4000

theorem dg_length (N sz : Nat) : (dg N sz).length = sz := by simp [dg]
theorem dg_lt (N sz : Nat) : ∀ b ∈ dg N sz, b < 256 := by
  intro b hb
  simp only [dg, List.mem_map] at hb
  obtain ⟨i, _, rfl⟩ := hb
  omega
/-- What 'put' answers: 'turn' is what is done with the digits. -/
def putV (turn : List Nat → List Nat) (N : Nat) (size : Int) : ByteArray × Nat :=
  if size < 1 ∨ 8 < size then (⟨#[]⟩, 1) else if N < 2 ^ (8 * size.toNat) then (bs (turn (dg N size.toNat)), 0) else (⟨#[]⟩, 5)
def seV (r : ByteArray × Nat) : Value := .tuple #[.string r.1, .int .i64 (r.2 : Int)]
theorem w59 (x : Value) (k : Nat) (H : Heap) (m : Ev.Mode) : Run (fun v H' => v = .tuple #[] ∧ H' = H) mk (acall C5 (k + 1) 59 [x] H m) := by
  refine Run_call (F := ir59) rfl (Nat.le_of_ble_eq_true rfl) ?_
  simp only [ir59, WpC_skip, WpC_exit, WpC_ret, WpC_seq, WpC_reg, WpC_draw, WpC_block, WpC_cond, WpO_cons, WpO_nil, WpO_guard, WpD_cons, WpD_nil, WpD_guard, ↓astep, ↓aop, aBin, aInt, aStr, aUn, aNil, aMax, ↓oev_t, ↓oev_c, Run_some, Run_ite, Run_ite', map_ite, map_ite', bind_ite, Option.map_some, Option.bind_some, Option.map_none, Option.bind_none, CondV_true, CondV_false, GuardV_tt, GuardV_tf, GuardV_ft, GuardV_ff, GuardV_undef, SeqK_normal, SeqK_exit, SeqK_ret, EndK_ret, EndK_normal, ResK_some, aresults, ares, aPack, blkX_exit, blkX_normal, blkX_ret, Env_put_some, Env_put_none, ↓Env_set_at, ↓reduceIte, ↓reduceCtorEq, Nat.reduceEqDiff, Nat.reduceAdd, env0, List.getElem?_cons_zero, List.getElem?_cons_succ, Option.getD_some, decide_eq_true_eq, decide_eq_false_iff_not, Bool.not_eq_true', Bool.not_true, Bool.not_false, ixs_get, bytesL_get, bytesL_length, aLoad, cellsOf, List.map_cons, List.map_nil, ne_eq, not_true_eq_false, not_false_eq_true, true_and, and_true, false_and, and_false, true_implies, implies_true, false_implies, Nat.zero_add, decide_true, decide_false, Nat.mul_one, Need_true, int_beq, int_bne, not_dec, wrap_i64, wrap_u64, wrap_u8, wrap_u16, wrap_u32, tmod_nn, tdiv_nn, min_bits, Int.toNat_natCast, wrap_or, Int.reduceEq, Int.reduceLT, Int.reduceLE, Nat.reduceLeDiff, cells_int, cells_bool, cells_string, cells_pointer, cells_slice, cells_map, cells_func, cells_nilFunc, cells_iface, cells_nilIface, cells_agg, arr1_size, arr1_list, List.all_cons, List.all_nil, Bool.and_true, Bool.and_self, oneC, List.length_cons, List.length_nil, aop.fillL, setL, List.set_cons_zero, List.set_cons_succ, aApp, rowOf, get_last, List.drop_zero, List.take_succ_cons, List.take_zero, List.drop_succ_cons, List.take_nil, List.drop_nil, bv_length, bv_take, allBytes_bv, allBytes_snoc, allBytes_one, List.length_append, get_at, bv_snoc, bv_take_le, Nat.le_refl, ↓acallop, List.toList_toArray, List.append_nil, List.nil_append, aBound, aIntOf, ByteArray.size_extract, eq_self, flat, flatN, bs_size]

theorem w57 (f : Nat) (turn : List Nat → List Nat) (ht : (f = 58 ∧ turn = List.reverse) ∨ (f = 59 ∧ turn = id)) (N : Nat) (hN : N < 2 ^ 64) (size : Int) (hs0 : -9223372036854775808 ≤ size) (hs1 : size ≤ 9223372036854775807) (k : Nat) (hk : 20 < k) :
    Run (fun v H' => v = seV (putV turn N size)) mk (acall C5 (k + 1) 57 [.int .u64 (N : Int), .int .i64 size, .func (.func f) #[] #[]] [] ⟨0, 0⟩) := by
  refine Run_call (F := ir57) rfl (Nat.le_of_ble_eq_true rfl) ?_
  by_cases h : size < 1 ∨ 8 < size
  · simp only [ir57]
    (repeat' first
    | (refine CondV_dec (fun _ => ?_) (fun _ => ?_) <;> try (exfalso; omega))
    | (refine GuardV_td (fun _ => ?_) (fun _ => ?_) <;> try (exfalso; omega))
    | (refine GuardV_fd (fun _ => ?_) (fun _ => ?_) <;> try (exfalso; omega))
    | (refine CondV_split (fun _ => ?_) (fun _ => ?_))
    | (refine Need_of (by first | omega | decide) ?_)
    | simp (disch := first | omega | (simp only [List.length_append, List.length_set, List.length_cons, List.length_nil] <;> omega)) only [WpC_skip, WpC_exit, WpC_ret, WpC_seq, WpC_reg, WpC_draw, WpC_block, WpC_cond, WpO_cons, WpO_nil, WpO_guard, WpD_cons, WpD_nil, WpD_guard, ↓astep, ↓aop, aBin, aInt, aStr, aUn, aNil, aMax, ↓oev_t, ↓oev_c, Run_some, Run_ite, Run_ite', map_ite, map_ite', bind_ite, Option.map_some, Option.bind_some, Option.map_none, Option.bind_none, CondV_true, CondV_false, GuardV_tt, GuardV_tf, GuardV_ft, GuardV_ff, GuardV_undef, SeqK_normal, SeqK_exit, SeqK_ret, EndK_ret, EndK_normal, ResK_some, aresults, ares, aPack, blkX_exit, blkX_normal, blkX_ret, Env_put_some, Env_put_none, ↓Env_set_at, ↓reduceIte, ↓reduceCtorEq, Nat.reduceEqDiff, Nat.reduceAdd, env0, List.getElem?_cons_zero, List.getElem?_cons_succ, Option.getD_some, decide_eq_true_eq, decide_eq_false_iff_not, Bool.not_eq_true', Bool.not_true, Bool.not_false, ixs_get, bytesL_get, bytesL_length, aLoad, cellsOf, List.map_cons, List.map_nil, ne_eq, not_true_eq_false, not_false_eq_true, true_and, and_true, false_and, and_false, true_implies, implies_true, false_implies, Nat.zero_add, decide_true, decide_false, Nat.mul_one, Need_true, int_beq, int_bne, not_dec, wrap_i64, wrap_u64, wrap_u8, wrap_u16, wrap_u32, tmod_nn, tdiv_nn, min_bits, Int.toNat_natCast, wrap_or, Int.reduceEq, Int.reduceLT, Int.reduceLE, Nat.reduceLeDiff, cells_int, cells_bool, cells_string, cells_pointer, cells_slice, cells_map, cells_func, cells_nilFunc, cells_iface, cells_nilIface, cells_agg, arr1_size, arr1_list, List.all_cons, List.all_nil, Bool.and_true, Bool.and_self, oneC, List.length_cons, List.length_nil, aop.fillL, setL, List.set_cons_zero, List.set_cons_succ, aApp, rowOf, get_last, List.drop_zero, List.take_succ_cons, List.take_zero, List.drop_succ_cons, List.take_nil, List.drop_nil, bv_length, bv_take, allBytes_bv, allBytes_snoc, allBytes_one, List.length_append, get_at, bv_snoc, bv_take_le, Nat.le_refl, ↓acallop, List.toList_toArray, List.append_nil, List.nil_append, aBound, aIntOf, ByteArray.size_extract, eq_self, flat, flatN, bs_size, putV])
    · rw [if_pos h]; rfl
    · rw [if_pos h]; rfl
  · obtain ⟨sz, rfl⟩ : ∃ sz : Nat, size = sz := ⟨size.toNat, by omega⟩
    obtain ⟨k', rfl⟩ : ∃ k', k = k' + 1 := ⟨k - 1, by omega⟩
    have e60 := Run_ex2 (w60 N sz hN (by omega) k' [] ⟨0, 0⟩)
    have e61 := Run_ex2 (w61 N sz hN (by omega) k' (by omega) [] ⟨0, 0⟩ (by simp) (by simp))
    have e58 := Run_ex2 (w58 (dg N sz) (by rw [dg_length]; omega) 5 0 k' (by rw [dg_length]; omega) [.cells (bv (dg N sz)) 5 true] ⟨0, 0⟩ rfl (by simp))
    have e59 := Run_ex2 (w59 (.slice (some ⟨0, 0, none⟩) sz 1) k' [.cells (bv (dg N sz)) 5 true] ⟨0, 0⟩)
    have hdl := dg_length N sz
    rw [dg_length] at e58
    simp only [List.length_nil, List.nil_append] at e61
    have hv : putV turn N (sz : Int) = if N < 2 ^ (8 * sz) then (bs (turn (dg N sz)), 0) else (⟨#[]⟩, 5) := by
      rw [putV, if_neg h]; simp
    rw [hv]
    rcases ht with ⟨rfl, rfl⟩ | ⟨rfl, rfl⟩
    · have hrl : (dg N sz).reverse.length ≤ sz := by simp [dg_length]
      simp only [ir57]
      (repeat' first
    | (refine CondV_dec (fun _ => ?_) (fun _ => ?_) <;> try (exfalso; omega))
    | (refine GuardV_td (fun _ => ?_) (fun _ => ?_) <;> try (exfalso; omega))
    | (refine GuardV_fd (fun _ => ?_) (fun _ => ?_) <;> try (exfalso; omega))
    | (refine CondV_split (fun _ => ?_) (fun _ => ?_))
    | (refine Need_of (by first | omega | decide) ?_)
    | simp (disch := first | omega | (simp only [List.length_append, List.length_set, List.length_cons, List.length_nil] <;> omega)) only [WpC_skip, WpC_exit, WpC_ret, WpC_seq, WpC_reg, WpC_draw, WpC_block, WpC_cond, WpO_cons, WpO_nil, WpO_guard, WpD_cons, WpD_nil, WpD_guard, ↓astep, ↓aop, aBin, aInt, aStr, aUn, aNil, aMax, ↓oev_t, ↓oev_c, Run_some, Run_ite, Run_ite', map_ite, map_ite', bind_ite, Option.map_some, Option.bind_some, Option.map_none, Option.bind_none, CondV_true, CondV_false, GuardV_tt, GuardV_tf, GuardV_ft, GuardV_ff, GuardV_undef, SeqK_normal, SeqK_exit, SeqK_ret, EndK_ret, EndK_normal, ResK_some, aresults, ares, aPack, blkX_exit, blkX_normal, blkX_ret, Env_put_some, Env_put_none, ↓Env_set_at, ↓reduceIte, ↓reduceCtorEq, Nat.reduceEqDiff, Nat.reduceAdd, env0, List.getElem?_cons_zero, List.getElem?_cons_succ, Option.getD_some, decide_eq_true_eq, decide_eq_false_iff_not, Bool.not_eq_true', Bool.not_true, Bool.not_false, ixs_get, bytesL_get, bytesL_length, aLoad, cellsOf, List.map_cons, List.map_nil, ne_eq, not_true_eq_false, not_false_eq_true, true_and, and_true, false_and, and_false, true_implies, implies_true, false_implies, Nat.zero_add, decide_true, decide_false, Nat.mul_one, Need_true, int_beq, int_bne, not_dec, wrap_i64, wrap_u64, wrap_u8, wrap_u16, wrap_u32, tmod_nn, tdiv_nn, min_bits, Int.toNat_natCast, wrap_or, Int.reduceEq, Int.reduceLT, Int.reduceLE, Nat.reduceLeDiff, cells_int, cells_bool, cells_string, cells_pointer, cells_slice, cells_map, cells_func, cells_nilFunc, cells_iface, cells_nilIface, cells_agg, arr1_size, arr1_list, List.all_cons, List.all_nil, Bool.and_true, Bool.and_self, oneC, List.length_cons, List.length_nil, aop.fillL, setL, List.set_cons_zero, List.set_cons_succ, aApp, rowOf, get_last, List.drop_zero, List.take_succ_cons, List.take_zero, List.drop_succ_cons, List.take_nil, List.drop_nil, bv_length, bv_take, allBytes_bv, allBytes_snoc, allBytes_one, List.length_append, get_at, bv_snoc, bv_take_le, Nat.le_refl, ↓acallop, List.toList_toArray, List.append_nil, List.nil_append, aBound, aIntOf, ByteArray.size_extract, eq_self, flat, flatN, bs_size, C5_X, C5_pol, e60, e61, e58, seV, bs_eq, dg_length, List.length_reverse])
      · rename_i h; rw [if_neg h]; rfl
      · rename_i h; rw [if_pos (Decidable.not_not.1 h)]; rfl
    · simp only [ir57]
      (repeat' first
    | (refine CondV_dec (fun _ => ?_) (fun _ => ?_) <;> try (exfalso; omega))
    | (refine GuardV_td (fun _ => ?_) (fun _ => ?_) <;> try (exfalso; omega))
    | (refine GuardV_fd (fun _ => ?_) (fun _ => ?_) <;> try (exfalso; omega))
    | (refine CondV_split (fun _ => ?_) (fun _ => ?_))
    | (refine Need_of (by first | omega | decide) ?_)
    | simp (disch := first | omega | (simp only [List.length_append, List.length_set, List.length_cons, List.length_nil] <;> omega)) only [WpC_skip, WpC_exit, WpC_ret, WpC_seq, WpC_reg, WpC_draw, WpC_block, WpC_cond, WpO_cons, WpO_nil, WpO_guard, WpD_cons, WpD_nil, WpD_guard, ↓astep, ↓aop, aBin, aInt, aStr, aUn, aNil, aMax, ↓oev_t, ↓oev_c, Run_some, Run_ite, Run_ite', map_ite, map_ite', bind_ite, Option.map_some, Option.bind_some, Option.map_none, Option.bind_none, CondV_true, CondV_false, GuardV_tt, GuardV_tf, GuardV_ft, GuardV_ff, GuardV_undef, SeqK_normal, SeqK_exit, SeqK_ret, EndK_ret, EndK_normal, ResK_some, aresults, ares, aPack, blkX_exit, blkX_normal, blkX_ret, Env_put_some, Env_put_none, ↓Env_set_at, ↓reduceIte, ↓reduceCtorEq, Nat.reduceEqDiff, Nat.reduceAdd, env0, List.getElem?_cons_zero, List.getElem?_cons_succ, Option.getD_some, decide_eq_true_eq, decide_eq_false_iff_not, Bool.not_eq_true', Bool.not_true, Bool.not_false, ixs_get, bytesL_get, bytesL_length, aLoad, cellsOf, List.map_cons, List.map_nil, ne_eq, not_true_eq_false, not_false_eq_true, true_and, and_true, false_and, and_false, true_implies, implies_true, false_implies, Nat.zero_add, decide_true, decide_false, Nat.mul_one, Need_true, int_beq, int_bne, not_dec, wrap_i64, wrap_u64, wrap_u8, wrap_u16, wrap_u32, tmod_nn, tdiv_nn, min_bits, Int.toNat_natCast, wrap_or, Int.reduceEq, Int.reduceLT, Int.reduceLE, Nat.reduceLeDiff, cells_int, cells_bool, cells_string, cells_pointer, cells_slice, cells_map, cells_func, cells_nilFunc, cells_iface, cells_nilIface, cells_agg, arr1_size, arr1_list, List.all_cons, List.all_nil, Bool.and_true, Bool.and_self, oneC, List.length_cons, List.length_nil, aop.fillL, setL, List.set_cons_zero, List.set_cons_succ, aApp, rowOf, get_last, List.drop_zero, List.take_succ_cons, List.take_zero, List.drop_succ_cons, List.take_nil, List.drop_nil, bv_length, bv_take, allBytes_bv, allBytes_snoc, allBytes_one, List.length_append, get_at, bv_snoc, bv_take_le, Nat.le_refl, ↓acallop, List.toList_toArray, List.append_nil, List.nil_append, aBound, aIntOf, ByteArray.size_extract, eq_self, flat, flatN, bs_size, C5_X, C5_pol, e60, e61, e59, seV, bs_eq, dg_length])
      · rename_i h; rw [if_neg h]; rfl
      · rename_i h; rw [if_pos (Decidable.not_not.1 h)]; rfl

theorem w33 (N : Nat) (hN : N < 2 ^ 64) (size : Int) (hs0 : -9223372036854775808 ≤ size) (hs1 : size ≤ 9223372036854775807) :
    Run (fun v H' => v = seV (putV List.reverse N size)) mk (acall C5 40 33 [.int .u64 (N : Int), .int .i64 size] [] ⟨0, 0⟩) := by
  obtain ⟨H1, e57⟩ := Run_ex (w57 58 List.reverse (.inl ⟨rfl, rfl⟩) N hN size hs0 hs1 38 (by omega))
  refine Run_call (F := ir33) rfl (Nat.le_of_ble_eq_true rfl) ?_
  simp only [ir33]
  (repeat' first
    | (refine CondV_dec (fun _ => ?_) (fun _ => ?_) <;> try (exfalso; omega))
    | (refine GuardV_td (fun _ => ?_) (fun _ => ?_) <;> try (exfalso; omega))
    | (refine GuardV_fd (fun _ => ?_) (fun _ => ?_) <;> try (exfalso; omega))
    | (refine CondV_split (fun _ => ?_) (fun _ => ?_))
    | (refine Need_of (by first | omega | decide) ?_)
    | simp (disch := first | omega | (simp only [List.length_append, List.length_set, List.length_cons, List.length_nil] <;> omega)) only [WpC_skip, WpC_exit, WpC_ret, WpC_seq, WpC_reg, WpC_draw, WpC_block, WpC_cond, WpO_cons, WpO_nil, WpO_guard, WpD_cons, WpD_nil, WpD_guard, ↓astep, ↓aop, aBin, aInt, aStr, aUn, aNil, aMax, ↓oev_t, ↓oev_c, Run_some, Run_ite, Run_ite', map_ite, map_ite', bind_ite, Option.map_some, Option.bind_some, Option.map_none, Option.bind_none, CondV_true, CondV_false, GuardV_tt, GuardV_tf, GuardV_ft, GuardV_ff, GuardV_undef, SeqK_normal, SeqK_exit, SeqK_ret, EndK_ret, EndK_normal, ResK_some, aresults, ares, aPack, blkX_exit, blkX_normal, blkX_ret, Env_put_some, Env_put_none, ↓Env_set_at, ↓reduceIte, ↓reduceCtorEq, Nat.reduceEqDiff, Nat.reduceAdd, env0, List.getElem?_cons_zero, List.getElem?_cons_succ, Option.getD_some, decide_eq_true_eq, decide_eq_false_iff_not, Bool.not_eq_true', Bool.not_true, Bool.not_false, ixs_get, bytesL_get, bytesL_length, aLoad, cellsOf, List.map_cons, List.map_nil, ne_eq, not_true_eq_false, not_false_eq_true, true_and, and_true, false_and, and_false, true_implies, implies_true, false_implies, Nat.zero_add, decide_true, decide_false, Nat.mul_one, Need_true, int_beq, int_bne, not_dec, wrap_i64, wrap_u64, wrap_u8, wrap_u16, wrap_u32, tmod_nn, tdiv_nn, min_bits, Int.toNat_natCast, wrap_or, Int.reduceEq, Int.reduceLT, Int.reduceLE, Nat.reduceLeDiff, cells_int, cells_bool, cells_string, cells_pointer, cells_slice, cells_map, cells_func, cells_nilFunc, cells_iface, cells_nilIface, cells_agg, arr1_size, arr1_list, List.all_cons, List.all_nil, Bool.and_true, Bool.and_self, oneC, List.length_cons, List.length_nil, aop.fillL, setL, List.set_cons_zero, List.set_cons_succ, aApp, rowOf, get_last, List.drop_zero, List.take_succ_cons, List.take_zero, List.drop_succ_cons, List.take_nil, List.drop_nil, bv_length, bv_take, allBytes_bv, allBytes_snoc, allBytes_one, List.length_append, get_at, bv_snoc, bv_take_le, Nat.le_refl, ↓acallop, List.toList_toArray, List.append_nil, List.nil_append, aBound, aIntOf, ByteArray.size_extract, eq_self, flat, flatN, bs_size, C5_X, C5_pol, e57, seV])
theorem w40 (N : Nat) (hN : N < 2 ^ 64) (size : Int) (hs0 : -9223372036854775808 ≤ size) (hs1 : size ≤ 9223372036854775807) :
    Run (fun v H' => v = seV (putV id N size)) mk (acall C5 40 40 [.int .u64 (N : Int), .int .i64 size] [] ⟨0, 0⟩) := by
  obtain ⟨H1, e57⟩ := Run_ex (w57 59 id (.inr ⟨rfl, rfl⟩) N hN size hs0 hs1 38 (by omega))
  refine Run_call (F := ir40) rfl (Nat.le_of_ble_eq_true rfl) ?_
  simp only [ir40]
  (repeat' first
    | (refine CondV_dec (fun _ => ?_) (fun _ => ?_) <;> try (exfalso; omega))
    | (refine GuardV_td (fun _ => ?_) (fun _ => ?_) <;> try (exfalso; omega))
    | (refine GuardV_fd (fun _ => ?_) (fun _ => ?_) <;> try (exfalso; omega))
    | (refine CondV_split (fun _ => ?_) (fun _ => ?_))
    | (refine Need_of (by first | omega | decide) ?_)
    | simp (disch := first | omega | (simp only [List.length_append, List.length_set, List.length_cons, List.length_nil] <;> omega)) only [WpC_skip, WpC_exit, WpC_ret, WpC_seq, WpC_reg, WpC_draw, WpC_block, WpC_cond, WpO_cons, WpO_nil, WpO_guard, WpD_cons, WpD_nil, WpD_guard, ↓astep, ↓aop, aBin, aInt, aStr, aUn, aNil, aMax, ↓oev_t, ↓oev_c, Run_some, Run_ite, Run_ite', map_ite, map_ite', bind_ite, Option.map_some, Option.bind_some, Option.map_none, Option.bind_none, CondV_true, CondV_false, GuardV_tt, GuardV_tf, GuardV_ft, GuardV_ff, GuardV_undef, SeqK_normal, SeqK_exit, SeqK_ret, EndK_ret, EndK_normal, ResK_some, aresults, ares, aPack, blkX_exit, blkX_normal, blkX_ret, Env_put_some, Env_put_none, ↓Env_set_at, ↓reduceIte, ↓reduceCtorEq, Nat.reduceEqDiff, Nat.reduceAdd, env0, List.getElem?_cons_zero, List.getElem?_cons_succ, Option.getD_some, decide_eq_true_eq, decide_eq_false_iff_not, Bool.not_eq_true', Bool.not_true, Bool.not_false, ixs_get, bytesL_get, bytesL_length, aLoad, cellsOf, List.map_cons, List.map_nil, ne_eq, not_true_eq_false, not_false_eq_true, true_and, and_true, false_and, and_false, true_implies, implies_true, false_implies, Nat.zero_add, decide_true, decide_false, Nat.mul_one, Need_true, int_beq, int_bne, not_dec, wrap_i64, wrap_u64, wrap_u8, wrap_u16, wrap_u32, tmod_nn, tdiv_nn, min_bits, Int.toNat_natCast, wrap_or, Int.reduceEq, Int.reduceLT, Int.reduceLE, Nat.reduceLeDiff, cells_int, cells_bool, cells_string, cells_pointer, cells_slice, cells_map, cells_func, cells_nilFunc, cells_iface, cells_nilIface, cells_agg, arr1_size, arr1_list, List.all_cons, List.all_nil, Bool.and_true, Bool.and_self, oneC, List.length_cons, List.length_nil, aop.fillL, setL, List.set_cons_zero, List.set_cons_succ, aApp, rowOf, get_last, List.drop_zero, List.take_succ_cons, List.take_zero, List.drop_succ_cons, List.take_nil, List.drop_nil, bv_length, bv_take, allBytes_bv, allBytes_snoc, allBytes_one, List.length_append, get_at, bv_snoc, bv_take_le, Nat.le_refl, ↓acallop, List.toList_toArray, List.append_nil, List.nil_append, aBound, aIntOf, ByteArray.size_extract, eq_self, flat, flatN, bs_size, C5_X, C5_pol, e57, seV])

/-- The least row of digits, the greatest first. -/
def lsts : Nat → Nat → List Nat
  | 0, _ => []
  | k + 1, N => if N = 0 then [] else lsts k (N / 256) ++ [N % 256]
theorem lsts_more : ∀ (k N : Nat), N < 2 ^ (8 * k) → lsts (k + 1) N = lsts k N
  | 0, N, h => by
    have : N = 0 := by simpa using h
    subst this; rfl
  | k + 1, N, h => by
    have e : 2 ^ (8 * (k + 1)) = 2 ^ (8 * k) * 256 := by rw [show 8 * (k + 1) = 8 * k + 8 by omega, Nat.pow_add]
    show (if N = 0 then [] else lsts (k + 1) (N / 256) ++ [N % 256]) = (if N = 0 then [] else lsts k (N / 256) ++ [N % 256])
    rw [lsts_more k (N / 256) (by omega)]
theorem lsts_le {k j N : Nat} (h : N < 2 ^ (8 * k)) (hj : k ≤ j) : lsts j N = lsts k N := by
  induction j with
  | zero => obtain rfl : k = 0 := by omega
            rfl
  | succ j ih =>
    rcases Nat.lt_or_ge j k with h' | h'
    · obtain rfl : k = j + 1 := by omega
      rfl
    · rw [lsts_more j N (Nat.lt_of_lt_of_le h (Nat.pow_le_pow_right (by omega) (by omega))), ih h']
theorem dg_succ (N i : Nat) : dg N (i + 1) = N % 256 :: dg (N / 256) i := by
  simp only [dg]
  rw [List.range_succ_eq_map, List.map_cons, List.map_map]
  congr 1
  · simp
  · apply List.map_congr_left
    intro j _
    simp only [Function.comp, Nat.succ_eq_add_one]
    rw [show 8 * (j + 1) = 8 + 8 * j by omega, Nat.pow_add, ← Nat.div_div_eq_div_mul]
theorem dg_lsts : ∀ (i N : Nat), N < 2 ^ (8 * i) → (∀ j, j < i → ¬ N < 2 ^ (8 * j)) → (dg N i).reverse = lsts i N
  | 0, N, _, _ => rfl
  | i + 1, N, h, hj => by
    have e : ∀ i, 2 ^ (8 * (i + 1)) = 2 ^ (8 * i) * 256 := fun i => by rw [show 8 * (i + 1) = 8 * i + 8 by omega, Nat.pow_add]
    have h0 : N ≠ 0 := by have := hj 0 (by omega); simp at this; omega
    rw [dg_succ, List.reverse_cons, lsts, if_neg h0, dg_lsts i (N / 256) (by have := e i; omega) fun j hji hc => hj (j + 1) (by omega) (by have := e j; omega)]

def I41 (N : Nat) (n : Nat) (e : Env) (H : Heap) : Prop :=
  ∃ (i : Nat), i + n = 8 ∧ (∀ j, j < i → ¬ N < 2 ^ (8 * j)) ∧ e 0 = .int .u64 (N : Int) ∧ e 3 = .int .i64 (i : Int) ∧ H = []

theorem w41 (N : Nat) (hN : N < 2 ^ 64) : Run (fun v H' => v = .string (bs (lsts 8 N))) mk (acall C5 40 41 [.int .u64 (N : Int)] [] ⟨0, 0⟩) := by
  refine Run_call (F := ir41) rfl (Nat.le_of_ble_eq_true rfl) ?_
  simp only [ir41, WpC_skip, WpC_exit, WpC_ret, WpC_seq, WpC_reg, WpC_draw, WpC_block, WpC_cond, WpO_cons, WpO_nil, WpO_guard, WpD_cons, WpD_nil, WpD_guard, ↓astep, ↓aop, aBin, aInt, aStr, aUn, aNil, aMax, ↓oev_t, ↓oev_c, Run_some, Run_ite, Run_ite', map_ite, map_ite', bind_ite, Option.map_some, Option.bind_some, Option.map_none, Option.bind_none, CondV_true, CondV_false, GuardV_tt, GuardV_tf, GuardV_ft, GuardV_ff, GuardV_undef, SeqK_normal, SeqK_exit, SeqK_ret, EndK_ret, EndK_normal, ResK_some, aresults, ares, aPack, blkX_exit, blkX_normal, blkX_ret, Env_put_some, Env_put_none, ↓Env_set_at, ↓reduceIte, ↓reduceCtorEq, Nat.reduceEqDiff, Nat.reduceAdd, env0, List.getElem?_cons_zero, List.getElem?_cons_succ, Option.getD_some, decide_eq_true_eq, decide_eq_false_iff_not, Bool.not_eq_true', Bool.not_true, Bool.not_false, ixs_get, bytesL_get, bytesL_length, aLoad, cellsOf, List.map_cons, List.map_nil, ne_eq, not_true_eq_false, not_false_eq_true, true_and, and_true, false_and, and_false, true_implies, implies_true, false_implies, Nat.zero_add, decide_true, decide_false, Nat.mul_one, Need_true, int_beq, int_bne, not_dec, wrap_i64, wrap_u64, wrap_u8, wrap_u16, wrap_u32, tmod_nn, tdiv_nn, min_bits, Int.toNat_natCast, wrap_or, Int.reduceEq, Int.reduceLT, Int.reduceLE, Nat.reduceLeDiff, cells_int, cells_bool, cells_string, cells_pointer, cells_slice, cells_map, cells_func, cells_nilFunc, cells_iface, cells_nilIface, cells_agg, arr1_size, arr1_list, List.all_cons, List.all_nil, Bool.and_true, Bool.and_self, oneC, List.length_cons, List.length_nil, aop.fillL, setL, List.set_cons_zero, List.set_cons_succ, aApp, rowOf, get_last, List.drop_zero, List.take_succ_cons, List.take_zero, List.drop_succ_cons, List.take_nil, List.drop_nil, bv_length, bv_take, allBytes_bv, allBytes_snoc, allBytes_one, List.length_append, get_at, bv_snoc, bv_take_le, Nat.le_refl, ↓acallop, List.toList_toArray, List.append_nil, List.nil_append, aBound, aIntOf, ByteArray.size_extract, eq_self, flat, flatN, bs_size]
  refine WpC_loop (I41 N) ?_ (n := 8) (by omega) ?_
  · rintro n e H ⟨i, hi, hj, h0, h3, rfl⟩
    have e60 := Run_ex2 (w60 N i hN (by omega) 38 [] ⟨0, 0⟩)
    have e61 := Run_ex2 (w61 N i hN (by omega) 38 (by omega) [] ⟨0, 0⟩ (by simp) (by simp))
    have e58 := Run_ex2 (w58 (dg N i) (by rw [dg_length]; omega) 5 0 38 (by rw [dg_length]; omega) [.cells (bv (dg N i)) 5 true] ⟨0, 0⟩ rfl (by simp))
    rw [dg_length] at e58
    have hdl := dg_length N i
    have hrl : (dg N i).reverse.length ≤ i := by simp [dg_length]
    simp only [List.length_nil, List.nil_append] at e61
    simp only [lp41_0]
    (repeat' first
    | (refine CondV_dec (fun _ => ?_) (fun _ => ?_) <;> try (exfalso; omega))
    | (refine GuardV_td (fun _ => ?_) (fun _ => ?_) <;> try (exfalso; omega))
    | (refine GuardV_fd (fun _ => ?_) (fun _ => ?_) <;> try (exfalso; omega))
    | (refine CondV_split (fun _ => ?_) (fun _ => ?_))
    | (refine Need_of (by first | omega | decide) ?_)
    | simp (disch := first | omega | (simp only [List.length_append, List.length_set, List.length_cons, List.length_nil] <;> omega)) only [WpC_skip, WpC_exit, WpC_ret, WpC_seq, WpC_reg, WpC_draw, WpC_block, WpC_cond, WpO_cons, WpO_nil, WpO_guard, WpD_cons, WpD_nil, WpD_guard, ↓astep, ↓aop, aBin, aInt, aStr, aUn, aNil, aMax, ↓oev_t, ↓oev_c, Run_some, Run_ite, Run_ite', map_ite, map_ite', bind_ite, Option.map_some, Option.bind_some, Option.map_none, Option.bind_none, CondV_true, CondV_false, GuardV_tt, GuardV_tf, GuardV_ft, GuardV_ff, GuardV_undef, SeqK_normal, SeqK_exit, SeqK_ret, EndK_ret, EndK_normal, ResK_some, aresults, ares, aPack, blkX_exit, blkX_normal, blkX_ret, Env_put_some, Env_put_none, ↓Env_set_at, ↓reduceIte, ↓reduceCtorEq, Nat.reduceEqDiff, Nat.reduceAdd, env0, List.getElem?_cons_zero, List.getElem?_cons_succ, Option.getD_some, decide_eq_true_eq, decide_eq_false_iff_not, Bool.not_eq_true', Bool.not_true, Bool.not_false, ixs_get, bytesL_get, bytesL_length, aLoad, cellsOf, List.map_cons, List.map_nil, ne_eq, not_true_eq_false, not_false_eq_true, true_and, and_true, false_and, and_false, true_implies, implies_true, false_implies, Nat.zero_add, decide_true, decide_false, Nat.mul_one, Need_true, int_beq, int_bne, not_dec, wrap_i64, wrap_u64, wrap_u8, wrap_u16, wrap_u32, tmod_nn, tdiv_nn, min_bits, Int.toNat_natCast, wrap_or, Int.reduceEq, Int.reduceLT, Int.reduceLE, Nat.reduceLeDiff, cells_int, cells_bool, cells_string, cells_pointer, cells_slice, cells_map, cells_func, cells_nilFunc, cells_iface, cells_nilIface, cells_agg, arr1_size, arr1_list, List.all_cons, List.all_nil, Bool.and_true, Bool.and_self, oneC, List.length_cons, List.length_nil, aop.fillL, setL, List.set_cons_zero, List.set_cons_succ, aApp, rowOf, get_last, List.drop_zero, List.take_succ_cons, List.take_zero, List.drop_succ_cons, List.take_nil, List.drop_nil, bv_length, bv_take, allBytes_bv, allBytes_snoc, allBytes_one, List.length_append, get_at, bv_snoc, bv_take_le, Nat.le_refl, ↓acallop, List.toList_toArray, List.append_nil, List.nil_append, aBound, aIntOf, ByteArray.size_extract, eq_self, flat, flatN, bs_size, h0, h3, C5_X, C5_pol, e60, e61, e58, bs_eq, dg_length, List.length_reverse])
    · rename_i hc
      have h8 : i ≠ 8 := fun h => by subst h; omega
      refine ⟨n - 1, by omega, i + 1, by omega, fun j hji => ?_, ?_, ?_, rfl⟩
      · by_cases h : j = i
        · subst h; exact hc
        · exact hj j (by omega)
      · (first | rfl | (simp only [WpC_skip, WpC_exit, WpC_ret, WpC_seq, WpC_reg, WpC_draw, WpC_block, WpC_cond, WpO_cons, WpO_nil, WpO_guard, WpD_cons, WpD_nil, WpD_guard, ↓astep, ↓aop, aBin, aInt, aStr, aUn, aNil, aMax, ↓oev_t, ↓oev_c, Run_some, Run_ite, Run_ite', map_ite, map_ite', bind_ite, Option.map_some, Option.bind_some, Option.map_none, Option.bind_none, CondV_true, CondV_false, GuardV_tt, GuardV_tf, GuardV_ft, GuardV_ff, GuardV_undef, SeqK_normal, SeqK_exit, SeqK_ret, EndK_ret, EndK_normal, ResK_some, aresults, ares, aPack, blkX_exit, blkX_normal, blkX_ret, Env_put_some, Env_put_none, ↓Env_set_at, ↓reduceIte, ↓reduceCtorEq, Nat.reduceEqDiff, Nat.reduceAdd, env0, List.getElem?_cons_zero, List.getElem?_cons_succ, Option.getD_some, decide_eq_true_eq, decide_eq_false_iff_not, Bool.not_eq_true', Bool.not_true, Bool.not_false, ixs_get, bytesL_get, bytesL_length, aLoad, cellsOf, List.map_cons, List.map_nil, ne_eq, not_true_eq_false, not_false_eq_true, true_and, and_true, false_and, and_false, true_implies, implies_true, false_implies, Nat.zero_add, decide_true, decide_false, Nat.mul_one, Need_true, int_beq, int_bne, not_dec, wrap_i64, wrap_u64, wrap_u8, wrap_u16, wrap_u32, tmod_nn, tdiv_nn, min_bits, Int.toNat_natCast, wrap_or, Int.reduceEq, Int.reduceLT, Int.reduceLE, Nat.reduceLeDiff, cells_int, cells_bool, cells_string, cells_pointer, cells_slice, cells_map, cells_func, cells_nilFunc, cells_iface, cells_nilIface, cells_agg, arr1_size, arr1_list, List.all_cons, List.all_nil, Bool.and_true, Bool.and_self, oneC, List.length_cons, List.length_nil, aop.fillL, setL, List.set_cons_zero, List.set_cons_succ, aApp, rowOf, get_last, List.drop_zero, List.take_succ_cons, List.take_zero, List.drop_succ_cons, List.take_nil, List.drop_nil, bv_length, bv_take, allBytes_bv, allBytes_snoc, allBytes_one, List.length_append, get_at, bv_snoc, bv_take_le, Nat.le_refl, ↓acallop, List.toList_toArray, List.append_nil, List.nil_append, aBound, aIntOf, ByteArray.size_extract, eq_self, flat, flatN, bs_size, h0] <;> rfl))
      · (first | rfl | (simp only [WpC_skip, WpC_exit, WpC_ret, WpC_seq, WpC_reg, WpC_draw, WpC_block, WpC_cond, WpO_cons, WpO_nil, WpO_guard, WpD_cons, WpD_nil, WpD_guard, ↓astep, ↓aop, aBin, aInt, aStr, aUn, aNil, aMax, ↓oev_t, ↓oev_c, Run_some, Run_ite, Run_ite', map_ite, map_ite', bind_ite, Option.map_some, Option.bind_some, Option.map_none, Option.bind_none, CondV_true, CondV_false, GuardV_tt, GuardV_tf, GuardV_ft, GuardV_ff, GuardV_undef, SeqK_normal, SeqK_exit, SeqK_ret, EndK_ret, EndK_normal, ResK_some, aresults, ares, aPack, blkX_exit, blkX_normal, blkX_ret, Env_put_some, Env_put_none, ↓Env_set_at, ↓reduceIte, ↓reduceCtorEq, Nat.reduceEqDiff, Nat.reduceAdd, env0, List.getElem?_cons_zero, List.getElem?_cons_succ, Option.getD_some, decide_eq_true_eq, decide_eq_false_iff_not, Bool.not_eq_true', Bool.not_true, Bool.not_false, ixs_get, bytesL_get, bytesL_length, aLoad, cellsOf, List.map_cons, List.map_nil, ne_eq, not_true_eq_false, not_false_eq_true, true_and, and_true, false_and, and_false, true_implies, implies_true, false_implies, Nat.zero_add, decide_true, decide_false, Nat.mul_one, Need_true, int_beq, int_bne, not_dec, wrap_i64, wrap_u64, wrap_u8, wrap_u16, wrap_u32, tmod_nn, tdiv_nn, min_bits, Int.toNat_natCast, wrap_or, Int.reduceEq, Int.reduceLT, Int.reduceLE, Nat.reduceLeDiff, cells_int, cells_bool, cells_string, cells_pointer, cells_slice, cells_map, cells_func, cells_nilFunc, cells_iface, cells_nilIface, cells_agg, arr1_size, arr1_list, List.all_cons, List.all_nil, Bool.and_true, Bool.and_self, oneC, List.length_cons, List.length_nil, aop.fillL, setL, List.set_cons_zero, List.set_cons_succ, aApp, rowOf, get_last, List.drop_zero, List.take_succ_cons, List.take_zero, List.drop_succ_cons, List.take_nil, List.drop_nil, bv_length, bv_take, allBytes_bv, allBytes_snoc, allBytes_one, List.length_append, get_at, bv_snoc, bv_take_le, Nat.le_refl, ↓acallop, List.toList_toArray, List.append_nil, List.nil_append, aBound, aIntOf, ByteArray.size_extract, eq_self, flat, flatN, bs_size, h3] <;> rfl))
    · rename_i hc
      have hc := Decidable.not_not.1 hc
      rw [lsts_le hc (by omega), dg_lsts i N hc hj]
  · exact ⟨0, by omega, fun j h => by omega, rfl, rfl, rfl⟩

/-! ## Reading -/
def getV (turn : List Nat → List Nat) (s : ByteArray) : Nat × Nat := if s.size = 0 then (0, 1) else if 8 < s.size then (0, 5) else (nm (turn (bl s)), 0)
def neV (r : Nat × Nat) : Value := .tuple #[.int .u64 (r.1 : Int), .int .i64 (r.2 : Int)]
theorem empty_eq (s : ByteArray) : (s = ⟨#[]⟩) = (s.size = 0) := by
  apply propext
  constructor
  · rintro rfl; rfl
  · intro h
    apply bl_inj
    have : (bl s).length = 0 := by rw [bl_length]; exact h
    rw [List.length_eq_zero_iff.1 this]; rfl

theorem w63 (f : Nat) (turn : List Nat → List Nat) (ht : (f = 58 ∧ turn = List.reverse) ∨ (f = 59 ∧ turn = id)) (s : ByteArray) (hs : s.size < 2 ^ 63) (k : Nat) (hk : 20 < k) :
    Run (fun v H' => v = neV (getV turn s)) mk (acall C5 (k + 1) 63 [.string s, .func (.func f) #[] #[]] [] ⟨0, 0⟩) := by
  refine Run_call (F := ir63) rfl (Nat.le_of_ble_eq_true rfl) ?_
  have hlb := bl_length s
  by_cases h : s.size = 0
  · have hv : getV turn s = (0, 1) := by rw [getV, if_pos h]
    rw [hv]
    simp only [ir63]
    (repeat' first
    | (refine CondV_dec (fun _ => ?_) (fun _ => ?_) <;> try (exfalso; omega))
    | (refine GuardV_td (fun _ => ?_) (fun _ => ?_) <;> try (exfalso; omega))
    | (refine GuardV_fd (fun _ => ?_) (fun _ => ?_) <;> try (exfalso; omega))
    | (refine CondV_split (fun _ => ?_) (fun _ => ?_))
    | (refine Need_of (by first | omega | decide) ?_)
    | simp (disch := first | omega | (simp only [List.length_append, List.length_set, List.length_cons, List.length_nil] <;> omega)) only [WpC_skip, WpC_exit, WpC_ret, WpC_seq, WpC_reg, WpC_draw, WpC_block, WpC_cond, WpO_cons, WpO_nil, WpO_guard, WpD_cons, WpD_nil, WpD_guard, ↓astep, ↓aop, aBin, aInt, aStr, aUn, aNil, aMax, ↓oev_t, ↓oev_c, Run_some, Run_ite, Run_ite', map_ite, map_ite', bind_ite, Option.map_some, Option.bind_some, Option.map_none, Option.bind_none, CondV_true, CondV_false, GuardV_tt, GuardV_tf, GuardV_ft, GuardV_ff, GuardV_undef, SeqK_normal, SeqK_exit, SeqK_ret, EndK_ret, EndK_normal, ResK_some, aresults, ares, aPack, blkX_exit, blkX_normal, blkX_ret, Env_put_some, Env_put_none, ↓Env_set_at, ↓reduceIte, ↓reduceCtorEq, Nat.reduceEqDiff, Nat.reduceAdd, env0, List.getElem?_cons_zero, List.getElem?_cons_succ, Option.getD_some, decide_eq_true_eq, decide_eq_false_iff_not, Bool.not_eq_true', Bool.not_true, Bool.not_false, ixs_get, bytesL_get, bytesL_length, aLoad, cellsOf, List.map_cons, List.map_nil, ne_eq, not_true_eq_false, not_false_eq_true, true_and, and_true, false_and, and_false, true_implies, implies_true, false_implies, Nat.zero_add, decide_true, decide_false, Nat.mul_one, Need_true, int_beq, int_bne, not_dec, wrap_i64, wrap_u64, wrap_u8, wrap_u16, wrap_u32, tmod_nn, tdiv_nn, min_bits, Int.toNat_natCast, wrap_or, Int.reduceEq, Int.reduceLT, Int.reduceLE, Nat.reduceLeDiff, cells_int, cells_bool, cells_string, cells_pointer, cells_slice, cells_map, cells_func, cells_nilFunc, cells_iface, cells_nilIface, cells_agg, arr1_size, arr1_list, List.all_cons, List.all_nil, Bool.and_true, Bool.and_self, oneC, List.length_cons, List.length_nil, aop.fillL, setL, List.set_cons_zero, List.set_cons_succ, aApp, rowOf, get_last, List.drop_zero, List.take_succ_cons, List.take_zero, List.drop_succ_cons, List.take_nil, List.drop_nil, bv_length, bv_take, allBytes_bv, allBytes_snoc, allBytes_one, List.length_append, get_at, bv_snoc, bv_take_le, Nat.le_refl, ↓acallop, List.toList_toArray, List.append_nil, List.nil_append, aBound, aIntOf, ByteArray.size_extract, eq_self, flat, flatN, bs_size, empty_eq, h])
    rfl
  · by_cases h2 : 8 < s.size
    · have hv : getV turn s = (0, 5) := by rw [getV, if_neg h, if_pos h2]
      rw [hv]
      simp only [ir63]
      (repeat' first
    | (refine CondV_dec (fun _ => ?_) (fun _ => ?_) <;> try (exfalso; omega))
    | (refine GuardV_td (fun _ => ?_) (fun _ => ?_) <;> try (exfalso; omega))
    | (refine GuardV_fd (fun _ => ?_) (fun _ => ?_) <;> try (exfalso; omega))
    | (refine CondV_split (fun _ => ?_) (fun _ => ?_))
    | (refine Need_of (by first | omega | decide) ?_)
    | simp (disch := first | omega | (simp only [List.length_append, List.length_set, List.length_cons, List.length_nil] <;> omega)) only [WpC_skip, WpC_exit, WpC_ret, WpC_seq, WpC_reg, WpC_draw, WpC_block, WpC_cond, WpO_cons, WpO_nil, WpO_guard, WpD_cons, WpD_nil, WpD_guard, ↓astep, ↓aop, aBin, aInt, aStr, aUn, aNil, aMax, ↓oev_t, ↓oev_c, Run_some, Run_ite, Run_ite', map_ite, map_ite', bind_ite, Option.map_some, Option.bind_some, Option.map_none, Option.bind_none, CondV_true, CondV_false, GuardV_tt, GuardV_tf, GuardV_ft, GuardV_ff, GuardV_undef, SeqK_normal, SeqK_exit, SeqK_ret, EndK_ret, EndK_normal, ResK_some, aresults, ares, aPack, blkX_exit, blkX_normal, blkX_ret, Env_put_some, Env_put_none, ↓Env_set_at, ↓reduceIte, ↓reduceCtorEq, Nat.reduceEqDiff, Nat.reduceAdd, env0, List.getElem?_cons_zero, List.getElem?_cons_succ, Option.getD_some, decide_eq_true_eq, decide_eq_false_iff_not, Bool.not_eq_true', Bool.not_true, Bool.not_false, ixs_get, bytesL_get, bytesL_length, aLoad, cellsOf, List.map_cons, List.map_nil, ne_eq, not_true_eq_false, not_false_eq_true, true_and, and_true, false_and, and_false, true_implies, implies_true, false_implies, Nat.zero_add, decide_true, decide_false, Nat.mul_one, Need_true, int_beq, int_bne, not_dec, wrap_i64, wrap_u64, wrap_u8, wrap_u16, wrap_u32, tmod_nn, tdiv_nn, min_bits, Int.toNat_natCast, wrap_or, Int.reduceEq, Int.reduceLT, Int.reduceLE, Nat.reduceLeDiff, cells_int, cells_bool, cells_string, cells_pointer, cells_slice, cells_map, cells_func, cells_nilFunc, cells_iface, cells_nilIface, cells_agg, arr1_size, arr1_list, List.all_cons, List.all_nil, Bool.and_true, Bool.and_self, oneC, List.length_cons, List.length_nil, aop.fillL, setL, List.set_cons_zero, List.set_cons_succ, aApp, rowOf, get_last, List.drop_zero, List.take_succ_cons, List.take_zero, List.drop_succ_cons, List.take_nil, List.drop_nil, bv_length, bv_take, allBytes_bv, allBytes_snoc, allBytes_one, List.length_append, get_at, bv_snoc, bv_take_le, Nat.le_refl, ↓acallop, List.toList_toArray, List.append_nil, List.nil_append, aBound, aIntOf, ByteArray.size_extract, eq_self, flat, flatN, bs_size, empty_eq])
      rfl
    · have hv : getV turn s = (nm (turn (bl s)), 0) := by rw [getV, if_neg h, if_neg h2]
      rw [hv]
      obtain ⟨k', rfl⟩ : ∃ k', k = k' + 1 := ⟨k - 1, by omega⟩
      have e58 := Run_ex2 (w58 (bl s) (by omega) 5 0 k' (by omega) [.cells (bv (bl s)) 5 true] ⟨0, 0⟩ rfl (by simp))
      have e59 := Run_ex2 (w59 (.slice (some ⟨0, 0, none⟩) (bl s).length 1) k' [.cells (bv (bl s)) 5 true] ⟨0, 0⟩)
      rcases ht with ⟨rfl, rfl⟩ | ⟨rfl, rfl⟩
      · have e62 := Run_ex2 (w62 (bl s).reverse (by simp; omega) (fun b hb => bl_lt s b (by simpa using hb)) 5 0 k' (by simp; omega) [.cells (bv (bl s).reverse) 5 true] ⟨0, 0⟩ true rfl)
        rw [List.length_reverse, hlb] at e62
        rw [hlb] at e58
        simp only [ir63]
        (repeat' first
    | (refine CondV_dec (fun _ => ?_) (fun _ => ?_) <;> try (exfalso; omega))
    | (refine GuardV_td (fun _ => ?_) (fun _ => ?_) <;> try (exfalso; omega))
    | (refine GuardV_fd (fun _ => ?_) (fun _ => ?_) <;> try (exfalso; omega))
    | (refine CondV_split (fun _ => ?_) (fun _ => ?_))
    | (refine Need_of (by first | omega | decide) ?_)
    | simp (disch := first | omega | (simp only [List.length_append, List.length_set, List.length_cons, List.length_nil] <;> omega)) only [WpC_skip, WpC_exit, WpC_ret, WpC_seq, WpC_reg, WpC_draw, WpC_block, WpC_cond, WpO_cons, WpO_nil, WpO_guard, WpD_cons, WpD_nil, WpD_guard, ↓astep, ↓aop, aBin, aInt, aStr, aUn, aNil, aMax, ↓oev_t, ↓oev_c, Run_some, Run_ite, Run_ite', map_ite, map_ite', bind_ite, Option.map_some, Option.bind_some, Option.map_none, Option.bind_none, CondV_true, CondV_false, GuardV_tt, GuardV_tf, GuardV_ft, GuardV_ff, GuardV_undef, SeqK_normal, SeqK_exit, SeqK_ret, EndK_ret, EndK_normal, ResK_some, aresults, ares, aPack, blkX_exit, blkX_normal, blkX_ret, Env_put_some, Env_put_none, ↓Env_set_at, ↓reduceIte, ↓reduceCtorEq, Nat.reduceEqDiff, Nat.reduceAdd, env0, List.getElem?_cons_zero, List.getElem?_cons_succ, Option.getD_some, decide_eq_true_eq, decide_eq_false_iff_not, Bool.not_eq_true', Bool.not_true, Bool.not_false, ixs_get, bytesL_get, bytesL_length, aLoad, cellsOf, List.map_cons, List.map_nil, ne_eq, not_true_eq_false, not_false_eq_true, true_and, and_true, false_and, and_false, true_implies, implies_true, false_implies, Nat.zero_add, decide_true, decide_false, Nat.mul_one, Need_true, int_beq, int_bne, not_dec, wrap_i64, wrap_u64, wrap_u8, wrap_u16, wrap_u32, tmod_nn, tdiv_nn, min_bits, Int.toNat_natCast, wrap_or, Int.reduceEq, Int.reduceLT, Int.reduceLE, Nat.reduceLeDiff, cells_int, cells_bool, cells_string, cells_pointer, cells_slice, cells_map, cells_func, cells_nilFunc, cells_iface, cells_nilIface, cells_agg, arr1_size, arr1_list, List.all_cons, List.all_nil, Bool.and_true, Bool.and_self, oneC, List.length_cons, List.length_nil, aop.fillL, setL, List.set_cons_zero, List.set_cons_succ, aApp, rowOf, get_last, List.drop_zero, List.take_succ_cons, List.take_zero, List.drop_succ_cons, List.take_nil, List.drop_nil, bv_length, bv_take, allBytes_bv, allBytes_snoc, allBytes_one, List.length_append, get_at, bv_snoc, bv_take_le, Nat.le_refl, ↓acallop, List.toList_toArray, List.append_nil, List.nil_append, aBound, aIntOf, ByteArray.size_extract, eq_self, flat, flatN, bs_size, empty_eq, C5_X, C5_pol, bytesL_bv, e58, e62])
        rfl
      · have e62 := Run_ex2 (w62 (bl s) (by omega) (bl_lt s) 5 0 k' (by omega) [.cells (bv (bl s)) 5 true] ⟨0, 0⟩ true rfl)
        rw [hlb] at e62 e59
        simp only [ir63]
        (repeat' first
    | (refine CondV_dec (fun _ => ?_) (fun _ => ?_) <;> try (exfalso; omega))
    | (refine GuardV_td (fun _ => ?_) (fun _ => ?_) <;> try (exfalso; omega))
    | (refine GuardV_fd (fun _ => ?_) (fun _ => ?_) <;> try (exfalso; omega))
    | (refine CondV_split (fun _ => ?_) (fun _ => ?_))
    | (refine Need_of (by first | omega | decide) ?_)
    | simp (disch := first | omega | (simp only [List.length_append, List.length_set, List.length_cons, List.length_nil] <;> omega)) only [WpC_skip, WpC_exit, WpC_ret, WpC_seq, WpC_reg, WpC_draw, WpC_block, WpC_cond, WpO_cons, WpO_nil, WpO_guard, WpD_cons, WpD_nil, WpD_guard, ↓astep, ↓aop, aBin, aInt, aStr, aUn, aNil, aMax, ↓oev_t, ↓oev_c, Run_some, Run_ite, Run_ite', map_ite, map_ite', bind_ite, Option.map_some, Option.bind_some, Option.map_none, Option.bind_none, CondV_true, CondV_false, GuardV_tt, GuardV_tf, GuardV_ft, GuardV_ff, GuardV_undef, SeqK_normal, SeqK_exit, SeqK_ret, EndK_ret, EndK_normal, ResK_some, aresults, ares, aPack, blkX_exit, blkX_normal, blkX_ret, Env_put_some, Env_put_none, ↓Env_set_at, ↓reduceIte, ↓reduceCtorEq, Nat.reduceEqDiff, Nat.reduceAdd, env0, List.getElem?_cons_zero, List.getElem?_cons_succ, Option.getD_some, decide_eq_true_eq, decide_eq_false_iff_not, Bool.not_eq_true', Bool.not_true, Bool.not_false, ixs_get, bytesL_get, bytesL_length, aLoad, cellsOf, List.map_cons, List.map_nil, ne_eq, not_true_eq_false, not_false_eq_true, true_and, and_true, false_and, and_false, true_implies, implies_true, false_implies, Nat.zero_add, decide_true, decide_false, Nat.mul_one, Need_true, int_beq, int_bne, not_dec, wrap_i64, wrap_u64, wrap_u8, wrap_u16, wrap_u32, tmod_nn, tdiv_nn, min_bits, Int.toNat_natCast, wrap_or, Int.reduceEq, Int.reduceLT, Int.reduceLE, Nat.reduceLeDiff, cells_int, cells_bool, cells_string, cells_pointer, cells_slice, cells_map, cells_func, cells_nilFunc, cells_iface, cells_nilIface, cells_agg, arr1_size, arr1_list, List.all_cons, List.all_nil, Bool.and_true, Bool.and_self, oneC, List.length_cons, List.length_nil, aop.fillL, setL, List.set_cons_zero, List.set_cons_succ, aApp, rowOf, get_last, List.drop_zero, List.take_succ_cons, List.take_zero, List.drop_succ_cons, List.take_nil, List.drop_nil, bv_length, bv_take, allBytes_bv, allBytes_snoc, allBytes_one, List.length_append, get_at, bv_snoc, bv_take_le, Nat.le_refl, ↓acallop, List.toList_toArray, List.append_nil, List.nil_append, aBound, aIntOf, ByteArray.size_extract, eq_self, flat, flatN, bs_size, empty_eq, C5_X, C5_pol, bytesL_bv, e59, e62])
        rfl

theorem w45 (s : ByteArray) (hs : s.size < 2 ^ 63) : Run (fun v H' => v = neV (getV List.reverse s)) mk (acall C5 40 45 [.string s] [] ⟨0, 0⟩) := by
  obtain ⟨H1, e63⟩ := Run_ex (w63 58 List.reverse (.inl ⟨rfl, rfl⟩) s hs 38 (by omega))
  refine Run_call (F := ir45) rfl (Nat.le_of_ble_eq_true rfl) ?_
  simp only [ir45]
  (repeat' first
    | (refine CondV_dec (fun _ => ?_) (fun _ => ?_) <;> try (exfalso; omega))
    | (refine GuardV_td (fun _ => ?_) (fun _ => ?_) <;> try (exfalso; omega))
    | (refine GuardV_fd (fun _ => ?_) (fun _ => ?_) <;> try (exfalso; omega))
    | (refine CondV_split (fun _ => ?_) (fun _ => ?_))
    | (refine Need_of (by first | omega | decide) ?_)
    | simp (disch := first | omega | (simp only [List.length_append, List.length_set, List.length_cons, List.length_nil] <;> omega)) only [WpC_skip, WpC_exit, WpC_ret, WpC_seq, WpC_reg, WpC_draw, WpC_block, WpC_cond, WpO_cons, WpO_nil, WpO_guard, WpD_cons, WpD_nil, WpD_guard, ↓astep, ↓aop, aBin, aInt, aStr, aUn, aNil, aMax, ↓oev_t, ↓oev_c, Run_some, Run_ite, Run_ite', map_ite, map_ite', bind_ite, Option.map_some, Option.bind_some, Option.map_none, Option.bind_none, CondV_true, CondV_false, GuardV_tt, GuardV_tf, GuardV_ft, GuardV_ff, GuardV_undef, SeqK_normal, SeqK_exit, SeqK_ret, EndK_ret, EndK_normal, ResK_some, aresults, ares, aPack, blkX_exit, blkX_normal, blkX_ret, Env_put_some, Env_put_none, ↓Env_set_at, ↓reduceIte, ↓reduceCtorEq, Nat.reduceEqDiff, Nat.reduceAdd, env0, List.getElem?_cons_zero, List.getElem?_cons_succ, Option.getD_some, decide_eq_true_eq, decide_eq_false_iff_not, Bool.not_eq_true', Bool.not_true, Bool.not_false, ixs_get, bytesL_get, bytesL_length, aLoad, cellsOf, List.map_cons, List.map_nil, ne_eq, not_true_eq_false, not_false_eq_true, true_and, and_true, false_and, and_false, true_implies, implies_true, false_implies, Nat.zero_add, decide_true, decide_false, Nat.mul_one, Need_true, int_beq, int_bne, not_dec, wrap_i64, wrap_u64, wrap_u8, wrap_u16, wrap_u32, tmod_nn, tdiv_nn, min_bits, Int.toNat_natCast, wrap_or, Int.reduceEq, Int.reduceLT, Int.reduceLE, Nat.reduceLeDiff, cells_int, cells_bool, cells_string, cells_pointer, cells_slice, cells_map, cells_func, cells_nilFunc, cells_iface, cells_nilIface, cells_agg, arr1_size, arr1_list, List.all_cons, List.all_nil, Bool.and_true, Bool.and_self, oneC, List.length_cons, List.length_nil, aop.fillL, setL, List.set_cons_zero, List.set_cons_succ, aApp, rowOf, get_last, List.drop_zero, List.take_succ_cons, List.take_zero, List.drop_succ_cons, List.take_nil, List.drop_nil, bv_length, bv_take, allBytes_bv, allBytes_snoc, allBytes_one, List.length_append, get_at, bv_snoc, bv_take_le, Nat.le_refl, ↓acallop, List.toList_toArray, List.append_nil, List.nil_append, aBound, aIntOf, ByteArray.size_extract, eq_self, flat, flatN, bs_size, C5_X, C5_pol, e63, neV])
theorem w46 (s : ByteArray) (hs : s.size < 2 ^ 63) : Run (fun v H' => v = neV (getV id s)) mk (acall C5 40 46 [.string s] [] ⟨0, 0⟩) := by
  obtain ⟨H1, e63⟩ := Run_ex (w63 59 id (.inr ⟨rfl, rfl⟩) s hs 38 (by omega))
  refine Run_call (F := ir46) rfl (Nat.le_of_ble_eq_true rfl) ?_
  simp only [ir46]
  (repeat' first
    | (refine CondV_dec (fun _ => ?_) (fun _ => ?_) <;> try (exfalso; omega))
    | (refine GuardV_td (fun _ => ?_) (fun _ => ?_) <;> try (exfalso; omega))
    | (refine GuardV_fd (fun _ => ?_) (fun _ => ?_) <;> try (exfalso; omega))
    | (refine CondV_split (fun _ => ?_) (fun _ => ?_))
    | (refine Need_of (by first | omega | decide) ?_)
    | simp (disch := first | omega | (simp only [List.length_append, List.length_set, List.length_cons, List.length_nil] <;> omega)) only [WpC_skip, WpC_exit, WpC_ret, WpC_seq, WpC_reg, WpC_draw, WpC_block, WpC_cond, WpO_cons, WpO_nil, WpO_guard, WpD_cons, WpD_nil, WpD_guard, ↓astep, ↓aop, aBin, aInt, aStr, aUn, aNil, aMax, ↓oev_t, ↓oev_c, Run_some, Run_ite, Run_ite', map_ite, map_ite', bind_ite, Option.map_some, Option.bind_some, Option.map_none, Option.bind_none, CondV_true, CondV_false, GuardV_tt, GuardV_tf, GuardV_ft, GuardV_ff, GuardV_undef, SeqK_normal, SeqK_exit, SeqK_ret, EndK_ret, EndK_normal, ResK_some, aresults, ares, aPack, blkX_exit, blkX_normal, blkX_ret, Env_put_some, Env_put_none, ↓Env_set_at, ↓reduceIte, ↓reduceCtorEq, Nat.reduceEqDiff, Nat.reduceAdd, env0, List.getElem?_cons_zero, List.getElem?_cons_succ, Option.getD_some, decide_eq_true_eq, decide_eq_false_iff_not, Bool.not_eq_true', Bool.not_true, Bool.not_false, ixs_get, bytesL_get, bytesL_length, aLoad, cellsOf, List.map_cons, List.map_nil, ne_eq, not_true_eq_false, not_false_eq_true, true_and, and_true, false_and, and_false, true_implies, implies_true, false_implies, Nat.zero_add, decide_true, decide_false, Nat.mul_one, Need_true, int_beq, int_bne, not_dec, wrap_i64, wrap_u64, wrap_u8, wrap_u16, wrap_u32, tmod_nn, tdiv_nn, min_bits, Int.toNat_natCast, wrap_or, Int.reduceEq, Int.reduceLT, Int.reduceLE, Nat.reduceLeDiff, cells_int, cells_bool, cells_string, cells_pointer, cells_slice, cells_map, cells_func, cells_nilFunc, cells_iface, cells_nilIface, cells_agg, arr1_size, arr1_list, List.all_cons, List.all_nil, Bool.and_true, Bool.and_self, oneC, List.length_cons, List.length_nil, aop.fillL, setL, List.set_cons_zero, List.set_cons_succ, aApp, rowOf, get_last, List.drop_zero, List.take_succ_cons, List.take_zero, List.drop_succ_cons, List.take_nil, List.drop_nil, bv_length, bv_take, allBytes_bv, allBytes_snoc, allBytes_one, List.length_append, get_at, bv_snoc, bv_take_le, Nat.le_refl, ↓acallop, List.toList_toArray, List.append_nil, List.nil_append, aBound, aIntOf, ByteArray.size_extract, eq_self, flat, flatN, bs_size, C5_X, C5_pol, e63, neV])

def leastV (s : ByteArray) : Nat × Nat := if 8 < s.size then (0, 5) else if s.size ≠ 0 ∧ bAt s 0 = 0 then (0, 3) else (nm (bl s), 0)
theorem w42 (s : ByteArray) (hs : s.size < 2 ^ 63) : Run (fun v H' => v = neV (leastV s)) mk (acall C5 40 42 [.string s] [] ⟨0, 0⟩) := by
  refine Run_call (F := ir42) rfl (Nat.le_of_ble_eq_true rfl) ?_
  have hlb := bl_length s
  by_cases h2 : 8 < s.size
  · have hv : leastV s = (0, 5) := by rw [leastV, if_pos h2]
    rw [hv]
    simp only [ir42]
    (repeat' first
    | (refine CondV_dec (fun _ => ?_) (fun _ => ?_) <;> try (exfalso; omega))
    | (refine GuardV_td (fun _ => ?_) (fun _ => ?_) <;> try (exfalso; omega))
    | (refine GuardV_fd (fun _ => ?_) (fun _ => ?_) <;> try (exfalso; omega))
    | (refine CondV_split (fun _ => ?_) (fun _ => ?_))
    | (refine Need_of (by first | omega | decide) ?_)
    | simp (disch := first | omega | (simp only [List.length_append, List.length_set, List.length_cons, List.length_nil] <;> omega)) only [WpC_skip, WpC_exit, WpC_ret, WpC_seq, WpC_reg, WpC_draw, WpC_block, WpC_cond, WpO_cons, WpO_nil, WpO_guard, WpD_cons, WpD_nil, WpD_guard, ↓astep, ↓aop, aBin, aInt, aStr, aUn, aNil, aMax, ↓oev_t, ↓oev_c, Run_some, Run_ite, Run_ite', map_ite, map_ite', bind_ite, Option.map_some, Option.bind_some, Option.map_none, Option.bind_none, CondV_true, CondV_false, GuardV_tt, GuardV_tf, GuardV_ft, GuardV_ff, GuardV_undef, SeqK_normal, SeqK_exit, SeqK_ret, EndK_ret, EndK_normal, ResK_some, aresults, ares, aPack, blkX_exit, blkX_normal, blkX_ret, Env_put_some, Env_put_none, ↓Env_set_at, ↓reduceIte, ↓reduceCtorEq, Nat.reduceEqDiff, Nat.reduceAdd, env0, List.getElem?_cons_zero, List.getElem?_cons_succ, Option.getD_some, decide_eq_true_eq, decide_eq_false_iff_not, Bool.not_eq_true', Bool.not_true, Bool.not_false, ixs_get, bytesL_get, bytesL_length, aLoad, cellsOf, List.map_cons, List.map_nil, ne_eq, not_true_eq_false, not_false_eq_true, true_and, and_true, false_and, and_false, true_implies, implies_true, false_implies, Nat.zero_add, decide_true, decide_false, Nat.mul_one, Need_true, int_beq, int_bne, not_dec, wrap_i64, wrap_u64, wrap_u8, wrap_u16, wrap_u32, tmod_nn, tdiv_nn, min_bits, Int.toNat_natCast, wrap_or, Int.reduceEq, Int.reduceLT, Int.reduceLE, Nat.reduceLeDiff, cells_int, cells_bool, cells_string, cells_pointer, cells_slice, cells_map, cells_func, cells_nilFunc, cells_iface, cells_nilIface, cells_agg, arr1_size, arr1_list, List.all_cons, List.all_nil, Bool.and_true, Bool.and_self, oneC, List.length_cons, List.length_nil, aop.fillL, setL, List.set_cons_zero, List.set_cons_succ, aApp, rowOf, get_last, List.drop_zero, List.take_succ_cons, List.take_zero, List.drop_succ_cons, List.take_nil, List.drop_nil, bv_length, bv_take, allBytes_bv, allBytes_snoc, allBytes_one, List.length_append, get_at, bv_snoc, bv_take_le, Nat.le_refl, ↓acallop, List.toList_toArray, List.append_nil, List.nil_append, aBound, aIntOf, ByteArray.size_extract, eq_self, flat, flatN, bs_size, empty_eq])
    rfl
  · have e62 := Run_ex2 (w62 (bl s) (by omega) (bl_lt s) 5 0 38 (by omega) [.cells (bv (bl s)) 5 true] ⟨0, 0⟩ true rfl)
    rw [hlb] at e62
    simp only [ir42]
    (repeat' first
    | (refine CondV_dec (fun _ => ?_) (fun _ => ?_) <;> try (exfalso; omega))
    | (refine GuardV_td (fun _ => ?_) (fun _ => ?_) <;> try (exfalso; omega))
    | (refine GuardV_fd (fun _ => ?_) (fun _ => ?_) <;> try (exfalso; omega))
    | (refine CondV_split (fun _ => ?_) (fun _ => ?_))
    | (refine Need_of (by first | omega | decide) ?_)
    | simp (disch := first | omega | (simp only [List.length_append, List.length_set, List.length_cons, List.length_nil] <;> omega)) only [WpC_skip, WpC_exit, WpC_ret, WpC_seq, WpC_reg, WpC_draw, WpC_block, WpC_cond, WpO_cons, WpO_nil, WpO_guard, WpD_cons, WpD_nil, WpD_guard, ↓astep, ↓aop, aBin, aInt, aStr, aUn, aNil, aMax, ↓oev_t, ↓oev_c, Run_some, Run_ite, Run_ite', map_ite, map_ite', bind_ite, Option.map_some, Option.bind_some, Option.map_none, Option.bind_none, CondV_true, CondV_false, GuardV_tt, GuardV_tf, GuardV_ft, GuardV_ff, GuardV_undef, SeqK_normal, SeqK_exit, SeqK_ret, EndK_ret, EndK_normal, ResK_some, aresults, ares, aPack, blkX_exit, blkX_normal, blkX_ret, Env_put_some, Env_put_none, ↓Env_set_at, ↓reduceIte, ↓reduceCtorEq, Nat.reduceEqDiff, Nat.reduceAdd, env0, List.getElem?_cons_zero, List.getElem?_cons_succ, Option.getD_some, decide_eq_true_eq, decide_eq_false_iff_not, Bool.not_eq_true', Bool.not_true, Bool.not_false, ixs_get, bytesL_get, bytesL_length, aLoad, cellsOf, List.map_cons, List.map_nil, ne_eq, not_true_eq_false, not_false_eq_true, true_and, and_true, false_and, and_false, true_implies, implies_true, false_implies, Nat.zero_add, decide_true, decide_false, Nat.mul_one, Need_true, int_beq, int_bne, not_dec, wrap_i64, wrap_u64, wrap_u8, wrap_u16, wrap_u32, tmod_nn, tdiv_nn, min_bits, Int.toNat_natCast, wrap_or, Int.reduceEq, Int.reduceLT, Int.reduceLE, Nat.reduceLeDiff, cells_int, cells_bool, cells_string, cells_pointer, cells_slice, cells_map, cells_func, cells_nilFunc, cells_iface, cells_nilIface, cells_agg, arr1_size, arr1_list, List.all_cons, List.all_nil, Bool.and_true, Bool.and_self, oneC, List.length_cons, List.length_nil, aop.fillL, setL, List.set_cons_zero, List.set_cons_succ, aApp, rowOf, get_last, List.drop_zero, List.take_succ_cons, List.take_zero, List.drop_succ_cons, List.take_nil, List.drop_nil, bv_length, bv_take, allBytes_bv, allBytes_snoc, allBytes_one, List.length_append, get_at, bv_snoc, bv_take_le, Nat.le_refl, ↓acallop, List.toList_toArray, List.append_nil, List.nil_append, aBound, aIntOf, ByteArray.size_extract, eq_self, flat, flatN, bs_size, empty_eq, C5_X, C5_pol, bytesL_bv, e62])
    · rename_i q1 q2
      rw [show Int.toNat 0 = 0 from rfl] at q2
      rw [leastV, if_neg h2, if_pos ⟨q1, by omega⟩]; rfl
    · rename_i q1 q2
      rw [show Int.toNat 0 = 0 from rfl] at q2
      rw [leastV, if_neg h2, if_neg (by omega)]; rfl
    · rename_i q1
      rw [leastV, if_neg h2, if_neg (by omega)]; rfl

theorem C5_ok : C5.Ok := .mk' (by kernel_rfl) (all_cons ⟨_, Try.func57, cmp57, nm57⟩ (all_cons ⟨_, Try.func58, cmp58, nm58⟩ (all_cons ⟨_, Try.func59, cmp59, nm59⟩ (all_cons ⟨_, Try.func60, cmp60, nm60⟩ (all_cons ⟨_, Try.func61, cmp61, nm61⟩ (all_cons ⟨_, Try.func62, cmp62, nm62⟩ (all_cons ⟨_, Try.func63, cmp63, nm63⟩ (all_cons ⟨_, Try.func33, cmp33, nm33⟩ (all_cons ⟨_, Try.func40, cmp40, nm40⟩ (all_cons ⟨_, Try.func41, cmp41, nm41⟩ (all_cons ⟨_, Try.func42, cmp42, nm42⟩ (all_cons ⟨_, Try.func45, cmp45, nm45⟩ (all_cons ⟨_, Try.func46, cmp46, nm46⟩ (all_nil)))))))))))))) all_nil

def XPutF (turn : List Nat → List Nat) (args : List Value) : Option Value :=
  match args with
  | [.int .u64 n, .int .i64 z] => if (0 ≤ n ∧ n < 2 ^ 64) ∧ -9223372036854775808 ≤ z ∧ z ≤ 9223372036854775807 then some (seV (putV turn n.toNat z)) else none
  | _ => none
def XLst (args : List Value) : Option Value :=
  match args with
  | [.int .u64 n] => if 0 ≤ n ∧ n < 2 ^ 64 then some (.string (bs (lsts 8 n.toNat))) else none
  | _ => none
def XGetF (turn : List Nat → List Nat) (args : List Value) : Option Value :=
  match args with
  | [.string s] => if s.size < 2 ^ 63 then some (neV (getV turn s)) else none
  | _ => none
def XGetL (args : List Value) : Option Value :=
  match args with
  | [.string s] => if s.size < 2 ^ 63 then some (neV (leastV s)) else none
  | _ => none
theorem XPutF_eq (turn : List Nat → List Nat) (n z : Int) : XPutF turn [.int .u64 n, .int .i64 z] = if (0 ≤ n ∧ n < 2 ^ 64) ∧ -9223372036854775808 ≤ z ∧ z ≤ 9223372036854775807 then some (seV (putV turn n.toNat z)) else none := rfl
theorem XLst_eq (n : Int) : XLst [.int .u64 n] = if 0 ≤ n ∧ n < 2 ^ 64 then some (.string (bs (lsts 8 n.toNat))) else none := rfl
theorem XGetF_eq (turn : List Nat → List Nat) (s : ByteArray) : XGetF turn [.string s] = if s.size < 2 ^ 63 then some (neV (getV turn s)) else none := rfl
theorem XGetL_eq (s : ByteArray) : XGetL [.string s] = if s.size < 2 ^ 63 then some (neV (leastV s)) else none := rfl

theorem x33 : XOk Try.prog 33 (XPutF List.reverse) := .of C5_ok rfl (f := 33) ⟨_, Try.func33, cmp33, nm33⟩ fun args v h => by
  unfold XPutF at h
  split at h
  · rename_i n z
    split at h
    · rename_i hs; cases h
      have := w33 n.toNat (by omega) z (by omega) (by omega)
      rw [show ((n.toNat : Nat) : Int) = n by omega] at this
      exact ⟨rfl, rfl, 40, 0, this⟩
    · cases h
  · cases h
theorem x40 : XOk Try.prog 40 (XPutF id) := .of C5_ok rfl (f := 40) ⟨_, Try.func40, cmp40, nm40⟩ fun args v h => by
  unfold XPutF at h
  split at h
  · rename_i n z
    split at h
    · rename_i hs; cases h
      have := w40 n.toNat (by omega) z (by omega) (by omega)
      rw [show ((n.toNat : Nat) : Int) = n by omega] at this
      exact ⟨rfl, rfl, 40, 0, this⟩
    · cases h
  · cases h
theorem x41 : XOk Try.prog 41 XLst := .of C5_ok rfl (f := 41) ⟨_, Try.func41, cmp41, nm41⟩ fun args v h => by
  unfold XLst at h
  split at h
  · rename_i n
    split at h
    · rename_i hs; cases h
      have := w41 n.toNat (by omega)
      rw [show ((n.toNat : Nat) : Int) = n by omega] at this
      exact ⟨rfl, rfl, 40, 0, this⟩
    · cases h
  · cases h
theorem x42 : XOk Try.prog 42 XGetL := .of C5_ok rfl (f := 42) ⟨_, Try.func42, cmp42, nm42⟩ fun args v h => by
  unfold XGetL at h
  split at h
  · rename_i s
    split at h
    · rename_i hs; cases h; exact ⟨rfl, rfl, 40, 0, w42 s hs⟩
    · cases h
  · cases h
theorem x45 : XOk Try.prog 45 (XGetF List.reverse) := .of C5_ok rfl (f := 45) ⟨_, Try.func45, cmp45, nm45⟩ fun args v h => by
  unfold XGetF at h
  split at h
  · rename_i s
    split at h
    · rename_i hs; cases h; exact ⟨rfl, rfl, 40, 0, w45 s hs⟩
    · cases h
  · cases h
theorem x46 : XOk Try.prog 46 (XGetF id) := .of C5_ok rfl (f := 46) ⟨_, Try.func46, cmp46, nm46⟩ fun args v h => by
  unfold XGetF at h
  split at h
  · rename_i s
    split at h
    · rename_i hs; cases h; exact ⟨rfl, rfl, 40, 0, w46 s hs⟩
    · cases h
  · cases h
end Ev
end Go.Proofs.Ytlcfanmmpfmnaaa
