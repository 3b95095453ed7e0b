/-
  The laws LebReads and LebShort: what their code answers.
-/
import Derived.Test.YtlcfanmmpfmnaaaLeb
namespace Go.Proofs.Ytlcfanmmpfmnaaa
namespace Ev
open Tag (mk)
set_option linter.unusedSimpArgs false
set_option linter.unusedVariables false
set_option maxRecDepth 4000
noncomputable def C1 : Cf := { P := Try.prog, G := 0, fn := fun f => if f = 12 then some ir12 else none, pol := fun _ => .gen, al := alT, X := fun f => if f = 13 then some XNext else if f = 14 then some XNext else if f = 15 then some XPut else none }
theorem C1_13 : C1.X 13 = some XNext := rfl
theorem C1_14 : C1.X 14 = some XNext := rfl
theorem C1_15 : C1.X 15 = some XPut := rfl
theorem XNext_eq (s : ByteArray) : XNext [.string s] = if s.size < 2 ^ 63 then some (nxV (nx (bl s) 0 0)) else none := rfl
theorem XPut_eq (n : Int) : XPut [.int .u64 n] = if 0 ≤ n ∧ n < 2 ^ 64 then some (.string (bs (put (n.toNat + 1) n.toNat))) else none := rfl
theorem C1_ok : C1.Ok where
  mixed := by kernel_rfl
  alok k h := by cases h
  fn f F h := by
    simp only [C1] at h
    split at h
    · rename_i hf; subst hf; cases h; exact ⟨_, Try.func12, cmp12, nm12⟩
    · cases h
  X f g h := by
    simp only [C1] at h
    split at h
    · rename_i hf; subst hf; cases h; exact x13
    · split at h
      · rename_i hf; subst hf; cases h; exact x14
      · split at h
        · rename_i hf; subst hf; cases h; exact x15
        · cases h
theorem nx1 : nx (bl ⟨#[128, 0]⟩) 0 0 = (0, 0, 3) := by rfl
theorem nx2 : nx (bl ⟨#[128]⟩) 0 0 = (0, 0, 2) := by rfl
theorem put1 : bs (put (300 + 1) 300) = ⟨#[172, 2]⟩ := by rfl

theorem w12 (k : Nat) : Run (fun v H' => v = .bool true) mk (acall C1 (k + 1) 12 [] [] ⟨0, 0⟩) := by
  refine Run_call (F := ir12) rfl (Nat.le_of_ble_eq_true rfl) ?_
  simp only [ir12]
  (repeat' first
    | (refine CondV_dec (fun _ => ?_) (fun _ => ?_) <;> try (exfalso; omega))
    | (refine GuardV_td (fun _ => ?_) (fun _ => ?_) <;> try (exfalso; omega))
    | (refine GuardV_fd (fun _ => ?_) (fun _ => ?_) <;> try (exfalso; omega))
    | (refine CondV_split (fun _ => ?_) (fun _ => ?_))
    | (refine Need_of (by first | omega | decide) ?_)
    | simp (disch := first | omega | (simp only [List.length_append, List.length_set, List.length_cons, List.length_nil] <;> omega)) only [WpC_skip, WpC_exit, WpC_ret, WpC_seq, WpC_reg, WpC_draw, WpC_block, WpC_cond, WpO_cons, WpO_nil, WpO_guard, WpD_cons, WpD_nil, WpD_guard, ↓astep, ↓aop, aBin, aInt, aStr, aUn, aNil, aMax, ↓oev_t, ↓oev_c, Run_some, Run_ite, Run_ite', map_ite, map_ite', bind_ite, Option.map_some, Option.bind_some, Option.map_none, Option.bind_none, CondV_true, CondV_false, GuardV_tt, GuardV_tf, GuardV_ft, GuardV_ff, GuardV_undef, SeqK_normal, SeqK_exit, SeqK_ret, EndK_ret, EndK_normal, ResK_some, aresults, ares, aPack, blkX_exit, blkX_normal, blkX_ret, Env_put_some, Env_put_none, ↓Env_set_at, ↓reduceIte, ↓reduceCtorEq, Nat.reduceEqDiff, Nat.reduceAdd, env0, List.getElem?_cons_zero, List.getElem?_cons_succ, Option.getD_some, decide_eq_true_eq, decide_eq_false_iff_not, Bool.not_eq_true', Bool.not_true, Bool.not_false, ixs_get, bytesL_get, bytesL_length, aLoad, cellsOf, List.map_cons, List.map_nil, ne_eq, not_true_eq_false, not_false_eq_true, true_and, and_true, false_and, and_false, true_implies, implies_true, false_implies, Nat.zero_add, decide_true, decide_false, Nat.mul_one, Need_true, int_beq, int_bne, not_dec, wrap_i64, wrap_u64, wrap_u8, wrap_u16, wrap_u32, tmod_nn, tdiv_nn, min_bits, Int.toNat_natCast, wrap_or, Int.reduceEq, Int.reduceLT, Int.reduceLE, Nat.reduceLeDiff, cells_int, cells_bool, cells_string, cells_pointer, cells_slice, cells_map, cells_func, cells_nilFunc, cells_iface, cells_nilIface, cells_agg, arr1_size, arr1_list, List.all_cons, List.all_nil, Bool.and_true, Bool.and_self, oneC, List.length_cons, List.length_nil, aop.fillL, setL, List.set_cons_zero, List.set_cons_succ, aApp, rowOf, get_last, List.drop_zero, List.take_succ_cons, List.take_zero, List.drop_succ_cons, List.take_nil, List.drop_nil, bv_length, bv_take, allBytes_bv, allBytes_snoc, allBytes_one, List.length_append, get_at, bv_snoc, bv_take_le, Nat.le_refl, ↓acallop, List.toList_toArray, List.append_nil, List.nil_append, aBound, aIntOf, ByteArray.size_extract, eq_self, C1_13, C1_15, XNext_eq, XPut_eq, nx1, nx2, put1, nxV, Int.toNat])
  all_goals first | rfl | (exfalso; omega)

def XAlive (args : List Value) : Option Value :=
  match args with
  | [] => some (.bool true)
  | _ => none
theorem XAlive_eq : XAlive [] = some (.bool true) := rfl
theorem x12 : XOk Try.prog 12 XAlive := .of C1_ok rfl (f := 12) ⟨_, Try.func12, cmp12, nm12⟩ fun args v h => by
  unfold XAlive at h
  split at h
  · cases h; exact ⟨rfl, rfl, 1, 0, w12 0⟩
  · cases h
noncomputable def C2 : Cf := { P := Try.prog, G := 0, fn := fun f => if f = 3 then some ir3 else if f = 4 then some ir4 else none, pol := fun _ => .gen, al := alT, X := fun f => if f = 12 then some XAlive else if f = 13 then some XNext else if f = 14 then some XNext else if f = 15 then some XPut else none }
theorem C2_12 : C2.X 12 = some XAlive := rfl
theorem C2_13 : C2.X 13 = some XNext := rfl
theorem C2_14 : C2.X 14 = some XNext := rfl
theorem C2_15 : C2.X 15 = some XPut := rfl
theorem C2_ok : C2.Ok where
  mixed := by kernel_rfl
  alok k h := by cases h
  fn f F h := by
    simp only [C2] at h
    split at h
    · rename_i hf; subst hf; cases h; exact ⟨_, Try.func3, cmp3, nm3⟩
    · split at h
      · rename_i hf; subst hf; cases h; exact ⟨_, Try.func4, cmp4, nm4⟩
      · cases h
  X f g h := by
    simp only [C2] at h
    split at h
    · rename_i hf; subst hf; cases h; exact x12
    · split at h
      · rename_i hf; subst hf; cases h; exact x13
      · split at h
        · rename_i hf; subst hf; cases h; exact x14
        · split at h
          · rename_i hf; subst hf; cases h; exact x15
          · cases h

/-- A shorter row is cut short, or reads the same. -/
theorem nx_take : ∀ (l : List Nat) (c i a : Nat), (nx (l.take c) i a).2.2 = 2 ∨ nx (l.take c) i a = nx l i a
  | [], c, i, a => .inr (by simp)
  | b :: l, 0, i, a => .inl rfl
  | b :: l, c + 1, i, a => by
    simp only [List.take_succ_cons, nx]
    split
    · exact .inr rfl
    · split
      · exact .inr rfl
      · exact nx_take l c _ _

theorem nx_lt : ∀ (l : List Nat) (i a : Nat), (∀ b ∈ l, b < 256) → i ≤ 9 → a < 2 ^ (7 * i) → (nx l i a).1 < 2 ^ 64
  | [], i, a, _, _, _ => by simp [nx]
  | b :: l, i, a, hb, hi, ha => by
    have hb0 := hb b (by simp)
    simp only [nx]
    split
    · simp
    · rename_i h1
      have h9 : i = 9 → b ≤ 1 := by omega
      have := (put7 a i b ha hi hb0 h9).2
      have q := put7b i b hi hb0 h9
      rw [show (b : Int) % 128 * ((2 ^ (7 * i) : Nat) : Int) = ((b % 128 * 2 ^ (7 * i) : Nat) : Int) by push_cast; rfl] at q
      split
      · show a + b % 128 * 2 ^ (7 * i) < 2 ^ 64
        omega
      · exact nx_lt l (i + 1) _ (fun b h => hb b (by simp [h])) (by omega) this

/-- What was read is written as it was. -/
theorem nx_put : ∀ (l : List Nat) (i a : Nat), (∀ b ∈ l, b < 256) → (nx l i a).2.2 = 0 →
    ∃ v j, (nx l i a).1 = a + v * 2 ^ (7 * i) ∧ (nx l i a).2.1 = i + j ∧ j ≤ l.length ∧ put (v + 1) v = l.take j ∧ (0 < i → 0 < v)
  | [], i, a, _, h => by simp [nx] at h
  | b :: l, i, a, hb, h => by
    have hb0 := hb b (by simp)
    simp only [nx] at h ⊢
    split at h
    · simp at h
    · rename_i h1
      rw [if_neg h1]
      split at h
      · rename_i h2
        rw [if_pos h2]
        refine ⟨b, 1, ?_, rfl, by simp, ?_, by omega⟩
        · show a + b % 128 * 2 ^ (7 * i) = _
          rw [Nat.mod_eq_of_lt h2]
        · rw [put, if_pos h2]; simp
      · rename_i h2
        rw [if_neg h2]
        obtain ⟨v, j, e1, e2, e3, e4, e5⟩ := nx_put l (i + 1) _ (fun b h => hb b (by simp [h])) h
        have hv := e5 (by omega)
        refine ⟨b % 128 + 128 * v, j + 1, ?_, by omega, by simp; omega, ?_, by omega⟩
        · rw [e1, show 7 * (i + 1) = 7 * i + 7 by omega, Nat.pow_add, Nat.add_mul, Nat.add_assoc, Nat.mul_comm (2 ^ (7 * i)) (2 ^ 7), ← Nat.mul_assoc, Nat.mul_comm v]
        · rw [put, if_neg (by omega), show (b % 128 + 128 * v) % 128 + 128 = b by omega, show (b % 128 + 128 * v) / 128 = v by omega, List.take_succ_cons, ← e4, put_more v _ (by omega)]

theorem nx_put0 (s : ByteArray) (h : (nx (bl s) 0 0).2.2 = 0) : (nx (bl s) 0 0).2.1 ≤ s.size ∧ bs (put ((nx (bl s) 0 0).1 + 1) (nx (bl s) 0 0).1) = s.extract 0 (nx (bl s) 0 0).2.1 := by
  obtain ⟨v, j, e1, e2, e3, e4, _⟩ := nx_put (bl s) 0 0 (bl_lt s) h
  have e1' : (nx (bl s) 0 0).1 = v := by rw [e1]; simp
  have e2' : (nx (bl s) 0 0).2.1 = j := by rw [e2]; simp
  rw [bl_length] at e3
  refine ⟨by omega, bl_inj ?_⟩
  rw [e1', e2', e4, bl_bs _ (fun b h => bl_lt s b (List.mem_of_mem_take h)), bl_extract, List.drop_zero]
theorem nx_cut (s : ByteArray) (h : Nat) : (nx (bl (s.extract 0 h)) 0 0).2.2 = 2 ∨ nx (bl (s.extract 0 h)) 0 0 = nx (bl s) 0 0 := by
  rw [bl_extract, List.drop_zero]; exact nx_take _ _ _ _

theorem w4 (s : ByteArray) (hs : s.size < 2 ^ 63) (c : Int) (hc0 : 0 ≤ c) (hc1 : c < 256) (k : Nat) : Run (fun v H' => v = .bool true) mk (acall C2 (k + 1) 4 [.string s, .int .u8 c] [] ⟨0, 0⟩) := by
  refine Run_call (F := ir4) rfl (Nat.le_of_ble_eq_true rfl) ?_
  simp only [ir4]
  (repeat' first
    | (refine CondV_dec (fun _ => ?_) (fun _ => ?_) <;> try (exfalso; omega))
    | (refine GuardV_td (fun _ => ?_) (fun _ => ?_) <;> try (exfalso; omega))
    | (refine GuardV_fd (fun _ => ?_) (fun _ => ?_) <;> try (exfalso; omega))
    | (refine CondV_split (fun _ => ?_) (fun _ => ?_))
    | (refine Need_of (by first | omega | decide) ?_)
    | simp (disch := first | omega | (simp only [List.length_append, List.length_set, List.length_cons, List.length_nil] <;> omega)) only [WpC_skip, WpC_exit, WpC_ret, WpC_seq, WpC_reg, WpC_draw, WpC_block, WpC_cond, WpO_cons, WpO_nil, WpO_guard, WpD_cons, WpD_nil, WpD_guard, ↓astep, ↓aop, aBin, aInt, aStr, aUn, aNil, aMax, ↓oev_t, ↓oev_c, Run_some, Run_ite, Run_ite', map_ite, map_ite', bind_ite, Option.map_some, Option.bind_some, Option.map_none, Option.bind_none, CondV_true, CondV_false, GuardV_tt, GuardV_tf, GuardV_ft, GuardV_ff, GuardV_undef, SeqK_normal, SeqK_exit, SeqK_ret, EndK_ret, EndK_normal, ResK_some, aresults, ares, aPack, blkX_exit, blkX_normal, blkX_ret, Env_put_some, Env_put_none, ↓Env_set_at, ↓reduceIte, ↓reduceCtorEq, Nat.reduceEqDiff, Nat.reduceAdd, env0, List.getElem?_cons_zero, List.getElem?_cons_succ, Option.getD_some, decide_eq_true_eq, decide_eq_false_iff_not, Bool.not_eq_true', Bool.not_true, Bool.not_false, ixs_get, bytesL_get, bytesL_length, aLoad, cellsOf, List.map_cons, List.map_nil, ne_eq, not_true_eq_false, not_false_eq_true, true_and, and_true, false_and, and_false, true_implies, implies_true, false_implies, Nat.zero_add, decide_true, decide_false, Nat.mul_one, Need_true, int_beq, int_bne, not_dec, wrap_i64, wrap_u64, wrap_u8, wrap_u16, wrap_u32, tmod_nn, tdiv_nn, min_bits, Int.toNat_natCast, wrap_or, Int.reduceEq, Int.reduceLT, Int.reduceLE, Nat.reduceLeDiff, cells_int, cells_bool, cells_string, cells_pointer, cells_slice, cells_map, cells_func, cells_nilFunc, cells_iface, cells_nilIface, cells_agg, arr1_size, arr1_list, List.all_cons, List.all_nil, Bool.and_true, Bool.and_self, oneC, List.length_cons, List.length_nil, aop.fillL, setL, List.set_cons_zero, List.set_cons_succ, aApp, rowOf, get_last, List.drop_zero, List.take_succ_cons, List.take_zero, List.drop_succ_cons, List.take_nil, List.drop_nil, bv_length, bv_take, allBytes_bv, allBytes_snoc, allBytes_one, List.length_append, get_at, bv_snoc, bv_take_le, Nat.le_refl, ↓acallop, List.toList_toArray, List.append_nil, List.nil_append, aBound, aIntOf, ByteArray.size_extract, eq_self, C2_12, C2_13, C2_15, XNext_eq, XPut_eq, XAlive_eq, nxV])
  all_goals
    have hx := nx_cut s (if (s.size : Int) < c then (s.size : Int) else c).toNat
    rcases hx with hx | hx
    · exfalso; omega
    · simp_all
theorem w3 (s : ByteArray) (hs : s.size < 2 ^ 63) (k : Nat) : Run (fun v H' => v = .bool true) mk (acall C2 (k + 1) 3 [.string s] [] ⟨0, 0⟩) := by
  refine Run_call (F := ir3) rfl (Nat.le_of_ble_eq_true rfl) ?_
  have hn := nx_lt (bl s) 0 0 (bl_lt s) (by omega) (by decide)
  have hp := fun h => (nx_put0 s h).1
  have hq := fun h => (nx_put0 s h).2
  simp only [ir3]
  (repeat' first
    | (refine CondV_dec (fun _ => ?_) (fun _ => ?_) <;> try (exfalso; omega))
    | (refine GuardV_td (fun _ => ?_) (fun _ => ?_) <;> try (exfalso; omega))
    | (refine GuardV_fd (fun _ => ?_) (fun _ => ?_) <;> try (exfalso; omega))
    | (refine CondV_split (fun _ => ?_) (fun _ => ?_))
    | (refine Need_of (by first | omega | decide) ?_)
    | simp (disch := first | omega | (simp only [List.length_append, List.length_set, List.length_cons, List.length_nil] <;> omega)) only [WpC_skip, WpC_exit, WpC_ret, WpC_seq, WpC_reg, WpC_draw, WpC_block, WpC_cond, WpO_cons, WpO_nil, WpO_guard, WpD_cons, WpD_nil, WpD_guard, ↓astep, ↓aop, aBin, aInt, aStr, aUn, aNil, aMax, ↓oev_t, ↓oev_c, Run_some, Run_ite, Run_ite', map_ite, map_ite', bind_ite, Option.map_some, Option.bind_some, Option.map_none, Option.bind_none, CondV_true, CondV_false, GuardV_tt, GuardV_tf, GuardV_ft, GuardV_ff, GuardV_undef, SeqK_normal, SeqK_exit, SeqK_ret, EndK_ret, EndK_normal, ResK_some, aresults, ares, aPack, blkX_exit, blkX_normal, blkX_ret, Env_put_some, Env_put_none, ↓Env_set_at, ↓reduceIte, ↓reduceCtorEq, Nat.reduceEqDiff, Nat.reduceAdd, env0, List.getElem?_cons_zero, List.getElem?_cons_succ, Option.getD_some, decide_eq_true_eq, decide_eq_false_iff_not, Bool.not_eq_true', Bool.not_true, Bool.not_false, ixs_get, bytesL_get, bytesL_length, aLoad, cellsOf, List.map_cons, List.map_nil, ne_eq, not_true_eq_false, not_false_eq_true, true_and, and_true, false_and, and_false, true_implies, implies_true, false_implies, Nat.zero_add, decide_true, decide_false, Nat.mul_one, Need_true, int_beq, int_bne, not_dec, wrap_i64, wrap_u64, wrap_u8, wrap_u16, wrap_u32, tmod_nn, tdiv_nn, min_bits, Int.toNat_natCast, wrap_or, Int.reduceEq, Int.reduceLT, Int.reduceLE, Nat.reduceLeDiff, cells_int, cells_bool, cells_string, cells_pointer, cells_slice, cells_map, cells_func, cells_nilFunc, cells_iface, cells_nilIface, cells_agg, arr1_size, arr1_list, List.all_cons, List.all_nil, Bool.and_true, Bool.and_self, oneC, List.length_cons, List.length_nil, aop.fillL, setL, List.set_cons_zero, List.set_cons_succ, aApp, rowOf, get_last, List.drop_zero, List.take_succ_cons, List.take_zero, List.drop_succ_cons, List.take_nil, List.drop_nil, bv_length, bv_take, allBytes_bv, allBytes_snoc, allBytes_one, List.length_append, get_at, bv_snoc, bv_take_le, Nat.le_refl, ↓acallop, List.toList_toArray, List.append_nil, List.nil_append, aBound, aIntOf, ByteArray.size_extract, eq_self, C2_12, C2_13, C2_14, C2_15, XNext_eq, XPut_eq, XAlive_eq, nxV])
  rw [hq (by omega)]; simp
end Ev
end Go.Proofs.Ytlcfanmmpfmnaaa
