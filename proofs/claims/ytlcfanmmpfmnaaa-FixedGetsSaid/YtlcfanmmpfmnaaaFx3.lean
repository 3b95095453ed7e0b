/-
  The law FixedOrder: what its code answers.
-/
import Derived.Test.YtlcfanmmpfmnaaaFx2
namespace Go.Proofs.Ytlcfanmmpfmnaaa
namespace Ev
open Tag (mk)
set_option linter.unusedSimpArgs false
set_option linter.unusedVariables false
set_option maxRecDepth 4000
noncomputable def C6 : Cf := { P := Try.prog, G := 0, fn := tab [(32, ir32)], pol := fun _ => .gen, al := fun _ => false, X := xtab [(33, XPutF List.reverse), (40, XPutF id), (41, XLst), (42, XGetL)] }
theorem C6_33 : C6.X 33 = some (XPutF List.reverse) := rfl
theorem C6_40 : C6.X 40 = some (XPutF id) := rfl
theorem C6_41 : C6.X 41 = some XLst := rfl
theorem C6_42 : C6.X 42 = some XGetL := rfl
theorem C6_ok : C6.Ok := .mk' (by kernel_rfl) (all_cons ⟨_, Try.func32, cmp32, nm32⟩ all_nil) (all_cons x33 (all_cons x40 (all_cons x41 (all_cons x42 all_nil))))
theorem fx1 : putV id 258 3 = (⟨#[2, 1, 0]⟩, 0) := by rfl
theorem fx2 : putV List.reverse 258 3 = (⟨#[0, 1, 2]⟩, 0) := by rfl
theorem fx3 : bs (lsts 8 258) = ⟨#[1, 2]⟩ := by rfl
theorem fx4 : leastV ⟨#[0, 1]⟩ = (0, 3) := by rfl
theorem w32 (k : Nat) : Run (fun v H' => v = .bool true) mk (acall C6 (k + 1) 32 [] [] ⟨0, 0⟩) := by
  refine Run_call (F := ir32) rfl (Nat.le_of_ble_eq_true rfl) ?_
  simp only [ir32]
  (repeat' first
    | (refine CondV_dec (fun _ => ?_) (fun _ => ?_) <;> try (exfalso; omega))
    | (refine GuardV_td (fun _ => ?_) (fun _ => ?_) <;> try (exfalso; omega))
    | (refine GuardV_fd (fun _ => ?_) (fun _ => ?_) <;> try (exfalso; omega))
    | (refine CondV_split (fun _ => ?_) (fun _ => ?_))
    | (refine Need_of (by first | omega | decide) ?_)
    | simp (disch := first | omega | (simp only [List.length_append, List.length_set, List.length_cons, List.length_nil] <;> omega)) only [WpC_skip, WpC_exit, WpC_ret, WpC_seq, WpC_reg, WpC_draw, WpC_block, WpC_cond, WpO_cons, WpO_nil, WpO_guard, WpD_cons, WpD_nil, WpD_guard, ↓astep, ↓aop, aBin, aInt, aStr, aUn, aNil, aMax, ↓oev_t, ↓oev_c, Run_some, Run_ite, Run_ite', map_ite, map_ite', bind_ite, Option.map_some, Option.bind_some, Option.map_none, Option.bind_none, CondV_true, CondV_false, GuardV_tt, GuardV_tf, GuardV_ft, GuardV_ff, GuardV_undef, SeqK_normal, SeqK_exit, SeqK_ret, EndK_ret, EndK_normal, ResK_some, aresults, ares, aPack, blkX_exit, blkX_normal, blkX_ret, Env_put_some, Env_put_none, ↓Env_set_at, ↓reduceIte, ↓reduceCtorEq, Nat.reduceEqDiff, Nat.reduceAdd, env0, List.getElem?_cons_zero, List.getElem?_cons_succ, Option.getD_some, decide_eq_true_eq, decide_eq_false_iff_not, Bool.not_eq_true', Bool.not_true, Bool.not_false, ixs_get, bytesL_get, bytesL_length, aLoad, cellsOf, List.map_cons, List.map_nil, ne_eq, not_true_eq_false, not_false_eq_true, true_and, and_true, false_and, and_false, true_implies, implies_true, false_implies, Nat.zero_add, decide_true, decide_false, Nat.mul_one, Need_true, int_beq, int_bne, not_dec, wrap_i64, wrap_u64, wrap_u8, wrap_u16, wrap_u32, tmod_nn, tdiv_nn, min_bits, Int.toNat_natCast, wrap_or, Int.reduceEq, Int.reduceLT, Int.reduceLE, Nat.reduceLeDiff, cells_int, cells_bool, cells_string, cells_pointer, cells_slice, cells_map, cells_func, cells_nilFunc, cells_iface, cells_nilIface, cells_agg, arr1_size, arr1_list, List.all_cons, List.all_nil, Bool.and_true, Bool.and_self, oneC, List.length_cons, List.length_nil, aop.fillL, setL, List.set_cons_zero, List.set_cons_succ, aApp, rowOf, get_last, List.drop_zero, List.take_succ_cons, List.take_zero, List.drop_succ_cons, List.take_nil, List.drop_nil, bv_length, bv_take, allBytes_bv, allBytes_snoc, allBytes_one, List.length_append, get_at, bv_snoc, bv_take_le, Nat.le_refl, ↓acallop, List.toList_toArray, List.append_nil, List.nil_append, aBound, aIntOf, ByteArray.size_extract, eq_self, flat, flatN, bs_size, C6_33, C6_40, C6_41, C6_42, XPutF_eq, XLst_eq, XGetL_eq, Int.toNat, fx1, fx2, fx3, fx4, seV, neV])
  all_goals first | rfl | (exfalso; omega)
theorem x32 : XOk Try.prog 32 XAlive := .of C6_ok rfl (f := 32) ⟨_, Try.func32, cmp32, nm32⟩ fun args v h => by
  unfold XAlive at h
  split at h
  · cases h; exact ⟨rfl, rfl, 1, 0, w32 0⟩
  · cases h

/-! ## Order -/
theorem nm_append (l : List Nat) (b : Nat) : nm (l ++ [b]) = nm l * 256 + b := by simp [nm]
theorem dg_nm : ∀ (sz N : Nat), N < 2 ^ (8 * sz) → nm (dg N sz).reverse = N
  | 0, N, h => by have : N = 0 := by simpa using h
                  subst this; rfl
  | sz + 1, N, h => by
    rw [dg_succ, List.reverse_cons, nm_append, dg_nm sz (N / 256) (by
      have : 2 ^ (8 * (sz + 1)) = 2 ^ (8 * sz) * 256 := by rw [show 8 * (sz + 1) = 8 * sz + 8 by omega, Nat.pow_add]
      omega)]
    omega

theorem nm_cons (b : Nat) (l : List Nat) : nm (b :: l) = b * 256 ^ l.length + nm l := by
  have key : ∀ (l : List Nat) (a : Nat), l.foldl (fun n b => n * 256 + b) a = a * 256 ^ l.length + nm l := by
    intro l
    induction l with
    | nil => intro a; simp [nm]
    | cons x l ih =>
      intro a
      simp only [nm, List.foldl_cons]
      rw [ih, ih (0 * 256 + x), List.length_cons, Nat.pow_succ, Nat.add_mul, Nat.mul_assoc, Nat.mul_comm 256]
      simp only [Nat.zero_mul, Nat.zero_add, Nat.add_assoc]
  have := key l b
  simp only [nm, List.foldl_cons]
  simp only [Nat.zero_mul, Nat.zero_add]
  exact this
theorem nm_lt : ∀ (l : List Nat), (∀ b ∈ l, b < 256) → nm l < 256 ^ l.length
  | [], _ => by simp [nm]
  | b :: l, h => by
    have h1 := nm_lt l (fun b hb => h b (by simp [hb]))
    have h0 := h b (by simp)
    rw [nm_cons, List.length_cons, Nat.pow_succ]
    have : (b + 1) * 256 ^ l.length ≤ 256 * 256 ^ l.length := Nat.mul_le_mul_right _ (by omega)
    rw [Nat.add_mul] at this
    omega
theorem u8_lt {a b : Nat} (ha : a < 256) (hb : b < 256) : (UInt8.ofNat a < UInt8.ofNat b) = (a < b) := by
  rw [UInt8.lt_iff_toNat_lt]; simp [Nat.mod_eq_of_lt ha, Nat.mod_eq_of_lt hb]
theorem u8_eq {a b : Nat} (ha : a < 256) (hb : b < 256) : (UInt8.ofNat a == UInt8.ofNat b) = (a == b) := by
  rw [Bool.eq_iff_iff]
  simp only [beq_iff_eq]
  constructor
  · intro h
    have := congrArg UInt8.toNat h
    simpa [Nat.mod_eq_of_lt ha, Nat.mod_eq_of_lt hb] using this
  · rintro rfl; rfl
theorem less_nm : ∀ (l l' : List Nat), l.length = l'.length → (∀ b ∈ l, b < 256) → (∀ b ∈ l', b < 256) → Op.bytesLess (l.map UInt8.ofNat) (l'.map UInt8.ofNat) = decide (nm l < nm l')
  | [], [], _, _, _ => by simp [Op.bytesLess, nm]
  | [], _ :: _, h, _, _ => by simp at h
  | _ :: _, [], h, _, _ => by simp at h
  | a :: l, b :: l', h, ha, hb => by
    have hl : l.length = l'.length := by simpa using h
    have a0 := ha a (by simp)
    have b0 := hb b (by simp)
    have ih := less_nm l l' hl (fun b h => ha b (by simp [h])) (fun b h => hb b (by simp [h]))
    have q1 := nm_lt l (fun b h => ha b (by simp [h]))
    have q2 := nm_lt l' (fun b h => hb b (by simp [h]))
    rw [← hl] at q2
    simp only [List.map_cons, Op.bytesLess, u8_lt a0 b0, u8_eq a0 b0, ih, nm_cons, ← hl]
    rcases Nat.lt_trichotomy a b with h1 | h1 | h1
    · have : (a + 1) * 256 ^ l.length ≤ b * 256 ^ l.length := Nat.mul_le_mul_right _ h1
      rw [Nat.add_mul] at this
      have e2 : a * 256 ^ l.length + nm l < b * 256 ^ l.length + nm l' := by omega
      simp [h1, e2]
    · subst h1
      simp
    · have : (b + 1) * 256 ^ l.length ≤ a * 256 ^ l.length := Nat.mul_le_mul_right _ h1
      rw [Nat.add_mul] at this
      have e2 : ¬ a * 256 ^ l.length + nm l < b * 256 ^ l.length + nm l' := by omega
      have e3 : ¬ a < b := by omega
      have e4 : ¬ a = b := by omega
      simp [e2, e3, e4]
theorem bs_list (l : List Nat) : (bs l).toList = l.map UInt8.ofNat := by rw [ByteArray.toList_eq]; simp [bs]

noncomputable def C7 : Cf := { P := Try.prog, G := 0, fn := tab [(8, ir8)], pol := fun _ => .gen, al := fun _ => false, X := xtab [(32, XAlive), (33, XPutF List.reverse)] }
theorem C7_32 : C7.X 32 = some XAlive := rfl
theorem C7_33 : C7.X 33 = some (XPutF List.reverse) := rfl
theorem C7_ok : C7.Ok := .mk' (by kernel_rfl) (all_cons ⟨_, Try.func8, cmp8, nm8⟩ all_nil) (all_cons x32 (all_cons x33 all_nil))
theorem put8 (N : Nat) (hN : N < 2 ^ 64) : putV List.reverse N 8 = (bs (dg N 8).reverse, 0) := by
  rw [putV, if_neg (by omega), if_pos]; rfl
  exact hN
theorem less8 (a b : Nat) (ha : a < 2 ^ 64) (hb : b < 2 ^ 64) : Op.bytesLess (bs (dg a 8).reverse).toList (bs (dg b 8).reverse).toList = decide (a < b) := by
  rw [bs_list, bs_list, less_nm _ _ (by simp [dg_length]) (fun x h => dg_lt a 8 x (by simpa using h)) (fun x h => dg_lt b 8 x (by simpa using h)), dg_nm 8 a ha, dg_nm 8 b hb]
theorem eq8 (a b : Nat) (ha : a < 2 ^ 64) (hb : b < 2 ^ 64) : (bs (dg a 8).reverse = bs (dg b 8).reverse) = (a = b) := by
  apply propext
  constructor
  · intro h
    have := congrArg bl h
    rw [bl_bs _ (fun x h => dg_lt a 8 x (by simpa using h)), bl_bs _ (fun x h => dg_lt b 8 x (by simpa using h))] at this
    rw [← dg_nm 8 a ha, this, dg_nm 8 b hb]
  · rintro rfl; rfl
theorem w8 (a b : Nat) (ha : a < 2 ^ 64) (hb : b < 2 ^ 64) (k : Nat) : Run (fun v H' => v = .bool true) mk (acall C7 (k + 1) 8 [.int .u64 (a : Int), .int .u64 (b : Int)] [] ⟨0, 0⟩) := by
  refine Run_call (F := ir8) rfl (Nat.le_of_ble_eq_true rfl) ?_
  simp only [ir8]
  (repeat' first
    | (refine CondV_dec (fun _ => ?_) (fun _ => ?_) <;> try (exfalso; omega))
    | (refine GuardV_td (fun _ => ?_) (fun _ => ?_) <;> try (exfalso; omega))
    | (refine GuardV_fd (fun _ => ?_) (fun _ => ?_) <;> try (exfalso; omega))
    | (refine CondV_split (fun _ => ?_) (fun _ => ?_))
    | (refine Need_of (by first | omega | decide) ?_)
    | simp (disch := first | omega | (simp only [List.length_append, List.length_set, List.length_cons, List.length_nil] <;> omega)) only [WpC_skip, WpC_exit, WpC_ret, WpC_seq, WpC_reg, WpC_draw, WpC_block, WpC_cond, WpO_cons, WpO_nil, WpO_guard, WpD_cons, WpD_nil, WpD_guard, ↓astep, ↓aop, aBin, aInt, aStr, aUn, aNil, aMax, ↓oev_t, ↓oev_c, Run_some, Run_ite, Run_ite', map_ite, map_ite', bind_ite, Option.map_some, Option.bind_some, Option.map_none, Option.bind_none, CondV_true, CondV_false, GuardV_tt, GuardV_tf, GuardV_ft, GuardV_ff, GuardV_undef, SeqK_normal, SeqK_exit, SeqK_ret, EndK_ret, EndK_normal, ResK_some, aresults, ares, aPack, blkX_exit, blkX_normal, blkX_ret, Env_put_some, Env_put_none, ↓Env_set_at, ↓reduceIte, ↓reduceCtorEq, Nat.reduceEqDiff, Nat.reduceAdd, env0, List.getElem?_cons_zero, List.getElem?_cons_succ, Option.getD_some, decide_eq_true_eq, decide_eq_false_iff_not, Bool.not_eq_true', Bool.not_true, Bool.not_false, ixs_get, bytesL_get, bytesL_length, aLoad, cellsOf, List.map_cons, List.map_nil, ne_eq, not_true_eq_false, not_false_eq_true, true_and, and_true, false_and, and_false, true_implies, implies_true, false_implies, Nat.zero_add, decide_true, decide_false, Nat.mul_one, Need_true, int_beq, int_bne, not_dec, wrap_i64, wrap_u64, wrap_u8, wrap_u16, wrap_u32, tmod_nn, tdiv_nn, min_bits, Int.toNat_natCast, wrap_or, Int.reduceEq, Int.reduceLT, Int.reduceLE, Nat.reduceLeDiff, cells_int, cells_bool, cells_string, cells_pointer, cells_slice, cells_map, cells_func, cells_nilFunc, cells_iface, cells_nilIface, cells_agg, arr1_size, arr1_list, List.all_cons, List.all_nil, Bool.and_true, Bool.and_self, oneC, List.length_cons, List.length_nil, aop.fillL, setL, List.set_cons_zero, List.set_cons_succ, aApp, rowOf, get_last, List.drop_zero, List.take_succ_cons, List.take_zero, List.drop_succ_cons, List.take_nil, List.drop_nil, bv_length, bv_take, allBytes_bv, allBytes_snoc, allBytes_one, List.length_append, get_at, bv_snoc, bv_take_le, Nat.le_refl, ↓acallop, List.toList_toArray, List.append_nil, List.nil_append, aBound, aIntOf, ByteArray.size_extract, eq_self, flat, flatN, bs_size, C7_32, C7_33, XAlive_eq, XPutF_eq, put8 a ha, put8 b hb, seV, less8 a b ha hb, eq8 a b ha hb])
  all_goals simp_all
  all_goals omega
end Ev
end Go.Proofs.Ytlcfanmmpfmnaaa
