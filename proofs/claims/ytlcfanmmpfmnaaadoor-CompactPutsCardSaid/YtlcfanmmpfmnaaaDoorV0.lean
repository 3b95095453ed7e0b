/-
  The package fixed, and the numbers of bytes: what their functions answer.
-/
import Derived.Test.YtlcfanmmpfmnaaaDoorIrDr
namespace Go.Proofs.YtlcfanmmpfmnaaaDoor
namespace Ev
namespace F4
open Tag (mk)
open Tag (mk)
set_option linter.unusedSimpArgs false
set_option linter.unusedVariables false
set_option maxRecDepth 4000
set_option maxHeartbeats 4000000
noncomputable def D0 : Cf := CX (xtab []) (polt [])
theorem D0_ok : D0.Ok := CX_ok all_nil al_no
def XAlive (args : List Value) : Option Value := match args with
  | [] => some (.bool true)
  | _ => none
theorem XAlive_eq : XAlive [] = some (.bool true) := rfl

theorem bl_bs' (l : List Nat) : bl (bs l) = l.map (· % 256) := by
  simp only [bl, bs, List.toList_toArray, List.map_map]
  apply List.map_congr_left
  intro b _
  simp
theorem bs_eq (l : List Nat) : ({ data := (l.map UInt8.ofNat).toArray } : ByteArray) = bs l := rfl
theorem bs_one (b : Nat) : ({ data := #[UInt8.ofNat b] } : ByteArray) = bs [b] := rfl
theorem bs_cons (b : Nat) (l : List Nat) : bs [b] ++ bs l = bs (b :: l) := bl_inj (by rw [bl_append, bl_bs', bl_bs', bl_bs']; simp)
noncomputable def C5 : Cf := CX (xtab []) (polt [])
theorem C5_ok : C5.Ok := CX_ok all_nil al_no
theorem C5_X (f : FuncId) : C5.X f = none := rfl
theorem C5_pol (f : FuncId) : C5.pol f = .gen := rfl
theorem Run_ex2 {v : Value} {H' : Heap} {t : Tag fun v' (H'' : Heap) => v' = v ∧ H'' = H'} {r : Option (Value × Heap)} (h : Run (fun v' H'' => v' = v ∧ H'' = H') t r) : r = some (v, H') := by
  unfold Run at h
  split at h
  · obtain ⟨rfl, rfl⟩ := h; rfl
  · exact h.elim
theorem bv_set (l : List Nat) (i x : Nat) : (bv l).set i (.int .u8 (x : Int)) = bv (l.set i x) := by simp [bv, List.map_set]
theorem bv_zeros (n : Nat) : (List.replicate n [Value.int .u8 0]).flatten = bv (List.replicate n 0) := by
  induction n with
  | zero => rfl
  | succ n ih => rw [List.replicate_succ, List.flatten_cons, ih, List.replicate_succ]; rfl
theorem set_at {H : Heap} {o o' : AObj} {k : Nat} (h : H.length = k) : (H ++ [o]).set k o' = H ++ [o'] := by
  subst h; simp
theorem fdiv_nn (a : Int) (s : Nat) (ha : 0 ≤ a) : a.fdiv (2 ^ s) = a / 2 ^ s := Int.fdiv_eq_ediv_of_nonneg _ (Int.le_of_lt (Int.pow_pos (by omega)))

/-! ## The digits -/
def dg (N sz : Nat) : List Nat := (List.range sz).map fun i => N / 2 ^ (8 * i) % 256
def I61 (N sz : Nat) (H0 : Heap) (n : Nat) (e : Env) (H : Heap) : Prop :=
  ∃ (i : Nat) (l : List Nat), i + n = sz ∧ l.length = sz ∧ (∀ j, j < i → l[j]? = some (N / 2 ^ (8 * j) % 256)) ∧ e 0 = .int .u64 (N : Int) ∧ e 5 = .slice (some ⟨H0.length, 0, none⟩) sz 1 ∧ e 10 = .int .i64 (sz : Int) ∧ e 11 = .int .i64 (i : Int) ∧
    H = H0 ++ [.cells (bv l) 5 true]

theorem w61 (N sz : Nat) (hN : N < 2 ^ 64) (hs : sz ≤ 8) (k : Nat) (hk : sz < k) (H : Heap) (m : Ev.Mode) (hl : m.lim ≤ H.length) (hf : m.fb ≤ H.length) :
    Run (fun v H' => v = .slice (some ⟨H.length, 0, none⟩) sz 1 ∧ H' = H ++ [.cells (bv (dg N sz)) 5 true]) mk (acall C5 (k + 1) 32 [.int .u64 (N : Int), .int .i64 (sz : Int)] H m) := by
  refine Run_call (F := ir32) rfl (Nat.le_of_ble_eq_true rfl) ?_
  simp only [ir32]
  (repeat' first
    | (refine CondV_dec (fun _ => ?_) (fun _ => ?_) <;> try (exfalso; omega))
    | (refine GuardV_td (fun _ => ?_) (fun _ => ?_) <;> try (exfalso; omega))
    | (refine GuardV_fd (fun _ => ?_) (fun _ => ?_) <;> try (exfalso; omega))
    | (refine CondV_split (fun _ => ?_) (fun _ => ?_))
    | (refine Need_of (by first | omega | decide) ?_)
    | refine WpK_cons ?_ ?_
    | refine WpK_guard ?_
    | simp (disch := first | omega | simp only [List.length_append, List.length_set, List.length_cons, List.length_nil] <;> omega | fail) only [evA, ↓evB, ↓astep, ↓aop, aBin, aInt, aStr, aUn, aNil, aMax, aresults, ares, aPack, ↓reduceIte, ↓reduceCtorEq, Nat.reduceEqDiff, Nat.reduceAdd, env0, aLoad, aLoadN, cellsOf, Int.reduceEq, Int.reduceLT, Int.reduceLE, Nat.reduceLeDiff, oneC, aop.fillL, setL, aApp, aAppC_nil, aAppC_own, xop, eqCells, eqCell, rowOf, ↓acallop, aBound, aIntOf, flat, flatN, CX_fn, CX_X, CX_pol, aStore, Nat.reduceBEq, List.size_toArray, Int.sub_zero, Int.zero_add, Int.add_zero, Int.toNat_zero, Int.reduceAdd, Int.reduceSub, Int.reduceMul, Int.reduceNeg, Int.reduceToNat, Nat.reduceSub, Nat.reduceMul, Int.natCast_zero, Int.reduceDiv, Int.reduceMod, Int.toNat_natCast, fdiv_nn, min_bits_i, Int.reducePow, Nat.reducePow, Nat.reduceDiv, Nat.reduceMod, mb_i, mb_u, WpC_drawD, WpT_nil, WpT_cons, WpT_guard, WpK_nil, scal, bv_zeros])
  refine WpC_loop (I61 N sz H) ?_ (n := sz) hk ?_
  · rintro n e H1 ⟨i, l, hi, hlen, hj, h0, h5, h10, h11, rfl⟩
    have q1 : ((N : Int) / 2 ^ (8 * i)) = ((N / 2 ^ (8 * i) : Nat) : Int) := by push_cast; rfl
    have q2 : (8 * (i : Int)).toNat = 8 * i := by omega
    have q3 : i < sz → min (8 * i) IntKind.u64.bits = 8 * i := fun h => by
      have : IntKind.u64.bits = 64 := rfl
      omega
    have q4 : IntKind.u8.wrap ((N / 2 ^ (8 * i) : Nat) : Int) = ((N / 2 ^ (8 * i) % 256 : Nat) : Int) := by rw [IntKind.wrap_u8]; omega
    simp only [lp32_0, evA, ↓evB, ↓astep, ↓aop, aBin, aInt, aStr, aUn, aNil, aMax, aresults, ares, aPack, ↓reduceIte, ↓reduceCtorEq, Nat.reduceEqDiff, Nat.reduceAdd, env0, aLoad, aLoadN, cellsOf, Int.reduceEq, Int.reduceLT, Int.reduceLE, Nat.reduceLeDiff, oneC, aop.fillL, setL, aApp, aAppC_nil, aAppC_own, xop, eqCells, eqCell, rowOf, ↓acallop, aBound, aIntOf, flat, flatN, CX_fn, CX_X, CX_pol, aStore, Nat.reduceBEq, List.size_toArray, Int.sub_zero, Int.zero_add, Int.add_zero, Int.toNat_zero, Int.reduceAdd, Int.reduceSub, Int.reduceMul, Int.reduceNeg, Int.reduceToNat, Nat.reduceSub, Nat.reduceMul, Int.natCast_zero, Int.reduceDiv, Int.reduceMod, Int.toNat_natCast, fdiv_nn, min_bits_i, Int.reducePow, Nat.reducePow, Nat.reduceDiv, Nat.reduceMod, mb_i, mb_u, WpC_drawD, WpT_nil, WpT_cons, WpT_guard, WpK_nil, scal, h0, h5, h10, h11]
    refine CondV_dec (fun hc => ?_) (fun hc => ?_)
    · have q3 := q3 (by omega)
      (repeat' first
    | (refine CondV_dec (fun _ => ?_) (fun _ => ?_) <;> try (exfalso; omega))
    | (refine GuardV_td (fun _ => ?_) (fun _ => ?_) <;> try (exfalso; omega))
    | (refine GuardV_fd (fun _ => ?_) (fun _ => ?_) <;> try (exfalso; omega))
    | (refine CondV_split (fun _ => ?_) (fun _ => ?_))
    | (refine Need_of (by first | omega | decide) ?_)
    | refine WpK_cons ?_ ?_
    | refine WpK_guard ?_
    | simp (disch := first | omega | simp only [List.length_append, List.length_set, List.length_cons, List.length_nil] <;> omega | fail) only [evA, ↓evB, ↓astep, ↓aop, aBin, aInt, aStr, aUn, aNil, aMax, aresults, ares, aPack, ↓reduceIte, ↓reduceCtorEq, Nat.reduceEqDiff, Nat.reduceAdd, env0, aLoad, aLoadN, cellsOf, Int.reduceEq, Int.reduceLT, Int.reduceLE, Nat.reduceLeDiff, oneC, aop.fillL, setL, aApp, aAppC_nil, aAppC_own, xop, eqCells, eqCell, rowOf, ↓acallop, aBound, aIntOf, flat, flatN, CX_fn, CX_X, CX_pol, aStore, Nat.reduceBEq, List.size_toArray, Int.sub_zero, Int.zero_add, Int.add_zero, Int.toNat_zero, Int.reduceAdd, Int.reduceSub, Int.reduceMul, Int.reduceNeg, Int.reduceToNat, Nat.reduceSub, Nat.reduceMul, Int.natCast_zero, Int.reduceDiv, Int.reduceMod, Int.toNat_natCast, fdiv_nn, min_bits_i, Int.reducePow, Nat.reducePow, Nat.reduceDiv, Nat.reduceMod, mb_i, mb_u, WpC_drawD, WpT_nil, WpT_cons, WpT_guard, WpK_nil, scal, h0, h5, h10, h11, fdiv_nn, q1, q2, q3, q4, aStore, set_at, bv_set])
      refine ⟨n - 1, by omega, i + 1, l.set i (N / 2 ^ (8 * i) % 256), by omega, by simpa using hlen, fun j hji => ?_, ?_, ?_, ?_, ?_, rfl⟩
      · rw [List.getElem?_set]
        by_cases h : i = j
        · subst h; rw [if_pos rfl, if_pos (by omega)]
        · rw [if_neg h]; exact hj j (by omega)
      · (first | rfl | (simp only [Env_put_some, Env_put_none, ↓Env_set_at, ↓reduceIte, Nat.reduceEqDiff, h0] <;> rfl))
      · (first | rfl | (simp only [Env_put_some, Env_put_none, ↓Env_set_at, ↓reduceIte, Nat.reduceEqDiff, h5] <;> rfl))
      · (first | rfl | (simp only [Env_put_some, Env_put_none, ↓Env_set_at, ↓reduceIte, Nat.reduceEqDiff, h10] <;> rfl))
      · (first | rfl | (simp only [Env_put_some, Env_put_none, ↓Env_set_at, ↓reduceIte, Nat.reduceEqDiff] <;> rfl))
    · (repeat' first
    | (refine CondV_dec (fun _ => ?_) (fun _ => ?_) <;> try (exfalso; omega))
    | (refine GuardV_td (fun _ => ?_) (fun _ => ?_) <;> try (exfalso; omega))
    | (refine GuardV_fd (fun _ => ?_) (fun _ => ?_) <;> try (exfalso; omega))
    | (refine CondV_split (fun _ => ?_) (fun _ => ?_))
    | (refine Need_of (by first | omega | decide) ?_)
    | refine WpK_cons ?_ ?_
    | refine WpK_guard ?_
    | simp (disch := first | omega | simp only [List.length_append, List.length_set, List.length_cons, List.length_nil] <;> omega | fail) only [evA, ↓evB, ↓astep, ↓aop, aBin, aInt, aStr, aUn, aNil, aMax, aresults, ares, aPack, ↓reduceIte, ↓reduceCtorEq, Nat.reduceEqDiff, Nat.reduceAdd, env0, aLoad, aLoadN, cellsOf, Int.reduceEq, Int.reduceLT, Int.reduceLE, Nat.reduceLeDiff, oneC, aop.fillL, setL, aApp, aAppC_nil, aAppC_own, xop, eqCells, eqCell, rowOf, ↓acallop, aBound, aIntOf, flat, flatN, CX_fn, CX_X, CX_pol, aStore, Nat.reduceBEq, List.size_toArray, Int.sub_zero, Int.zero_add, Int.add_zero, Int.toNat_zero, Int.reduceAdd, Int.reduceSub, Int.reduceMul, Int.reduceNeg, Int.reduceToNat, Nat.reduceSub, Nat.reduceMul, Int.natCast_zero, Int.reduceDiv, Int.reduceMod, Int.toNat_natCast, fdiv_nn, min_bits_i, Int.reducePow, Nat.reducePow, Nat.reduceDiv, Nat.reduceMod, mb_i, mb_u, WpC_drawD, WpT_nil, WpT_cons, WpT_guard, WpK_nil, scal, h0, h5, h10, h11])
      have : l = dg N sz := by
        apply List.ext_getElem?
        intro j
        rcases Nat.lt_or_ge j sz with h | h
        · rw [hj j (by omega), dg, List.getElem?_map, List.getElem?_range h]; rfl
        · rw [List.getElem?_eq_none (by omega), List.getElem?_eq_none (by simp [dg]; omega)]
      rw [this]
  · exact ⟨0, List.replicate sz 0, by omega, by simp, fun j h => by omega, rfl, rfl, rfl, rfl, rfl⟩

/-! ## Turning a row round -/
def I58 (l : List Nat) (T J : Nat) (H0 : Heap) (n : Nat) (e : Env) (H : Heap) : Prop :=
  ∃ (i j : Int) (l' : List Nat), 0 ≤ i ∧ i + j + 1 = l.length ∧ -1 ≤ j ∧ (n : Int) = j + 1 ∧ l'.length = l.length ∧
    (∀ t : Nat, t < l.length → l'[t]? = if (t : Int) < i ∨ j < (t : Int) then l[l.length - 1 - t]? else l[t]?) ∧
    e 0 = .slice (some ⟨J, 0, none⟩) l.length 1 ∧ e 2 = .int .i64 i ∧ e 3 = .int .i64 j ∧ J < H0.length ∧ H = H0.set J (.cells (bv l') T true)

theorem w58 (l : List Nat) (hlen : l.length < 2 ^ 62) (T J : Nat) (k : Nat) (hk : l.length < k) (H : Heap) (m : Ev.Mode) (hJ : H[J]? = some (.cells (bv l) T true)) (hl : m.lim ≤ J) :
    Run (fun v H' => v = .tuple #[] ∧ H' = H.set J (.cells (bv l.reverse) T true)) mk (acall C5 (k + 1) 28 [.slice (some ⟨J, 0, none⟩) l.length 1] H m) := by
  have hJlt := lt_of_get hJ
  refine Run_call (F := ir28) rfl (Nat.le_of_ble_eq_true rfl) ?_
  simp only [ir28]
  (repeat' first
    | (refine CondV_dec (fun _ => ?_) (fun _ => ?_) <;> try (exfalso; omega))
    | (refine GuardV_td (fun _ => ?_) (fun _ => ?_) <;> try (exfalso; omega))
    | (refine GuardV_fd (fun _ => ?_) (fun _ => ?_) <;> try (exfalso; omega))
    | (refine CondV_split (fun _ => ?_) (fun _ => ?_))
    | (refine Need_of (by first | omega | decide) ?_)
    | refine WpK_cons ?_ ?_
    | refine WpK_guard ?_
    | simp (disch := first | omega | simp only [List.length_append, List.length_set, List.length_cons, List.length_nil] <;> omega | fail) only [evA, ↓evB, ↓astep, ↓aop, aBin, aInt, aStr, aUn, aNil, aMax, aresults, ares, aPack, ↓reduceIte, ↓reduceCtorEq, Nat.reduceEqDiff, Nat.reduceAdd, env0, aLoad, aLoadN, cellsOf, Int.reduceEq, Int.reduceLT, Int.reduceLE, Nat.reduceLeDiff, oneC, aop.fillL, setL, aApp, aAppC_nil, aAppC_own, xop, eqCells, eqCell, rowOf, ↓acallop, aBound, aIntOf, flat, flatN, CX_fn, CX_X, CX_pol, aStore, Nat.reduceBEq, List.size_toArray, Int.sub_zero, Int.zero_add, Int.add_zero, Int.toNat_zero, Int.reduceAdd, Int.reduceSub, Int.reduceMul, Int.reduceNeg, Int.reduceToNat, Nat.reduceSub, Nat.reduceMul, Int.natCast_zero, Int.reduceDiv, Int.reduceMod, Int.toNat_natCast, fdiv_nn, min_bits_i, Int.reducePow, Nat.reducePow, Nat.reduceDiv, Nat.reduceMod, mb_i, mb_u, WpC_drawD, WpT_nil, WpT_cons, WpT_guard, WpK_nil, scal])
  refine WpC_loop (I58 l T J H) ?_ (n := l.length) hk ?_
  · rintro n e H1 ⟨i, j, l', hi, hij, hj, hn, hl', hg, h0, h2, h3, _, rfl⟩
    have hgJ : ∀ o : AObj, (H.set J o)[J]? = some o := fun o => by simp [hJlt]
    simp only [lp28_0, evA, ↓evB, ↓astep, ↓aop, aBin, aInt, aStr, aUn, aNil, aMax, aresults, ares, aPack, ↓reduceIte, ↓reduceCtorEq, Nat.reduceEqDiff, Nat.reduceAdd, env0, aLoad, aLoadN, cellsOf, Int.reduceEq, Int.reduceLT, Int.reduceLE, Nat.reduceLeDiff, oneC, aop.fillL, setL, aApp, aAppC_nil, aAppC_own, xop, eqCells, eqCell, rowOf, ↓acallop, aBound, aIntOf, flat, flatN, CX_fn, CX_X, CX_pol, aStore, Nat.reduceBEq, List.size_toArray, Int.sub_zero, Int.zero_add, Int.add_zero, Int.toNat_zero, Int.reduceAdd, Int.reduceSub, Int.reduceMul, Int.reduceNeg, Int.reduceToNat, Nat.reduceSub, Nat.reduceMul, Int.natCast_zero, Int.reduceDiv, Int.reduceMod, Int.toNat_natCast, fdiv_nn, min_bits_i, Int.reducePow, Nat.reducePow, Nat.reduceDiv, Nat.reduceMod, mb_i, mb_u, WpC_drawD, WpT_nil, WpT_cons, WpT_guard, WpK_nil, scal, h0, h2, h3]
    refine CondV_dec (fun hc => ?_) (fun hc => ?_)
    · have b1 : (bv l')[i.toNat]? = some (.int .u8 ((l'.getD i.toNat 0 : Nat) : Int)) := by rw [bv_get, if_pos (by omega)]
      have b2 : (bv l')[j.toNat]? = some (.int .u8 ((l'.getD j.toNat 0 : Nat) : Int)) := by rw [bv_get, if_pos (by omega)]
      obtain ⟨x, hx⟩ : ∃ x, l[i.toNat]? = some x := ⟨_, List.getElem?_eq_getElem (by omega)⟩
      obtain ⟨y, hy⟩ : ∃ y, l[j.toNat]? = some y := ⟨_, List.getElem?_eq_getElem (by omega)⟩
      have gi : l'.getD i.toNat 0 = x := by rw [List.getD_eq_getElem?_getD, hg _ (by omega), if_neg (by omega), hx]; rfl
      have gj : l'.getD j.toNat 0 = y := by rw [List.getD_eq_getElem?_getD, hg _ (by omega), if_neg (by omega), hy]; rfl
      rw [gi] at b1
      rw [gj] at b2
      (repeat' first
    | (refine CondV_dec (fun _ => ?_) (fun _ => ?_) <;> try (exfalso; omega))
    | (refine GuardV_td (fun _ => ?_) (fun _ => ?_) <;> try (exfalso; omega))
    | (refine GuardV_fd (fun _ => ?_) (fun _ => ?_) <;> try (exfalso; omega))
    | (refine CondV_split (fun _ => ?_) (fun _ => ?_))
    | (refine Need_of (by first | omega | decide) ?_)
    | refine WpK_cons ?_ ?_
    | refine WpK_guard ?_
    | simp (disch := first | omega | simp only [List.length_append, List.length_set, List.length_cons, List.length_nil] <;> omega | fail) only [evA, ↓evB, ↓astep, ↓aop, aBin, aInt, aStr, aUn, aNil, aMax, aresults, ares, aPack, ↓reduceIte, ↓reduceCtorEq, Nat.reduceEqDiff, Nat.reduceAdd, env0, aLoad, aLoadN, cellsOf, Int.reduceEq, Int.reduceLT, Int.reduceLE, Nat.reduceLeDiff, oneC, aop.fillL, setL, aApp, aAppC_nil, aAppC_own, xop, eqCells, eqCell, rowOf, ↓acallop, aBound, aIntOf, flat, flatN, CX_fn, CX_X, CX_pol, aStore, Nat.reduceBEq, List.size_toArray, Int.sub_zero, Int.zero_add, Int.add_zero, Int.toNat_zero, Int.reduceAdd, Int.reduceSub, Int.reduceMul, Int.reduceNeg, Int.reduceToNat, Nat.reduceSub, Nat.reduceMul, Int.natCast_zero, Int.reduceDiv, Int.reduceMod, Int.toNat_natCast, fdiv_nn, min_bits_i, Int.reducePow, Nat.reducePow, Nat.reduceDiv, Nat.reduceMod, mb_i, mb_u, WpC_drawD, WpT_nil, WpT_cons, WpT_guard, WpK_nil, scal, h0, h2, h3, hgJ, b1, b2, aStore, bv_set, List.set_set, List.length_set])
      refine ⟨n - 1, by omega, i + 1, j - 1, (l'.set i.toNat y).set j.toNat x, by omega, by omega, by omega, by omega, by simp [hl'], fun t ht => ?_, ?_, ?_, ?_, hJlt, rfl⟩
      · rw [List.getElem?_set, List.getElem?_set]
        by_cases h1 : j.toNat = t
        · rw [if_pos h1, if_pos (by simp; omega), if_pos (by omega), ← hx]; congr 1; omega
        · rw [if_neg h1]
          by_cases h2 : i.toNat = t
          · rw [if_pos h2, if_pos (by omega), if_pos (by omega), ← hy]; congr 1; omega
          · rw [if_neg h2, hg t ht]
            by_cases h3 : (t : Int) < i ∨ j < (t : Int)
            · rw [if_pos h3, if_pos (by omega)]
            · rw [if_neg h3, if_neg (by omega)]
      · (first | rfl | (simp only [Env_put_some, Env_put_none, ↓Env_set_at, ↓reduceIte, Nat.reduceEqDiff, h0] <;> rfl))
      · (first | rfl | (simp only [Env_put_some, Env_put_none, ↓Env_set_at, ↓reduceIte, Nat.reduceEqDiff, h2] <;> rfl))
      · (first | rfl | (simp only [Env_put_some, Env_put_none, ↓Env_set_at, ↓reduceIte, Nat.reduceEqDiff, h3] <;> rfl))
    · (repeat' first
    | (refine CondV_dec (fun _ => ?_) (fun _ => ?_) <;> try (exfalso; omega))
    | (refine GuardV_td (fun _ => ?_) (fun _ => ?_) <;> try (exfalso; omega))
    | (refine GuardV_fd (fun _ => ?_) (fun _ => ?_) <;> try (exfalso; omega))
    | (refine CondV_split (fun _ => ?_) (fun _ => ?_))
    | (refine Need_of (by first | omega | decide) ?_)
    | refine WpK_cons ?_ ?_
    | refine WpK_guard ?_
    | simp (disch := first | omega | simp only [List.length_append, List.length_set, List.length_cons, List.length_nil] <;> omega | fail) only [evA, ↓evB, ↓astep, ↓aop, aBin, aInt, aStr, aUn, aNil, aMax, aresults, ares, aPack, ↓reduceIte, ↓reduceCtorEq, Nat.reduceEqDiff, Nat.reduceAdd, env0, aLoad, aLoadN, cellsOf, Int.reduceEq, Int.reduceLT, Int.reduceLE, Nat.reduceLeDiff, oneC, aop.fillL, setL, aApp, aAppC_nil, aAppC_own, xop, eqCells, eqCell, rowOf, ↓acallop, aBound, aIntOf, flat, flatN, CX_fn, CX_X, CX_pol, aStore, Nat.reduceBEq, List.size_toArray, Int.sub_zero, Int.zero_add, Int.add_zero, Int.toNat_zero, Int.reduceAdd, Int.reduceSub, Int.reduceMul, Int.reduceNeg, Int.reduceToNat, Nat.reduceSub, Nat.reduceMul, Int.natCast_zero, Int.reduceDiv, Int.reduceMod, Int.toNat_natCast, fdiv_nn, min_bits_i, Int.reducePow, Nat.reducePow, Nat.reduceDiv, Nat.reduceMod, mb_i, mb_u, WpC_drawD, WpT_nil, WpT_cons, WpT_guard, WpK_nil, scal, h0, h2, h3])
      have : l' = l.reverse := by
        apply List.ext_getElem?
        intro t
        rcases Nat.lt_or_ge t l.length with h | h
        · rw [hg t h, List.getElem?_reverse h]
          split
          · rfl
          · congr 1; omega
        · rw [List.getElem?_eq_none (by omega), List.getElem?_eq_none (by simp; omega)]
      rw [this]
  · refine ⟨0, (l.length : Int) - 1, l, by omega, by omega, by omega, by omega, rfl, fun t ht => ?_, rfl, rfl, rfl, hJlt, ?_⟩
    · rw [if_neg (by omega)]
    · apply List.ext_getElem?
      intro t
      rw [List.getElem?_set]
      split
      · rename_i h; subst h; rw [hJ]
      · rfl

/-! ## A number of digits -/
def nm (l : List Nat) : Nat := l.foldl (fun n b => n * 256 + b) 0
theorem nm_foldl : ∀ (l : List Nat) (a j : Nat), (∀ b ∈ l, b < 256) → a < 2 ^ (8 * j) → l.foldl (fun n b => n * 256 + b) a < 2 ^ (8 * (j + l.length))
  | [], a, j, _, h => by simpa using h
  | b :: l, a, j, hb, h => by
    simp only [List.foldl_cons]
    have h0 := hb b (by simp)
    have := nm_foldl l (a * 256 + b) (j + 1) (fun b h => hb b (by simp [h])) (by
      rw [show 8 * (j + 1) = 8 * j + 8 by omega, Nat.pow_add]; omega)
    rw [List.length_cons, show j + (l.length + 1) = j + 1 + l.length by omega]
    exact this
theorem or_byte (a b : Nat) (hb : b < 256) : a * 256 ||| b = a * 256 + b := by
  have := Nat.two_pow_add_eq_or_of_lt (show b < 2 ^ 8 from hb) a
  rw [Nat.mul_comm a 256, show (256 : Nat) = 2 ^ 8 from rfl, ← this]

def I62 (l : List Nat) (T J : Nat) (H0 : Heap) (n : Nat) (e : Env) (H : Heap) : Prop :=
  ∃ (i a : Nat), i + n = l.length ∧ a < 2 ^ (8 * i) ∧ (l.drop i).foldl (fun n b => n * 256 + b) a = nm l ∧ e 3 = .int .u64 (a : Int) ∧ e 6 = .slice (some ⟨J, 0, none⟩) l.length 1 ∧ e 7 = .int .i64 (l.length : Int) ∧ e 8 = .int .i64 (i : Int) ∧ H = H0

theorem w62 (l : List Nat) (hlen : l.length ≤ 8) (hb : ∀ b ∈ l, b < 256) (T J : Nat) (k : Nat) (hk : l.length < k) (H : Heap) (m : Ev.Mode) (own : Bool) (hJ : H[J]? = some (.cells (bv l) T own)) :
    Run (fun v H' => v = .int .u64 (nm l : Int) ∧ H' = H) mk (acall C5 (k + 1) 33 [.slice (some ⟨J, 0, none⟩) l.length 1] H m) := by
  refine Run_call (F := ir33) rfl (Nat.le_of_ble_eq_true rfl) ?_
  simp only [ir33]
  (repeat' first
    | (refine CondV_dec (fun _ => ?_) (fun _ => ?_) <;> try (exfalso; omega))
    | (refine GuardV_td (fun _ => ?_) (fun _ => ?_) <;> try (exfalso; omega))
    | (refine GuardV_fd (fun _ => ?_) (fun _ => ?_) <;> try (exfalso; omega))
    | (refine CondV_split (fun _ => ?_) (fun _ => ?_))
    | (refine Need_of (by first | omega | decide) ?_)
    | refine WpK_cons ?_ ?_
    | refine WpK_guard ?_
    | simp (disch := first | omega | simp only [List.length_append, List.length_set, List.length_cons, List.length_nil] <;> omega | fail) only [evA, ↓evB, ↓astep, ↓aop, aBin, aInt, aStr, aUn, aNil, aMax, aresults, ares, aPack, ↓reduceIte, ↓reduceCtorEq, Nat.reduceEqDiff, Nat.reduceAdd, env0, aLoad, aLoadN, cellsOf, Int.reduceEq, Int.reduceLT, Int.reduceLE, Nat.reduceLeDiff, oneC, aop.fillL, setL, aApp, aAppC_nil, aAppC_own, xop, eqCells, eqCell, rowOf, ↓acallop, aBound, aIntOf, flat, flatN, CX_fn, CX_X, CX_pol, aStore, Nat.reduceBEq, List.size_toArray, Int.sub_zero, Int.zero_add, Int.add_zero, Int.toNat_zero, Int.reduceAdd, Int.reduceSub, Int.reduceMul, Int.reduceNeg, Int.reduceToNat, Nat.reduceSub, Nat.reduceMul, Int.natCast_zero, Int.reduceDiv, Int.reduceMod, Int.toNat_natCast, fdiv_nn, min_bits_i, Int.reducePow, Nat.reducePow, Nat.reduceDiv, Nat.reduceMod, mb_i, mb_u, WpC_drawD, WpT_nil, WpT_cons, WpT_guard, WpK_nil, scal])
  refine WpC_loop (I62 l T J H) ?_ (n := l.length) hk ?_
  · rintro n e H1 ⟨i, a, hi, ha, hr, h3, h6, h7, h8, rfl⟩
    simp only [lp33_0, evA, ↓evB, ↓astep, ↓aop, aBin, aInt, aStr, aUn, aNil, aMax, aresults, ares, aPack, ↓reduceIte, ↓reduceCtorEq, Nat.reduceEqDiff, Nat.reduceAdd, env0, aLoad, aLoadN, cellsOf, Int.reduceEq, Int.reduceLT, Int.reduceLE, Nat.reduceLeDiff, oneC, aop.fillL, setL, aApp, aAppC_nil, aAppC_own, xop, eqCells, eqCell, rowOf, ↓acallop, aBound, aIntOf, flat, flatN, CX_fn, CX_X, CX_pol, aStore, Nat.reduceBEq, List.size_toArray, Int.sub_zero, Int.zero_add, Int.add_zero, Int.toNat_zero, Int.reduceAdd, Int.reduceSub, Int.reduceMul, Int.reduceNeg, Int.reduceToNat, Nat.reduceSub, Nat.reduceMul, Int.natCast_zero, Int.reduceDiv, Int.reduceMod, Int.toNat_natCast, fdiv_nn, min_bits_i, Int.reducePow, Nat.reducePow, Nat.reduceDiv, Nat.reduceMod, mb_i, mb_u, WpC_drawD, WpT_nil, WpT_cons, WpT_guard, WpK_nil, scal, h6, h7, h8]
    refine CondV_dec (fun hc => ?_) (fun hc => ?_)
    · have hbi : l.getD i 0 < 256 := by
        rw [List.getD_eq_getElem?_getD, List.getElem?_eq_getElem (by omega)]
        exact hb _ (List.getElem_mem _)
      have b1 : (bv l)[i]? = some (.int .u8 ((l.getD i 0 : Nat) : Int)) := by rw [bv_get, if_pos (by omega)]
      have ha56 : a < 2 ^ 56 := Nat.lt_of_lt_of_le ha (Nat.pow_le_pow_right (by omega) (by omega))
      have q1 : IntKind.u64.wrap ((a : Int) * 2 ^ Int.toNat 8) = ((a * 256 : Nat) : Int) := by
        rw [show Int.toNat 8 = 8 from rfl, show ((a : Int) * 2 ^ 8) = ((a * 256 : Nat) : Int) by push_cast; rfl]
        exact wrap_u64 _ (by omega) (by omega)
      have q5 : ((a : Int) * 256).toNat = a * 256 := by omega
      (repeat' first
    | (refine CondV_dec (fun _ => ?_) (fun _ => ?_) <;> try (exfalso; omega))
    | (refine GuardV_td (fun _ => ?_) (fun _ => ?_) <;> try (exfalso; omega))
    | (refine GuardV_fd (fun _ => ?_) (fun _ => ?_) <;> try (exfalso; omega))
    | (refine CondV_split (fun _ => ?_) (fun _ => ?_))
    | (refine Need_of (by first | omega | decide) ?_)
    | refine WpK_cons ?_ ?_
    | refine WpK_guard ?_
    | simp (disch := first | omega | simp only [List.length_append, List.length_set, List.length_cons, List.length_nil] <;> omega | fail) only [evA, ↓evB, ↓astep, ↓aop, aBin, aInt, aStr, aUn, aNil, aMax, aresults, ares, aPack, ↓reduceIte, ↓reduceCtorEq, Nat.reduceEqDiff, Nat.reduceAdd, env0, aLoad, aLoadN, cellsOf, Int.reduceEq, Int.reduceLT, Int.reduceLE, Nat.reduceLeDiff, oneC, aop.fillL, setL, aApp, aAppC_nil, aAppC_own, xop, eqCells, eqCell, rowOf, ↓acallop, aBound, aIntOf, flat, flatN, CX_fn, CX_X, CX_pol, aStore, Nat.reduceBEq, List.size_toArray, Int.sub_zero, Int.zero_add, Int.add_zero, Int.toNat_zero, Int.reduceAdd, Int.reduceSub, Int.reduceMul, Int.reduceNeg, Int.reduceToNat, Nat.reduceSub, Nat.reduceMul, Int.natCast_zero, Int.reduceDiv, Int.reduceMod, Int.toNat_natCast, fdiv_nn, min_bits_i, Int.reducePow, Nat.reducePow, Nat.reduceDiv, Nat.reduceMod, mb_i, mb_u, WpC_drawD, WpT_nil, WpT_cons, WpT_guard, WpK_nil, scal, h3, h6, h7, h8, hJ, b1, q1, q5, or_byte a (l.getD i 0) hbi])
      have hlt : a * 256 + l.getD i 0 < 2 ^ (8 * (i + 1)) := by
        rw [show 8 * (i + 1) = 8 * i + 8 by omega, Nat.pow_add]; omega
      refine ⟨n - 1, by omega, i + 1, a * 256 + l.getD i 0, by omega, hlt, ?_, ?_, ?_, ?_, ?_, rfl⟩
      · rw [← hr, List.drop_eq_getElem_cons (show i < l.length by omega), List.foldl_cons]
        congr 1
        rw [List.getD_eq_getElem?_getD, List.getElem?_eq_getElem (by omega)]; rfl
      · (first | rfl | (simp only [Env_put_some, Env_put_none, ↓Env_set_at, ↓reduceIte, Nat.reduceEqDiff, or_byte a (l.getD i 0) hbi, q5] <;> rfl))
      · (first | rfl | (simp only [Env_put_some, Env_put_none, ↓Env_set_at, ↓reduceIte, Nat.reduceEqDiff, h6] <;> rfl))
      · (first | rfl | (simp only [Env_put_some, Env_put_none, ↓Env_set_at, ↓reduceIte, Nat.reduceEqDiff, h7] <;> rfl))
      · (first | rfl | (simp only [Env_put_some, Env_put_none, ↓Env_set_at, ↓reduceIte, Nat.reduceEqDiff] <;> rfl))
    · (repeat' first
    | (refine CondV_dec (fun _ => ?_) (fun _ => ?_) <;> try (exfalso; omega))
    | (refine GuardV_td (fun _ => ?_) (fun _ => ?_) <;> try (exfalso; omega))
    | (refine GuardV_fd (fun _ => ?_) (fun _ => ?_) <;> try (exfalso; omega))
    | (refine CondV_split (fun _ => ?_) (fun _ => ?_))
    | (refine Need_of (by first | omega | decide) ?_)
    | refine WpK_cons ?_ ?_
    | refine WpK_guard ?_
    | simp (disch := first | omega | simp only [List.length_append, List.length_set, List.length_cons, List.length_nil] <;> omega | fail) only [evA, ↓evB, ↓astep, ↓aop, aBin, aInt, aStr, aUn, aNil, aMax, aresults, ares, aPack, ↓reduceIte, ↓reduceCtorEq, Nat.reduceEqDiff, Nat.reduceAdd, env0, aLoad, aLoadN, cellsOf, Int.reduceEq, Int.reduceLT, Int.reduceLE, Nat.reduceLeDiff, oneC, aop.fillL, setL, aApp, aAppC_nil, aAppC_own, xop, eqCells, eqCell, rowOf, ↓acallop, aBound, aIntOf, flat, flatN, CX_fn, CX_X, CX_pol, aStore, Nat.reduceBEq, List.size_toArray, Int.sub_zero, Int.zero_add, Int.add_zero, Int.toNat_zero, Int.reduceAdd, Int.reduceSub, Int.reduceMul, Int.reduceNeg, Int.reduceToNat, Nat.reduceSub, Nat.reduceMul, Int.natCast_zero, Int.reduceDiv, Int.reduceMod, Int.toNat_natCast, fdiv_nn, min_bits_i, Int.reducePow, Nat.reducePow, Nat.reduceDiv, Nat.reduceMod, mb_i, mb_u, WpC_drawD, WpT_nil, WpT_cons, WpT_guard, WpK_nil, scal, h3, h6, h7, h8])
      rw [← hr, List.drop_eq_nil_of_le (by omega)]; simp
  · exact ⟨0, 0, by omega, by simp, rfl, rfl, rfl, rfl, rfl, rfl⟩

/-! ## Does it fit -/
theorem w60 (N sz : Nat) (hN : N < 2 ^ 64) (hs : sz ≤ 8) (k : Nat) (H : Heap) (m : Ev.Mode) :
    Run (fun v H' => v = .bool (decide (N < 2 ^ (8 * sz))) ∧ H' = H) mk (acall C5 (k + 1) 31 [.int .u64 (N : Int), .int .i64 (sz : Int)] H m) := by
  refine Run_call (F := ir31) rfl (Nat.le_of_ble_eq_true rfl) ?_
  have q1 : ((N : Int) / 2 ^ (8 * sz)) = ((N / 2 ^ (8 * sz) : Nat) : Int) := by push_cast; rfl
  have q2 : (8 * (sz : Int)).toNat = 8 * sz := by omega
  have q3 : min (8 * sz) IntKind.u64.bits = 8 * sz := by
    have : IntKind.u64.bits = 64 := rfl
    omega
  have q4 : (N < 2 ^ (8 * sz)) ↔ N / 2 ^ (8 * sz) = 0 := by
    rw [Nat.div_eq_zero_iff]
    have : 0 < 2 ^ (8 * sz) := Nat.pow_pos (by omega)
    omega
  simp only [ir31]
  (repeat' first
    | (refine CondV_dec (fun _ => ?_) (fun _ => ?_) <;> try (exfalso; omega))
    | (refine GuardV_td (fun _ => ?_) (fun _ => ?_) <;> try (exfalso; omega))
    | (refine GuardV_fd (fun _ => ?_) (fun _ => ?_) <;> try (exfalso; omega))
    | (refine CondV_split (fun _ => ?_) (fun _ => ?_))
    | (refine Need_of (by first | omega | decide) ?_)
    | refine WpK_cons ?_ ?_
    | refine WpK_guard ?_
    | simp (disch := first | omega | simp only [List.length_append, List.length_set, List.length_cons, List.length_nil] <;> omega | fail) only [evA, ↓evB, ↓astep, ↓aop, aBin, aInt, aStr, aUn, aNil, aMax, aresults, ares, aPack, ↓reduceIte, ↓reduceCtorEq, Nat.reduceEqDiff, Nat.reduceAdd, env0, aLoad, aLoadN, cellsOf, Int.reduceEq, Int.reduceLT, Int.reduceLE, Nat.reduceLeDiff, oneC, aop.fillL, setL, aApp, aAppC_nil, aAppC_own, xop, eqCells, eqCell, rowOf, ↓acallop, aBound, aIntOf, flat, flatN, CX_fn, CX_X, CX_pol, aStore, Nat.reduceBEq, List.size_toArray, Int.sub_zero, Int.zero_add, Int.add_zero, Int.toNat_zero, Int.reduceAdd, Int.reduceSub, Int.reduceMul, Int.reduceNeg, Int.reduceToNat, Nat.reduceSub, Nat.reduceMul, Int.natCast_zero, Int.reduceDiv, Int.reduceMod, Int.toNat_natCast, fdiv_nn, min_bits_i, Int.reducePow, Nat.reducePow, Nat.reduceDiv, Nat.reduceMod, mb_i, mb_u, WpC_drawD, WpT_nil, WpT_cons, WpT_guard, WpK_nil, scal, fdiv_nn, q1, q2, q3])
  · rename_i h8
    obtain rfl : sz = 8 := by omega
    rw [decide_eq_true (by omega)]
  · rename_i h8
    congr 1
    simp only [decide_eq_decide]
    rw [q4]; omega
theorem dg_length (N sz : Nat) : (dg N sz).length = sz := by simp [dg]
theorem dg_lt (N sz : Nat) : ∀ b ∈ dg N sz, b < 256 := by
  intro b hb
  simp only [dg, List.mem_map] at hb
  obtain ⟨i, _, rfl⟩ := hb
  omega
/-- What 'put' answers: 'turn' is what is done with the digits. -/
def putV (turn : List Nat → List Nat) (N : Nat) (size : Int) : ByteArray × Nat :=
  if size < 1 ∨ 8 < size then (⟨#[]⟩, 1) else if N < 2 ^ (8 * size.toNat) then (bs (turn (dg N size.toNat)), 0) else (⟨#[]⟩, 5)
def seV (r : ByteArray × Nat) : Value := .tuple #[.string r.1, .int .i64 (r.2 : Int)]
theorem w59 (x : Value) (k : Nat) (H : Heap) (m : Ev.Mode) : Run (fun v H' => v = .tuple #[] ∧ H' = H) mk (acall C5 (k + 1) 26 [x] H m) := by
  refine Run_call (F := ir26) rfl (Nat.le_of_ble_eq_true rfl) ?_
  simp only [ir26, evA, ↓evB, ↓astep, ↓aop, aBin, aInt, aStr, aUn, aNil, aMax, aresults, ares, aPack, ↓reduceIte, ↓reduceCtorEq, Nat.reduceEqDiff, Nat.reduceAdd, env0, aLoad, aLoadN, cellsOf, Int.reduceEq, Int.reduceLT, Int.reduceLE, Nat.reduceLeDiff, oneC, aop.fillL, setL, aApp, aAppC_nil, aAppC_own, xop, eqCells, eqCell, rowOf, ↓acallop, aBound, aIntOf, flat, flatN, CX_fn, CX_X, CX_pol, aStore, Nat.reduceBEq, List.size_toArray, Int.sub_zero, Int.zero_add, Int.add_zero, Int.toNat_zero, Int.reduceAdd, Int.reduceSub, Int.reduceMul, Int.reduceNeg, Int.reduceToNat, Nat.reduceSub, Nat.reduceMul, Int.natCast_zero, Int.reduceDiv, Int.reduceMod, Int.toNat_natCast, fdiv_nn, min_bits_i, Int.reducePow, Nat.reducePow, Nat.reduceDiv, Nat.reduceMod, mb_i, mb_u, WpC_drawD, WpT_nil, WpT_cons, WpT_guard, WpK_nil, scal]

theorem w57 (f : Nat) (turn : List Nat → List Nat) (ht : (f = 28 ∧ turn = List.reverse) ∨ (f = 26 ∧ turn = id)) (N : Nat) (hN : N < 2 ^ 64) (size : Int) (hs0 : -9223372036854775808 ≤ size) (hs1 : size ≤ 9223372036854775807) (k : Nat) (hk : 20 < k) :
    Run (fun v H' => v = seV (putV turn N size)) mk (acall C5 (k + 1) 25 [.int .u64 (N : Int), .int .i64 size, .func (.func f) #[] #[]] [] ⟨0, 0⟩) := by
  refine Run_call (F := ir25) rfl (Nat.le_of_ble_eq_true rfl) ?_
  by_cases h : size < 1 ∨ 8 < size
  · simp only [ir25]
    (repeat' first
    | (refine CondV_dec (fun _ => ?_) (fun _ => ?_) <;> try (exfalso; omega))
    | (refine GuardV_td (fun _ => ?_) (fun _ => ?_) <;> try (exfalso; omega))
    | (refine GuardV_fd (fun _ => ?_) (fun _ => ?_) <;> try (exfalso; omega))
    | (refine CondV_split (fun _ => ?_) (fun _ => ?_))
    | (refine Need_of (by first | omega | decide) ?_)
    | refine WpK_cons ?_ ?_
    | refine WpK_guard ?_
    | simp (disch := first | omega | simp only [List.length_append, List.length_set, List.length_cons, List.length_nil] <;> omega | fail) only [evA, ↓evB, ↓astep, ↓aop, aBin, aInt, aStr, aUn, aNil, aMax, aresults, ares, aPack, ↓reduceIte, ↓reduceCtorEq, Nat.reduceEqDiff, Nat.reduceAdd, env0, aLoad, aLoadN, cellsOf, Int.reduceEq, Int.reduceLT, Int.reduceLE, Nat.reduceLeDiff, oneC, aop.fillL, setL, aApp, aAppC_nil, aAppC_own, xop, eqCells, eqCell, rowOf, ↓acallop, aBound, aIntOf, flat, flatN, CX_fn, CX_X, CX_pol, aStore, Nat.reduceBEq, List.size_toArray, Int.sub_zero, Int.zero_add, Int.add_zero, Int.toNat_zero, Int.reduceAdd, Int.reduceSub, Int.reduceMul, Int.reduceNeg, Int.reduceToNat, Nat.reduceSub, Nat.reduceMul, Int.natCast_zero, Int.reduceDiv, Int.reduceMod, Int.toNat_natCast, fdiv_nn, min_bits_i, Int.reducePow, Nat.reducePow, Nat.reduceDiv, Nat.reduceMod, mb_i, mb_u, WpC_drawD, WpT_nil, WpT_cons, WpT_guard, WpK_nil, scal, putV])
    · rw [if_pos h]; rfl
    · rw [if_pos h]; rfl
  · obtain ⟨sz, rfl⟩ : ∃ sz : Nat, size = sz := ⟨size.toNat, by omega⟩
    obtain ⟨k', rfl⟩ : ∃ k', k = k' + 1 := ⟨k - 1, by omega⟩
    have e60 := Run_ex2 (w60 N sz hN (by omega) k' [] ⟨0, 0⟩)
    have e61 := Run_ex2 (w61 N sz hN (by omega) k' (by omega) [] ⟨0, 0⟩ (by simp) (by simp))
    have e58 := Run_ex2 (w58 (dg N sz) (by rw [dg_length]; omega) 5 0 k' (by rw [dg_length]; omega) [.cells (bv (dg N sz)) 5 true] ⟨0, 0⟩ rfl (by simp))
    have e59 := Run_ex2 (w59 (.slice (some ⟨0, 0, none⟩) sz 1) k' [.cells (bv (dg N sz)) 5 true] ⟨0, 0⟩)
    have hdl := dg_length N sz
    rw [dg_length] at e58
    simp only [List.length_nil, List.nil_append] at e61
    have hv : putV turn N (sz : Int) = if N < 2 ^ (8 * sz) then (bs (turn (dg N sz)), 0) else (⟨#[]⟩, 5) := by
      rw [putV, if_neg h]; simp
    rw [hv]
    rcases ht with ⟨rfl, rfl⟩ | ⟨rfl, rfl⟩
    · have hrl : (dg N sz).reverse.length ≤ sz := by simp [dg_length]
      simp only [ir25]
      (repeat' first
    | (refine CondV_dec (fun _ => ?_) (fun _ => ?_) <;> try (exfalso; omega))
    | (refine GuardV_td (fun _ => ?_) (fun _ => ?_) <;> try (exfalso; omega))
    | (refine GuardV_fd (fun _ => ?_) (fun _ => ?_) <;> try (exfalso; omega))
    | (refine CondV_split (fun _ => ?_) (fun _ => ?_))
    | (refine Need_of (by first | omega | decide) ?_)
    | refine WpK_cons ?_ ?_
    | refine WpK_guard ?_
    | simp (disch := first | omega | simp only [List.length_append, List.length_set, List.length_cons, List.length_nil] <;> omega | fail) only [evA, ↓evB, ↓astep, ↓aop, aBin, aInt, aStr, aUn, aNil, aMax, aresults, ares, aPack, ↓reduceIte, ↓reduceCtorEq, Nat.reduceEqDiff, Nat.reduceAdd, env0, aLoad, aLoadN, cellsOf, Int.reduceEq, Int.reduceLT, Int.reduceLE, Nat.reduceLeDiff, oneC, aop.fillL, setL, aApp, aAppC_nil, aAppC_own, xop, eqCells, eqCell, rowOf, ↓acallop, aBound, aIntOf, flat, flatN, CX_fn, CX_X, CX_pol, aStore, Nat.reduceBEq, List.size_toArray, Int.sub_zero, Int.zero_add, Int.add_zero, Int.toNat_zero, Int.reduceAdd, Int.reduceSub, Int.reduceMul, Int.reduceNeg, Int.reduceToNat, Nat.reduceSub, Nat.reduceMul, Int.natCast_zero, Int.reduceDiv, Int.reduceMod, Int.toNat_natCast, fdiv_nn, min_bits_i, Int.reducePow, Nat.reducePow, Nat.reduceDiv, Nat.reduceMod, mb_i, mb_u, WpC_drawD, WpT_nil, WpT_cons, WpT_guard, WpK_nil, scal, C5_X, C5_pol, e60, e61, e58, seV, bs_eq, dg_length, List.length_reverse])
      · rename_i h; rw [if_neg h]; rfl
      · rename_i h; rw [if_pos (Decidable.not_not.1 h)]; rfl
    · simp only [ir25]
      (repeat' first
    | (refine CondV_dec (fun _ => ?_) (fun _ => ?_) <;> try (exfalso; omega))
    | (refine GuardV_td (fun _ => ?_) (fun _ => ?_) <;> try (exfalso; omega))
    | (refine GuardV_fd (fun _ => ?_) (fun _ => ?_) <;> try (exfalso; omega))
    | (refine CondV_split (fun _ => ?_) (fun _ => ?_))
    | (refine Need_of (by first | omega | decide) ?_)
    | refine WpK_cons ?_ ?_
    | refine WpK_guard ?_
    | simp (disch := first | omega | simp only [List.length_append, List.length_set, List.length_cons, List.length_nil] <;> omega | fail) only [evA, ↓evB, ↓astep, ↓aop, aBin, aInt, aStr, aUn, aNil, aMax, aresults, ares, aPack, ↓reduceIte, ↓reduceCtorEq, Nat.reduceEqDiff, Nat.reduceAdd, env0, aLoad, aLoadN, cellsOf, Int.reduceEq, Int.reduceLT, Int.reduceLE, Nat.reduceLeDiff, oneC, aop.fillL, setL, aApp, aAppC_nil, aAppC_own, xop, eqCells, eqCell, rowOf, ↓acallop, aBound, aIntOf, flat, flatN, CX_fn, CX_X, CX_pol, aStore, Nat.reduceBEq, List.size_toArray, Int.sub_zero, Int.zero_add, Int.add_zero, Int.toNat_zero, Int.reduceAdd, Int.reduceSub, Int.reduceMul, Int.reduceNeg, Int.reduceToNat, Nat.reduceSub, Nat.reduceMul, Int.natCast_zero, Int.reduceDiv, Int.reduceMod, Int.toNat_natCast, fdiv_nn, min_bits_i, Int.reducePow, Nat.reducePow, Nat.reduceDiv, Nat.reduceMod, mb_i, mb_u, WpC_drawD, WpT_nil, WpT_cons, WpT_guard, WpK_nil, scal, C5_X, C5_pol, e60, e61, e59, seV, bs_eq, dg_length])
      · rename_i h; rw [if_neg h]; rfl
      · rename_i h; rw [if_pos (Decidable.not_not.1 h)]; rfl

theorem w40 (N : Nat) (hN : N < 2 ^ 64) (size : Int) (hs0 : -9223372036854775808 ≤ size) (hs1 : size ≤ 9223372036854775807) :
    Run (fun v H' => v = seV (putV id N size)) mk (acall C5 40 22 [.int .u64 (N : Int), .int .i64 size] [] ⟨0, 0⟩) := by
  obtain ⟨H1, e57⟩ := Run_ex (w57 26 id (.inr ⟨rfl, rfl⟩) N hN size hs0 hs1 38 (by omega))
  refine Run_call (F := ir22) rfl (Nat.le_of_ble_eq_true rfl) ?_
  simp only [ir22]
  (repeat' first
    | (refine CondV_dec (fun _ => ?_) (fun _ => ?_) <;> try (exfalso; omega))
    | (refine GuardV_td (fun _ => ?_) (fun _ => ?_) <;> try (exfalso; omega))
    | (refine GuardV_fd (fun _ => ?_) (fun _ => ?_) <;> try (exfalso; omega))
    | (refine CondV_split (fun _ => ?_) (fun _ => ?_))
    | (refine Need_of (by first | omega | decide) ?_)
    | refine WpK_cons ?_ ?_
    | refine WpK_guard ?_
    | simp (disch := first | omega | simp only [List.length_append, List.length_set, List.length_cons, List.length_nil] <;> omega | fail) only [evA, ↓evB, ↓astep, ↓aop, aBin, aInt, aStr, aUn, aNil, aMax, aresults, ares, aPack, ↓reduceIte, ↓reduceCtorEq, Nat.reduceEqDiff, Nat.reduceAdd, env0, aLoad, aLoadN, cellsOf, Int.reduceEq, Int.reduceLT, Int.reduceLE, Nat.reduceLeDiff, oneC, aop.fillL, setL, aApp, aAppC_nil, aAppC_own, xop, eqCells, eqCell, rowOf, ↓acallop, aBound, aIntOf, flat, flatN, CX_fn, CX_X, CX_pol, aStore, Nat.reduceBEq, List.size_toArray, Int.sub_zero, Int.zero_add, Int.add_zero, Int.toNat_zero, Int.reduceAdd, Int.reduceSub, Int.reduceMul, Int.reduceNeg, Int.reduceToNat, Nat.reduceSub, Nat.reduceMul, Int.natCast_zero, Int.reduceDiv, Int.reduceMod, Int.toNat_natCast, fdiv_nn, min_bits_i, Int.reducePow, Nat.reducePow, Nat.reduceDiv, Nat.reduceMod, mb_i, mb_u, WpC_drawD, WpT_nil, WpT_cons, WpT_guard, WpK_nil, scal, C5_X, C5_pol, e57, seV])

/-- The least row of digits, the greatest first. -/
def lsts : Nat → Nat → List Nat
  | 0, _ => []
  | k + 1, N => if N = 0 then [] else lsts k (N / 256) ++ [N % 256]
theorem lsts_more : ∀ (k N : Nat), N < 2 ^ (8 * k) → lsts (k + 1) N = lsts k N
  | 0, N, h => by
    have : N = 0 := by simpa using h
    subst this; rfl
  | k + 1, N, h => by
    have e : 2 ^ (8 * (k + 1)) = 2 ^ (8 * k) * 256 := by rw [show 8 * (k + 1) = 8 * k + 8 by omega, Nat.pow_add]
    show (if N = 0 then [] else lsts (k + 1) (N / 256) ++ [N % 256]) = (if N = 0 then [] else lsts k (N / 256) ++ [N % 256])
    rw [lsts_more k (N / 256) (by omega)]
theorem lsts_le {k j N : Nat} (h : N < 2 ^ (8 * k)) (hj : k ≤ j) : lsts j N = lsts k N := by
  induction j with
  | zero => obtain rfl : k = 0 := by omega
            rfl
  | succ j ih =>
    rcases Nat.lt_or_ge j k with h' | h'
    · obtain rfl : k = j + 1 := by omega
      rfl
    · rw [lsts_more j N (Nat.lt_of_lt_of_le h (Nat.pow_le_pow_right (by omega) (by omega))), ih h']
theorem dg_succ (N i : Nat) : dg N (i + 1) = N % 256 :: dg (N / 256) i := by
  simp only [dg]
  rw [List.range_succ_eq_map, List.map_cons, List.map_map]
  congr 1
  · simp
  · apply List.map_congr_left
    intro j _
    simp only [Function.comp, Nat.succ_eq_add_one]
    rw [show 8 * (j + 1) = 8 + 8 * j by omega, Nat.pow_add, ← Nat.div_div_eq_div_mul]
theorem dg_lsts : ∀ (i N : Nat), N < 2 ^ (8 * i) → (∀ j, j < i → ¬ N < 2 ^ (8 * j)) → (dg N i).reverse = lsts i N
  | 0, N, _, _ => rfl
  | i + 1, N, h, hj => by
    have e : ∀ i, 2 ^ (8 * (i + 1)) = 2 ^ (8 * i) * 256 := fun i => by rw [show 8 * (i + 1) = 8 * i + 8 by omega, Nat.pow_add]
    have h0 : N ≠ 0 := by have := hj 0 (by omega); simp at this; omega
    rw [dg_succ, List.reverse_cons, lsts, if_neg h0, dg_lsts i (N / 256) (by have := e i; omega) fun j hji hc => hj (j + 1) (by omega) (by have := e j; omega)]

/-! ## Reading -/
def getV (turn : List Nat → List Nat) (s : ByteArray) : Nat × Nat := if s.size = 0 then (0, 1) else if 8 < s.size then (0, 5) else (nm (turn (bl s)), 0)
def neV (r : Nat × Nat) : Value := .tuple #[.int .u64 (r.1 : Int), .int .i64 (r.2 : Int)]
theorem empty_eq (s : ByteArray) : (s = ⟨#[]⟩) = (s.size = 0) := by
  apply propext
  constructor
  · rintro rfl; rfl
  · intro h
    apply bl_inj
    have : (bl s).length = 0 := by rw [bl_length]; exact h
    rw [List.length_eq_zero_iff.1 this]; rfl

theorem w63 (f : Nat) (turn : List Nat → List Nat) (ht : (f = 28 ∧ turn = List.reverse) ∨ (f = 26 ∧ turn = id)) (s : ByteArray) (hs : s.size < 2 ^ 63) (k : Nat) (hk : 20 < k) :
    Run (fun v H' => v = neV (getV turn s)) mk (acall C5 (k + 1) 27 [.string s, .func (.func f) #[] #[]] [] ⟨0, 0⟩) := by
  refine Run_call (F := ir27) rfl (Nat.le_of_ble_eq_true rfl) ?_
  have hlb := bl_length s
  by_cases h : s.size = 0
  · have hv : getV turn s = (0, 1) := by rw [getV, if_pos h]
    rw [hv]
    simp only [ir27]
    (repeat' first
    | (refine CondV_dec (fun _ => ?_) (fun _ => ?_) <;> try (exfalso; omega))
    | (refine GuardV_td (fun _ => ?_) (fun _ => ?_) <;> try (exfalso; omega))
    | (refine GuardV_fd (fun _ => ?_) (fun _ => ?_) <;> try (exfalso; omega))
    | (refine CondV_split (fun _ => ?_) (fun _ => ?_))
    | (refine Need_of (by first | omega | decide) ?_)
    | refine WpK_cons ?_ ?_
    | refine WpK_guard ?_
    | simp (disch := first | omega | simp only [List.length_append, List.length_set, List.length_cons, List.length_nil] <;> omega | fail) only [evA, ↓evB, ↓astep, ↓aop, aBin, aInt, aStr, aUn, aNil, aMax, aresults, ares, aPack, ↓reduceIte, ↓reduceCtorEq, Nat.reduceEqDiff, Nat.reduceAdd, env0, aLoad, aLoadN, cellsOf, Int.reduceEq, Int.reduceLT, Int.reduceLE, Nat.reduceLeDiff, oneC, aop.fillL, setL, aApp, aAppC_nil, aAppC_own, xop, eqCells, eqCell, rowOf, ↓acallop, aBound, aIntOf, flat, flatN, CX_fn, CX_X, CX_pol, aStore, Nat.reduceBEq, List.size_toArray, Int.sub_zero, Int.zero_add, Int.add_zero, Int.toNat_zero, Int.reduceAdd, Int.reduceSub, Int.reduceMul, Int.reduceNeg, Int.reduceToNat, Nat.reduceSub, Nat.reduceMul, Int.natCast_zero, Int.reduceDiv, Int.reduceMod, Int.toNat_natCast, fdiv_nn, min_bits_i, Int.reducePow, Nat.reducePow, Nat.reduceDiv, Nat.reduceMod, mb_i, mb_u, WpC_drawD, WpT_nil, WpT_cons, WpT_guard, WpK_nil, scal, empty_eq, h])
    rfl
  · by_cases h2 : 8 < s.size
    · have hv : getV turn s = (0, 5) := by rw [getV, if_neg h, if_pos h2]
      rw [hv]
      simp only [ir27]
      (repeat' first
    | (refine CondV_dec (fun _ => ?_) (fun _ => ?_) <;> try (exfalso; omega))
    | (refine GuardV_td (fun _ => ?_) (fun _ => ?_) <;> try (exfalso; omega))
    | (refine GuardV_fd (fun _ => ?_) (fun _ => ?_) <;> try (exfalso; omega))
    | (refine CondV_split (fun _ => ?_) (fun _ => ?_))
    | (refine Need_of (by first | omega | decide) ?_)
    | refine WpK_cons ?_ ?_
    | refine WpK_guard ?_
    | simp (disch := first | omega | simp only [List.length_append, List.length_set, List.length_cons, List.length_nil] <;> omega | fail) only [evA, ↓evB, ↓astep, ↓aop, aBin, aInt, aStr, aUn, aNil, aMax, aresults, ares, aPack, ↓reduceIte, ↓reduceCtorEq, Nat.reduceEqDiff, Nat.reduceAdd, env0, aLoad, aLoadN, cellsOf, Int.reduceEq, Int.reduceLT, Int.reduceLE, Nat.reduceLeDiff, oneC, aop.fillL, setL, aApp, aAppC_nil, aAppC_own, xop, eqCells, eqCell, rowOf, ↓acallop, aBound, aIntOf, flat, flatN, CX_fn, CX_X, CX_pol, aStore, Nat.reduceBEq, List.size_toArray, Int.sub_zero, Int.zero_add, Int.add_zero, Int.toNat_zero, Int.reduceAdd, Int.reduceSub, Int.reduceMul, Int.reduceNeg, Int.reduceToNat, Nat.reduceSub, Nat.reduceMul, Int.natCast_zero, Int.reduceDiv, Int.reduceMod, Int.toNat_natCast, fdiv_nn, min_bits_i, Int.reducePow, Nat.reducePow, Nat.reduceDiv, Nat.reduceMod, mb_i, mb_u, WpC_drawD, WpT_nil, WpT_cons, WpT_guard, WpK_nil, scal, empty_eq])
      rfl
    · have hv : getV turn s = (nm (turn (bl s)), 0) := by rw [getV, if_neg h, if_neg h2]
      rw [hv]
      obtain ⟨k', rfl⟩ : ∃ k', k = k' + 1 := ⟨k - 1, by omega⟩
      have e58 := Run_ex2 (w58 (bl s) (by omega) 5 0 k' (by omega) [.cells (bv (bl s)) 5 true] ⟨0, 0⟩ rfl (by simp))
      have e59 := Run_ex2 (w59 (.slice (some ⟨0, 0, none⟩) (bl s).length 1) k' [.cells (bv (bl s)) 5 true] ⟨0, 0⟩)
      rcases ht with ⟨rfl, rfl⟩ | ⟨rfl, rfl⟩
      · have e62 := Run_ex2 (w62 (bl s).reverse (by simp; omega) (fun b hb => bl_lt s b (by simpa using hb)) 5 0 k' (by simp; omega) [.cells (bv (bl s).reverse) 5 true] ⟨0, 0⟩ true rfl)
        rw [List.length_reverse, hlb] at e62
        rw [hlb] at e58
        simp only [ir27]
        (repeat' first
    | (refine CondV_dec (fun _ => ?_) (fun _ => ?_) <;> try (exfalso; omega))
    | (refine GuardV_td (fun _ => ?_) (fun _ => ?_) <;> try (exfalso; omega))
    | (refine GuardV_fd (fun _ => ?_) (fun _ => ?_) <;> try (exfalso; omega))
    | (refine CondV_split (fun _ => ?_) (fun _ => ?_))
    | (refine Need_of (by first | omega | decide) ?_)
    | refine WpK_cons ?_ ?_
    | refine WpK_guard ?_
    | simp (disch := first | omega | simp only [List.length_append, List.length_set, List.length_cons, List.length_nil] <;> omega | fail) only [evA, ↓evB, ↓astep, ↓aop, aBin, aInt, aStr, aUn, aNil, aMax, aresults, ares, aPack, ↓reduceIte, ↓reduceCtorEq, Nat.reduceEqDiff, Nat.reduceAdd, env0, aLoad, aLoadN, cellsOf, Int.reduceEq, Int.reduceLT, Int.reduceLE, Nat.reduceLeDiff, oneC, aop.fillL, setL, aApp, aAppC_nil, aAppC_own, xop, eqCells, eqCell, rowOf, ↓acallop, aBound, aIntOf, flat, flatN, CX_fn, CX_X, CX_pol, aStore, Nat.reduceBEq, List.size_toArray, Int.sub_zero, Int.zero_add, Int.add_zero, Int.toNat_zero, Int.reduceAdd, Int.reduceSub, Int.reduceMul, Int.reduceNeg, Int.reduceToNat, Nat.reduceSub, Nat.reduceMul, Int.natCast_zero, Int.reduceDiv, Int.reduceMod, Int.toNat_natCast, fdiv_nn, min_bits_i, Int.reducePow, Nat.reducePow, Nat.reduceDiv, Nat.reduceMod, mb_i, mb_u, WpC_drawD, WpT_nil, WpT_cons, WpT_guard, WpK_nil, scal, empty_eq, C5_X, C5_pol, bytesL_bv, e58, e62])
        rfl
      · have e62 := Run_ex2 (w62 (bl s) (by omega) (bl_lt s) 5 0 k' (by omega) [.cells (bv (bl s)) 5 true] ⟨0, 0⟩ true rfl)
        rw [hlb] at e62 e59
        simp only [ir27]
        (repeat' first
    | (refine CondV_dec (fun _ => ?_) (fun _ => ?_) <;> try (exfalso; omega))
    | (refine GuardV_td (fun _ => ?_) (fun _ => ?_) <;> try (exfalso; omega))
    | (refine GuardV_fd (fun _ => ?_) (fun _ => ?_) <;> try (exfalso; omega))
    | (refine CondV_split (fun _ => ?_) (fun _ => ?_))
    | (refine Need_of (by first | omega | decide) ?_)
    | refine WpK_cons ?_ ?_
    | refine WpK_guard ?_
    | simp (disch := first | omega | simp only [List.length_append, List.length_set, List.length_cons, List.length_nil] <;> omega | fail) only [evA, ↓evB, ↓astep, ↓aop, aBin, aInt, aStr, aUn, aNil, aMax, aresults, ares, aPack, ↓reduceIte, ↓reduceCtorEq, Nat.reduceEqDiff, Nat.reduceAdd, env0, aLoad, aLoadN, cellsOf, Int.reduceEq, Int.reduceLT, Int.reduceLE, Nat.reduceLeDiff, oneC, aop.fillL, setL, aApp, aAppC_nil, aAppC_own, xop, eqCells, eqCell, rowOf, ↓acallop, aBound, aIntOf, flat, flatN, CX_fn, CX_X, CX_pol, aStore, Nat.reduceBEq, List.size_toArray, Int.sub_zero, Int.zero_add, Int.add_zero, Int.toNat_zero, Int.reduceAdd, Int.reduceSub, Int.reduceMul, Int.reduceNeg, Int.reduceToNat, Nat.reduceSub, Nat.reduceMul, Int.natCast_zero, Int.reduceDiv, Int.reduceMod, Int.toNat_natCast, fdiv_nn, min_bits_i, Int.reducePow, Nat.reducePow, Nat.reduceDiv, Nat.reduceMod, mb_i, mb_u, WpC_drawD, WpT_nil, WpT_cons, WpT_guard, WpK_nil, scal, empty_eq, C5_X, C5_pol, bytesL_bv, e59, e62])
        rfl

theorem w45 (s : ByteArray) (hs : s.size < 2 ^ 63) : Run (fun v H' => v = neV (getV List.reverse s)) mk (acall C5 40 23 [.string s] [] ⟨0, 0⟩) := by
  obtain ⟨H1, e63⟩ := Run_ex (w63 28 List.reverse (.inl ⟨rfl, rfl⟩) s hs 38 (by omega))
  refine Run_call (F := ir23) rfl (Nat.le_of_ble_eq_true rfl) ?_
  simp only [ir23]
  (repeat' first
    | (refine CondV_dec (fun _ => ?_) (fun _ => ?_) <;> try (exfalso; omega))
    | (refine GuardV_td (fun _ => ?_) (fun _ => ?_) <;> try (exfalso; omega))
    | (refine GuardV_fd (fun _ => ?_) (fun _ => ?_) <;> try (exfalso; omega))
    | (refine CondV_split (fun _ => ?_) (fun _ => ?_))
    | (refine Need_of (by first | omega | decide) ?_)
    | refine WpK_cons ?_ ?_
    | refine WpK_guard ?_
    | simp (disch := first | omega | simp only [List.length_append, List.length_set, List.length_cons, List.length_nil] <;> omega | fail) only [evA, ↓evB, ↓astep, ↓aop, aBin, aInt, aStr, aUn, aNil, aMax, aresults, ares, aPack, ↓reduceIte, ↓reduceCtorEq, Nat.reduceEqDiff, Nat.reduceAdd, env0, aLoad, aLoadN, cellsOf, Int.reduceEq, Int.reduceLT, Int.reduceLE, Nat.reduceLeDiff, oneC, aop.fillL, setL, aApp, aAppC_nil, aAppC_own, xop, eqCells, eqCell, rowOf, ↓acallop, aBound, aIntOf, flat, flatN, CX_fn, CX_X, CX_pol, aStore, Nat.reduceBEq, List.size_toArray, Int.sub_zero, Int.zero_add, Int.add_zero, Int.toNat_zero, Int.reduceAdd, Int.reduceSub, Int.reduceMul, Int.reduceNeg, Int.reduceToNat, Nat.reduceSub, Nat.reduceMul, Int.natCast_zero, Int.reduceDiv, Int.reduceMod, Int.toNat_natCast, fdiv_nn, min_bits_i, Int.reducePow, Nat.reducePow, Nat.reduceDiv, Nat.reduceMod, mb_i, mb_u, WpC_drawD, WpT_nil, WpT_cons, WpT_guard, WpK_nil, scal, C5_X, C5_pol, e63, neV])
def XPutF (turn : List Nat → List Nat) (args : List Value) : Option Value :=
  match args with
  | [.int .u64 n, .int .i64 z] => if (0 ≤ n ∧ n < 2 ^ 64) ∧ -9223372036854775808 ≤ z ∧ z ≤ 9223372036854775807 then some (seV (putV turn n.toNat z)) else none
  | _ => none
def XLst (args : List Value) : Option Value :=
  match args with
  | [.int .u64 n] => if 0 ≤ n ∧ n < 2 ^ 64 then some (.string (bs (lsts 8 n.toNat))) else none
  | _ => none
def XGetF (turn : List Nat → List Nat) (args : List Value) : Option Value :=
  match args with
  | [.string s] => if s.size < 2 ^ 63 then some (neV (getV turn s)) else none
  | _ => none
theorem XPutF_eq (turn : List Nat → List Nat) (n z : Int) : XPutF turn [.int .u64 n, .int .i64 z] = if (0 ≤ n ∧ n < 2 ^ 64) ∧ -9223372036854775808 ≤ z ∧ z ≤ 9223372036854775807 then some (seV (putV turn n.toNat z)) else none := rfl
theorem XLst_eq (n : Int) : XLst [.int .u64 n] = if 0 ≤ n ∧ n < 2 ^ 64 then some (.string (bs (lsts 8 n.toNat))) else none := rfl
theorem XGetF_eq (turn : List Nat → List Nat) (s : ByteArray) : XGetF turn [.string s] = if s.size < 2 ^ 63 then some (neV (getV turn s)) else none := rfl
theorem x40 : XOk Tryd.prog 22 (XPutF id) := .of C5_ok rfl (f := 22) ok22 fun args v h => by
  unfold XPutF at h
  split at h
  · rename_i n z
    split at h
    · rename_i hs; cases h
      have := w40 n.toNat (by omega) z (by omega) (by omega)
      rw [show ((n.toNat : Nat) : Int) = n by omega] at this
      exact ⟨rfl, rfl, 40, 0, this⟩
    · cases h
  · cases h
theorem x45 : XOk Tryd.prog 23 (XGetF List.reverse) := .of C5_ok rfl (f := 23) ok23 fun args v h => by
  unfold XGetF at h
  split at h
  · rename_i s
    split at h
    · rename_i hs; cases h; exact ⟨rfl, rfl, 40, 0, w45 s hs⟩
    · cases h
  · cases h
end F4
end Ev
end Go.Proofs.YtlcfanmmpfmnaaaDoor
