/-
  The document's line of an item.
-/
import Derived.Test.YtfbelnjchpffeaaI2
namespace Go.Proofs.Ytfbelnjchpffeaa
namespace Ev
open Tag (mk)
set_option linter.unusedSimpArgs false
set_option linter.unusedVariables false
set_option maxRecDepth 4000
set_option maxHeartbeats 4000000
/-- A digit's sign. -/
def hxc (n : Nat) : Nat := if n < 10 then 48 + n else 87 + n
def hx (l : List Nat) : List Nat := l.flatMap fun b => [hxc (b / 16), hxc (b % 16)]
mutual
def shw : Tr → List Nat
  | .mk t b l => if b then [40] ++ shws true l ++ [41] else if t.size = 0 then [45] else hx (bl t)
def shws : Bool → List Tr → List Nat
  | _, [] => []
  | f, t :: l => (if f then [] else [32]) ++ shw t ++ shws false l
end
abbrev digs : ByteArray := ⟨#[48, 49, 50, 51, 52, 53, 54, 55, 56, 57, 97, 98, 99, 100, 101, 102]⟩
theorem digs_cut (n : Nat) (h : n < 16) : digs.extract n (n + 1) = bs [hxc n] := by
  have : ∀ n, n < 16 → digs.extract n (n + 1) = bs [hxc n] := by decide +kernel
  exact this n h
theorem digs_size : digs.size = 16 := rfl
theorem bs_app (a b : List Nat) : bs a ++ bs b = bs (a ++ b) := by
  apply ByteArray.ext
  simp [bs]
theorem lit_bs1 (n : Nat) : (⟨#[UInt8.ofNat n]⟩ : ByteArray) = bs [n] := rfl
theorem bl_drop' (s : ByteArray) (k : Nat) (h : k < s.size) : (bl s).drop k = bAt s k :: (bl s).drop (k + 1) := bl_drop s k h
def IShowT (Hc : Heap) (j : Nat) (t : ByteArray) (n : Nat) (e : Env) (H : Heap) : Prop :=
  ∃ (i : Nat) (acc : List Nat), i + n = t.size ∧ e 1 = .pointer (some ⟨j, 0, none⟩) ∧ e 5 = .string (bs acc) ∧ e 6 = .int .i64 (i : Int) ∧ H = Hc ∧ acc ++ hx ((bl t).drop i) = hx (bl t)
def IShowL (Hc : Heap) (j : Nat) (l : List Tr) (n : Nat) (e : Env) (H : Heap) : Prop :=
  ∃ (i : Nat) (acc : List Nat), i + n = l.length ∧ e 1 = .pointer (some ⟨j, 0, none⟩) ∧ e 3 = .string (bs acc) ∧ e 4 = .int .i64 (i : Int) ∧ H = Hc ∧ acc ++ shws (decide (i = 0)) (l.drop i) = [40] ++ shws true l
theorem byt_get {l : List Tr} : ∀ {k : Nat} (h : k < l.length), byt l[k] ≤ byts l := by
  induction l with
  | nil => intro k h; simp at h
  | cons t l ih =>
    intro k h
    unfold byts
    cases k with
    | zero => simp
    | succ k => have := ih (k := k) (by simpa using h); simp only [List.getElem_cons_succ]; omega
theorem hx_len : ∀ l : List Nat, (hx l).length = 2 * l.length
  | [] => rfl
  | b :: l => by
    have := hx_len l
    simp only [hx, List.flatMap_cons, List.length_append, List.length_cons, List.length_nil] at this ⊢
    omega
mutual
theorem shw_len : ∀ t : Tr, (shw t).length + 1 ≤ 2 * byt t + 3 * sz t
  | .mk t b l => by
    have h := shws_len true l
    have hl := bl_length t
    unfold shw byt sz
    split
    · simp only [List.length_append, List.length_cons, List.length_nil]; omega
    · split
      · simp only [List.length_cons, List.length_nil]; omega
      · rw [hx_len, hl]; omega
theorem shws_len : ∀ (f : Bool) (l : List Tr), (shws f l).length ≤ 2 * byts l + 3 * szs l
  | _, [] => by simp [shws]
  | f, t :: l => by
    have h1 := shw_len t
    have h2 := shws_len false l
    unfold shws byts szs
    simp only [List.length_append]
    split <;> simp only [List.length_cons, List.length_nil] <;> omega
end
theorem wShowR : ∀ (N : Nat) (t : Tr), sz t ≤ N → sz t ≤ 5000 → byt t ≤ 10000 → ∀ (H : Heap) (S : Nat → Prop) (v : Value), ItemV H S t v → ∀ (m : Ev.Mode) (k : Nat), sz t + byt t + 2 ≤ k →
    Run (fun u _ => u = .string (bs (shw t))) mk (acall T0 k 17 [v] H m) := by
  intro N
  induction N with
  | zero => intro t h; have := sz_pos t; omega
  | succ N ih =>
    intro t hN h5 hb H S v hv m k hk
    obtain ⟨t, b, l⟩ := t
    obtain ⟨a, c, rfl, hh⟩ := hv.parts
    obtain ⟨k, rfl⟩ : ∃ q, k = q + 1 := ⟨k - 1, by omega⟩
    have hls := len_szs l
    unfold sz at hN hk h5
    unfold byt at hb hk
    refine Run_call (F := ir17) rfl (Nat.le_of_ble_eq_true rfl) ?_
    obtain ⟨Hc, hHc⟩ : ∃ Hc : Heap, Hc = H ++ [.cells [.string t, .bool b, .slice a l.length c] 24 true] := ⟨_, rfl⟩
    have hold := hh Hc hHc
    have hbox := hold.box
    simp only [ir17]
    cases b with
    | true =>
      (repeat' first
    | (refine CondV_dec (fun _ => ?_) (fun _ => ?_) <;> try (exfalso; omega))
    | (refine GuardV_td (fun _ => ?_) (fun _ => ?_) <;> try (exfalso; omega))
    | (refine GuardV_fd (fun _ => ?_) (fun _ => ?_) <;> try (exfalso; omega))
    | (refine CondV_split (fun _ => ?_) (fun _ => ?_))
    | (refine Need_of (by first | omega | decide) ?_)
    | refine WpK_cons ?_ ?_
    | refine WpK_guard ?_
    | simp (disch := first | omega | simp only [List.length_append, List.length_set, List.length_cons, List.length_nil] <;> omega | fail) only [evA, ↓evB, ↓astep, ↓aop, aBin, aInt, aStr, aUn, aNil, aMax, aresults, ares, aPack, ↓reduceIte, ↓reduceCtorEq, Nat.reduceEqDiff, Nat.reduceAdd, env0, aLoad, aLoadN, cellsOf, Int.reduceEq, Int.reduceLT, Int.reduceLE, Nat.reduceLeDiff, oneC, aop.fillL, setL, aApp, aAppC_nil, aAppC_own, xop, aSame_ptr, BIG, Bool.or_true, Bool.true_or, Bool.or_false, Bool.false_or, eqCells, eqCell, rowOf, ↓acallop, aBound, aIntOf, flat, flatN, CX_fn, CX_X, CX_pol, aStore, Nat.reduceBEq, List.size_toArray, Int.sub_zero, Int.zero_add, Int.add_zero, Int.toNat_zero, Int.reduceAdd, Int.reduceSub, Int.reduceMul, Int.reduceNeg, Int.reduceToNat, Nat.reduceSub, Nat.reduceMul, Int.natCast_zero, Int.reduceDiv, Int.reduceMod, Int.toNat_natCast, fdiv_nn, min_bits_i, Int.reducePow, Nat.reducePow, Nat.reduceDiv, Nat.reduceMod, mb_i, mb_u, WpC_drawD, WpT_nil, WpT_cons, WpT_guard, WpK_nil, scal, ← hHc, hbox])
      refine WpC_loop (IShowL Hc H.length l) ?_ (n := l.length) (show l.length < k by omega) ?_
      · rintro n e H1 ⟨i, acc, hi, g1, g3, g4, rfl, hr⟩
        by_cases hc : i < l.length
        · obtain ⟨q, T, own, cells, rfl, rfl, hSq, hq, hle, hit⟩ := hold.get hc
          have hr0 : shws (decide (i = 0)) (l.drop i) = (if decide (i = 0) = true then [] else [32]) ++ shw l[i] ++ shws false (l.drop (i + 1)) := by rw [drop_cons' hc, shws]
          have hsl := sz_get hc
          have hbl := byt_get hc
          have := ih l[i] (by omega) (by omega) (by omega) H1 S _ ⟨_, rfl, hit⟩ ⟨H1.length, H1.length⟩ k (by omega)
          obtain ⟨v, H', hcall, rfl⟩ := Run_get this
          have hcall := hcall k (Nat.le_refl _)
          simp only [T0] at hcall
          simp only [lp17_0, evA, ↓evB, ↓astep, ↓aop, aBin, aInt, aStr, aUn, aNil, aMax, aresults, ares, aPack, ↓reduceIte, ↓reduceCtorEq, Nat.reduceEqDiff, Nat.reduceAdd, env0, aLoad, aLoadN, cellsOf, Int.reduceEq, Int.reduceLT, Int.reduceLE, Nat.reduceLeDiff, oneC, aop.fillL, setL, aApp, aAppC_nil, aAppC_own, xop, aSame_ptr, BIG, Bool.or_true, Bool.true_or, Bool.or_false, Bool.false_or, eqCells, eqCell, rowOf, ↓acallop, aBound, aIntOf, flat, flatN, CX_fn, CX_X, CX_pol, aStore, Nat.reduceBEq, List.size_toArray, Int.sub_zero, Int.zero_add, Int.add_zero, Int.toNat_zero, Int.reduceAdd, Int.reduceSub, Int.reduceMul, Int.reduceNeg, Int.reduceToNat, Nat.reduceSub, Nat.reduceMul, Int.natCast_zero, Int.reduceDiv, Int.reduceMod, Int.toNat_natCast, fdiv_nn, min_bits_i, Int.reducePow, Nat.reducePow, Nat.reduceDiv, Nat.reduceMod, mb_i, mb_u, WpC_drawD, WpT_nil, WpT_cons, WpT_guard, WpK_nil, scal, g1, g3, g4, hbox, T0]
          have hsp : ({ data := #[32] } : ByteArray) = bs [32] := rfl
          rw [hr0] at hr
          have hlr := congrArg List.length hr
          have hla := shws_len true l
          simp only [List.length_append, List.length_cons, List.length_nil] at hlr
          by_cases h0 : i = 0
          · (repeat' first
    | (refine CondV_dec (fun _ => ?_) (fun _ => ?_) <;> try (exfalso; omega))
    | (refine GuardV_td (fun _ => ?_) (fun _ => ?_) <;> try (exfalso; omega))
    | (refine GuardV_fd (fun _ => ?_) (fun _ => ?_) <;> try (exfalso; omega))
    | (refine CondV_split (fun _ => ?_) (fun _ => ?_))
    | (refine Need_of (by first | omega | decide) ?_)
    | refine WpK_cons ?_ ?_
    | refine WpK_guard ?_
    | simp (disch := first | omega | simp only [List.length_append, List.length_set, List.length_cons, List.length_nil] <;> omega | fail) only [evA, ↓evB, ↓astep, ↓aop, aBin, aInt, aStr, aUn, aNil, aMax, aresults, ares, aPack, ↓reduceIte, ↓reduceCtorEq, Nat.reduceEqDiff, Nat.reduceAdd, env0, aLoad, aLoadN, cellsOf, Int.reduceEq, Int.reduceLT, Int.reduceLE, Nat.reduceLeDiff, oneC, aop.fillL, setL, aApp, aAppC_nil, aAppC_own, xop, aSame_ptr, BIG, Bool.or_true, Bool.true_or, Bool.or_false, Bool.false_or, eqCells, eqCell, rowOf, ↓acallop, aBound, aIntOf, flat, flatN, CX_fn, CX_X, CX_pol, aStore, Nat.reduceBEq, List.size_toArray, Int.sub_zero, Int.zero_add, Int.add_zero, Int.toNat_zero, Int.reduceAdd, Int.reduceSub, Int.reduceMul, Int.reduceNeg, Int.reduceToNat, Nat.reduceSub, Nat.reduceMul, Int.natCast_zero, Int.reduceDiv, Int.reduceMod, Int.toNat_natCast, fdiv_nn, min_bits_i, Int.reducePow, Nat.reducePow, Nat.reduceDiv, Nat.reduceMod, mb_i, mb_u, WpC_drawD, WpT_nil, WpT_cons, WpT_guard, WpK_nil, scal, g1, g3, g4, hbox, hq, hcall, bs_app, hsp])
            refine ⟨n - 1, by omega, i + 1, acc ++ shw l[i], by omega, by (first | rfl | (simp only [Env_put_some, Env_put_none, ↓Env_set_at, ↓reduceIte, Nat.reduceEqDiff, g1] <;> rfl)), by (first | rfl | (simp only [Env_put_some, Env_put_none, ↓Env_set_at, ↓reduceIte, Nat.reduceEqDiff] <;> rfl)), by (first | rfl | (simp only [Env_put_some, Env_put_none, ↓Env_set_at, ↓reduceIte, Nat.reduceEqDiff] <;> rfl)), rfl, ?_⟩
            rw [← hr]; simp [h0]
          · (repeat' first
    | (refine CondV_dec (fun _ => ?_) (fun _ => ?_) <;> try (exfalso; omega))
    | (refine GuardV_td (fun _ => ?_) (fun _ => ?_) <;> try (exfalso; omega))
    | (refine GuardV_fd (fun _ => ?_) (fun _ => ?_) <;> try (exfalso; omega))
    | (refine CondV_split (fun _ => ?_) (fun _ => ?_))
    | (refine Need_of (by first | omega | decide) ?_)
    | refine WpK_cons ?_ ?_
    | refine WpK_guard ?_
    | simp (disch := first | omega | simp only [List.length_append, List.length_set, List.length_cons, List.length_nil] <;> omega | fail) only [evA, ↓evB, ↓astep, ↓aop, aBin, aInt, aStr, aUn, aNil, aMax, aresults, ares, aPack, ↓reduceIte, ↓reduceCtorEq, Nat.reduceEqDiff, Nat.reduceAdd, env0, aLoad, aLoadN, cellsOf, Int.reduceEq, Int.reduceLT, Int.reduceLE, Nat.reduceLeDiff, oneC, aop.fillL, setL, aApp, aAppC_nil, aAppC_own, xop, aSame_ptr, BIG, Bool.or_true, Bool.true_or, Bool.or_false, Bool.false_or, eqCells, eqCell, rowOf, ↓acallop, aBound, aIntOf, flat, flatN, CX_fn, CX_X, CX_pol, aStore, Nat.reduceBEq, List.size_toArray, Int.sub_zero, Int.zero_add, Int.add_zero, Int.toNat_zero, Int.reduceAdd, Int.reduceSub, Int.reduceMul, Int.reduceNeg, Int.reduceToNat, Nat.reduceSub, Nat.reduceMul, Int.natCast_zero, Int.reduceDiv, Int.reduceMod, Int.toNat_natCast, fdiv_nn, min_bits_i, Int.reducePow, Nat.reducePow, Nat.reduceDiv, Nat.reduceMod, mb_i, mb_u, WpC_drawD, WpT_nil, WpT_cons, WpT_guard, WpK_nil, scal, g1, g3, g4, hbox, hq, hcall, bs_app, hsp])
            refine ⟨n - 1, by omega, i + 1, acc ++ [32] ++ shw l[i], by omega, by (first | rfl | (simp only [Env_put_some, Env_put_none, ↓Env_set_at, ↓reduceIte, Nat.reduceEqDiff, g1] <;> rfl)), by (first | rfl | (simp only [Env_put_some, Env_put_none, ↓Env_set_at, ↓reduceIte, Nat.reduceEqDiff] <;> rfl)), by (first | rfl | (simp only [Env_put_some, Env_put_none, ↓Env_set_at, ↓reduceIte, Nat.reduceEqDiff] <;> rfl)), rfl, ?_⟩
            rw [← hr]; simp [h0]
        · rw [List.drop_eq_nil_of_le (by omega)] at hr
          have e0 : ∀ f, shws f [] = [] := fun f => by simp only [shws]
          rw [e0] at hr
          simp only [lp17_0, evA, ↓evB, ↓astep, ↓aop, aBin, aInt, aStr, aUn, aNil, aMax, aresults, ares, aPack, ↓reduceIte, ↓reduceCtorEq, Nat.reduceEqDiff, Nat.reduceAdd, env0, aLoad, aLoadN, cellsOf, Int.reduceEq, Int.reduceLT, Int.reduceLE, Nat.reduceLeDiff, oneC, aop.fillL, setL, aApp, aAppC_nil, aAppC_own, xop, aSame_ptr, BIG, Bool.or_true, Bool.true_or, Bool.or_false, Bool.false_or, eqCells, eqCell, rowOf, ↓acallop, aBound, aIntOf, flat, flatN, CX_fn, CX_X, CX_pol, aStore, Nat.reduceBEq, List.size_toArray, Int.sub_zero, Int.zero_add, Int.add_zero, Int.toNat_zero, Int.reduceAdd, Int.reduceSub, Int.reduceMul, Int.reduceNeg, Int.reduceToNat, Nat.reduceSub, Nat.reduceMul, Int.natCast_zero, Int.reduceDiv, Int.reduceMod, Int.toNat_natCast, fdiv_nn, min_bits_i, Int.reducePow, Nat.reducePow, Nat.reduceDiv, Nat.reduceMod, mb_i, mb_u, WpC_drawD, WpT_nil, WpT_cons, WpT_guard, WpK_nil, scal, g1, g3, g4, hbox]
          have hsp : ({ data := #[41] } : ByteArray) = bs [41] := rfl
          have hlr := congrArg List.length hr
          have hla := shws_len true l
          simp only [List.length_append, List.length_cons, List.length_nil] at hlr
          (repeat' first
    | (refine CondV_dec (fun _ => ?_) (fun _ => ?_) <;> try (exfalso; omega))
    | (refine GuardV_td (fun _ => ?_) (fun _ => ?_) <;> try (exfalso; omega))
    | (refine GuardV_fd (fun _ => ?_) (fun _ => ?_) <;> try (exfalso; omega))
    | (refine CondV_split (fun _ => ?_) (fun _ => ?_))
    | (refine Need_of (by first | omega | decide) ?_)
    | refine WpK_cons ?_ ?_
    | refine WpK_guard ?_
    | simp (disch := first | omega | simp only [List.length_append, List.length_set, List.length_cons, List.length_nil] <;> omega | fail) only [evA, ↓evB, ↓astep, ↓aop, aBin, aInt, aStr, aUn, aNil, aMax, aresults, ares, aPack, ↓reduceIte, ↓reduceCtorEq, Nat.reduceEqDiff, Nat.reduceAdd, env0, aLoad, aLoadN, cellsOf, Int.reduceEq, Int.reduceLT, Int.reduceLE, Nat.reduceLeDiff, oneC, aop.fillL, setL, aApp, aAppC_nil, aAppC_own, xop, aSame_ptr, BIG, Bool.or_true, Bool.true_or, Bool.or_false, Bool.false_or, eqCells, eqCell, rowOf, ↓acallop, aBound, aIntOf, flat, flatN, CX_fn, CX_X, CX_pol, aStore, Nat.reduceBEq, List.size_toArray, Int.sub_zero, Int.zero_add, Int.add_zero, Int.toNat_zero, Int.reduceAdd, Int.reduceSub, Int.reduceMul, Int.reduceNeg, Int.reduceToNat, Nat.reduceSub, Nat.reduceMul, Int.natCast_zero, Int.reduceDiv, Int.reduceMod, Int.toNat_natCast, fdiv_nn, min_bits_i, Int.reducePow, Nat.reducePow, Nat.reduceDiv, Nat.reduceMod, mb_i, mb_u, WpC_drawD, WpT_nil, WpT_cons, WpT_guard, WpK_nil, scal, g1, g3, g4, hbox, bs_app, hsp])
          rw [List.append_nil] at hr
          unfold shw
          rw [hr]; rfl
      · exact ⟨0, [40], by omega, rfl, rfl, rfl, rfl, rfl⟩
    | false =>
      by_cases h0 : t.size = 0
      · (repeat' first
    | (refine CondV_dec (fun _ => ?_) (fun _ => ?_) <;> try (exfalso; omega))
    | (refine GuardV_td (fun _ => ?_) (fun _ => ?_) <;> try (exfalso; omega))
    | (refine GuardV_fd (fun _ => ?_) (fun _ => ?_) <;> try (exfalso; omega))
    | (refine CondV_split (fun _ => ?_) (fun _ => ?_))
    | (refine Need_of (by first | omega | decide) ?_)
    | refine WpK_cons ?_ ?_
    | refine WpK_guard ?_
    | simp (disch := first | omega | simp only [List.length_append, List.length_set, List.length_cons, List.length_nil] <;> omega | fail) only [evA, ↓evB, ↓astep, ↓aop, aBin, aInt, aStr, aUn, aNil, aMax, aresults, ares, aPack, ↓reduceIte, ↓reduceCtorEq, Nat.reduceEqDiff, Nat.reduceAdd, env0, aLoad, aLoadN, cellsOf, Int.reduceEq, Int.reduceLT, Int.reduceLE, Nat.reduceLeDiff, oneC, aop.fillL, setL, aApp, aAppC_nil, aAppC_own, xop, aSame_ptr, BIG, Bool.or_true, Bool.true_or, Bool.or_false, Bool.false_or, eqCells, eqCell, rowOf, ↓acallop, aBound, aIntOf, flat, flatN, CX_fn, CX_X, CX_pol, aStore, Nat.reduceBEq, List.size_toArray, Int.sub_zero, Int.zero_add, Int.add_zero, Int.toNat_zero, Int.reduceAdd, Int.reduceSub, Int.reduceMul, Int.reduceNeg, Int.reduceToNat, Nat.reduceSub, Nat.reduceMul, Int.natCast_zero, Int.reduceDiv, Int.reduceMod, Int.toNat_natCast, fdiv_nn, min_bits_i, Int.reducePow, Nat.reducePow, Nat.reduceDiv, Nat.reduceMod, mb_i, mb_u, WpC_drawD, WpT_nil, WpT_cons, WpT_guard, WpK_nil, scal, ← hHc, hbox, str_empty])
        unfold shw; simp only [Bool.false_eq_true, if_false, h0, if_true]; rfl
      · (repeat' first
    | (refine CondV_dec (fun _ => ?_) (fun _ => ?_) <;> try (exfalso; omega))
    | (refine GuardV_td (fun _ => ?_) (fun _ => ?_) <;> try (exfalso; omega))
    | (refine GuardV_fd (fun _ => ?_) (fun _ => ?_) <;> try (exfalso; omega))
    | (refine CondV_split (fun _ => ?_) (fun _ => ?_))
    | (refine Need_of (by first | omega | decide) ?_)
    | refine WpK_cons ?_ ?_
    | refine WpK_guard ?_
    | simp (disch := first | omega | simp only [List.length_append, List.length_set, List.length_cons, List.length_nil] <;> omega | fail) only [evA, ↓evB, ↓astep, ↓aop, aBin, aInt, aStr, aUn, aNil, aMax, aresults, ares, aPack, ↓reduceIte, ↓reduceCtorEq, Nat.reduceEqDiff, Nat.reduceAdd, env0, aLoad, aLoadN, cellsOf, Int.reduceEq, Int.reduceLT, Int.reduceLE, Nat.reduceLeDiff, oneC, aop.fillL, setL, aApp, aAppC_nil, aAppC_own, xop, aSame_ptr, BIG, Bool.or_true, Bool.true_or, Bool.or_false, Bool.false_or, eqCells, eqCell, rowOf, ↓acallop, aBound, aIntOf, flat, flatN, CX_fn, CX_X, CX_pol, aStore, Nat.reduceBEq, List.size_toArray, Int.sub_zero, Int.zero_add, Int.add_zero, Int.toNat_zero, Int.reduceAdd, Int.reduceSub, Int.reduceMul, Int.reduceNeg, Int.reduceToNat, Nat.reduceSub, Nat.reduceMul, Int.natCast_zero, Int.reduceDiv, Int.reduceMod, Int.toNat_natCast, fdiv_nn, min_bits_i, Int.reducePow, Nat.reducePow, Nat.reduceDiv, Nat.reduceMod, mb_i, mb_u, WpC_drawD, WpT_nil, WpT_cons, WpT_guard, WpK_nil, scal, ← hHc, hbox, str_empty])
        refine WpC_loop (IShowT Hc H.length t) ?_ (n := t.size) (show t.size < k by omega) ?_
        · rintro n e H1 ⟨i, acc, hi, g1, g5, g6, rfl, hr⟩
          by_cases hc : i < t.size
          · have hr0 : hx ((bl t).drop i) = [hxc (bAt t i / 16), hxc (bAt t i % 16)] ++ hx ((bl t).drop (i + 1)) := by rw [bl_drop t i hc]; rfl
            have hlt := bAt_lt t i
            simp only [lp17_1, evA, ↓evB, ↓astep, ↓aop, aBin, aInt, aStr, aUn, aNil, aMax, aresults, ares, aPack, ↓reduceIte, ↓reduceCtorEq, Nat.reduceEqDiff, Nat.reduceAdd, env0, aLoad, aLoadN, cellsOf, Int.reduceEq, Int.reduceLT, Int.reduceLE, Nat.reduceLeDiff, oneC, aop.fillL, setL, aApp, aAppC_nil, aAppC_own, xop, aSame_ptr, BIG, Bool.or_true, Bool.true_or, Bool.or_false, Bool.false_or, eqCells, eqCell, rowOf, ↓acallop, aBound, aIntOf, flat, flatN, CX_fn, CX_X, CX_pol, aStore, Nat.reduceBEq, List.size_toArray, Int.sub_zero, Int.zero_add, Int.add_zero, Int.toNat_zero, Int.reduceAdd, Int.reduceSub, Int.reduceMul, Int.reduceNeg, Int.reduceToNat, Nat.reduceSub, Nat.reduceMul, Int.natCast_zero, Int.reduceDiv, Int.reduceMod, Int.toNat_natCast, fdiv_nn, min_bits_i, Int.reducePow, Nat.reducePow, Nat.reduceDiv, Nat.reduceMod, mb_i, mb_u, WpC_drawD, WpT_nil, WpT_cons, WpT_guard, WpK_nil, scal, g1, g5, g6, hbox, T0]
            have hlr := congrArg List.length hr
            rw [hx_len, bl_length, hr0] at hlr
            simp only [List.length_append, List.length_cons, List.length_nil] at hlr
            have e1 : ((bAt t i : Int) / 16).toNat = bAt t i / 16 := by omega
            have e2 : ((bAt t i : Int) / 16 + 1).toNat = bAt t i / 16 + 1 := by omega
            have e3 : ((bAt t i : Int) % 16).toNat = bAt t i % 16 := by omega
            have e4 : ((bAt t i : Int) % 16 + 1).toNat = bAt t i % 16 + 1 := by omega
            have d1 := digs_cut (bAt t i / 16) (by omega)
            have d2 := digs_cut (bAt t i % 16) (by omega)
            (repeat' first
    | (refine CondV_dec (fun _ => ?_) (fun _ => ?_) <;> try (exfalso; omega))
    | (refine GuardV_td (fun _ => ?_) (fun _ => ?_) <;> try (exfalso; omega))
    | (refine GuardV_fd (fun _ => ?_) (fun _ => ?_) <;> try (exfalso; omega))
    | (refine CondV_split (fun _ => ?_) (fun _ => ?_))
    | (refine Need_of (by first | omega | decide) ?_)
    | refine WpK_cons ?_ ?_
    | refine WpK_guard ?_
    | simp (disch := first | omega | simp only [List.length_append, List.length_set, List.length_cons, List.length_nil] <;> omega | fail) only [evA, ↓evB, ↓astep, ↓aop, aBin, aInt, aStr, aUn, aNil, aMax, aresults, ares, aPack, ↓reduceIte, ↓reduceCtorEq, Nat.reduceEqDiff, Nat.reduceAdd, env0, aLoad, aLoadN, cellsOf, Int.reduceEq, Int.reduceLT, Int.reduceLE, Nat.reduceLeDiff, oneC, aop.fillL, setL, aApp, aAppC_nil, aAppC_own, xop, aSame_ptr, BIG, Bool.or_true, Bool.true_or, Bool.or_false, Bool.false_or, eqCells, eqCell, rowOf, ↓acallop, aBound, aIntOf, flat, flatN, CX_fn, CX_X, CX_pol, aStore, Nat.reduceBEq, List.size_toArray, Int.sub_zero, Int.zero_add, Int.add_zero, Int.toNat_zero, Int.reduceAdd, Int.reduceSub, Int.reduceMul, Int.reduceNeg, Int.reduceToNat, Nat.reduceSub, Nat.reduceMul, Int.natCast_zero, Int.reduceDiv, Int.reduceMod, Int.toNat_natCast, fdiv_nn, min_bits_i, Int.reducePow, Nat.reducePow, Nat.reduceDiv, Nat.reduceMod, mb_i, mb_u, WpC_drawD, WpT_nil, WpT_cons, WpT_guard, WpK_nil, scal, g1, g5, g6, hbox, digs_size, bs_app, e1, e2, e3, e4, d1, d2])
            refine ⟨n - 1, by omega, i + 1, acc ++ [hxc (bAt t i / 16)] ++ [hxc (bAt t i % 16)], by omega, by (first | rfl | (simp only [Env_put_some, Env_put_none, ↓Env_set_at, ↓reduceIte, Nat.reduceEqDiff, g1] <;> rfl)), by (first | rfl | (simp only [Env_put_some, Env_put_none, ↓Env_set_at, ↓reduceIte, Nat.reduceEqDiff] <;> rfl)), by (first | rfl | (simp only [Env_put_some, Env_put_none, ↓Env_set_at, ↓reduceIte, Nat.reduceEqDiff] <;> rfl)), rfl, ?_⟩
            rw [← hr, hr0]; simp
          · rw [List.drop_eq_nil_of_le (by rw [bl_length]; omega)] at hr
            simp only [lp17_1, evA, ↓evB, ↓astep, ↓aop, aBin, aInt, aStr, aUn, aNil, aMax, aresults, ares, aPack, ↓reduceIte, ↓reduceCtorEq, Nat.reduceEqDiff, Nat.reduceAdd, env0, aLoad, aLoadN, cellsOf, Int.reduceEq, Int.reduceLT, Int.reduceLE, Nat.reduceLeDiff, oneC, aop.fillL, setL, aApp, aAppC_nil, aAppC_own, xop, aSame_ptr, BIG, Bool.or_true, Bool.true_or, Bool.or_false, Bool.false_or, eqCells, eqCell, rowOf, ↓acallop, aBound, aIntOf, flat, flatN, CX_fn, CX_X, CX_pol, aStore, Nat.reduceBEq, List.size_toArray, Int.sub_zero, Int.zero_add, Int.add_zero, Int.toNat_zero, Int.reduceAdd, Int.reduceSub, Int.reduceMul, Int.reduceNeg, Int.reduceToNat, Nat.reduceSub, Nat.reduceMul, Int.natCast_zero, Int.reduceDiv, Int.reduceMod, Int.toNat_natCast, fdiv_nn, min_bits_i, Int.reducePow, Nat.reducePow, Nat.reduceDiv, Nat.reduceMod, mb_i, mb_u, WpC_drawD, WpT_nil, WpT_cons, WpT_guard, WpK_nil, scal, g1, g5, g6, hbox]
            (repeat' first
    | (refine CondV_dec (fun _ => ?_) (fun _ => ?_) <;> try (exfalso; omega))
    | (refine GuardV_td (fun _ => ?_) (fun _ => ?_) <;> try (exfalso; omega))
    | (refine GuardV_fd (fun _ => ?_) (fun _ => ?_) <;> try (exfalso; omega))
    | (refine CondV_split (fun _ => ?_) (fun _ => ?_))
    | (refine Need_of (by first | omega | decide) ?_)
    | refine WpK_cons ?_ ?_
    | refine WpK_guard ?_
    | simp (disch := first | omega | simp only [List.length_append, List.length_set, List.length_cons, List.length_nil] <;> omega | fail) only [evA, ↓evB, ↓astep, ↓aop, aBin, aInt, aStr, aUn, aNil, aMax, aresults, ares, aPack, ↓reduceIte, ↓reduceCtorEq, Nat.reduceEqDiff, Nat.reduceAdd, env0, aLoad, aLoadN, cellsOf, Int.reduceEq, Int.reduceLT, Int.reduceLE, Nat.reduceLeDiff, oneC, aop.fillL, setL, aApp, aAppC_nil, aAppC_own, xop, aSame_ptr, BIG, Bool.or_true, Bool.true_or, Bool.or_false, Bool.false_or, eqCells, eqCell, rowOf, ↓acallop, aBound, aIntOf, flat, flatN, CX_fn, CX_X, CX_pol, aStore, Nat.reduceBEq, List.size_toArray, Int.sub_zero, Int.zero_add, Int.add_zero, Int.toNat_zero, Int.reduceAdd, Int.reduceSub, Int.reduceMul, Int.reduceNeg, Int.reduceToNat, Nat.reduceSub, Nat.reduceMul, Int.natCast_zero, Int.reduceDiv, Int.reduceMod, Int.toNat_natCast, fdiv_nn, min_bits_i, Int.reducePow, Nat.reducePow, Nat.reduceDiv, Nat.reduceMod, mb_i, mb_u, WpC_drawD, WpT_nil, WpT_cons, WpT_guard, WpK_nil, scal, g1, g5, g6, hbox])
            unfold shw; simp only [Bool.false_eq_true, if_false, h0]
            rw [← hr]; simp [hx]
        · exact ⟨0, [], by omega, rfl, rfl, rfl, rfl, rfl⟩
end Ev
end Go.Proofs.Ytfbelnjchpffeaa
