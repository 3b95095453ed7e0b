/-
  The law PlainRow: what its code answers.
-/
import Derived.Test.YtfbelnjchpffeaaP1
namespace Go.Proofs.Ytfbelnjchpffeaa
namespace Ev
namespace L15
open Tag (mk)
set_option linter.unusedSimpArgs false
set_option linter.unusedVariables false
set_option maxRecDepth 4000
set_option maxHeartbeats 4000000
def e64 (z : Nat) : List Value := [.int .u64 (z : Int)]
def eS (s : ByteArray) : List Value := [.string s]
def rowB : List (Nat × ByteArray) → ByteArray
  | [] => ⟨#[]⟩
  | p :: l => pfr p.1 p.2 ++ rowB l
theorem rowB_snoc : ∀ (l : List (Nat × ByteArray)) (p : Nat × ByteArray), rowB (l ++ [p]) = rowB l ++ pfr p.1 p.2
  | [], p => by
    show pfr p.1 p.2 ++ ByteArray.empty = ByteArray.empty ++ pfr p.1 p.2
    rw [ByteArray.append_empty, ByteArray.empty_append]
  | q :: l, p => by rw [List.cons_append, rowB, rowB_snoc l p, rowB, ByteArray.append_assoc]
theorem pfr_size (id : Nat) (b : ByteArray) (hid : id < 2 ^ 64) (hb : b.size ≤ 200) : (pfr id b).size ≤ 330 := by
  have := pid_len id hid
  have := pid_len ((pid id).size + b.size) (by omega)
  rw [pfr, ByteArray.size_append, ByteArray.size_append]; omega
theorem rowB_size : ∀ (l : List (Nat × ByteArray)), (∀ p ∈ l, p.1 < 2 ^ 64 ∧ p.2.size ≤ 200) → (rowB l).size ≤ 330 * l.length
  | [], _ => Nat.zero_le _
  | p :: l, h => by
    have h1 := h p (List.mem_cons_self ..)
    have h2 := rowB_size l fun q hq => h q (List.mem_cons_of_mem _ hq)
    have h3 := pfr_size p.1 p.2 h1.1 h1.2
    rw [rowB, ByteArray.size_append, List.length_cons]; omega
theorem e64_get (xs : List Nat) (i : Nat) (hi : i < xs.length) : (xs.map e64).flatten[i]? = some (.int .u64 (xs[i] : Int)) := by
  have := rec_get (enc := e64) (sz := 1) (fun _ => rfl) xs i 0 (by omega)
  rw [Nat.mul_one, Nat.add_zero, List.getElem?_eq_getElem hi] at this
  exact this
theorem eS_get (xs : List ByteArray) (i : Nat) (hi : i < xs.length) : (xs.map eS).flatten[i]? = some (.string xs[i]) := by
  have := rec_get (enc := eS) (sz := 1) (fun _ => rfl) xs i 0 (by omega)
  rw [Nat.mul_one, Nat.add_zero, List.getElem?_eq_getElem hi] at this
  exact this
/-- What both loops know. -/
def IB (H0 : Heap) (xs : List Nat) (ys : List ByteArray) (a b : Option Addr) (c d : Nat) (e : Env) (H : Heap) : Prop :=
  e 0 = .slice a xs.length c ∧ e 1 = .slice b ys.length d ∧ ∃ L, H = H0 ++ L
def I80 (H0 : Heap) (xs : List Nat) (ys : List ByteArray) (a b : Option Addr) (c d : Nat) (n : Nat) (e : Env) (H : Heap) : Prop :=
  IB H0 xs ys a b c d e H ∧ ∃ i : Nat, i + n = xs.length ∧ e 5 = .string (rowB ((xs.zip ys).take i)) ∧ e 6 = .int .i64 (i : Int) ∧ ∀ y ∈ ys.take i, y.size ≤ 200
def I81 (H0 : Heap) (xs : List Nat) (ys : List ByteArray) (a b : Option Addr) (c d : Nat) (n : Nat) (e : Env) (H : Heap) : Prop :=
  IB H0 xs ys a b c d e H ∧ ∃ i : Nat, i + n = xs.length ∧ e 5 = .string (rowB ((xs.zip ys).drop i)) ∧ e 9 = .int .i64 (i : Int)
theorem w8 (xs : List Nat) (ys : List ByteArray) (hx : ∀ z ∈ xs, z < 2 ^ 64) (U V : Value) (H0 : Heap) (hU : RowV H0 U xs.length 1 (xs.map e64).flatten) (hV : RowV H0 V ys.length 1 (ys.map eS).flatten) :
    Run (fun v' _ => v' = .bool true) mk (acall D1 200 8 [U, V] H0 ⟨H0.length, 0⟩) := by
  obtain ⟨a, c, rfl, hrow⟩ := hU.ex
  obtain ⟨b, d, rfl, hrow2⟩ := hV.ex
  refine Run_call (F := ir8) rfl (Nat.le_of_ble_eq_true rfl) ?_
  simp only [ir8, D1]
  (repeat' first
    | (refine CondV_dec (fun _ => ?_) (fun _ => ?_) <;> try (exfalso; omega))
    | (refine GuardV_td (fun _ => ?_) (fun _ => ?_) <;> try (exfalso; omega))
    | (refine GuardV_fd (fun _ => ?_) (fun _ => ?_) <;> try (exfalso; omega))
    | (refine CondV_split (fun _ => ?_) (fun _ => ?_))
    | (refine Need_of (by first | omega | decide) ?_)
    | simp (disch := first | omega | simp only [List.length_append, List.length_set, List.length_cons, List.length_nil] <;> omega | fail) only [evA, ↓evB, ↓astep, ↓aop, aBin, aInt, aStr, aUn, aNil, aMax, aresults, ares, aPack, ↓reduceIte, ↓reduceCtorEq, Nat.reduceEqDiff, Nat.reduceAdd, env0, aLoad, aLoadN, cellsOf, Int.reduceEq, Int.reduceLT, Int.reduceLE, Nat.reduceLeDiff, oneC, aop.fillL, setL, aApp, aAppC, xop, eqCells, eqCell, rowOf, ↓acallop, aBound, aIntOf, flat, flatN, CX_fn, CX_X, CX_pol, aStore, Nat.reduceBEq, List.size_toArray, Int.sub_zero, Int.zero_add, Int.add_zero, Int.toNat_zero, Int.reduceAdd, Int.reduceSub, Int.reduceMul, Int.reduceNeg, Int.reduceToNat, Nat.reduceSub, Nat.reduceMul, Int.natCast_zero, Int.reduceDiv, Int.reduceMod, Int.toNat_natCast, XAlive_eq])
  rename_i hc1 hc2
  have hzl : (xs.zip ys).length = xs.length := by simp; omega
  refine WpC_loop (I80 H0 xs ys a b c d) ?_ (n := xs.length) (by omega) ?_
  · rintro n e H ⟨⟨h0, h1, L, rfl⟩, i, hi, h5, h6, hy⟩
    simp only [lp8_0, evA, ↓evB, ↓astep, ↓aop, aBin, aInt, aStr, aUn, aNil, aMax, aresults, ares, aPack, ↓reduceIte, ↓reduceCtorEq, Nat.reduceEqDiff, Nat.reduceAdd, env0, aLoad, aLoadN, cellsOf, Int.reduceEq, Int.reduceLT, Int.reduceLE, Nat.reduceLeDiff, oneC, aop.fillL, setL, aApp, aAppC, xop, eqCells, eqCell, rowOf, ↓acallop, aBound, aIntOf, flat, flatN, CX_fn, CX_X, CX_pol, aStore, Nat.reduceBEq, List.size_toArray, Int.sub_zero, Int.zero_add, Int.add_zero, Int.toNat_zero, Int.reduceAdd, Int.reduceSub, Int.reduceMul, Int.reduceNeg, Int.reduceToNat, Nat.reduceSub, Nat.reduceMul, Int.natCast_zero, Int.reduceDiv, Int.reduceMod, Int.toNat_natCast, h0, h1, h5, h6]
    refine CondV_dec (fun hc => ?_) (fun hc => ?_)
    · have hxi : i < xs.length := by omega
      have hyi : i < ys.length := by omega
      obtain ⟨i0, T, rfl, rfl, hi0, hr1⟩ := hrow (by omega)
      obtain ⟨j0, T2, rfl, rfl, hj0, hr2⟩ := hrow2 (by omega)
      have hx0 := hx xs[i] (List.getElem_mem hxi)
      have g1 := e64_get xs i hxi
      have g2 := eS_get ys i hyi
      obtain ⟨x, hxe⟩ : ∃ x, x = xs[i] := ⟨_, rfl⟩
      obtain ⟨y, hye⟩ : ∃ y, y = ys[i] := ⟨_, rfl⟩
      rw [← hxe] at g1 hx0
      rw [← hye] at g2
      have l1 := pid_len x hx0
      by_cases hbig : 200 < y.size
      · (repeat' first
    | (refine CondV_dec (fun _ => ?_) (fun _ => ?_) <;> try (exfalso; omega))
    | (refine GuardV_td (fun _ => ?_) (fun _ => ?_) <;> try (exfalso; omega))
    | (refine GuardV_fd (fun _ => ?_) (fun _ => ?_) <;> try (exfalso; omega))
    | (refine CondV_split (fun _ => ?_) (fun _ => ?_))
    | (refine Need_of (by first | omega | decide) ?_)
    | simp (disch := first | omega | simp only [List.length_append, List.length_set, List.length_cons, List.length_nil] <;> omega | fail) only [evA, ↓evB, ↓astep, ↓aop, aBin, aInt, aStr, aUn, aNil, aMax, aresults, ares, aPack, ↓reduceIte, ↓reduceCtorEq, Nat.reduceEqDiff, Nat.reduceAdd, env0, aLoad, aLoadN, cellsOf, Int.reduceEq, Int.reduceLT, Int.reduceLE, Nat.reduceLeDiff, oneC, aop.fillL, setL, aApp, aAppC, xop, eqCells, eqCell, rowOf, ↓acallop, aBound, aIntOf, flat, flatN, CX_fn, CX_X, CX_pol, aStore, Nat.reduceBEq, List.size_toArray, Int.sub_zero, Int.zero_add, Int.add_zero, Int.toNat_zero, Int.reduceAdd, Int.reduceSub, Int.reduceMul, Int.reduceNeg, Int.reduceToNat, Nat.reduceSub, Nat.reduceMul, Int.natCast_zero, Int.reduceDiv, Int.reduceMod, Int.toNat_natCast, h0, h1, h5, h6, g1, g2, hr1, hr2])
      have l2 := pid_len ((pid x).size + y.size) (by omega)
      have x1 : XPut [.int .u64 (x : Int)] = some (.string (pid x)) := by rw [XPut_eq, if_pos (by omega)]; rfl
      have x3 : XPut [.int .u64 ((pid x).size + y.size : Int)] = some (.string (pid ((pid x).size + y.size))) := by
        rw [show ((pid x).size + y.size : Int) = (((pid x).size + y.size : Nat) : Int) by omega, XPut_eq, if_pos (by omega)]; rfl
      have hsz := rowB_size ((xs.zip ys).take i) (fun p hp => by
        obtain ⟨k, hk, rfl⟩ := List.getElem_of_mem hp
        simp only [List.getElem_take, List.getElem_zip]
        simp only [List.length_take] at hk
        refine ⟨hx _ (List.getElem_mem _), hy _ ?_⟩
        rw [List.mem_take_iff_getElem]
        exact ⟨k, by omega, rfl⟩)
      have hsz2 : ((xs.zip ys).take i).length ≤ 30 := by simp; omega
      have hpf := pfr_size x y hx0 (by omega)
      have hz : (xs.zip ys).take (i + 1) = (xs.zip ys).take i ++ [(x, y)] := by
        rw [List.take_succ_eq_append_getElem (by omega), List.getElem_zip, ← hxe, ← hye]
      have hcat : rowB ((xs.zip ys).take i) ++ (pid ((pid x).size + y.size) ++ (pid x ++ y)) = rowB ((xs.zip ys).take (i + 1)) := by rw [hz, rowB_snoc]; rfl
      have hpf2 : (pid ((pid x).size + y.size)).size + ((pid x).size + y.size) ≤ 330 := by
        have := hpf
        rwa [pfr, ByteArray.size_append, ByteArray.size_append] at this
      (repeat' first
    | (refine CondV_dec (fun _ => ?_) (fun _ => ?_) <;> try (exfalso; omega))
    | (refine GuardV_td (fun _ => ?_) (fun _ => ?_) <;> try (exfalso; omega))
    | (refine GuardV_fd (fun _ => ?_) (fun _ => ?_) <;> try (exfalso; omega))
    | (refine CondV_split (fun _ => ?_) (fun _ => ?_))
    | (refine Need_of (by first | omega | decide) ?_)
    | simp (disch := first | omega | simp only [List.length_append, List.length_set, List.length_cons, List.length_nil] <;> omega | fail) only [evA, ↓evB, ↓astep, ↓aop, aBin, aInt, aStr, aUn, aNil, aMax, aresults, ares, aPack, ↓reduceIte, ↓reduceCtorEq, Nat.reduceEqDiff, Nat.reduceAdd, env0, aLoad, aLoadN, cellsOf, Int.reduceEq, Int.reduceLT, Int.reduceLE, Nat.reduceLeDiff, oneC, aop.fillL, setL, aApp, aAppC, xop, eqCells, eqCell, rowOf, ↓acallop, aBound, aIntOf, flat, flatN, CX_fn, CX_X, CX_pol, aStore, Nat.reduceBEq, List.size_toArray, Int.sub_zero, Int.zero_add, Int.add_zero, Int.toNat_zero, Int.reduceAdd, Int.reduceSub, Int.reduceMul, Int.reduceNeg, Int.reduceToNat, Nat.reduceSub, Nat.reduceMul, Int.natCast_zero, Int.reduceDiv, Int.reduceMod, Int.toNat_natCast, fn40, ir40, h0, h1, h5, h6, g1, g2, hr1, hr2, x1, x3, ByteArray.size_append, Int.natCast_add, hcat])
      refine ⟨n - 1, by omega, ⟨by (first | rfl | (simp only [Env_put_some, Env_put_none, ↓Env_set_at, ↓reduceIte, Nat.reduceEqDiff, h0] <;> rfl)), by (first | rfl | (simp only [Env_put_some, Env_put_none, ↓Env_set_at, ↓reduceIte, Nat.reduceEqDiff, h1] <;> rfl)), L, rfl⟩, i + 1, by omega, by (first | rfl | (simp only [Env_put_some, Env_put_none, ↓Env_set_at, ↓reduceIte, Nat.reduceEqDiff] <;> rfl)), by (first | rfl | (simp only [Env_put_some, Env_put_none, ↓Env_set_at, ↓reduceIte, Nat.reduceEqDiff] <;> rfl)), fun z hz => ?_⟩
      rw [List.take_succ_eq_append_getElem hyi, ← hye, List.mem_append] at hz
      rcases hz with hz | hz
      · exact hy z hz
      · simp at hz; subst hz; omega
    · have hall : ∀ y ∈ ys.take xs.length, y.size ≤ 200 := by
        have : i = xs.length := by omega
        rw [← this]; exact hy
      (repeat' first
    | (refine CondV_dec (fun _ => ?_) (fun _ => ?_) <;> try (exfalso; omega))
    | (refine GuardV_td (fun _ => ?_) (fun _ => ?_) <;> try (exfalso; omega))
    | (refine GuardV_fd (fun _ => ?_) (fun _ => ?_) <;> try (exfalso; omega))
    | (refine CondV_split (fun _ => ?_) (fun _ => ?_))
    | (refine Need_of (by first | omega | decide) ?_)
    | simp (disch := first | omega | simp only [List.length_append, List.length_set, List.length_cons, List.length_nil] <;> omega | fail) only [evA, ↓evB, ↓astep, ↓aop, aBin, aInt, aStr, aUn, aNil, aMax, aresults, ares, aPack, ↓reduceIte, ↓reduceCtorEq, Nat.reduceEqDiff, Nat.reduceAdd, env0, aLoad, aLoadN, cellsOf, Int.reduceEq, Int.reduceLT, Int.reduceLE, Nat.reduceLeDiff, oneC, aop.fillL, setL, aApp, aAppC, xop, eqCells, eqCell, rowOf, ↓acallop, aBound, aIntOf, flat, flatN, CX_fn, CX_X, CX_pol, aStore, Nat.reduceBEq, List.size_toArray, Int.sub_zero, Int.zero_add, Int.add_zero, Int.toNat_zero, Int.reduceAdd, Int.reduceSub, Int.reduceMul, Int.reduceNeg, Int.reduceToNat, Nat.reduceSub, Nat.reduceMul, Int.natCast_zero, Int.reduceDiv, Int.reduceMod, Int.toNat_natCast, h0, h1, h5, h6])
      refine WpC_loop (I81 H0 xs ys a b c d) ?_ (n := xs.length) (by omega) ?_
      · rintro n e H ⟨⟨h0, h1, L, rfl⟩, i, hi, h5, h9⟩
        simp only [lp8_1, evA, ↓evB, ↓astep, ↓aop, aBin, aInt, aStr, aUn, aNil, aMax, aresults, ares, aPack, ↓reduceIte, ↓reduceCtorEq, Nat.reduceEqDiff, Nat.reduceAdd, env0, aLoad, aLoadN, cellsOf, Int.reduceEq, Int.reduceLT, Int.reduceLE, Nat.reduceLeDiff, oneC, aop.fillL, setL, aApp, aAppC, xop, eqCells, eqCell, rowOf, ↓acallop, aBound, aIntOf, flat, flatN, CX_fn, CX_X, CX_pol, aStore, Nat.reduceBEq, List.size_toArray, Int.sub_zero, Int.zero_add, Int.add_zero, Int.toNat_zero, Int.reduceAdd, Int.reduceSub, Int.reduceMul, Int.reduceNeg, Int.reduceToNat, Nat.reduceSub, Nat.reduceMul, Int.natCast_zero, Int.reduceDiv, Int.reduceMod, Int.toNat_natCast, h0, h1, h5, h9]
        refine CondV_dec (fun hc => ?_) (fun hc => ?_)
        · have hxi : i < xs.length := by omega
          have hyi : i < ys.length := by omega
          obtain ⟨i0, T, rfl, rfl, hi0, hr1⟩ := hrow (by omega)
          obtain ⟨j0, T2, rfl, rfl, hj0, hr2⟩ := hrow2 (by omega)
          have hx0 := hx xs[i] (List.getElem_mem hxi)
          have g1 := e64_get xs i hxi
          have g2 := eS_get ys i hyi
          have hy0 := hall ys[i] (by rw [List.mem_take_iff_getElem]; exact ⟨i, by omega, rfl⟩)
          have hdrop : (xs.zip ys).drop i = (xs[i], ys[i]) :: (xs.zip ys).drop (i + 1) := by
            rw [List.drop_eq_getElem_cons (by omega), List.getElem_zip]
          obtain ⟨x, hxe⟩ : ∃ x, x = xs[i] := ⟨_, rfl⟩
          obtain ⟨y, hye⟩ : ∃ y, y = ys[i] := ⟨_, rfl⟩
          rw [← hxe, ← hye] at hdrop
          rw [← hxe] at g1 hx0
          rw [← hye] at g2 hy0
          obtain ⟨R, hR⟩ : ∃ R, R = rowB ((xs.zip ys).drop (i + 1)) := ⟨_, rfl⟩
          have hRs : R.size ≤ 330 * ((xs.zip ys).drop (i + 1)).length := by
            rw [hR]
            refine rowB_size _ fun p hp => ?_
            obtain ⟨k, hk, rfl⟩ := List.getElem_of_mem hp
            simp only [List.getElem_drop, List.getElem_zip]
            simp only [List.length_drop] at hk
            refine ⟨hx _ (List.getElem_mem _), hall _ ?_⟩
            rw [List.mem_take_iff_getElem]
            exact ⟨i + 1 + k, by omega, rfl⟩
          have hRl : ((xs.zip ys).drop (i + 1)).length ≤ 30 := by simp; omega
          rw [hdrop, rowB, ← hR] at h5
          have l1 := pid_len x hx0
          obtain ⟨F, hF⟩ : ∃ F, F = pfr x y := ⟨_, rfl⟩
          have hpf := pfr_size x y hx0 (by omega)
          obtain ⟨H1, hN⟩ := next_put (H := H0 ++ L) (lim := (H0 ++ L).length) (fb := (H0 ++ L).length) (most := 300) (id := x) (body := y) (more := R) (Nat.le_refl _) hx0 (by omega) (by omega) (by omega) (by omega)
          rw [← hF] at hN hpf h5
          have hcut : (F ++ R).extract F.size (F ++ R).size = R := ext_r _ _ _ ByteArray.size_append
          rw [ByteArray.size_append] at hcut
          simp only [D1, List.length_append] at hN
          (repeat' first
    | (refine CondV_dec (fun _ => ?_) (fun _ => ?_) <;> try (exfalso; omega))
    | (refine GuardV_td (fun _ => ?_) (fun _ => ?_) <;> try (exfalso; omega))
    | (refine GuardV_fd (fun _ => ?_) (fun _ => ?_) <;> try (exfalso; omega))
    | (refine CondV_split (fun _ => ?_) (fun _ => ?_))
    | (refine Need_of (by first | omega | decide) ?_)
    | simp (disch := first | omega | simp only [List.length_append, List.length_set, List.length_cons, List.length_nil] <;> omega | fail) only [evA, ↓evB, ↓astep, ↓aop, aBin, aInt, aStr, aUn, aNil, aMax, aresults, ares, aPack, ↓reduceIte, ↓reduceCtorEq, Nat.reduceEqDiff, Nat.reduceAdd, env0, aLoad, aLoadN, cellsOf, Int.reduceEq, Int.reduceLT, Int.reduceLE, Nat.reduceLeDiff, oneC, aop.fillL, setL, aApp, aAppC, xop, eqCells, eqCell, rowOf, ↓acallop, aBound, aIntOf, flat, flatN, CX_fn, CX_X, CX_pol, aStore, Nat.reduceBEq, List.size_toArray, Int.sub_zero, Int.zero_add, Int.add_zero, Int.toNat_zero, Int.reduceAdd, Int.reduceSub, Int.reduceMul, Int.reduceNeg, Int.reduceToNat, Nat.reduceSub, Nat.reduceMul, Int.natCast_zero, Int.reduceDiv, Int.reduceMod, Int.toNat_natCast, h0, h1, h5, h9, g1, g2, hr1, hr2, hN, hcut, ByteArray.size_append, Int.natCast_add])
          exact ⟨n - 1, by omega, ⟨by (first | rfl | (simp only [Env_put_some, Env_put_none, ↓Env_set_at, ↓reduceIte, Nat.reduceEqDiff, h0] <;> rfl)), by (first | rfl | (simp only [Env_put_some, Env_put_none, ↓Env_set_at, ↓reduceIte, Nat.reduceEqDiff, h1] <;> rfl)), _, rfl⟩, i + 1, by omega, by rw [← hR]; (first | rfl | (simp only [Env_put_some, Env_put_none, ↓Env_set_at, ↓reduceIte, Nat.reduceEqDiff] <;> rfl)), by (first | rfl | (simp only [Env_put_some, Env_put_none, ↓Env_set_at, ↓reduceIte, Nat.reduceEqDiff] <;> rfl))⟩
        · have : i = xs.length := by omega
          subst this
          rw [List.drop_of_length_le (by omega)] at h5
          (repeat' first
    | (refine CondV_dec (fun _ => ?_) (fun _ => ?_) <;> try (exfalso; omega))
    | (refine GuardV_td (fun _ => ?_) (fun _ => ?_) <;> try (exfalso; omega))
    | (refine GuardV_fd (fun _ => ?_) (fun _ => ?_) <;> try (exfalso; omega))
    | (refine CondV_split (fun _ => ?_) (fun _ => ?_))
    | (refine Need_of (by first | omega | decide) ?_)
    | simp (disch := first | omega | simp only [List.length_append, List.length_set, List.length_cons, List.length_nil] <;> omega | fail) only [evA, ↓evB, ↓astep, ↓aop, aBin, aInt, aStr, aUn, aNil, aMax, aresults, ares, aPack, ↓reduceIte, ↓reduceCtorEq, Nat.reduceEqDiff, Nat.reduceAdd, env0, aLoad, aLoadN, cellsOf, Int.reduceEq, Int.reduceLT, Int.reduceLE, Nat.reduceLeDiff, oneC, aop.fillL, setL, aApp, aAppC, xop, eqCells, eqCell, rowOf, ↓acallop, aBound, aIntOf, flat, flatN, CX_fn, CX_X, CX_pol, aStore, Nat.reduceBEq, List.size_toArray, Int.sub_zero, Int.zero_add, Int.add_zero, Int.toNat_zero, Int.reduceAdd, Int.reduceSub, Int.reduceMul, Int.reduceNeg, Int.reduceToNat, Nat.reduceSub, Nat.reduceMul, Int.natCast_zero, Int.reduceDiv, Int.reduceMod, Int.toNat_natCast, h0, h1, h5, h9, rowB])
      · exact ⟨⟨by (first | rfl | (simp only [Env_put_some, Env_put_none, ↓Env_set_at, ↓reduceIte, Nat.reduceEqDiff, h0] <;> rfl)), by (first | rfl | (simp only [Env_put_some, Env_put_none, ↓Env_set_at, ↓reduceIte, Nat.reduceEqDiff, h1] <;> rfl)), L, rfl⟩, 0, by omega, by rw [show i = (xs.zip ys).length by omega, List.take_length] at h5; (first | rfl | (simp only [Env_put_some, Env_put_none, ↓Env_set_at, ↓reduceIte, Nat.reduceEqDiff, h5] <;> rfl)), by (first | rfl | (simp only [Env_put_some, Env_put_none, ↓Env_set_at, ↓reduceIte, Nat.reduceEqDiff] <;> rfl))⟩
  · exact ⟨⟨rfl, rfl, [], (List.append_nil _).symm⟩, 0, by omega, rfl, rfl, by simp⟩
theorem main_PlainRow (H : Heap) (args : List Value) (h : IsVs Try.prog H Try.f8.params.toList args) : ∃ k, Run (fun v' _ => v' = .bool true) mk (acall D1 k 8 args H ⟨H.length, 0⟩) := by
  rw [Try.params8] at h
  obtain ⟨v0, r0, rfl, h0, h⟩ := args_cons h
  obtain ⟨v1, r1, rfl, h1, h⟩ := args_cons h
  obtain rfl := args_nil h
  obtain ⟨xs, hV, _, hx⟩ := isv_slice Try.underlying78 e64 (fun z => z < 2 ^ 64) (fun cs h => by
    obtain ⟨n, rfl, hn⟩ := is_int Try.underlying69 h
    have := wf_u64 hn
    obtain ⟨id, rfl⟩ : ∃ id : Nat, n = id := ⟨n.toNat, by omega⟩
    exact ⟨id, rfl, by omega⟩) h0
  obtain ⟨ys, hW, _, _⟩ := isv_slice Try.underlying79 eS (fun z => True) (fun cs h => by
    obtain ⟨s, rfl, hn⟩ := is_string Try.underlying9 h
    exact ⟨s, rfl, trivial⟩) h1
  exact ⟨200, w8 xs ys hx v0 v1 H hV hW⟩
end L15
end Ev
end Go.Proofs.Ytfbelnjchpffeaa
