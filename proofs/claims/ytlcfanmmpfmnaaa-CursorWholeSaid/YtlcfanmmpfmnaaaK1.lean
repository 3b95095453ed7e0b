/-
  The package cursor, and the law CursorWhole.
-/
import Derived.Test.YtlcfanmmpfmnaaaIrA
namespace Go.Proofs.Ytlcfanmmpfmnaaa
namespace Ev
namespace L1
open Tag (mk)
set_option linter.unusedSimpArgs false
set_option linter.unusedVariables false
set_option maxRecDepth 4000
set_option maxHeartbeats 4000000
noncomputable def D0 : Cf := CX (xtab []) (polt [])
theorem D0_ok : D0.Ok := CX_ok all_nil al_no
def XAlive (args : List Value) : Option Value := match args with
  | [] => some (.bool true)
  | _ => none
theorem XAlive_eq : XAlive [] = some (.bool true) := rfl

theorem alive01 : Ans (acall D0 30 18 [] [] ⟨0, 0⟩) (.bool true) := by unfold Ans; kernel_rfl
theorem xalive01 : XOk Try.prog 18 XAlive := .of D0_ok rfl ok18 fun args v h => by
  unfold XAlive at h
  split at h
  · cases h; exact ⟨rfl, rfl, 30, 0, alive01.run⟩
  · cases h

noncomputable def D1 : Cf := CX (xtab [(18, XAlive)]) (polt [(21, .fw)])
theorem D1_ok : D1.Ok := CX_ok (all_cons xalive01 all_nil) al_no
/-! ## The cursor -/
def rdC (s : ByteArray) (at_ fault : Int) : AObj := .cells [.string s, .int .i64 at_, .int .i64 fault] 68 true
def rdOk (s : ByteArray) (at_ fault : Int) : Prop := 0 ≤ at_ ∧ at_ ≤ s.size ∧ s.size < 2 ^ 62 ∧ -9223372036854775808 ≤ fault ∧ fault ≤ 9223372036854775807
/-- The fault behind a Take. -/
def rdF (s : ByteArray) (at_ fault n : Int) : Int := if fault ≠ 0 then fault else if n < 0 then 1 else if s.size - at_ < n then 2 else 0
def rdA (s : ByteArray) (at_ fault n : Int) : Int := if rdF s at_ fault n = 0 then at_ + n else at_
def rdT (s : ByteArray) (at_ fault n : Int) : ByteArray := if rdF s at_ fault n = 0 then s.extract at_.toNat (at_ + n).toNat else ⟨#[]⟩
theorem rd_take {H : Heap} {i : Nat} {lim fb : Nat} {s : ByteArray} {at_ fault : Int} (n : Int) (h : H[i]? = some (rdC s at_ fault)) (hl : lim ≤ i)
    (h1 : rdOk s at_ fault) (h2 : -9223372036854775808 ≤ n ∧ n ≤ 9223372036854775807) (k : Nat) :
    ∃ J, acall D1 (k + 5) 21 [.pointer (some ⟨i, 0, none⟩), .int .i64 n] H ⟨lim, fb⟩ = some (.string (rdT s at_ fault n), H.set i (rdC s (rdA s at_ fault n) (rdF s at_ fault n)) ++ J) := by
  have hi := lt_of_get h
  obtain ⟨m1, m2, m3, m4, m5⟩ := h1
  rw [rdC] at h
  have h0 := hset_same h
  refine Run_exi (f := fun J => H.set i _ ++ J) ?_
  refine Run_call (F := ir21) rfl (Nat.le_of_ble_eq_true rfl) ?_
  simp only [ir21, D1, rdC, rdT, rdA, rdF]
  by_cases hf : fault = 0
  · subst hf
    by_cases hn : n < 0
    · simp only [ne_eq, not_true_eq_false, if_false, if_pos hn, Int.reduceEq]
      (repeat' first
    | (refine CondV_dec (fun _ => ?_) (fun _ => ?_) <;> try (exfalso; omega))
    | (refine GuardV_td (fun _ => ?_) (fun _ => ?_) <;> try (exfalso; omega))
    | (refine GuardV_fd (fun _ => ?_) (fun _ => ?_) <;> try (exfalso; omega))
    | (refine CondV_split (fun _ => ?_) (fun _ => ?_))
    | (refine Need_of (by first | omega | decide) ?_)
    | simp (disch := first | omega | simp only [List.length_append, List.length_set, List.length_cons, List.length_nil] <;> omega | fail) only [evA, ↓evB, ↓astep, ↓aop, aBin, aInt, aStr, aUn, aNil, aMax, aresults, ares, aPack, ↓reduceIte, ↓reduceCtorEq, Nat.reduceEqDiff, Nat.reduceAdd, env0, aLoad, aLoadN, cellsOf, Int.reduceEq, Int.reduceLT, Int.reduceLE, Nat.reduceLeDiff, oneC, aop.fillL, setL, aApp, rowOf, ↓acallop, aBound, aIntOf, flat, flatN, CX_fn, CX_X, CX_pol, aStore, Nat.reduceBEq, List.size_toArray, fn50, ir50, fn51, ir51, fn24, ir24, fn20, ir20, h, hl, hn])
      all_goals first | exact ⟨trivial, _, rfl⟩ | exact ⟨_, rfl⟩
    · by_cases hb : (s.size : Int) - at_ < n
      · simp only [ne_eq, not_true_eq_false, if_false, if_neg hn, if_pos hb, Int.reduceEq]
        (repeat' first
    | (refine CondV_dec (fun _ => ?_) (fun _ => ?_) <;> try (exfalso; omega))
    | (refine GuardV_td (fun _ => ?_) (fun _ => ?_) <;> try (exfalso; omega))
    | (refine GuardV_fd (fun _ => ?_) (fun _ => ?_) <;> try (exfalso; omega))
    | (refine CondV_split (fun _ => ?_) (fun _ => ?_))
    | (refine Need_of (by first | omega | decide) ?_)
    | simp (disch := first | omega | simp only [List.length_append, List.length_set, List.length_cons, List.length_nil] <;> omega | fail) only [evA, ↓evB, ↓astep, ↓aop, aBin, aInt, aStr, aUn, aNil, aMax, aresults, ares, aPack, ↓reduceIte, ↓reduceCtorEq, Nat.reduceEqDiff, Nat.reduceAdd, env0, aLoad, aLoadN, cellsOf, Int.reduceEq, Int.reduceLT, Int.reduceLE, Nat.reduceLeDiff, oneC, aop.fillL, setL, aApp, rowOf, ↓acallop, aBound, aIntOf, flat, flatN, CX_fn, CX_X, CX_pol, aStore, Nat.reduceBEq, List.size_toArray, fn50, ir50, fn51, ir51, fn24, ir24, fn20, ir20, h, hl, hn, hb])
        all_goals first | exact ⟨trivial, _, rfl⟩ | exact ⟨_, rfl⟩
      · simp only [ne_eq, not_true_eq_false, if_false, if_neg hn, if_neg hb, if_true]
        have e1 : at_ + n - n = at_ := by omega
        (repeat' first
    | (refine CondV_dec (fun _ => ?_) (fun _ => ?_) <;> try (exfalso; omega))
    | (refine GuardV_td (fun _ => ?_) (fun _ => ?_) <;> try (exfalso; omega))
    | (refine GuardV_fd (fun _ => ?_) (fun _ => ?_) <;> try (exfalso; omega))
    | (refine CondV_split (fun _ => ?_) (fun _ => ?_))
    | (refine Need_of (by first | omega | decide) ?_)
    | simp (disch := first | omega | simp only [List.length_append, List.length_set, List.length_cons, List.length_nil] <;> omega | fail) only [evA, ↓evB, ↓astep, ↓aop, aBin, aInt, aStr, aUn, aNil, aMax, aresults, ares, aPack, ↓reduceIte, ↓reduceCtorEq, Nat.reduceEqDiff, Nat.reduceAdd, env0, aLoad, aLoadN, cellsOf, Int.reduceEq, Int.reduceLT, Int.reduceLE, Nat.reduceLeDiff, oneC, aop.fillL, setL, aApp, rowOf, ↓acallop, aBound, aIntOf, flat, flatN, CX_fn, CX_X, CX_pol, aStore, Nat.reduceBEq, List.size_toArray, fn50, ir50, fn51, ir51, fn24, ir24, fn20, ir20, h, hl, hn, hb, e1])
        all_goals first | exact ⟨trivial, _, rfl⟩ | exact ⟨_, rfl⟩
  · simp only [ne_eq, hf, not_false_eq_true, if_true, if_false]
    (repeat' first
    | (refine CondV_dec (fun _ => ?_) (fun _ => ?_) <;> try (exfalso; omega))
    | (refine GuardV_td (fun _ => ?_) (fun _ => ?_) <;> try (exfalso; omega))
    | (refine GuardV_fd (fun _ => ?_) (fun _ => ?_) <;> try (exfalso; omega))
    | (refine CondV_split (fun _ => ?_) (fun _ => ?_))
    | (refine Need_of (by first | omega | decide) ?_)
    | simp (disch := first | omega | simp only [List.length_append, List.length_set, List.length_cons, List.length_nil] <;> omega | fail) only [evA, ↓evB, ↓astep, ↓aop, aBin, aInt, aStr, aUn, aNil, aMax, aresults, ares, aPack, ↓reduceIte, ↓reduceCtorEq, Nat.reduceEqDiff, Nat.reduceAdd, env0, aLoad, aLoadN, cellsOf, Int.reduceEq, Int.reduceLT, Int.reduceLE, Nat.reduceLeDiff, oneC, aop.fillL, setL, aApp, rowOf, ↓acallop, aBound, aIntOf, flat, flatN, CX_fn, CX_X, CX_pol, aStore, Nat.reduceBEq, List.size_toArray, fn50, ir50, fn51, ir51, fn24, ir24, fn20, ir20, h, hl, hf, h0])
    all_goals first | exact ⟨trivial, _, rfl⟩ | exact ⟨_, rfl⟩


theorem ext_app (s : ByteArray) (a b : Nat) (h : a ≤ b) : s.extract 0 a ++ s.extract a b = s.extract 0 b := by
  apply bl_inj
  rw [bl_append, bl_extract, bl_extract, bl_extract, List.drop_zero, List.drop_zero]
  rw [show (bl s).take a = ((bl s).take b).take a by rw [List.take_take, Nat.min_eq_left h], List.take_append_drop]
theorem ext_zero (s : ByteArray) : s.extract 0 0 = ⟨#[]⟩ := bl_inj (by rw [bl_extract]; rfl)
theorem ext_all (s : ByteArray) : s.extract 0 s.size = s := by
  apply bl_inj
  rw [bl_extract, List.drop_zero, ← bl_length, List.take_length]
theorem ext_size (s : ByteArray) (a b : Nat) (h : b ≤ s.size) : (s.extract a b).size = b - a := by
  rw [ByteArray.size_extract, Nat.min_eq_left h]
def encu8 (z : Int) : List Value := [.int .u8 z]
theorem rowu8_get (xs : List Int) (i : Nat) (hi : i < xs.length) : (xs.map encu8).flatten[i]? = some (.int .u8 xs[i]) := by
  have := rec_get (enc := encu8) (sz := 1) (fun _ => rfl) xs i 0 (by omega)
  rw [Nat.mul_one, Nat.add_zero, List.getElem?_eq_getElem hi] at this
  exact this

def I6 (s : ByteArray) (xs : List Int) (a : Option Addr) (c q : Nat) (n : Nat) (e : Env) (H : Heap) : Prop :=
  ∃ (i p : Nat), i + n = xs.length ∧ p ≤ s.size ∧ e 0 = .string s ∧ e 1 = .slice a xs.length c ∧ e 5 = .pointer (some ⟨q, 0, none⟩) ∧ e 6 = .string (s.extract 0 p) ∧ e 7 = .int .i64 (i : Int) ∧
    H[q]? = some (rdC s p 0) ∧
    (0 < xs.length → ∃ i0 T, a = some ⟨i0, 0, none⟩ ∧ c = 1 ∧ i0 < q ∧ H[i0]? = some (.cells (xs.map encu8).flatten T false))
theorem w6 (s : ByteArray) (hs : s.size < 2 ^ 63) (xs : List Int) (hx : ∀ z ∈ xs, 0 ≤ z ∧ z < 256) (V : Value) (H0 : Heap) (hV : RowV H0 V xs.length 1 (xs.map encu8).flatten) :
    Run (fun v' _ => v' = .bool true) mk (acall D1 200 6 [.string s, V] H0 ⟨H0.length, 0⟩) := by
  obtain ⟨a, c, rfl, hrow⟩ := hV.ex
  refine Run_call (F := ir6) rfl (Nat.le_of_ble_eq_true rfl) ?_
  simp only [ir6, D1]
  (repeat' first
    | (refine CondV_dec (fun _ => ?_) (fun _ => ?_) <;> try (exfalso; omega))
    | (refine GuardV_td (fun _ => ?_) (fun _ => ?_) <;> try (exfalso; omega))
    | (refine GuardV_fd (fun _ => ?_) (fun _ => ?_) <;> try (exfalso; omega))
    | (refine CondV_split (fun _ => ?_) (fun _ => ?_))
    | (refine Need_of (by first | omega | decide) ?_)
    | simp (disch := first | omega | simp only [List.length_append, List.length_set, List.length_cons, List.length_nil] <;> omega | fail) only [evA, ↓evB, ↓astep, ↓aop, aBin, aInt, aStr, aUn, aNil, aMax, aresults, ares, aPack, ↓reduceIte, ↓reduceCtorEq, Nat.reduceEqDiff, Nat.reduceAdd, env0, aLoad, aLoadN, cellsOf, Int.reduceEq, Int.reduceLT, Int.reduceLE, Nat.reduceLeDiff, oneC, aop.fillL, setL, aApp, rowOf, ↓acallop, aBound, aIntOf, flat, flatN, CX_fn, CX_X, CX_pol, aStore, Nat.reduceBEq, List.size_toArray, fn19, ir19, XAlive_eq])
  refine WpC_loop (I6 s xs a c H0.length) ?_ (n := xs.length) (by omega) ?_
  · rintro n e H ⟨i, p, hi, hp, h0, h1, h5, h6, h7, hq, hr⟩
    have hqq := lt_of_get hq
    have hq' := hq
    rw [rdC] at hq'
    simp only [lp6_0, evA, ↓evB, ↓astep, ↓aop, aBin, aInt, aStr, aUn, aNil, aMax, aresults, ares, aPack, ↓reduceIte, ↓reduceCtorEq, Nat.reduceEqDiff, Nat.reduceAdd, env0, aLoad, aLoadN, cellsOf, Int.reduceEq, Int.reduceLT, Int.reduceLE, Nat.reduceLeDiff, oneC, aop.fillL, setL, aApp, rowOf, ↓acallop, aBound, aIntOf, flat, flatN, CX_fn, CX_X, CX_pol, aStore, Nat.reduceBEq, List.size_toArray, h0, h1, h5, h6, h7]
    refine CondV_dec (fun hc => ?_) (fun hc => ?_)
    · obtain ⟨i0, T, rfl, rfl, hi0, hrow⟩ := hr (by omega)
      have hxi : i < xs.length := by omega
      have hcell := rowu8_get xs i hxi
      have hx0 := hx xs[i] (List.getElem_mem hxi)
      obtain ⟨x, hxe⟩ : ∃ x : Nat, (x : Int) = xs[i] := ⟨xs[i].toNat, by omega⟩
      rw [← hxe] at hcell hx0
      obtain ⟨y, hy⟩ : ∃ y : Nat, y = min x (s.size - p) := ⟨_, rfl⟩
      obtain ⟨J, hJ⟩ := rd_take (lim := H0.length) (fb := H.length) (y : Int) hq (Nat.le_refl _) ⟨by omega, by omega, by omega, by omega, by omega⟩ (by omega) 194
      have hF : rdF s p 0 y = 0 := by simp only [rdF]; rw [if_neg (by simp), if_neg (by omega), if_neg (by omega)]
      simp only [D1, rdT, rdA, hF, if_true, rdC] at hJ
      have e1 : ((p : Int) + (y : Int)).toNat = p + y := by omega
      have e2 : s.extract 0 p ++ s.extract p (p + y) = s.extract 0 (p + y) := ext_app s _ _ (by omega)
      have e3 : (s.extract 0 (p + y)).size = p + y := by rw [ext_size _ _ _ (by omega)]; omega
      have e4 : (s.extract 0 p).size = p := by rw [ext_size _ _ _ (by omega)]; omega
      have e5 : (s.extract p (p + y)).size = y := by rw [ext_size _ _ _ (by omega)]; omega
      rw [e1] at hJ
      by_cases hfit : (s.size : Int) - (p : Int) < (x : Int)
      · have e6 : (s.size : Int) - (p : Int) = y := by omega
        have e7 : (y : Int) < x := by omega
        (repeat' first
    | (refine CondV_dec (fun _ => ?_) (fun _ => ?_) <;> try (exfalso; omega))
    | (refine GuardV_td (fun _ => ?_) (fun _ => ?_) <;> try (exfalso; omega))
    | (refine GuardV_fd (fun _ => ?_) (fun _ => ?_) <;> try (exfalso; omega))
    | (refine CondV_split (fun _ => ?_) (fun _ => ?_))
    | (refine Need_of (by first | omega | decide) ?_)
    | simp (disch := first | omega | simp only [List.length_append, List.length_set, List.length_cons, List.length_nil] <;> omega | fail) only [evA, ↓evB, ↓astep, ↓aop, aBin, aInt, aStr, aUn, aNil, aMax, aresults, ares, aPack, ↓reduceIte, ↓reduceCtorEq, Nat.reduceEqDiff, Nat.reduceAdd, env0, aLoad, aLoadN, cellsOf, Int.reduceEq, Int.reduceLT, Int.reduceLE, Nat.reduceLeDiff, oneC, aop.fillL, setL, aApp, rowOf, ↓acallop, aBound, aIntOf, flat, flatN, CX_fn, CX_X, CX_pol, aStore, Nat.reduceBEq, List.size_toArray, fn20, ir20, fn22, ir22, h0, h1, h5, h6, h7, hcell, hrow, hJ, hq', e1, e2, e3, e4, e5, e6, e7, Int.toNat_natCast])
        exact ⟨n - 1, by omega, i + 1, p + y, by omega, by omega, by (first | rfl | (simp only [Env_put_some, Env_put_none, ↓Env_set_at, ↓reduceIte, Nat.reduceEqDiff, h0] <;> rfl)), by (first | rfl | (simp only [Env_put_some, Env_put_none, ↓Env_set_at, ↓reduceIte, Nat.reduceEqDiff, h1] <;> rfl)), by (first | rfl | (simp only [Env_put_some, Env_put_none, ↓Env_set_at, ↓reduceIte, Nat.reduceEqDiff, h5] <;> rfl)), by (first | rfl | (simp only [Env_put_some, Env_put_none, ↓Env_set_at, ↓reduceIte, Nat.reduceEqDiff] <;> rfl)), by (first | rfl | (simp only [Env_put_some, Env_put_none, ↓Env_set_at, ↓reduceIte, Nat.reduceEqDiff] <;> rfl)), hset_self hqq _, fun _ => ⟨i0, T, rfl, rfl, hi0, by simp only [hset_ne (show H0.length ≠ i0 by omega), hrow]⟩⟩
      · have e6 : (x : Int) = y := by omega
        have e7 : ¬ (s.size : Int) - (p : Int) < (y : Int) := by omega
        simp only [e6] at hcell
        (repeat' first
    | (refine CondV_dec (fun _ => ?_) (fun _ => ?_) <;> try (exfalso; omega))
    | (refine GuardV_td (fun _ => ?_) (fun _ => ?_) <;> try (exfalso; omega))
    | (refine GuardV_fd (fun _ => ?_) (fun _ => ?_) <;> try (exfalso; omega))
    | (refine CondV_split (fun _ => ?_) (fun _ => ?_))
    | (refine Need_of (by first | omega | decide) ?_)
    | simp (disch := first | omega | simp only [List.length_append, List.length_set, List.length_cons, List.length_nil] <;> omega | fail) only [evA, ↓evB, ↓astep, ↓aop, aBin, aInt, aStr, aUn, aNil, aMax, aresults, ares, aPack, ↓reduceIte, ↓reduceCtorEq, Nat.reduceEqDiff, Nat.reduceAdd, env0, aLoad, aLoadN, cellsOf, Int.reduceEq, Int.reduceLT, Int.reduceLE, Nat.reduceLeDiff, oneC, aop.fillL, setL, aApp, rowOf, ↓acallop, aBound, aIntOf, flat, flatN, CX_fn, CX_X, CX_pol, aStore, Nat.reduceBEq, List.size_toArray, fn20, ir20, fn22, ir22, h0, h1, h5, h6, h7, hcell, hrow, hJ, hq', e1, e2, e3, e4, e5, e7, Int.toNat_natCast])
        exact ⟨n - 1, by omega, i + 1, p + y, by omega, by omega, by (first | rfl | (simp only [Env_put_some, Env_put_none, ↓Env_set_at, ↓reduceIte, Nat.reduceEqDiff, h0] <;> rfl)), by (first | rfl | (simp only [Env_put_some, Env_put_none, ↓Env_set_at, ↓reduceIte, Nat.reduceEqDiff, h1] <;> rfl)), by (first | rfl | (simp only [Env_put_some, Env_put_none, ↓Env_set_at, ↓reduceIte, Nat.reduceEqDiff, h5] <;> rfl)), by (first | rfl | (simp only [Env_put_some, Env_put_none, ↓Env_set_at, ↓reduceIte, Nat.reduceEqDiff] <;> rfl)), by (first | rfl | (simp only [Env_put_some, Env_put_none, ↓Env_set_at, ↓reduceIte, Nat.reduceEqDiff] <;> rfl)), hset_self hqq _, fun _ => ⟨i0, T, rfl, rfl, hi0, by simp only [hset_ne (show H0.length ≠ i0 by omega), hrow]⟩⟩
    · obtain ⟨J, hJ⟩ := rd_take (lim := H0.length) (fb := H.length) ((s.size - p : Nat) : Int) hq (Nat.le_refl _) ⟨by omega, by omega, by omega, by omega, by omega⟩ (by omega) 193
      have hF : rdF s p 0 ((s.size - p : Nat) : Int) = 0 := by simp only [rdF]; rw [if_neg (by simp), if_neg (by omega), if_neg (by omega)]
      have e1 : ((p : Int) + ((s.size - p : Nat) : Int)).toNat = s.size := by omega
      have e0 : ((s.size - p : Nat) : Int) = s.size - p := by omega
      have e2 : s.extract 0 p ++ s.extract p s.size = s := by rw [ext_app s _ _ hp, ext_all]
      have e3 : (p : Int) + (s.size - p) = s.size := by omega
      simp only [D1, rdT, rdA, hF, if_true, rdC, e1] at hJ
      rw [e0] at hJ
      simp only [e3] at hJ
      (repeat' first
    | (refine CondV_dec (fun _ => ?_) (fun _ => ?_) <;> try (exfalso; omega))
    | (refine GuardV_td (fun _ => ?_) (fun _ => ?_) <;> try (exfalso; omega))
    | (refine GuardV_fd (fun _ => ?_) (fun _ => ?_) <;> try (exfalso; omega))
    | (refine CondV_split (fun _ => ?_) (fun _ => ?_))
    | (refine Need_of (by first | omega | decide) ?_)
    | simp (disch := first | omega | simp only [List.length_append, List.length_set, List.length_cons, List.length_nil] <;> omega | fail) only [evA, ↓evB, ↓astep, ↓aop, aBin, aInt, aStr, aUn, aNil, aMax, aresults, ares, aPack, ↓reduceIte, ↓reduceCtorEq, Nat.reduceEqDiff, Nat.reduceAdd, env0, aLoad, aLoadN, cellsOf, Int.reduceEq, Int.reduceLT, Int.reduceLE, Nat.reduceLeDiff, oneC, aop.fillL, setL, aApp, rowOf, ↓acallop, aBound, aIntOf, flat, flatN, CX_fn, CX_X, CX_pol, aStore, Nat.reduceBEq, List.size_toArray, fn20, ir20, fn23, ir23, fn24, ir24, h0, h1, h5, h6, h7, hq', hJ, e2, Int.toNat_natCast])
  · refine ⟨0, 0, by omega, by omega, rfl, rfl, rfl, by rw [ext_zero]; rfl, rfl, by simp [rdC], fun h => ?_⟩
    obtain ⟨i, T, q1, q2, q3, q4⟩ := hrow h
    exact ⟨i, T, q1, q2, q3, get_app q4 _⟩
theorem main_CursorWhole (H : Heap) (args : List Value) (h : IsVs Try.prog H Try.f6.params.toList args) : ∃ k, Run (fun v' _ => v' = .bool true) mk (acall D1 k 6 args H ⟨H.length, 0⟩) := by
  rw [Try.params6] at h
  obtain ⟨v0, r0, rfl, h0, h⟩ := args_cons h
  obtain ⟨v1, r1, rfl, h1, h⟩ := args_cons h
  obtain rfl := args_nil h
  obtain ⟨s, rfl, hs⟩ := isv_string Try.underlying9 h0
  obtain ⟨xs, hV, _, hx⟩ := isv_slice Try.underlying32 encu8 (fun z => 0 ≤ z ∧ z < 256) (fun cs h => by
    obtain ⟨n, rfl, hn⟩ := is_int Try.underlying5 h
    exact ⟨n, rfl, by simp [Lit.wf, IntKind.min, IntKind.max, IntKind.signed, IntKind.bits] at hn; omega⟩) h1
  exact ⟨200, w6 s (by unfold maxLen at hs; omega) xs hx v1 H hV⟩
end L1
end Ev
end Go.Proofs.Ytlcfanmmpfmnaaa
