/-
  The package snap: what an unpacker does with one element.
-/
import Derived.Test.YthigekeonjmhdaaU1
namespace Go.Proofs.Ythigekeonjmhdaa
namespace Ev
namespace L11
open Tag (mk)
open L15
set_option linter.unusedSimpArgs false
set_option linter.unusedVariables false
set_option maxRecDepth 4000
set_option maxHeartbeats 4000000
abbrev U8 : TypeId := 5
def unC (R : Nat) (a : Option Addr) (n c : Nat) (size : Nat) : AObj := .cells [.pointer (some ⟨R, 0, none⟩), .slice a n c, .int .i64 (size : Int)] 92 true
/-- How an unpacker stands. -/
structure Un (H : Heap) (U R : Nat) (s : ByteArray) (p : Nat) (f : Int) (size : Nat) (out : List Nat) (a : Option Addr) (c : Nat) : Prop where
  r : H[R]? = some (rdC s p f)
  u : H[U]? = some (unC R a out.length c size)
  o : OutAt U8 H a c out
  ne : R ≠ U
  sz : s.size < 2 ^ 30
  p : p ≤ s.size
  os : out.length ≤ size
  ss : size ≤ 50000
theorem notU8_rd (s : ByteArray) (p f : Int) : ∀ cs b, rdC s p f ≠ AObj.cells cs U8 b := fun cs b h => by unfold rdC at h; injection h with h1 h2 h3; simp [U8] at h2
theorem notU8_un (R : Nat) (a : Option Addr) (n c size : Nat) : ∀ cs b, unC R a n c size ≠ AObj.cells cs U8 b := fun cs b h => by unfold unC at h; injection h with h1 h2 h3; simp [U8] at h2

/-- All other things are kept. -/
def Fr (U R : Nat) (H H' : Heap) : Prop := ∀ (i : Nat) (o : AObj), i ≠ U → i ≠ R → H[i]? = some o → (∀ cs b, o ≠ AObj.cells cs U8 b) → H'[i]? = some o
theorem Fr.refl (U R : Nat) (H : Heap) : Fr U R H H := fun _ _ _ _ h _ => h
theorem Fr.trans {U R : Nat} {A B D : Heap} (h : Fr U R A B) (k : Fr U R B D) : Fr U R A D := fun i o h1 h2 h3 h4 => k i o h1 h2 (h i o h1 h2 h3 h4) h4
theorem Fr.setR {U R : Nat} {H : Heap} (o : AObj) : Fr U R H (H.set R o) := fun i x _ h2 h3 _ => by rw [hset_ne (Ne.symm h2)]; exact h3
theorem Fr.setU {U R : Nat} {H : Heap} (o : AObj) : Fr U R H (H.set U o) := fun i x h1 _ h3 _ => by rw [hset_ne (Ne.symm h1)]; exact h3
theorem Fr.app {U R : Nat} {H : Heap} (L : Heap) : Fr U R H (H ++ L) := fun i x _ _ h3 _ => get_app h3 _
theorem Fr.keeps {U R : Nat} {H H' : Heap} (h : Keeps U8 H H') : Fr U R H H' := fun i x _ _ h3 h4 => h.2 i x h3 h4
def LitQ (U R : Nat) (s : ByteArray) (size : Nat) (H : Heap) (r : Nat × Nat × List Nat) (v : Value) (H' : Heap) : Prop := v = .tuple #[] ∧ Fr U R H H' ∧ ∃ a' c', Un H' U R s r.2.1 r.1 size r.2.2 a' c'
theorem un_done {H2 : Heap} {U R : Nat} {s : ByteArray} {p' : Nat} {f' : Int} {size : Nat} {out out' : List Nat} {a a' : Option Addr} {c c' n : Nat} {H : Heap} {f0 : Int} (h : Un H U R s p' f0 size out a c)
    (hr : H2[R]? = some (rdC s p' f')) (hu : H2[U]? = some (unC R a n c size)) (ho : OutAt U8 H2 a' c' out') (hos : out'.length ≤ size) :
    Un (H2.set U (unC R a' out'.length c' size)) U R s p' f' size out' a' c' :=
  ⟨by rw [hset_ne (Ne.symm h.ne)]; exact hr, hset_self (lt_of_get hu) _, ho.set _ hu (notU8_un _ _ _ _ _), h.ne, h.sz, h.p, hos, h.ss⟩
/-- Room, Take and append, where the reader is at 'p1' with the fault 'f1'. -/
theorem lit_tail {H : Heap} {U R : Nat} {s : ByteArray} {p p' size : Nat} {f f' : Int} {out : List Nat} {a : Option Addr} {c fb : Nat} (h : Un H U R s p f size out a c) (t : ByteArray) (hp' : p' ≤ s.size) (ht : out.length + t.size ≤ size) :
    ∃ a' c' H2, aAppC U8 1 1 ⟨0, fb⟩ (H.set R (rdC s p' f')) (.slice a out.length c) t.size (bytesL t) = some (.slice a' (out ++ bl t).length c', H2) ∧ H2[U]? = some (unC R a out.length c size) ∧
      Un (H2.set U (unC R a' (out ++ bl t).length c' size)) U R s p' f' size (out ++ bl t) a' c' ∧ Fr U R H (H2.set U (unC R a' (out ++ bl t).length c' size)) := by
  have hrl := lt_of_get h.r
  obtain ⟨a', c', H2, q1, q2, q3⟩ := appS_ok (T := U8) (fb := fb) (H := H.set R (rdC s p' f')) t (h.o.set _ h.r (notU8_rd _ _ _)) (by have := h.ss; omega)
  have hR := q3.2 R _ (hset_self hrl _) (notU8_rd _ _ _)
  have hU := q3.2 U _ (by rw [hset_ne h.ne]; exact h.u) (notU8_un _ _ _ _ _)
  refine ⟨a', c', H2, q1, hU, ?_, ((Fr.setR _).trans (Fr.keeps q3)).trans (Fr.setU _)⟩
  exact ⟨by rw [hset_ne (Ne.symm h.ne)]; exact hR, hset_self (lt_of_get hU) _, q2.set _ hU (notU8_un _ _ _ _ _), h.ne, h.sz, hp', by rw [List.length_append, bl_length]; exact ht, h.ss⟩
theorem un_end {H2 : Heap} {U R : Nat} {s : ByteArray} {p : Nat} {f f' : Int} {size : Nat} {out out' l : List Nat} {a' : Option Addr} {c' : Nat} (h : Un (H2.set U (unC R a' (out ++ l).length c' size)) U R s p f size (out ++ l) a' c') (hl : out' = out ++ l) (hf : f = f') :
    Un (H2.set U (.cells [.pointer (some ⟨R, 0, none⟩), .slice a' (out.length + l.length) c', .int .i64 (size : Int)] 92 true)) U R s p f' size out' a' c' := by
  subst hl; subst hf; rw [unC, List.length_append] at h; exact h
theorem fr_end {H H2 : Heap} {U R size : Nat} {out l : List Nat} {a' : Option Addr} {c' : Nat} (h : Fr U R H (H2.set U (unC R a' (out ++ l).length c' size))) :
    Fr U R H (H2.set U (.cells [.pointer (some ⟨R, 0, none⟩), .slice a' (out.length + l.length) c', .int .i64 (size : Int)] 92 true)) := by
  rw [unC, List.length_append] at h; exact h
theorem literal_ok {H : Heap} {U R : Nat} {s : ByteArray} {p size : Nat} {out : List Nat} {a : Option Addr} {c : Nat} (h : Un H U R s p 0 size out a c) (v : Nat) (hv : v < 64) (r : Nat × Nat × List Nat) (hr : r = litS s size p out v) :
    Run (LitQ U R s size H r) mk (acall D1 30 101 [.pointer (some ⟨U, 0, none⟩), .int .i64 (v : Int)] H ⟨0, 0⟩) := by
  have hu := h.u
  rw [unC] at hu
  have hul := lt_of_get hu
  have hrr := h.r
  rw [rdC] at hrr
  have hrl := lt_of_get hrr
  have hne := h.ne
  have hs := h.sz
  have hp := h.p
  have hos := h.os
  have hss := h.ss
  have h00 := hset_same h.r
  rw [rdC] at h00
  refine Run_call (F := ir101) rfl (Nat.le_of_ble_eq_true rfl) ?_
  by_cases hv60 : v < 60
  · rw [litS, if_pos hv60, litE] at hr
    by_cases hc1 : size < out.length + (v + 1)
    · -- no room
      rw [if_pos hc1] at hr
      subst hr
      obtain ⟨J, hJ⟩ := rd_take (H := H.set R (rdC s p 3)) (i := R) (lim := 0) (fb := H.length) (s := s) (at_ := p) (fault := 3) ((v : Int) + 1) (by rw [hset_self hrl]) (by omega) ⟨by omega, by omega, by omega, by omega, by omega⟩ (by omega)
      obtain ⟨a', c', H2, q1, q2, q3, q4⟩ := lit_tail (f' := 3) (fb := 0) h ⟨#[]⟩ hp (by show out.length + 0 ≤ size; omega)
      simp only [D1, rdT, rdA, rdF, ne_eq, Int.reduceEq, not_false_eq_true, if_true, if_false, rdC, List.length_set, hset_set] at hJ
      have hul2 := lt_of_get q2
      rw [unC] at q2
      rw [rdC] at q1
      simp only [ir101, D1]
      (repeat' first
    | (refine CondV_dec (fun _ => ?_) (fun _ => ?_) <;> try (exfalso; omega))
    | (refine GuardV_td (fun _ => ?_) (fun _ => ?_) <;> try (exfalso; omega))
    | (refine GuardV_fd (fun _ => ?_) (fun _ => ?_) <;> try (exfalso; omega))
    | (refine CondV_split (fun _ => ?_) (fun _ => ?_))
    | (refine Need_of (by first | omega | decide) ?_)
    | refine WpK_cons ?_ ?_
    | refine WpK_guard ?_
    | simp (disch := first | omega | simp only [List.length_append, List.length_set, List.length_cons, List.length_nil] <;> omega | fail) only [evA, ↓evB, ↓astep, ↓aop, aBin, aInt, aStr, aUn, aNil, aMax, aresults, ares, aPack, ↓reduceIte, ↓reduceCtorEq, Nat.reduceEqDiff, Nat.reduceAdd, env0, aLoad, aLoadN, cellsOf, Int.reduceEq, Int.reduceLT, Int.reduceLE, Nat.reduceLeDiff, oneC, aop.fillL, setL, aApp, aAppC_nil, aAppC_own, xop, eqCells, eqCell, rowOf, ↓acallop, aBound, aIntOf, flat, flatN, CX_fn, CX_X, CX_pol, aStore, Nat.reduceBEq, List.size_toArray, Int.sub_zero, Int.zero_add, Int.add_zero, Int.toNat_zero, Int.reduceAdd, Int.reduceSub, Int.reduceMul, Int.reduceNeg, Int.reduceToNat, Nat.reduceSub, Nat.reduceMul, Int.natCast_zero, Int.reduceDiv, Int.reduceMod, Int.toNat_natCast, fdiv_nn, min_bits_i, Int.reducePow, Nat.reducePow, Nat.reduceDiv, Nat.reduceMod, mb_i, mb_u, WpC_drawD, WpT_nil, WpT_cons, WpT_guard, WpK_nil, scal, fn126, ir126, fn60, ir60, fn58, ir58, hu, hrr, hJ, q1, q2])
      exact ⟨rfl, fr_end q4, a', c', un_end q3 (List.append_nil _).symm rfl⟩
    · by_cases hc2 : s.size < p + (v + 1)
      · rw [if_neg hc1, if_pos hc2] at hr
        subst hr
        obtain ⟨J, hJ⟩ := rd_take (H := H) (i := R) (lim := 0) (fb := H.length) (s := s) (at_ := p) (fault := 0) ((v : Int) + 1) h.r (by omega) ⟨by omega, by omega, by omega, by omega, by omega⟩ (by omega)
        obtain ⟨a', c', H2, q1, q2, q3, q4⟩ := lit_tail (f' := 2) (fb := 0) h ⟨#[]⟩ hp (by show out.length + 0 ≤ size; omega)
        have hF : rdF s p 0 ((v : Int) + 1) = 2 := by simp only [rdF]; rw [if_neg (by simp), if_neg (by omega), if_pos (by omega)]
        simp only [D1, rdT, rdA, hF, Int.reduceEq, if_false, rdC] at hJ
        have hul2 := lt_of_get q2
        rw [unC] at q2
        rw [rdC] at q1
        simp only [ir101, D1]
        (repeat' first
    | (refine CondV_dec (fun _ => ?_) (fun _ => ?_) <;> try (exfalso; omega))
    | (refine GuardV_td (fun _ => ?_) (fun _ => ?_) <;> try (exfalso; omega))
    | (refine GuardV_fd (fun _ => ?_) (fun _ => ?_) <;> try (exfalso; omega))
    | (refine CondV_split (fun _ => ?_) (fun _ => ?_))
    | (refine Need_of (by first | omega | decide) ?_)
    | refine WpK_cons ?_ ?_
    | refine WpK_guard ?_
    | simp (disch := first | omega | simp only [List.length_append, List.length_set, List.length_cons, List.length_nil] <;> omega | fail) only [evA, ↓evB, ↓astep, ↓aop, aBin, aInt, aStr, aUn, aNil, aMax, aresults, ares, aPack, ↓reduceIte, ↓reduceCtorEq, Nat.reduceEqDiff, Nat.reduceAdd, env0, aLoad, aLoadN, cellsOf, Int.reduceEq, Int.reduceLT, Int.reduceLE, Nat.reduceLeDiff, oneC, aop.fillL, setL, aApp, aAppC_nil, aAppC_own, xop, eqCells, eqCell, rowOf, ↓acallop, aBound, aIntOf, flat, flatN, CX_fn, CX_X, CX_pol, aStore, Nat.reduceBEq, List.size_toArray, Int.sub_zero, Int.zero_add, Int.add_zero, Int.toNat_zero, Int.reduceAdd, Int.reduceSub, Int.reduceMul, Int.reduceNeg, Int.reduceToNat, Nat.reduceSub, Nat.reduceMul, Int.natCast_zero, Int.reduceDiv, Int.reduceMod, Int.toNat_natCast, fdiv_nn, min_bits_i, Int.reducePow, Nat.reducePow, Nat.reduceDiv, Nat.reduceMod, mb_i, mb_u, WpC_drawD, WpT_nil, WpT_cons, WpT_guard, WpK_nil, scal, fn126, ir126, fn60, ir60, fn58, ir58, hu, hrr, hJ, q1, q2])
        exact ⟨rfl, fr_end q4, a', c', un_end q3 (List.append_nil _).symm rfl⟩
      · rw [if_neg hc1, if_neg hc2] at hr
        subst hr
        obtain ⟨J, hJ⟩ := rd_take (H := H) (i := R) (lim := 0) (fb := H.length) (s := s) (at_ := p) (fault := 0) ((v : Int) + 1) h.r (by omega) ⟨by omega, by omega, by omega, by omega, by omega⟩ (by omega)
        have e1 : ((p : Int) + ((v : Int) + 1)).toNat = p + (v + 1) := by omega
        have hts : (s.extract p (p + (v + 1))).size = v + 1 := by rw [ext_size _ _ _ (by omega)]; omega
        obtain ⟨a', c', H2, q1, q2, q3, q4⟩ := lit_tail (f' := 0) (p' := p + (v + 1)) (fb := 0) h (s.extract p (p + (v + 1))) (by omega) (by omega)
        have hF : rdF s p 0 ((v : Int) + 1) = 0 := by simp only [rdF]; rw [if_neg (by simp), if_neg (by omega), if_neg (by omega)]
        simp only [D1, rdT, rdA, hF, if_true, rdC, e1, Int.toNat_natCast] at hJ
        have hul2 := lt_of_get q2
        rw [unC] at q2
        rw [rdC, show ((p + (v + 1) : Nat) : Int) = (p : Int) + ((v : Int) + 1) by omega] at q1
        simp only [hts] at q1
        rw [byt_ext] at q1 q3 q4
        simp only [ir101, D1]
        (repeat' first
    | (refine CondV_dec (fun _ => ?_) (fun _ => ?_) <;> try (exfalso; omega))
    | (refine GuardV_td (fun _ => ?_) (fun _ => ?_) <;> try (exfalso; omega))
    | (refine GuardV_fd (fun _ => ?_) (fun _ => ?_) <;> try (exfalso; omega))
    | (refine CondV_split (fun _ => ?_) (fun _ => ?_))
    | (refine Need_of (by first | omega | decide) ?_)
    | refine WpK_cons ?_ ?_
    | refine WpK_guard ?_
    | simp (disch := first | omega | simp only [List.length_append, List.length_set, List.length_cons, List.length_nil] <;> omega | fail) only [evA, ↓evB, ↓astep, ↓aop, aBin, aInt, aStr, aUn, aNil, aMax, aresults, ares, aPack, ↓reduceIte, ↓reduceCtorEq, Nat.reduceEqDiff, Nat.reduceAdd, env0, aLoad, aLoadN, cellsOf, Int.reduceEq, Int.reduceLT, Int.reduceLE, Nat.reduceLeDiff, oneC, aop.fillL, setL, aApp, aAppC_nil, aAppC_own, xop, eqCells, eqCell, rowOf, ↓acallop, aBound, aIntOf, flat, flatN, CX_fn, CX_X, CX_pol, aStore, Nat.reduceBEq, List.size_toArray, Int.sub_zero, Int.zero_add, Int.add_zero, Int.toNat_zero, Int.reduceAdd, Int.reduceSub, Int.reduceMul, Int.reduceNeg, Int.reduceToNat, Nat.reduceSub, Nat.reduceMul, Int.natCast_zero, Int.reduceDiv, Int.reduceMod, Int.toNat_natCast, fdiv_nn, min_bits_i, Int.reducePow, Nat.reducePow, Nat.reduceDiv, Nat.reduceMod, mb_i, mb_u, WpC_drawD, WpT_nil, WpT_cons, WpT_guard, WpK_nil, scal, fn126, ir126, fn60, ir60, fn58, ir58, hu, hrr, hJ, q1, q2, hts])
        exact ⟨rfl, fr_end q4, a', c', un_end q3 rfl rfl⟩
  · rw [litS, if_neg hv60] at hr
    have e59 : ((v : Int) - 60 + 1) = ((v - 59 : Nat) : Int) := by omega
    by_cases hsh : p + (v - 59) ≤ s.size
    · rw [if_pos hsh, litE] at hr
      obtain ⟨J0, hL⟩ := little_ok (n := v - 59) (lim := 0) (fb := H.length) h.r (by omega) hsh (by omega) (by omega)
      obtain ⟨w, hw⟩ : ∃ w, w = ltl (byt s p (v - 59)) := ⟨_, rfl⟩
      have hwl : w < 2 ^ 32 := by
        have h1 := nm_lt (byt s p (v - 59)).reverse (fun b hb => byt_lt s p _ b (List.mem_reverse.1 hb))
        have h2 : (byt s p (v - 59)).reverse.length ≤ 4 := by rw [List.length_reverse, byt_len _ _ _ hsh]; omega
        have h3 : 256 ^ (byt s p (v - 59)).reverse.length ≤ 256 ^ 4 := Nat.pow_le_pow_right (by omega) h2
        rw [hw, ltl]; omega
      rw [← hw] at hL hr
      obtain ⟨q, hqe⟩ : ∃ q, q = p + (v - 59) := ⟨_, rfl⟩
      rw [← hqe] at hr
      have hq : q ≤ s.size := by omega
      have hqi : (p : Int) + ((v - 59 : Nat) : Int) = (q : Int) := by omega
      simp only [D1, rdC, hqi] at hL
      by_cases hc1 : size < out.length + (w + 1)
      · -- no room
        rw [if_pos hc1] at hr
        subst hr
        obtain ⟨J, hJ⟩ := rd_take (H := H.set R (rdC s q 3)) (i := R) (lim := 0) (fb := H.length) (s := s) (at_ := q) (fault := 3) ((w : Int) + 1) (by rw [hset_self hrl]) (by omega) ⟨by omega, by omega, by omega, by omega, by omega⟩ (by omega)
        obtain ⟨a', c', H2, q1, q2, q3, q4⟩ := lit_tail (f' := 3) (p' := q) (fb := 0) h ⟨#[]⟩ hq (by show out.length + 0 ≤ size; omega)
        simp only [D1, rdT, rdA, rdF, ne_eq, Int.reduceEq, not_false_eq_true, if_true, if_false, rdC, List.length_set, hset_set] at hJ
        have hul2 := lt_of_get q2
        rw [unC] at q2
        rw [rdC] at q1
        simp only [ir101, D1]
        (repeat' first
    | (refine CondV_dec (fun _ => ?_) (fun _ => ?_) <;> try (exfalso; omega))
    | (refine GuardV_td (fun _ => ?_) (fun _ => ?_) <;> try (exfalso; omega))
    | (refine GuardV_fd (fun _ => ?_) (fun _ => ?_) <;> try (exfalso; omega))
    | (refine CondV_split (fun _ => ?_) (fun _ => ?_))
    | (refine Need_of (by first | omega | decide) ?_)
    | refine WpK_cons ?_ ?_
    | refine WpK_guard ?_
    | simp (disch := first | omega | simp only [List.length_append, List.length_set, List.length_cons, List.length_nil] <;> omega | fail) only [evA, ↓evB, ↓astep, ↓aop, aBin, aInt, aStr, aUn, aNil, aMax, aresults, ares, aPack, ↓reduceIte, ↓reduceCtorEq, Nat.reduceEqDiff, Nat.reduceAdd, env0, aLoad, aLoadN, cellsOf, Int.reduceEq, Int.reduceLT, Int.reduceLE, Nat.reduceLeDiff, oneC, aop.fillL, setL, aApp, aAppC_nil, aAppC_own, xop, eqCells, eqCell, rowOf, ↓acallop, aBound, aIntOf, flat, flatN, CX_fn, CX_X, CX_pol, aStore, Nat.reduceBEq, List.size_toArray, Int.sub_zero, Int.zero_add, Int.add_zero, Int.toNat_zero, Int.reduceAdd, Int.reduceSub, Int.reduceMul, Int.reduceNeg, Int.reduceToNat, Nat.reduceSub, Nat.reduceMul, Int.natCast_zero, Int.reduceDiv, Int.reduceMod, Int.toNat_natCast, fdiv_nn, min_bits_i, Int.reducePow, Nat.reducePow, Nat.reduceDiv, Nat.reduceMod, mb_i, mb_u, WpC_drawD, WpT_nil, WpT_cons, WpT_guard, WpK_nil, scal, fn126, ir126, fn60, ir60, fn58, ir58, hu, hrr, hL, hJ, q1, q2, e59, hset_set])
        exact ⟨rfl, fr_end q4, a', c', un_end q3 (List.append_nil _).symm rfl⟩
      · by_cases hc2 : s.size < q + (w + 1)
        · --
          rw [if_neg hc1, if_pos hc2] at hr
          subst hr
          obtain ⟨J, hJ⟩ := rd_take (H := H.set R (rdC s q 0)) (i := R) (lim := 0) (fb := H.length) (s := s) (at_ := q) (fault := 0) ((w : Int) + 1) (by rw [hset_self hrl]) (by omega) ⟨by omega, by omega, by omega, by omega, by omega⟩ (by omega)
          obtain ⟨a', c', H2, q1, q2, q3, q4⟩ := lit_tail (f' := 2) (p' := q) (fb := 0) h ⟨#[]⟩ hq (by show out.length + 0 ≤ size; omega)
          have hF : rdF s q 0 ((w : Int) + 1) = 2 := by simp only [rdF]; rw [if_neg (by simp), if_neg (by omega), if_pos (by omega)]
          simp only [D1, rdT, rdA, hF, Int.reduceEq, if_false, rdC, hset_set] at hJ
          have hul2 := lt_of_get q2
          rw [unC] at q2
          rw [rdC] at q1
          simp only [ir101, D1]
          (repeat' first
    | (refine CondV_dec (fun _ => ?_) (fun _ => ?_) <;> try (exfalso; omega))
    | (refine GuardV_td (fun _ => ?_) (fun _ => ?_) <;> try (exfalso; omega))
    | (refine GuardV_fd (fun _ => ?_) (fun _ => ?_) <;> try (exfalso; omega))
    | (refine CondV_split (fun _ => ?_) (fun _ => ?_))
    | (refine Need_of (by first | omega | decide) ?_)
    | refine WpK_cons ?_ ?_
    | refine WpK_guard ?_
    | simp (disch := first | omega | simp only [List.length_append, List.length_set, List.length_cons, List.length_nil] <;> omega | fail) only [evA, ↓evB, ↓astep, ↓aop, aBin, aInt, aStr, aUn, aNil, aMax, aresults, ares, aPack, ↓reduceIte, ↓reduceCtorEq, Nat.reduceEqDiff, Nat.reduceAdd, env0, aLoad, aLoadN, cellsOf, Int.reduceEq, Int.reduceLT, Int.reduceLE, Nat.reduceLeDiff, oneC, aop.fillL, setL, aApp, aAppC_nil, aAppC_own, xop, eqCells, eqCell, rowOf, ↓acallop, aBound, aIntOf, flat, flatN, CX_fn, CX_X, CX_pol, aStore, Nat.reduceBEq, List.size_toArray, Int.sub_zero, Int.zero_add, Int.add_zero, Int.toNat_zero, Int.reduceAdd, Int.reduceSub, Int.reduceMul, Int.reduceNeg, Int.reduceToNat, Nat.reduceSub, Nat.reduceMul, Int.natCast_zero, Int.reduceDiv, Int.reduceMod, Int.toNat_natCast, fdiv_nn, min_bits_i, Int.reducePow, Nat.reducePow, Nat.reduceDiv, Nat.reduceMod, mb_i, mb_u, WpC_drawD, WpT_nil, WpT_cons, WpT_guard, WpK_nil, scal, fn126, ir126, fn60, ir60, fn58, ir58, hu, hrr, hL, hJ, q1, q2, e59, hset_set])
          exact ⟨rfl, fr_end q4, a', c', un_end q3 (List.append_nil _).symm rfl⟩
        · --
          rw [if_neg hc1, if_neg hc2] at hr
          subst hr
          obtain ⟨J, hJ⟩ := rd_take (H := H.set R (rdC s q 0)) (i := R) (lim := 0) (fb := H.length) (s := s) (at_ := q) (fault := 0) ((w : Int) + 1) (by rw [hset_self hrl]) (by omega) ⟨by omega, by omega, by omega, by omega, by omega⟩ (by omega)
          have e1 : ((q : Int) + ((w : Int) + 1)).toNat = q + (w + 1) := by omega
          have hts : (s.extract q (q + (w + 1))).size = w + 1 := by rw [ext_size _ _ _ (by omega)]; omega
          obtain ⟨a', c', H2, q1, q2, q3, q4⟩ := lit_tail (f' := 0) (p' := q + (w + 1)) (fb := 0) h (s.extract q (q + (w + 1))) (by omega) (by omega)
          have hF : rdF s q 0 ((w : Int) + 1) = 0 := by simp only [rdF]; rw [if_neg (by simp), if_neg (by omega), if_neg (by omega)]
          simp only [D1, rdT, rdA, hF, if_true, rdC, e1, Int.toNat_natCast, hset_set] at hJ
          have hul2 := lt_of_get q2
          rw [unC] at q2
          rw [rdC, show ((q + (w + 1) : Nat) : Int) = (q : Int) + ((w : Int) + 1) by omega] at q1
          simp only [hts] at q1
          rw [byt_ext] at q1 q3 q4
          simp only [ir101, D1]
          (repeat' first
    | (refine CondV_dec (fun _ => ?_) (fun _ => ?_) <;> try (exfalso; omega))
    | (refine GuardV_td (fun _ => ?_) (fun _ => ?_) <;> try (exfalso; omega))
    | (refine GuardV_fd (fun _ => ?_) (fun _ => ?_) <;> try (exfalso; omega))
    | (refine CondV_split (fun _ => ?_) (fun _ => ?_))
    | (refine Need_of (by first | omega | decide) ?_)
    | refine WpK_cons ?_ ?_
    | refine WpK_guard ?_
    | simp (disch := first | omega | simp only [List.length_append, List.length_set, List.length_cons, List.length_nil] <;> omega | fail) only [evA, ↓evB, ↓astep, ↓aop, aBin, aInt, aStr, aUn, aNil, aMax, aresults, ares, aPack, ↓reduceIte, ↓reduceCtorEq, Nat.reduceEqDiff, Nat.reduceAdd, env0, aLoad, aLoadN, cellsOf, Int.reduceEq, Int.reduceLT, Int.reduceLE, Nat.reduceLeDiff, oneC, aop.fillL, setL, aApp, aAppC_nil, aAppC_own, xop, eqCells, eqCell, rowOf, ↓acallop, aBound, aIntOf, flat, flatN, CX_fn, CX_X, CX_pol, aStore, Nat.reduceBEq, List.size_toArray, Int.sub_zero, Int.zero_add, Int.add_zero, Int.toNat_zero, Int.reduceAdd, Int.reduceSub, Int.reduceMul, Int.reduceNeg, Int.reduceToNat, Nat.reduceSub, Nat.reduceMul, Int.natCast_zero, Int.reduceDiv, Int.reduceMod, Int.toNat_natCast, fdiv_nn, min_bits_i, Int.reducePow, Nat.reducePow, Nat.reduceDiv, Nat.reduceMod, mb_i, mb_u, WpC_drawD, WpT_nil, WpT_cons, WpT_guard, WpK_nil, scal, fn126, ir126, fn60, ir60, fn58, ir58, hu, hrr, hL, hJ, q1, q2, hts, e59, hset_set])
          exact ⟨rfl, fr_end q4, a', c', un_end q3 rfl rfl⟩
    · rw [if_neg hsh] at hr
      subst hr
      obtain ⟨J0, hL⟩ := little_no (n := v - 59) (lim := 0) (fb := H.length) h.r (by omega) hp (by omega) (by omega) (by omega)
      obtain ⟨J, hJ⟩ := rd_take (H := H.set R (rdC s p 2)) (i := R) (lim := 0) (fb := H.length) (s := s) (at_ := p) (fault := 2) 1 (by rw [hset_self hrl]) (by omega) ⟨by omega, by omega, by omega, by omega, by omega⟩ (by omega)
      obtain ⟨a', c', H2, q1, q2, q3, q4⟩ := lit_tail (f' := 2) (p' := p) (fb := 0) h ⟨#[]⟩ hp (by show out.length + 0 ≤ size; omega)
      simp only [D1, rdC] at hL
      simp only [D1, rdT, rdA, rdF, ne_eq, Int.reduceEq, not_false_eq_true, if_true, if_false, rdC, List.length_set, hset_set] at hJ
      have hul2 := lt_of_get q2
      rw [unC] at q2
      rw [rdC] at q1
      simp only [ir101, D1]
      (repeat' first
    | (refine CondV_dec (fun _ => ?_) (fun _ => ?_) <;> try (exfalso; omega))
    | (refine GuardV_td (fun _ => ?_) (fun _ => ?_) <;> try (exfalso; omega))
    | (refine GuardV_fd (fun _ => ?_) (fun _ => ?_) <;> try (exfalso; omega))
    | (refine CondV_split (fun _ => ?_) (fun _ => ?_))
    | (refine Need_of (by first | omega | decide) ?_)
    | refine WpK_cons ?_ ?_
    | refine WpK_guard ?_
    | simp (disch := first | omega | simp only [List.length_append, List.length_set, List.length_cons, List.length_nil] <;> omega | fail) only [evA, ↓evB, ↓astep, ↓aop, aBin, aInt, aStr, aUn, aNil, aMax, aresults, ares, aPack, ↓reduceIte, ↓reduceCtorEq, Nat.reduceEqDiff, Nat.reduceAdd, env0, aLoad, aLoadN, cellsOf, Int.reduceEq, Int.reduceLT, Int.reduceLE, Nat.reduceLeDiff, oneC, aop.fillL, setL, aApp, aAppC_nil, aAppC_own, xop, eqCells, eqCell, rowOf, ↓acallop, aBound, aIntOf, flat, flatN, CX_fn, CX_X, CX_pol, aStore, Nat.reduceBEq, List.size_toArray, Int.sub_zero, Int.zero_add, Int.add_zero, Int.toNat_zero, Int.reduceAdd, Int.reduceSub, Int.reduceMul, Int.reduceNeg, Int.reduceToNat, Nat.reduceSub, Nat.reduceMul, Int.natCast_zero, Int.reduceDiv, Int.reduceMod, Int.toNat_natCast, fdiv_nn, min_bits_i, Int.reducePow, Nat.reducePow, Nat.reduceDiv, Nat.reduceMod, mb_i, mb_u, WpC_drawD, WpT_nil, WpT_cons, WpT_guard, WpK_nil, scal, fn126, ir126, fn60, ir60, fn58, ir58, hu, hrr, hL, hJ, q1, q2, e59, hset_set])
      all_goals exact ⟨rfl, fr_end q4, a', c', un_end q3 (List.append_nil _).symm rfl⟩
end L11
end Ev
end Go.Proofs.Ythigekeonjmhdaa
