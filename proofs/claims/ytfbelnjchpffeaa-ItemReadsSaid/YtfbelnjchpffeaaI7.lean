/-
  The program's line of an item.
-/
import Derived.Test.YtfbelnjchpffeaaI6
namespace Go.Proofs.Ytfbelnjchpffeaa
namespace Ev
open Tag (mk)
set_option linter.unusedSimpArgs false
set_option linter.unusedVariables false
set_option maxRecDepth 4000
set_option maxHeartbeats 4000000
theorem digs_at (n : Nat) (h : n < 16) : bAt digs n = hxc n := by
  have : ∀ n, n < 16 → bAt digs n = hxc n := by decide +kernel
  exact this n h
theorem dig_get (n : Nat) (h : n < 16) : ([48, 49, 50, 51, 52, 53, 54, 55, 56, 57, 97, 98, 99, 100, 101, 102] : List UInt8)[n]? = some (UInt8.ofNat (hxc n)) := by
  have : ∀ n, n < 16 → ([48, 49, 50, 51, 52, 53, 54, 55, 56, 57, 97, 98, 99, 100, 101, 102] : List UInt8)[n]? = some (UInt8.ofNat (hxc n)) := by decide +kernel
  exact this n h
theorem hxc_u8 (n : Nat) (h : n < 16) : (UInt8.ofNat (hxc n)).toNat = hxc n := by
  have : ∀ n, n < 16 → (UInt8.ofNat (hxc n)).toNat = hxc n := by decide +kernel
  exact this n h
theorem Held.bs {H H' : Heap} {S : Nat → Prop} {base jb j : Nat} {t : ByteArray} {b : Bool} {l : List Tr} {a : Option Addr} {c : Nat} {out : List Nat} (h : Held H S j t b l a c) (hb : BAt H base jb out) (hS : ∀ i, S i → i < base) (hs : BStep jb H H') : Held H' S j t b l a c :=
  h.fr hs.fr (fun hx => by
    obtain ⟨_, cs, T, h1, h2⟩ := hb.bx hx
    rw [h.box] at h1
    cases h1
    rcases h2 with h2 | h2 <;> exact absurd h2 (by decide)) (fun i hi hx => by have := (hb.bx hx).1; have := hS i hi; omega)
theorem ItemV.bs {H H' : Heap} {S : Nat → Prop} {base jb : Nat} {t : Tr} {v : Value} {out : List Nat} (h : ItemV H S t v) (hb : BAt H base jb out) (hS : ∀ i, S i → i < base) (hs : BStep jb H H') : ItemV H' S t v :=
  h.fr hs.fr (fun i hi hx => by have := (hb.bx hx).1; have := hS i hi; omega)
def IShwL (Hb : Heap) (S : Nat → Prop) (base jb j : Nat) (t : ByteArray) (l : List Tr) (a : Option Addr) (cc : Nat) (out0 : List Nat) (n : Nat) (e : Env) (H : Heap) : Prop :=
  ∃ (i : Nat) (acc : List Nat), i + n = l.length ∧ e 0 = .pointer (some ⟨jb, 0, none⟩) ∧ e 36 = .slice a l.length cc ∧ e 37 = .int .i64 (l.length : Int) ∧ e 38 = .int .i64 (i : Int) ∧
    Held H S j t true l a cc ∧ BAt H base jb acc ∧ BStep jb Hb H ∧ acc ++ shws (decide (i = 0)) (l.drop i) = out0 ++ [40] ++ shws true l
def IShwT (Hb : Heap) (base jb j : Nat) (t : ByteArray) (l : List Tr) (a : Option Addr) (cc : Nat) (out0 : List Nat) (n : Nat) (e : Env) (H : Heap) : Prop :=
  ∃ (i : Nat) (acc : List Nat), i + n = t.size ∧ e 0 = .pointer (some ⟨jb, 0, none⟩) ∧ e 3 = .pointer (some ⟨j, 0, none⟩) ∧ e 9 = .int .i64 (t.size : Int) ∧ e 10 = .int .i64 (i : Int) ∧
    H[j]? = some (.cells [.string t, .bool false, .slice a l.length cc] 24 true) ∧ BAt H base jb acc ∧ BStep jb Hb H ∧ acc ++ hx ((bl t).drop i) = out0 ++ hx (bl t)
theorem wShw : ∀ (N : Nat) (t : Tr), sz t ≤ N → sz t ≤ 5000 → byt t ≤ 10000 → ∀ (H : Heap) (S : Nat → Prop) (v : Value) (base jb : Nat) (out : List Nat), ItemV H S t v → (∀ i, S i → i < base) → BAt H base jb out → out.length + (shw t).length ≤ 50000000 →
    ∀ (m : Ev.Mode), m.lim ≤ base → m.fb ≤ base → ∀ (k : Nat), sz t + byt t + 6 ≤ k →
    Run (fun u H' => u = .tuple #[] ∧ BAt H' base jb (out ++ shw t) ∧ BStep jb H H') mk (acall T0 k 81 [.pointer (some ⟨jb, 0, none⟩), v] H m) := by
  intro N
  induction N with
  | zero => intro t h; have := sz_pos t; omega
  | succ N ih =>
    intro t hN h5 hb H S v base jb out hv hS hB hout m hm1 hm2 k hk
    obtain ⟨t, b, l⟩ := t
    obtain ⟨a, c, rfl, hh⟩ := hv.parts
    obtain ⟨k, rfl⟩ : ∃ q, k = q + 1 := ⟨k - 1, by omega⟩
    have hls := len_szs l
    unfold sz at hN hk h5
    unfold byt at hb hk
    unfold shw at hout
    have hjb : jb < H.length := by obtain ⟨p, a, c, h1, h2, _⟩ := hB; exact lt_of_get h2
    have hbj : base ≤ jb := hB.choose_spec.choose_spec.choose_spec.1
    refine Run_call (F := ir81) rfl (Nat.le_of_ble_eq_true rfl) ?_
    obtain ⟨Hc, hHc⟩ : ∃ Hc : Heap, Hc = H ++ [.cells [.string t, .bool b, .slice a l.length c] 24 true] := ⟨_, rfl⟩
    have hold := hh Hc hHc
    have hbox := hold.box
    have hLc : Hc.length = H.length + 1 := by rw [hHc]; simp
    have hBc : BAt Hc base jb out := by rw [hHc]; exact hB.app _
    have hSc : BStep jb H Hc := by rw [hHc]; exact .app hjb _
    simp only [ir81]
    cases b with
    | true =>
      simp only [if_true, List.length_append, List.length_cons, List.length_nil] at hout
      obtain ⟨v1, Hd, hc1, rfl, hBd, hSd⟩ := Run_get (wWriteByte Hc base jb out 40 hBc (by omega) m hm1 hm2 (k - 1) (by omega))
      have hc1 := hc1 k (by omega)
      have hold2 := hold.bs hBc hS hSd
      have hbox2 := hold2.box
      rw [show ((40 : Nat) : Int) = 40 from rfl] at hc1
      simp only [T0] at hc1
      simp only [T0]
      (repeat' first
    | (refine CondV_dec (fun _ => ?_) (fun _ => ?_) <;> try (exfalso; omega))
    | (refine GuardV_td (fun _ => ?_) (fun _ => ?_) <;> try (exfalso; omega))
    | (refine GuardV_fd (fun _ => ?_) (fun _ => ?_) <;> try (exfalso; omega))
    | (refine CondV_split (fun _ => ?_) (fun _ => ?_))
    | (refine Need_of (by first | omega | decide) ?_)
    | refine WpK_cons ?_ ?_
    | refine WpK_guard ?_
    | simp (disch := first | omega | simp only [List.length_append, List.length_set, List.length_cons, List.length_nil] <;> omega | fail) only [evA, ↓evB, ↓astep, ↓aop, aBin, aInt, aStr, aUn, aNil, aMax, aresults, ares, aPack, ↓reduceIte, ↓reduceCtorEq, Nat.reduceEqDiff, Nat.reduceAdd, env0, aLoad, aLoadN, cellsOf, Int.reduceEq, Int.reduceLT, Int.reduceLE, Nat.reduceLeDiff, oneC, aop.fillL, setL, aApp, aAppC_nil, aAppC_own, xop, aSame_ptr, BIG, Bool.or_true, Bool.true_or, Bool.or_false, Bool.false_or, eqCells, eqCell, rowOf, ↓acallop, aBound, aIntOf, flat, flatN, CX_fn, CX_X, CX_pol, aStore, Nat.reduceBEq, List.size_toArray, Int.sub_zero, Int.zero_add, Int.add_zero, Int.toNat_zero, Int.reduceAdd, Int.reduceSub, Int.reduceMul, Int.reduceNeg, Int.reduceToNat, Nat.reduceSub, Nat.reduceMul, Int.natCast_zero, Int.reduceDiv, Int.reduceMod, Int.toNat_natCast, fdiv_nn, min_bits_i, Int.reducePow, Nat.reducePow, Nat.reduceDiv, Nat.reduceMod, mb_i, mb_u, WpC_drawD, WpT_nil, WpT_cons, WpT_guard, WpK_nil, scal, ← hHc, hbox, hbox2, hc1])
      refine WpC_loop (IShwL H S base jb H.length t l a c out) ?_ (n := l.length) (show l.length < k by omega) ?_
      · rintro n e H1 ⟨i, acc, hi, g0, g36, g37, g38, hold1, hB1, hS1, hr⟩
        have hlr := congrArg List.length hr
        have hla := shws_len true l
        simp only [List.length_append, List.length_cons, List.length_nil] at hlr
        have hj1 : jb < H1.length := by have := hS1.fr.1; omega
        by_cases hc : i < l.length
        · obtain ⟨q, T, own, cells, rfl, rfl, hSq, hq, hle, hit⟩ := hold1.get hc
          obtain ⟨ai, ci, hcell, hsubi⟩ := hit.cells
          have hr0 : shws (decide (i = 0)) (l.drop i) = (if decide (i = 0) = true then [] else [32]) ++ shw l[i] ++ shws false (l.drop (i + 1)) := by rw [drop_cons' hc, shws]
          have hsl := sz_get hc
          have hbl := byt_get hc
          obtain ⟨H2, hH2⟩ : ∃ H2 : Heap, H2 = H1 ++ [.cells [.string l[i].text, .bool l[i].list, .slice ai l[i].sub.length ci] 24 true] := ⟨_, rfl⟩
          have hS2 : BStep jb H1 H2 := by rw [hH2]; exact .app hj1 _
          have hB2 : BAt H2 base jb acc := by rw [hH2]; exact hB1.app _
          have hv2 : ItemV H2 S l[i] (.agg #[.string l[i].text, .bool l[i].list, .slice ai l[i].sub.length ci]) := by
            have : ItemV H1 S l[i] (.agg #[.string l[i].text, .bool l[i].list, .slice ai l[i].sub.length ci]) := ⟨_, rfl, hcell ▸ hit⟩
            rw [hH2]; exact this.app _
          have hl2 : H2[H1.length]? = some (.cells [.string l[i].text, .bool l[i].list, .slice ai l[i].sub.length ci] 24 true) := by rw [hH2]; simp
          have hold2' : Held H2 S H.length t true l (some ⟨q, 0, none⟩) 3 := by rw [hH2]; exact hold1.app _
          have hb1 : H1.length < H2.length := by rw [hH2]; simp
          rw [hr0] at hr
          have hlr := congrArg List.length hr
          simp only [List.length_append, List.length_cons, List.length_nil] at hlr
          by_cases h0 : i = 0
          · obtain ⟨v1, H4, hc2, rfl, hB4, hS4⟩ := Run_get (ih l[i] (by omega) (by omega) (by omega) H2 S _ base jb acc hv2 hS hB2 (by omega) m hm1 hm2 k (by omega))
            have hc2 := hc2 k (Nat.le_refl _)
            simp only [T0] at hc2
            simp only [lp81_0, evA, ↓evB, ↓astep, ↓aop, aBin, aInt, aStr, aUn, aNil, aMax, aresults, ares, aPack, ↓reduceIte, ↓reduceCtorEq, Nat.reduceEqDiff, Nat.reduceAdd, env0, aLoad, aLoadN, cellsOf, Int.reduceEq, Int.reduceLT, Int.reduceLE, Nat.reduceLeDiff, oneC, aop.fillL, setL, aApp, aAppC_nil, aAppC_own, xop, aSame_ptr, BIG, Bool.or_true, Bool.true_or, Bool.or_false, Bool.false_or, eqCells, eqCell, rowOf, ↓acallop, aBound, aIntOf, flat, flatN, CX_fn, CX_X, CX_pol, aStore, Nat.reduceBEq, List.size_toArray, Int.sub_zero, Int.zero_add, Int.add_zero, Int.toNat_zero, Int.reduceAdd, Int.reduceSub, Int.reduceMul, Int.reduceNeg, Int.reduceToNat, Nat.reduceSub, Nat.reduceMul, Int.natCast_zero, Int.reduceDiv, Int.reduceMod, Int.toNat_natCast, fdiv_nn, min_bits_i, Int.reducePow, Nat.reducePow, Nat.reduceDiv, Nat.reduceMod, mb_i, mb_u, WpC_drawD, WpT_nil, WpT_cons, WpT_guard, WpK_nil, scal, g0, g36, g37, g38, T0]
            (repeat' first
    | (refine CondV_dec (fun _ => ?_) (fun _ => ?_) <;> try (exfalso; omega))
    | (refine GuardV_td (fun _ => ?_) (fun _ => ?_) <;> try (exfalso; omega))
    | (refine GuardV_fd (fun _ => ?_) (fun _ => ?_) <;> try (exfalso; omega))
    | (refine CondV_split (fun _ => ?_) (fun _ => ?_))
    | (refine Need_of (by first | omega | decide) ?_)
    | refine WpK_cons ?_ ?_
    | refine WpK_guard ?_
    | simp (disch := first | omega | simp only [List.length_append, List.length_set, List.length_cons, List.length_nil] <;> omega | fail) only [evA, ↓evB, ↓astep, ↓aop, aBin, aInt, aStr, aUn, aNil, aMax, aresults, ares, aPack, ↓reduceIte, ↓reduceCtorEq, Nat.reduceEqDiff, Nat.reduceAdd, env0, aLoad, aLoadN, cellsOf, Int.reduceEq, Int.reduceLT, Int.reduceLE, Nat.reduceLeDiff, oneC, aop.fillL, setL, aApp, aAppC_nil, aAppC_own, xop, aSame_ptr, BIG, Bool.or_true, Bool.true_or, Bool.or_false, Bool.false_or, eqCells, eqCell, rowOf, ↓acallop, aBound, aIntOf, flat, flatN, CX_fn, CX_X, CX_pol, aStore, Nat.reduceBEq, List.size_toArray, Int.sub_zero, Int.zero_add, Int.add_zero, Int.toNat_zero, Int.reduceAdd, Int.reduceSub, Int.reduceMul, Int.reduceNeg, Int.reduceToNat, Nat.reduceSub, Nat.reduceMul, Int.natCast_zero, Int.reduceDiv, Int.reduceMod, Int.toNat_natCast, fdiv_nn, min_bits_i, Int.reducePow, Nat.reducePow, Nat.reduceDiv, Nat.reduceMod, mb_i, mb_u, WpC_drawD, WpT_nil, WpT_cons, WpT_guard, WpK_nil, scal, g0, g36, g37, g38, hq, hcell, ← hH2, hl2, hc2])
            refine ⟨n - 1, by omega, i + 1, acc ++ shw l[i], by omega, by (first | rfl | (simp only [Env_put_some, Env_put_none, ↓Env_set_at, ↓reduceIte, Nat.reduceEqDiff, g0] <;> rfl)), by (first | rfl | (simp only [Env_put_some, Env_put_none, ↓Env_set_at, ↓reduceIte, Nat.reduceEqDiff, g36] <;> rfl)), by (first | rfl | (simp only [Env_put_some, Env_put_none, ↓Env_set_at, ↓reduceIte, Nat.reduceEqDiff, g37] <;> rfl)), by (first | rfl | (simp only [Env_put_some, Env_put_none, ↓Env_set_at, ↓reduceIte, Nat.reduceEqDiff] <;> rfl)), hold2'.bs hB2 hS hS4, hB4, (hS1.trans hS2).trans hS4, ?_⟩
            rw [← hr]; simp [h0]
          · have hi0 : (if decide (i = 0) = true then ([] : List Nat) else [32]) = [32] := by simp [h0]
            rw [hi0] at hlr
            simp only [List.length_cons, List.length_nil] at hlr
            obtain ⟨v1, H3, hc1, rfl, hB3, hS3⟩ := Run_get (wWriteByte H2 base jb acc 32 hB2 (by omega) m hm1 hm2 (k - 1) (by omega))
            have hc1 := hc1 k (by omega)
            rw [show ((32 : Nat) : Int) = 32 from rfl] at hc1
            have hl3 := hS3.fr.2 _ _ (fun hx => by
              obtain ⟨_, cs, T', q1, q2⟩ := hB2.bx hx
              rw [hl2] at q1; cases q1
              rcases q2 with q2 | q2 <;> exact absurd q2 (by decide)) hl2
            obtain ⟨v1, H4, hc2, rfl, hB4, hS4⟩ := Run_get (ih l[i] (by omega) (by omega) (by omega) H3 S _ base jb (acc ++ [32]) (hv2.bs hB2 hS hS3) hS hB3 (by simp only [List.length_append, List.length_cons, List.length_nil]; omega) m hm1 hm2 k (by omega))
            have hc2 := hc2 k (Nat.le_refl _)
            simp only [T0] at hc1 hc2
            simp only [lp81_0, evA, ↓evB, ↓astep, ↓aop, aBin, aInt, aStr, aUn, aNil, aMax, aresults, ares, aPack, ↓reduceIte, ↓reduceCtorEq, Nat.reduceEqDiff, Nat.reduceAdd, env0, aLoad, aLoadN, cellsOf, Int.reduceEq, Int.reduceLT, Int.reduceLE, Nat.reduceLeDiff, oneC, aop.fillL, setL, aApp, aAppC_nil, aAppC_own, xop, aSame_ptr, BIG, Bool.or_true, Bool.true_or, Bool.or_false, Bool.false_or, eqCells, eqCell, rowOf, ↓acallop, aBound, aIntOf, flat, flatN, CX_fn, CX_X, CX_pol, aStore, Nat.reduceBEq, List.size_toArray, Int.sub_zero, Int.zero_add, Int.add_zero, Int.toNat_zero, Int.reduceAdd, Int.reduceSub, Int.reduceMul, Int.reduceNeg, Int.reduceToNat, Nat.reduceSub, Nat.reduceMul, Int.natCast_zero, Int.reduceDiv, Int.reduceMod, Int.toNat_natCast, fdiv_nn, min_bits_i, Int.reducePow, Nat.reducePow, Nat.reduceDiv, Nat.reduceMod, mb_i, mb_u, WpC_drawD, WpT_nil, WpT_cons, WpT_guard, WpK_nil, scal, g0, g36, g37, g38, T0]
            (repeat' first
    | (refine CondV_dec (fun _ => ?_) (fun _ => ?_) <;> try (exfalso; omega))
    | (refine GuardV_td (fun _ => ?_) (fun _ => ?_) <;> try (exfalso; omega))
    | (refine GuardV_fd (fun _ => ?_) (fun _ => ?_) <;> try (exfalso; omega))
    | (refine CondV_split (fun _ => ?_) (fun _ => ?_))
    | (refine Need_of (by first | omega | decide) ?_)
    | refine WpK_cons ?_ ?_
    | refine WpK_guard ?_
    | simp (disch := first | omega | simp only [List.length_append, List.length_set, List.length_cons, List.length_nil] <;> omega | fail) only [evA, ↓evB, ↓astep, ↓aop, aBin, aInt, aStr, aUn, aNil, aMax, aresults, ares, aPack, ↓reduceIte, ↓reduceCtorEq, Nat.reduceEqDiff, Nat.reduceAdd, env0, aLoad, aLoadN, cellsOf, Int.reduceEq, Int.reduceLT, Int.reduceLE, Nat.reduceLeDiff, oneC, aop.fillL, setL, aApp, aAppC_nil, aAppC_own, xop, aSame_ptr, BIG, Bool.or_true, Bool.true_or, Bool.or_false, Bool.false_or, eqCells, eqCell, rowOf, ↓acallop, aBound, aIntOf, flat, flatN, CX_fn, CX_X, CX_pol, aStore, Nat.reduceBEq, List.size_toArray, Int.sub_zero, Int.zero_add, Int.add_zero, Int.toNat_zero, Int.reduceAdd, Int.reduceSub, Int.reduceMul, Int.reduceNeg, Int.reduceToNat, Nat.reduceSub, Nat.reduceMul, Int.natCast_zero, Int.reduceDiv, Int.reduceMod, Int.toNat_natCast, fdiv_nn, min_bits_i, Int.reducePow, Nat.reducePow, Nat.reduceDiv, Nat.reduceMod, mb_i, mb_u, WpC_drawD, WpT_nil, WpT_cons, WpT_guard, WpK_nil, scal, g0, g36, g37, g38, hq, hcell, ← hH2, hl2, hc1, hl3, hc2])
            refine ⟨n - 1, by omega, i + 1, acc ++ [32] ++ shw l[i], by omega, by (first | rfl | (simp only [Env_put_some, Env_put_none, ↓Env_set_at, ↓reduceIte, Nat.reduceEqDiff, g0] <;> rfl)), by (first | rfl | (simp only [Env_put_some, Env_put_none, ↓Env_set_at, ↓reduceIte, Nat.reduceEqDiff, g36] <;> rfl)), by (first | rfl | (simp only [Env_put_some, Env_put_none, ↓Env_set_at, ↓reduceIte, Nat.reduceEqDiff, g37] <;> rfl)), by (first | rfl | (simp only [Env_put_some, Env_put_none, ↓Env_set_at, ↓reduceIte, Nat.reduceEqDiff] <;> rfl)), (hold2'.bs hB2 hS hS3).bs hB3 hS hS4, hB4, ((hS1.trans hS2).trans hS3).trans hS4, ?_⟩
            rw [← hr]; simp [h0]
        · rw [List.drop_eq_nil_of_le (by omega)] at hr
          have e0 : ∀ f, shws f [] = [] := fun f => by simp only [shws]
          rw [e0, List.append_nil] at hr
          obtain ⟨v1, H3, hc1, rfl, hB3, hS3⟩ := Run_get (wWriteByte H1 base jb acc 41 hB1 (by rw [hr]; simp only [List.length_append, List.length_cons, List.length_nil]; omega) m hm1 hm2 (k - 1) (by omega))
          have hc1 := hc1 k (by omega)
          rw [show ((41 : Nat) : Int) = 41 from rfl] at hc1
          simp only [T0] at hc1
          simp only [lp81_0, evA, ↓evB, ↓astep, ↓aop, aBin, aInt, aStr, aUn, aNil, aMax, aresults, ares, aPack, ↓reduceIte, ↓reduceCtorEq, Nat.reduceEqDiff, Nat.reduceAdd, env0, aLoad, aLoadN, cellsOf, Int.reduceEq, Int.reduceLT, Int.reduceLE, Nat.reduceLeDiff, oneC, aop.fillL, setL, aApp, aAppC_nil, aAppC_own, xop, aSame_ptr, BIG, Bool.or_true, Bool.true_or, Bool.or_false, Bool.false_or, eqCells, eqCell, rowOf, ↓acallop, aBound, aIntOf, flat, flatN, CX_fn, CX_X, CX_pol, aStore, Nat.reduceBEq, List.size_toArray, Int.sub_zero, Int.zero_add, Int.add_zero, Int.toNat_zero, Int.reduceAdd, Int.reduceSub, Int.reduceMul, Int.reduceNeg, Int.reduceToNat, Nat.reduceSub, Nat.reduceMul, Int.natCast_zero, Int.reduceDiv, Int.reduceMod, Int.toNat_natCast, fdiv_nn, min_bits_i, Int.reducePow, Nat.reducePow, Nat.reduceDiv, Nat.reduceMod, mb_i, mb_u, WpC_drawD, WpT_nil, WpT_cons, WpT_guard, WpK_nil, scal, g0, g36, g37, g38, T0]
          (repeat' first
    | (refine CondV_dec (fun _ => ?_) (fun _ => ?_) <;> try (exfalso; omega))
    | (refine GuardV_td (fun _ => ?_) (fun _ => ?_) <;> try (exfalso; omega))
    | (refine GuardV_fd (fun _ => ?_) (fun _ => ?_) <;> try (exfalso; omega))
    | (refine CondV_split (fun _ => ?_) (fun _ => ?_))
    | (refine Need_of (by first | omega | decide) ?_)
    | refine WpK_cons ?_ ?_
    | refine WpK_guard ?_
    | simp (disch := first | omega | simp only [List.length_append, List.length_set, List.length_cons, List.length_nil] <;> omega | fail) only [evA, ↓evB, ↓astep, ↓aop, aBin, aInt, aStr, aUn, aNil, aMax, aresults, ares, aPack, ↓reduceIte, ↓reduceCtorEq, Nat.reduceEqDiff, Nat.reduceAdd, env0, aLoad, aLoadN, cellsOf, Int.reduceEq, Int.reduceLT, Int.reduceLE, Nat.reduceLeDiff, oneC, aop.fillL, setL, aApp, aAppC_nil, aAppC_own, xop, aSame_ptr, BIG, Bool.or_true, Bool.true_or, Bool.or_false, Bool.false_or, eqCells, eqCell, rowOf, ↓acallop, aBound, aIntOf, flat, flatN, CX_fn, CX_X, CX_pol, aStore, Nat.reduceBEq, List.size_toArray, Int.sub_zero, Int.zero_add, Int.add_zero, Int.toNat_zero, Int.reduceAdd, Int.reduceSub, Int.reduceMul, Int.reduceNeg, Int.reduceToNat, Nat.reduceSub, Nat.reduceMul, Int.natCast_zero, Int.reduceDiv, Int.reduceMod, Int.toNat_natCast, fdiv_nn, min_bits_i, Int.reducePow, Nat.reducePow, Nat.reduceDiv, Nat.reduceMod, mb_i, mb_u, WpC_drawD, WpT_nil, WpT_cons, WpT_guard, WpK_nil, scal, g0, g36, g37, g38, hc1])
          refine ⟨?_, hS1.trans hS3⟩
          unfold shw; simp only [if_true]
          rw [hr] at hB3
          simpa [List.append_assoc] using hB3
      · exact ⟨0, out ++ [40], by omega, rfl, rfl, rfl, rfl, hold2, hBd, hSc.trans hSd, rfl⟩
    | false =>
      simp only [Bool.false_eq_true, if_false] at hout
      by_cases h0 : t.size = 0
      · rw [if_pos h0] at hout
        simp only [List.length_cons, List.length_nil] at hout
        obtain ⟨v1, Hd, hc1, rfl, hBd, hSd⟩ := Run_get (wWriteString Hc base jb out ⟨#[45]⟩ hBc (by show out.length + 1 ≤ _; omega) m hm1 hm2 (k - 1) (by omega))
        have hc1 := hc1 k (by omega)
        simp only [T0] at hc1
        simp only [T0]
        (repeat' first
    | (refine CondV_dec (fun _ => ?_) (fun _ => ?_) <;> try (exfalso; omega))
    | (refine GuardV_td (fun _ => ?_) (fun _ => ?_) <;> try (exfalso; omega))
    | (refine GuardV_fd (fun _ => ?_) (fun _ => ?_) <;> try (exfalso; omega))
    | (refine CondV_split (fun _ => ?_) (fun _ => ?_))
    | (refine Need_of (by first | omega | decide) ?_)
    | refine WpK_cons ?_ ?_
    | refine WpK_guard ?_
    | simp (disch := first | omega | simp only [List.length_append, List.length_set, List.length_cons, List.length_nil] <;> omega | fail) only [evA, ↓evB, ↓astep, ↓aop, aBin, aInt, aStr, aUn, aNil, aMax, aresults, ares, aPack, ↓reduceIte, ↓reduceCtorEq, Nat.reduceEqDiff, Nat.reduceAdd, env0, aLoad, aLoadN, cellsOf, Int.reduceEq, Int.reduceLT, Int.reduceLE, Nat.reduceLeDiff, oneC, aop.fillL, setL, aApp, aAppC_nil, aAppC_own, xop, aSame_ptr, BIG, Bool.or_true, Bool.true_or, Bool.or_false, Bool.false_or, eqCells, eqCell, rowOf, ↓acallop, aBound, aIntOf, flat, flatN, CX_fn, CX_X, CX_pol, aStore, Nat.reduceBEq, List.size_toArray, Int.sub_zero, Int.zero_add, Int.add_zero, Int.toNat_zero, Int.reduceAdd, Int.reduceSub, Int.reduceMul, Int.reduceNeg, Int.reduceToNat, Nat.reduceSub, Nat.reduceMul, Int.natCast_zero, Int.reduceDiv, Int.reduceMod, Int.toNat_natCast, fdiv_nn, min_bits_i, Int.reducePow, Nat.reducePow, Nat.reduceDiv, Nat.reduceMod, mb_i, mb_u, WpC_drawD, WpT_nil, WpT_cons, WpT_guard, WpK_nil, scal, ← hHc, hbox, str_empty, hc1])
        refine ⟨?_, hSc.trans hSd⟩
        unfold shw; simp only [Bool.false_eq_true, if_false, h0, if_true]
        exact hBd
      · rw [if_neg h0, hx_len, bl_length] at hout
        (repeat' first
    | (refine CondV_dec (fun _ => ?_) (fun _ => ?_) <;> try (exfalso; omega))
    | (refine GuardV_td (fun _ => ?_) (fun _ => ?_) <;> try (exfalso; omega))
    | (refine GuardV_fd (fun _ => ?_) (fun _ => ?_) <;> try (exfalso; omega))
    | (refine CondV_split (fun _ => ?_) (fun _ => ?_))
    | (refine Need_of (by first | omega | decide) ?_)
    | refine WpK_cons ?_ ?_
    | refine WpK_guard ?_
    | simp (disch := first | omega | simp only [List.length_append, List.length_set, List.length_cons, List.length_nil] <;> omega | fail) only [evA, ↓evB, ↓astep, ↓aop, aBin, aInt, aStr, aUn, aNil, aMax, aresults, ares, aPack, ↓reduceIte, ↓reduceCtorEq, Nat.reduceEqDiff, Nat.reduceAdd, env0, aLoad, aLoadN, cellsOf, Int.reduceEq, Int.reduceLT, Int.reduceLE, Nat.reduceLeDiff, oneC, aop.fillL, setL, aApp, aAppC_nil, aAppC_own, xop, aSame_ptr, BIG, Bool.or_true, Bool.true_or, Bool.or_false, Bool.false_or, eqCells, eqCell, rowOf, ↓acallop, aBound, aIntOf, flat, flatN, CX_fn, CX_X, CX_pol, aStore, Nat.reduceBEq, List.size_toArray, Int.sub_zero, Int.zero_add, Int.add_zero, Int.toNat_zero, Int.reduceAdd, Int.reduceSub, Int.reduceMul, Int.reduceNeg, Int.reduceToNat, Nat.reduceSub, Nat.reduceMul, Int.natCast_zero, Int.reduceDiv, Int.reduceMod, Int.toNat_natCast, fdiv_nn, min_bits_i, Int.reducePow, Nat.reducePow, Nat.reduceDiv, Nat.reduceMod, mb_i, mb_u, WpC_drawD, WpT_nil, WpT_cons, WpT_guard, WpK_nil, scal, ← hHc, hbox, str_empty])
        refine WpC_loop (IShwT H base jb H.length t l a c out) ?_ (n := t.size) (show t.size < k by omega) ?_
        · rintro n e H1 ⟨i, acc, hi, g0, g3, g9, g10, hbx, hB1, hS1, hr⟩
          have hlr := congrArg List.length hr
          simp only [List.length_append, hx_len, bl_length] at hlr
          by_cases hc : i < t.size
          · have hr0 : hx ((bl t).drop i) = [hxc (bAt t i / 16), hxc (bAt t i % 16)] ++ hx ((bl t).drop (i + 1)) := by rw [bl_drop t i hc]; rfl
            have hlt := bAt_lt t i
            have e1 : ((bAt t i : Int) / 16).toNat = bAt t i / 16 := by omega
            have e3 : ((bAt t i : Int) % 16).toNat = bAt t i % 16 := by omega
            have d1 := dig_get (bAt t i / 16) (by omega)
            have d2 := dig_get (bAt t i % 16) (by omega)
            have u1 := hxc_u8 (bAt t i / 16) (by omega)
            have u2 := hxc_u8 (bAt t i % 16) (by omega)
            obtain ⟨v1, H2, hc1, rfl, hB2, hS2⟩ := Run_get (wWriteByte H1 base jb acc (hxc (bAt t i / 16)) hB1 (by omega) m hm1 hm2 (k - 1) (by omega))
            have hc1 := hc1 k (by omega)
            have hbx2 := hS2.fr.2 _ _ (fun hx => by
              obtain ⟨_, cs, T', q1, q2⟩ := hB1.bx hx
              rw [hbx] at q1; cases q1
              rcases q2 with q2 | q2 <;> exact absurd q2 (by decide)) hbx
            obtain ⟨v1, H3, hc2, rfl, hB3, hS3⟩ := Run_get (wWriteByte H2 base jb (acc ++ [hxc (bAt t i / 16)]) (hxc (bAt t i % 16)) hB2 (by simp only [List.length_append, List.length_cons, List.length_nil]; omega) m hm1 hm2 (k - 1) (by omega))
            have hc2 := hc2 k (by omega)
            have hbx3 := hS3.fr.2 _ _ (fun hx => by
              obtain ⟨_, cs, T', q1, q2⟩ := hB2.bx hx
              rw [hbx2] at q1; cases q1
              rcases q2 with q2 | q2 <;> exact absurd q2 (by decide)) hbx2
            simp only [T0] at hc1 hc2
            simp only [lp81_1, evA, ↓evB, ↓astep, ↓aop, aBin, aInt, aStr, aUn, aNil, aMax, aresults, ares, aPack, ↓reduceIte, ↓reduceCtorEq, Nat.reduceEqDiff, Nat.reduceAdd, env0, aLoad, aLoadN, cellsOf, Int.reduceEq, Int.reduceLT, Int.reduceLE, Nat.reduceLeDiff, oneC, aop.fillL, setL, aApp, aAppC_nil, aAppC_own, xop, aSame_ptr, BIG, Bool.or_true, Bool.true_or, Bool.or_false, Bool.false_or, eqCells, eqCell, rowOf, ↓acallop, aBound, aIntOf, flat, flatN, CX_fn, CX_X, CX_pol, aStore, Nat.reduceBEq, List.size_toArray, Int.sub_zero, Int.zero_add, Int.add_zero, Int.toNat_zero, Int.reduceAdd, Int.reduceSub, Int.reduceMul, Int.reduceNeg, Int.reduceToNat, Nat.reduceSub, Nat.reduceMul, Int.natCast_zero, Int.reduceDiv, Int.reduceMod, Int.toNat_natCast, fdiv_nn, min_bits_i, Int.reducePow, Nat.reducePow, Nat.reduceDiv, Nat.reduceMod, mb_i, mb_u, WpC_drawD, WpT_nil, WpT_cons, WpT_guard, WpK_nil, scal, g0, g3, g9, g10, hbx, T0]
            (repeat' first
    | (refine CondV_dec (fun _ => ?_) (fun _ => ?_) <;> try (exfalso; omega))
    | (refine GuardV_td (fun _ => ?_) (fun _ => ?_) <;> try (exfalso; omega))
    | (refine GuardV_fd (fun _ => ?_) (fun _ => ?_) <;> try (exfalso; omega))
    | (refine CondV_split (fun _ => ?_) (fun _ => ?_))
    | (refine Need_of (by first | omega | decide) ?_)
    | refine WpK_cons ?_ ?_
    | refine WpK_guard ?_
    | simp (disch := first | omega | simp only [List.length_append, List.length_set, List.length_cons, List.length_nil] <;> omega | fail) only [evA, ↓evB, ↓astep, ↓aop, aBin, aInt, aStr, aUn, aNil, aMax, aresults, ares, aPack, ↓reduceIte, ↓reduceCtorEq, Nat.reduceEqDiff, Nat.reduceAdd, env0, aLoad, aLoadN, cellsOf, Int.reduceEq, Int.reduceLT, Int.reduceLE, Nat.reduceLeDiff, oneC, aop.fillL, setL, aApp, aAppC_nil, aAppC_own, xop, aSame_ptr, BIG, Bool.or_true, Bool.true_or, Bool.or_false, Bool.false_or, eqCells, eqCell, rowOf, ↓acallop, aBound, aIntOf, flat, flatN, CX_fn, CX_X, CX_pol, aStore, Nat.reduceBEq, List.size_toArray, Int.sub_zero, Int.zero_add, Int.add_zero, Int.toNat_zero, Int.reduceAdd, Int.reduceSub, Int.reduceMul, Int.reduceNeg, Int.reduceToNat, Nat.reduceSub, Nat.reduceMul, Int.natCast_zero, Int.reduceDiv, Int.reduceMod, Int.toNat_natCast, fdiv_nn, min_bits_i, Int.reducePow, Nat.reducePow, Nat.reduceDiv, Nat.reduceMod, mb_i, mb_u, WpC_drawD, WpT_nil, WpT_cons, WpT_guard, WpK_nil, scal, g0, g3, g9, g10, hbx, hbx2, e1, e3, d1, d2, u1, u2, hc1, hc2])
            refine ⟨n - 1, by omega, i + 1, acc ++ [hxc (bAt t i / 16)] ++ [hxc (bAt t i % 16)], by omega, by (first | rfl | (simp only [Env_put_some, Env_put_none, ↓Env_set_at, ↓reduceIte, Nat.reduceEqDiff, g0] <;> rfl)), by (first | rfl | (simp only [Env_put_some, Env_put_none, ↓Env_set_at, ↓reduceIte, Nat.reduceEqDiff, g3] <;> rfl)), by (first | rfl | (simp only [Env_put_some, Env_put_none, ↓Env_set_at, ↓reduceIte, Nat.reduceEqDiff, g9] <;> rfl)), by (first | rfl | (simp only [Env_put_some, Env_put_none, ↓Env_set_at, ↓reduceIte, Nat.reduceEqDiff] <;> rfl)), hbx3, hB3, (hS1.trans hS2).trans hS3, ?_⟩
            rw [← hr, hr0]; simp
          · rw [List.drop_eq_nil_of_le (by rw [bl_length]; omega)] at hr
            simp only [lp81_1, evA, ↓evB, ↓astep, ↓aop, aBin, aInt, aStr, aUn, aNil, aMax, aresults, ares, aPack, ↓reduceIte, ↓reduceCtorEq, Nat.reduceEqDiff, Nat.reduceAdd, env0, aLoad, aLoadN, cellsOf, Int.reduceEq, Int.reduceLT, Int.reduceLE, Nat.reduceLeDiff, oneC, aop.fillL, setL, aApp, aAppC_nil, aAppC_own, xop, aSame_ptr, BIG, Bool.or_true, Bool.true_or, Bool.or_false, Bool.false_or, eqCells, eqCell, rowOf, ↓acallop, aBound, aIntOf, flat, flatN, CX_fn, CX_X, CX_pol, aStore, Nat.reduceBEq, List.size_toArray, Int.sub_zero, Int.zero_add, Int.add_zero, Int.toNat_zero, Int.reduceAdd, Int.reduceSub, Int.reduceMul, Int.reduceNeg, Int.reduceToNat, Nat.reduceSub, Nat.reduceMul, Int.natCast_zero, Int.reduceDiv, Int.reduceMod, Int.toNat_natCast, fdiv_nn, min_bits_i, Int.reducePow, Nat.reducePow, Nat.reduceDiv, Nat.reduceMod, mb_i, mb_u, WpC_drawD, WpT_nil, WpT_cons, WpT_guard, WpK_nil, scal, g0, g3, g9, g10, T0]
            (repeat' first
    | (refine CondV_dec (fun _ => ?_) (fun _ => ?_) <;> try (exfalso; omega))
    | (refine GuardV_td (fun _ => ?_) (fun _ => ?_) <;> try (exfalso; omega))
    | (refine GuardV_fd (fun _ => ?_) (fun _ => ?_) <;> try (exfalso; omega))
    | (refine CondV_split (fun _ => ?_) (fun _ => ?_))
    | (refine Need_of (by first | omega | decide) ?_)
    | refine WpK_cons ?_ ?_
    | refine WpK_guard ?_
    | simp (disch := first | omega | simp only [List.length_append, List.length_set, List.length_cons, List.length_nil] <;> omega | fail) only [evA, ↓evB, ↓astep, ↓aop, aBin, aInt, aStr, aUn, aNil, aMax, aresults, ares, aPack, ↓reduceIte, ↓reduceCtorEq, Nat.reduceEqDiff, Nat.reduceAdd, env0, aLoad, aLoadN, cellsOf, Int.reduceEq, Int.reduceLT, Int.reduceLE, Nat.reduceLeDiff, oneC, aop.fillL, setL, aApp, aAppC_nil, aAppC_own, xop, aSame_ptr, BIG, Bool.or_true, Bool.true_or, Bool.or_false, Bool.false_or, eqCells, eqCell, rowOf, ↓acallop, aBound, aIntOf, flat, flatN, CX_fn, CX_X, CX_pol, aStore, Nat.reduceBEq, List.size_toArray, Int.sub_zero, Int.zero_add, Int.add_zero, Int.toNat_zero, Int.reduceAdd, Int.reduceSub, Int.reduceMul, Int.reduceNeg, Int.reduceToNat, Nat.reduceSub, Nat.reduceMul, Int.natCast_zero, Int.reduceDiv, Int.reduceMod, Int.toNat_natCast, fdiv_nn, min_bits_i, Int.reducePow, Nat.reducePow, Nat.reduceDiv, Nat.reduceMod, mb_i, mb_u, WpC_drawD, WpT_nil, WpT_cons, WpT_guard, WpK_nil, scal, g0, g3, g9, g10])
            refine ⟨?_, hS1⟩
            unfold shw; simp only [Bool.false_eq_true, if_false, h0]
            rw [← hr]; simpa [hx] using hB1
        · exact ⟨0, out, by omega, rfl, rfl, rfl, rfl, hbox, hBc, hSc, rfl⟩
end Ev
end Go.Proofs.Ytfbelnjchpffeaa
