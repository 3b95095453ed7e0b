/-
  The law ItemApart.
-/
import Derived.Test.YtfbelnjchpffeaaA0
namespace Go.Proofs.Ytfbelnjchpffeaa
namespace Ev
open Tag (mk)
set_option linter.unusedSimpArgs false
set_option linter.unusedVariables false
set_option maxRecDepth 4000
set_option maxHeartbeats 8000000
/-! ## Rows of rows that may be written, and what texts and marks written into them leave -/
def WR (H : Heap) (lo hi : Nat) : Nat → Option Addr → Nat → Nat → Prop
  | 0, _, _, _ => True
  | d + 1, a, n, c => n ≠ 0 → ∃ i T cells, a = some ⟨i, 0, none⟩ ∧ c = 3 ∧ lo ≤ i ∧ i < hi ∧ H[i]? = some (.cells cells T true) ∧ n * 3 ≤ cells.length ∧
      ∀ k, k < n → ∃ a' n' c', cells[k * 3 + 2]? = some (.slice a' n' c') ∧ n' ≤ 5000 ∧ WR H lo hi d a' n' c'
def Sim (lo hi : Nat) (H H' : Heap) : Prop := ∀ i cells T, lo ≤ i → i < hi → H[i]? = some (.cells cells T true) →
  ∃ cells', H'[i]? = some (.cells cells' T true) ∧ cells'.length = cells.length ∧ ∀ k, cells'[k * 3 + 2]? = cells[k * 3 + 2]?
theorem Sim.refl (lo hi : Nat) (H : Heap) : Sim lo hi H H := fun i cells T _ _ h => ⟨cells, h, rfl, fun _ => rfl⟩
theorem Sim.trans {lo hi : Nat} {A B D : Heap} (h : Sim lo hi A B) (g : Sim lo hi B D) : Sim lo hi A D := fun i cells T h1 h2 h3 => by
  obtain ⟨c1, e1, e2, e3⟩ := h i cells T h1 h2 h3
  obtain ⟨c2, f1, f2, f3⟩ := g i c1 T h1 h2 e1
  exact ⟨c2, f1, by omega, fun k => by rw [f3, e3]⟩
theorem Sim.set {lo hi : Nat} {H : Heap} {q off : Nat} {cells : List Value} {T : TypeId} {v : Value} (h : H[q]? = some (.cells cells T true)) (ho : off % 3 ≠ 2) : Sim lo hi H (H.set q (.cells (cells.set off v) T true)) := fun i cs U h1 h2 h3 => by
  by_cases hi : i = q
  · subst hi
    rw [h] at h3; cases h3
    exact ⟨cells.set off v, hset_self (lt_of_get h) _, by simp, fun k => by rw [List.getElem?_set_ne (by omega)]⟩
  · exact ⟨cs, by rw [hset_ne (by omega)]; exact h3, rfl, fun _ => rfl⟩
theorem WR.sim {H H' : Heap} {lo hi : Nat} (h : Sim lo hi H H') : ∀ (d : Nat) (a : Option Addr) (n c : Nat), WR H lo hi d a n c → WR H' lo hi d a n c
  | 0, _, _, _, _ => trivial
  | d + 1, a, n, c, hw => fun hn => by
    obtain ⟨i, T, cells, h1, h2, h3, h4, h5, h6, h7⟩ := hw hn
    obtain ⟨cs, e1, e2, e3⟩ := h i cells T h3 h4 h5
    refine ⟨i, T, cs, h1, h2, h3, h4, e1, by omega, fun k hk => ?_⟩
    obtain ⟨a', n', c', g1, g2, g3⟩ := h7 k hk
    exact ⟨a', n', c', by rw [e3]; exact g1, g2, WR.sim h d a' n' c' g3⟩
theorem WR.of {H : Heap} {lo : Nat} : ∀ (d : Nat) (l : List Tr) (a : Option Addr) (c : Nat), szs l ≤ 5000 →
    (l ≠ [] → ∃ i T own cells, a = some ⟨i, 0, none⟩ ∧ c = 3 ∧ (lo ≤ i ∧ Own H i) ∧ H[i]? = some (.cells cells T own) ∧ ItemsAt H (fun x => lo ≤ x ∧ Own H x) l cells) → WR H lo H.length d a l.length c
  | 0, _, _, _, _, _ => trivial
  | d + 1, l, a, c, hs, h => fun hn => by
    obtain ⟨i, T, own, cells, rfl, rfl, hS, hc, hit⟩ := h (by intro e; subst e; exact hn rfl)
    obtain ⟨cs, U, ho⟩ := hS.2
    obtain ⟨rfl, rfl, rfl⟩ : cs = cells ∧ U = T ∧ true = own := by rw [ho] at hc; cases hc; exact ⟨rfl, rfl, rfl⟩
    have hl := hit.length
    refine ⟨i, U, cs, rfl, rfl, hS.1, lt_of_get ho, ho, by omega, fun k hk => ?_⟩
    have hi := hit.get k _ (List.getElem?_eq_getElem hk)
    obtain ⟨a', c', he, hsub⟩ := hi.cells
    have hsz := sz_get hk
    have hpos := sz_pos l[k]
    have hss : szs l[k].sub ≤ 5000 := by
      have : sz l[k] = 1 + szs l[k].sub := by cases l[k]; simp [sz, Tr.sub]
      omega
    have hlen := len_szs l[k].sub
    refine ⟨a', _, c', ?_, by omega, WR.of d _ a' c' hss hsub⟩
    have : ((cs.drop (k * 3)).take 3)[2]? = some (.slice a' l[k].sub.length c') := by rw [he]; rfl
    rw [List.getElem?_take_of_lt (by omega), List.getElem?_drop] at this
    exact this
/-! ## The loops -/
def IApO (Hz : Heap) (lo hi j0 j4 j5 : Nat) (s : ByteArray) (N : Nat) (n : Nat) (e : Env) (H : Heap) : Prop :=
  ∃ (i : Nat), i + n = N ∧ e 1 = .pointer (some ⟨j0, 0, none⟩) ∧ e 3 = .string s ∧ e 4 = .pointer (some ⟨j4, 0, none⟩) ∧ e 5 = .pointer (some ⟨j5, 0, none⟩) ∧ e 6 = .int .i64 (i : Int) ∧ Fr (fun x => lo ≤ x ∧ x < hi) Hz H ∧ Sim lo hi Hz H
def IApI (Hz : Heap) (lo hi j0 j4 j5 : Nat) (s : ByteArray) (o : Nat) (N : Nat) (n : Nat) (e : Env) (H : Heap) : Prop :=
  ∃ (i : Nat), i + n = N ∧ e 1 = .pointer (some ⟨j0, 0, none⟩) ∧ e 3 = .string s ∧ e 4 = .pointer (some ⟨j4, 0, none⟩) ∧ e 5 = .pointer (some ⟨j5, 0, none⟩) ∧ e 6 = .int .i64 (o : Int) ∧ e 7 = .int .i64 (i : Int) ∧ Fr (fun x => lo ≤ x ∧ x < hi) Hz H ∧ Sim lo hi Hz H
theorem wList (x : ByteArray) (b : Bool) (a : Option Addr) (n c : Nat) (H : Heap) (q : Nat) (T : TypeId) (own : Bool) (hq : H[q]? = some (.cells [.string x, .bool b, .slice a n c] T own)) (m : Ev.Mode) (hm1 : m.lim ≤ H.length) (hm2 : m.fb ≤ H.length) (k : Nat) (hk : 2 ≤ k) :
    Run (fun u H' => ∃ r, u = .agg #[.string ⟨#[]⟩, .bool true, .slice (some ⟨r, 0, none⟩) 1 3] ∧ H.length ≤ r ∧ H'[r]? = some (.cells [.string x, .bool b, .slice a n c] 24 true) ∧ Fr (fun _ => False) H H') mk (acall T0 k 19 [.slice (some ⟨q, 0, none⟩) 1 3] H m) := by
  obtain ⟨k, rfl⟩ : ∃ q, k = q + 1 := ⟨k - 1, by omega⟩
  refine Run_call (F := ir19) rfl (Nat.le_of_ble_eq_true rfl) ?_
  have hlq := lt_of_get hq
  simp only [ir19, T0]
  (repeat' first
    | (refine CondV_dec (fun _ => ?_) (fun _ => ?_) <;> try (exfalso; omega))
    | (refine GuardV_td (fun _ => ?_) (fun _ => ?_) <;> try (exfalso; omega))
    | (refine GuardV_fd (fun _ => ?_) (fun _ => ?_) <;> try (exfalso; omega))
    | (refine CondV_split (fun _ => ?_) (fun _ => ?_))
    | (refine Need_of (by first | omega | decide) ?_)
    | refine WpK_cons ?_ ?_
    | refine WpK_guard ?_
    | simp (disch := first | omega | simp only [List.length_append, List.length_set, List.length_cons, List.length_nil] <;> omega | fail) only [evA, ↓evB, ↓astep, ↓aop, aBin, aInt, aStr, aUn, aNil, aMax, aresults, ares, aPack, ↓reduceIte, ↓reduceCtorEq, Nat.reduceEqDiff, Nat.reduceAdd, env0, aLoad, aLoadN, cellsOf, Int.reduceEq, Int.reduceLT, Int.reduceLE, Nat.reduceLeDiff, oneC, aop.fillL, setL, aApp, aAppC_nil, aAppC_own, xop, aSame_ptr, BIG, Bool.or_true, Bool.true_or, Bool.or_false, Bool.false_or, eqCells, eqCell, rowOf, ↓acallop, aBound, aIntOf, flat, flatN, CX_fn, CX_X, CX_pol, aStore, Nat.reduceBEq, List.size_toArray, Int.sub_zero, Int.zero_add, Int.add_zero, Int.toNat_zero, Int.reduceAdd, Int.reduceSub, Int.reduceMul, Int.reduceNeg, Int.reduceToNat, Nat.reduceSub, Nat.reduceMul, Int.natCast_zero, Int.reduceDiv, Int.reduceMod, Int.toNat_natCast, fdiv_nn, min_bits_i, Int.reducePow, Nat.reducePow, Nat.reduceDiv, Nat.reduceMod, mb_i, mb_u, WpC_drawD, WpT_nil, WpT_cons, WpT_guard, WpK_nil, scal, hq])
  exact ⟨H.length + 1, rfl, by omega, by rw [happ_ge (by omega), show H.length + 1 - H.length = 1 by omega]; rfl, .app _ _ _⟩
theorem wApart (t : Tr) (H : Heap) (S : Nat → Prop) (hS : ∀ x, S x → x < H.length) (v : Value) (hv : ItemV H S t v) : ∃ k, Run (fun v _ => v = .bool true) mk (acall T0 k 3 [v] H ⟨H.length, 0⟩) := by
  refine ⟨40 * (sz t + byt t) + 600000, ?_⟩
  obtain ⟨k, hk⟩ : ∃ k, 40 * (sz t + byt t) + 600000 = k + 1 := ⟨40 * (sz t + byt t) + 599999, by omega⟩
  rw [hk]
  obtain ⟨x, b, l⟩ := t
  obtain ⟨a, c, rfl, hh⟩ := hv.parts
  obtain ⟨t, ht⟩ : ∃ t, t = Tr.mk x b l := ⟨_, rfl⟩
  rw [← ht] at hk
  refine Run_call (F := ir3) rfl (Nat.le_of_ble_eq_true rfl) ?_
  obtain ⟨Hc, hHc⟩ : ∃ Hc : Heap, Hc = H ++ [.cells [.string x, .bool b, .slice a l.length c] 24 true] := ⟨_, rfl⟩
  have hold := hh Hc hHc
  have hbox := hold.box
  have hLc : Hc.length = H.length + 1 := by rw [hHc]; simp
  have hvc := hold.val
  rw [← ht] at hvc
  obtain ⟨w, K1, hg, rfl⟩ := Run_get (wGreat t Hc _ _ hvc ⟨Hc.length, Hc.length⟩ k (by omega))
  have hg := hg k (Nat.le_refl _)
  cases hgr : great t with
  | true =>
    rw [hgr] at hg
    simp only [T0] at hg
    simp only [ir3, T0]
    (repeat' first
    | (refine CondV_dec (fun _ => ?_) (fun _ => ?_) <;> try (exfalso; omega))
    | (refine GuardV_td (fun _ => ?_) (fun _ => ?_) <;> try (exfalso; omega))
    | (refine GuardV_fd (fun _ => ?_) (fun _ => ?_) <;> try (exfalso; omega))
    | (refine CondV_split (fun _ => ?_) (fun _ => ?_))
    | (refine Need_of (by first | omega | decide) ?_)
    | refine WpK_cons ?_ ?_
    | refine WpK_guard ?_
    | simp (disch := first | omega | simp only [List.length_append, List.length_set, List.length_cons, List.length_nil] <;> omega | fail) only [evA, ↓evB, ↓astep, ↓aop, aBin, aInt, aStr, aUn, aNil, aMax, aresults, ares, aPack, ↓reduceIte, ↓reduceCtorEq, Nat.reduceEqDiff, Nat.reduceAdd, env0, aLoad, aLoadN, cellsOf, Int.reduceEq, Int.reduceLT, Int.reduceLE, Nat.reduceLeDiff, oneC, aop.fillL, setL, aApp, aAppC_nil, aAppC_own, xop, aSame_ptr, BIG, Bool.or_true, Bool.true_or, Bool.or_false, Bool.false_or, eqCells, eqCell, rowOf, ↓acallop, aBound, aIntOf, flat, flatN, CX_fn, CX_X, CX_pol, aStore, Nat.reduceBEq, List.size_toArray, Int.sub_zero, Int.zero_add, Int.add_zero, Int.toNat_zero, Int.reduceAdd, Int.reduceSub, Int.reduceMul, Int.reduceNeg, Int.reduceToNat, Nat.reduceSub, Nat.reduceMul, Int.natCast_zero, Int.reduceDiv, Int.reduceMod, Int.toNat_natCast, fdiv_nn, min_bits_i, Int.reducePow, Nat.reducePow, Nat.reduceDiv, Nat.reduceMod, mb_i, mb_u, WpC_drawD, WpT_nil, WpT_cons, WpT_guard, WpK_nil, scal, ← hHc, hbox, XAlive_eq, hg])
  | false =>
    rw [hgr] at hg
    obtain ⟨g1, g2⟩ := great_no hgr
    obtain ⟨w, K3, hmay, rfl⟩ := Run_get (wMay t (by omega) Hc _ _ hvc ⟨Hc.length, Hc.length⟩ k (by omega))
    have hmay := hmay k (Nat.le_refl _)
    cases hm : may t with
    | false =>
      rw [hm] at hmay
      simp only [T0] at hg hmay
      simp only [ir3, T0]
      (repeat' first
    | (refine CondV_dec (fun _ => ?_) (fun _ => ?_) <;> try (exfalso; omega))
    | (refine GuardV_td (fun _ => ?_) (fun _ => ?_) <;> try (exfalso; omega))
    | (refine GuardV_fd (fun _ => ?_) (fun _ => ?_) <;> try (exfalso; omega))
    | (refine CondV_split (fun _ => ?_) (fun _ => ?_))
    | (refine Need_of (by first | omega | decide) ?_)
    | refine WpK_cons ?_ ?_
    | refine WpK_guard ?_
    | simp (disch := first | omega | simp only [List.length_append, List.length_set, List.length_cons, List.length_nil] <;> omega | fail) only [evA, ↓evB, ↓astep, ↓aop, aBin, aInt, aStr, aUn, aNil, aMax, aresults, ares, aPack, ↓reduceIte, ↓reduceCtorEq, Nat.reduceEqDiff, Nat.reduceAdd, env0, aLoad, aLoadN, cellsOf, Int.reduceEq, Int.reduceLT, Int.reduceLE, Nat.reduceLeDiff, oneC, aop.fillL, setL, aApp, aAppC_nil, aAppC_own, xop, aSame_ptr, BIG, Bool.or_true, Bool.true_or, Bool.or_false, Bool.false_or, eqCells, eqCell, rowOf, ↓acallop, aBound, aIntOf, flat, flatN, CX_fn, CX_X, CX_pol, aStore, Nat.reduceBEq, List.size_toArray, Int.sub_zero, Int.zero_add, Int.add_zero, Int.toNat_zero, Int.reduceAdd, Int.reduceSub, Int.reduceMul, Int.reduceNeg, Int.reduceToNat, Nat.reduceSub, Nat.reduceMul, Int.natCast_zero, Int.reduceDiv, Int.reduceMod, Int.toNat_natCast, fdiv_nn, min_bits_i, Int.reducePow, Nat.reducePow, Nat.reduceDiv, Nat.reduceMod, mb_i, mb_u, WpC_drawD, WpT_nil, WpT_cons, WpT_guard, WpK_nil, scal, ← hHc, hbox, XAlive_eq, hg, hmay])
    | true =>
      rw [hm] at hmay
      obtain ⟨w, K4, hrs, rfl⟩ := Run_get (wShowR _ t (Nat.le_refl _) (by omega) (by omega) Hc _ _ hvc ⟨Hc.length, Hc.length⟩ k (by omega))
      have hrs := hrs k (Nat.le_refl _)
      obtain ⟨u1, H1, hc1, hu1, hf1⟩ := Run_get (wCopyI t hm Hc _ _ hvc ⟨H.length, 0⟩ (by simp; omega) (Nat.zero_le _) k (by omega) (by omega))
      have hc1 := hc1 k (Nat.le_refl _)
      have hL1 := hf1.1
      obtain ⟨us, rfl, hut⟩ := hu1
      obtain ⟨ua, uc, rfl, hus⟩ := hut.cells
      have hsub : szs t.sub ≤ 5000 := by
        have : sz t = 1 + szs t.sub := by cases t; simp [sz, Tr.sub]
        omega
      have hwr := WR.of 2 t.sub ua uc hsub hus
      have hb1 := hf1.2 _ _ (fun h => h) hbox
      obtain ⟨H2, hH2⟩ : ∃ H2 : Heap, H2 = H1 ++ [.cells [.string t.text, .bool t.list, .slice ua t.sub.length uc] 24 true, .cells [.string x, .bool b, .slice a l.length c] 24 true] := ⟨_, rfl⟩
      have hL2 : H2.length = H1.length + 2 := by rw [hH2]; simp
      have hl4 : H2[H1.length]? = some (.cells [.string t.text, .bool t.list, .slice ua t.sub.length uc] 24 true) := by rw [hH2]; simp
      have hlr : H2[H1.length + 1]? = some (.cells [.string x, .bool b, .slice a l.length c] 24 true) := by rw [hH2, happ_ge (by omega), show H1.length + 1 - H1.length = 1 by omega]; rfl
      have hf2 : Fr (fun _ => False) H1 H2 := by rw [hH2]; exact .app _ _ _
      obtain ⟨u2, H3, hc2, r, rfl, hr1, hr2, hf3⟩ := Run_get (wList x b a l.length c H2 _ _ _ hlr ⟨H.length, 0⟩ (by simp; omega) (Nat.zero_le _) k (by omega))
      have hc2 := hc2 k (Nat.le_refl _)
      have hL3 := hf3.1
      have hlr3 := lt_of_get hr2
      obtain ⟨H4, hH4⟩ : ∃ H4 : Heap, H4 = H3 ++ [.cells [.string ⟨#[]⟩, .bool true, .slice (some ⟨r, 0, none⟩) 1 3] 24 true] := ⟨_, rfl⟩
      have hL4 : H4.length = H3.length + 1 := by rw [hH4]; simp
      have hf4 : Fr (fun _ => False) H3 H4 := by rw [hH4]; exact .app _ _ _
      have hf14 : Fr (fun _ => False) H1 H4 := (hf2.trans hf3).trans hf4
      have hfc4 : Fr (fun _ => False) Hc H4 := hf1.trans hf14
      have k5 : H4[H3.length]? = some (.cells [.string ⟨#[]⟩, .bool true, .slice (some ⟨r, 0, none⟩) 1 3] 24 true) := by rw [hH4]; simp
      have k4 := (hf3.trans hf4).2 _ _ (fun h => h) hl4
      have kr := hf4.2 _ _ (fun h => h) hr2
      have k0 := hfc4.2 _ _ (fun h => h) hbox
      have hwr4 : WR H4 Hc.length H1.length 2 ua t.sub.length uc := WR.sim (fun i cells T _ _ h => ⟨cells, hf14.2 _ _ (fun h => h) h, rfl, fun _ => rfl⟩) _ _ _ _ hwr
      simp only [T0] at hg hmay hrs hc1 hc2
      simp only [ir3, T0]
      (repeat' first
    | (refine CondV_dec (fun _ => ?_) (fun _ => ?_) <;> try (exfalso; omega))
    | (refine GuardV_td (fun _ => ?_) (fun _ => ?_) <;> try (exfalso; omega))
    | (refine GuardV_fd (fun _ => ?_) (fun _ => ?_) <;> try (exfalso; omega))
    | (refine CondV_split (fun _ => ?_) (fun _ => ?_))
    | (refine Need_of (by first | omega | decide) ?_)
    | refine WpK_cons ?_ ?_
    | refine WpK_guard ?_
    | simp (disch := first | omega | simp only [List.length_append, List.length_set, List.length_cons, List.length_nil] <;> omega | fail) only [evA, ↓evB, ↓astep, ↓aop, aBin, aInt, aStr, aUn, aNil, aMax, aresults, ares, aPack, ↓reduceIte, ↓reduceCtorEq, Nat.reduceEqDiff, Nat.reduceAdd, env0, aLoad, aLoadN, cellsOf, Int.reduceEq, Int.reduceLT, Int.reduceLE, Nat.reduceLeDiff, oneC, aop.fillL, setL, aApp, aAppC_nil, aAppC_own, xop, aSame_ptr, BIG, Bool.or_true, Bool.true_or, Bool.or_false, Bool.false_or, eqCells, eqCell, rowOf, ↓acallop, aBound, aIntOf, flat, flatN, CX_fn, CX_X, CX_pol, aStore, Nat.reduceBEq, List.size_toArray, Int.sub_zero, Int.zero_add, Int.add_zero, Int.toNat_zero, Int.reduceAdd, Int.reduceSub, Int.reduceMul, Int.reduceNeg, Int.reduceToNat, Nat.reduceSub, Nat.reduceMul, Int.natCast_zero, Int.reduceDiv, Int.reduceMod, Int.toNat_natCast, fdiv_nn, min_bits_i, Int.reducePow, Nat.reducePow, Nat.reduceDiv, Nat.reduceMod, mb_i, mb_u, WpC_drawD, WpT_nil, WpT_cons, WpT_guard, WpK_nil, scal, ← hHc, hbox, XAlive_eq, hg, hmay, hrs, hc1, hb1, happ_assoc, ← hH2, hc2, ← hH4])
      have hnl := len_szs t.sub
      refine WpC_loop (IApO H4 Hc.length H1.length H.length H1.length H3.length (bs (shw t)) t.sub.length) ?_ (n := t.sub.length) (show t.sub.length < k by omega) ?_
      · rintro n e H5 ⟨i, hi, e1, e3, e4, e5, e6, hfr, hsim⟩
        have q0 := hfr.2 _ _ (by omega) k0
        have q4 := hfr.2 _ _ (by omega) k4
        have q5 := hfr.2 _ _ (by omega) k5
        have qr := hfr.2 _ _ (by omega) kr
        by_cases hc : i < t.sub.length
        · simp only [lp3_1, evA, ↓evB, ↓astep, ↓aop, aBin, aInt, aStr, aUn, aNil, aMax, aresults, ares, aPack, ↓reduceIte, ↓reduceCtorEq, Nat.reduceEqDiff, Nat.reduceAdd, env0, aLoad, aLoadN, cellsOf, Int.reduceEq, Int.reduceLT, Int.reduceLE, Nat.reduceLeDiff, oneC, aop.fillL, setL, aApp, aAppC_nil, aAppC_own, xop, aSame_ptr, BIG, Bool.or_true, Bool.true_or, Bool.or_false, Bool.false_or, eqCells, eqCell, rowOf, ↓acallop, aBound, aIntOf, flat, flatN, CX_fn, CX_X, CX_pol, aStore, Nat.reduceBEq, List.size_toArray, Int.sub_zero, Int.zero_add, Int.add_zero, Int.toNat_zero, Int.reduceAdd, Int.reduceSub, Int.reduceMul, Int.reduceNeg, Int.reduceToNat, Nat.reduceSub, Nat.reduceMul, Int.natCast_zero, Int.reduceDiv, Int.reduceMod, Int.toNat_natCast, fdiv_nn, min_bits_i, Int.reducePow, Nat.reducePow, Nat.reduceDiv, Nat.reduceMod, mb_i, mb_u, WpC_drawD, WpT_nil, WpT_cons, WpT_guard, WpK_nil, scal, e1, e3, e4, e5, e6, q4]
          (repeat' first
    | (refine CondV_dec (fun _ => ?_) (fun _ => ?_) <;> try (exfalso; omega))
    | (refine GuardV_td (fun _ => ?_) (fun _ => ?_) <;> try (exfalso; omega))
    | (refine GuardV_fd (fun _ => ?_) (fun _ => ?_) <;> try (exfalso; omega))
    | (refine CondV_split (fun _ => ?_) (fun _ => ?_))
    | (refine Need_of (by first | omega | decide) ?_)
    | refine WpK_cons ?_ ?_
    | refine WpK_guard ?_
    | simp (disch := first | omega | simp only [List.length_append, List.length_set, List.length_cons, List.length_nil] <;> omega | fail) only [evA, ↓evB, ↓astep, ↓aop, aBin, aInt, aStr, aUn, aNil, aMax, aresults, ares, aPack, ↓reduceIte, ↓reduceCtorEq, Nat.reduceEqDiff, Nat.reduceAdd, env0, aLoad, aLoadN, cellsOf, Int.reduceEq, Int.reduceLT, Int.reduceLE, Nat.reduceLeDiff, oneC, aop.fillL, setL, aApp, aAppC_nil, aAppC_own, xop, aSame_ptr, BIG, Bool.or_true, Bool.true_or, Bool.or_false, Bool.false_or, eqCells, eqCell, rowOf, ↓acallop, aBound, aIntOf, flat, flatN, CX_fn, CX_X, CX_pol, aStore, Nat.reduceBEq, List.size_toArray, Int.sub_zero, Int.zero_add, Int.add_zero, Int.toNat_zero, Int.reduceAdd, Int.reduceSub, Int.reduceMul, Int.reduceNeg, Int.reduceToNat, Nat.reduceSub, Nat.reduceMul, Int.natCast_zero, Int.reduceDiv, Int.reduceMod, Int.toNat_natCast, fdiv_nn, min_bits_i, Int.reducePow, Nat.reducePow, Nat.reduceDiv, Nat.reduceMod, mb_i, mb_u, WpC_drawD, WpT_nil, WpT_cons, WpT_guard, WpK_nil, scal, e1, e3, e4, e5, e6, q4])
          obtain ⟨qi, Ti, ci, rfl, rfl, w1, w2, w3, w4, w5⟩ := WR.sim hsim _ _ _ _ hwr4 (by omega)
          obtain ⟨a', n', c', w6, w7, w8⟩ := w5 i hc
          refine WpC_loop (IApI H5 Hc.length H1.length H.length H1.length H3.length (bs (shw t)) i n') ?_ (n := n') (show n' < k by omega) ?_
          · rintro n1 e H6 ⟨j, hj, e1, e3, e4, e5, e6, e7, hfr6, hsim6⟩
            have p4 := hfr6.2 _ _ (by omega) q4
            obtain ⟨cj, v1, v2, v3⟩ := hsim6 _ _ _ w1 w2 w3
            have v6 : cj[i * 3 + 2]? = some (.slice a' n' c') := by rw [v3]; exact w6
            by_cases hcj : j < n'
            · obtain ⟨qj, Tj, cc, rfl, rfl, x1, x2, x3, x4, _⟩ := WR.sim hsim6 _ _ _ _ w8 (by omega)
              simp only [lp3_0, evA, ↓evB, ↓astep, ↓aop, aBin, aInt, aStr, aUn, aNil, aMax, aresults, ares, aPack, ↓reduceIte, ↓reduceCtorEq, Nat.reduceEqDiff, Nat.reduceAdd, env0, aLoad, aLoadN, cellsOf, Int.reduceEq, Int.reduceLT, Int.reduceLE, Nat.reduceLeDiff, oneC, aop.fillL, setL, aApp, aAppC_nil, aAppC_own, xop, aSame_ptr, BIG, Bool.or_true, Bool.true_or, Bool.or_false, Bool.false_or, eqCells, eqCell, rowOf, ↓acallop, aBound, aIntOf, flat, flatN, CX_fn, CX_X, CX_pol, aStore, Nat.reduceBEq, List.size_toArray, Int.sub_zero, Int.zero_add, Int.add_zero, Int.toNat_zero, Int.reduceAdd, Int.reduceSub, Int.reduceMul, Int.reduceNeg, Int.reduceToNat, Nat.reduceSub, Nat.reduceMul, Int.natCast_zero, Int.reduceDiv, Int.reduceMod, Int.toNat_natCast, fdiv_nn, min_bits_i, Int.reducePow, Nat.reducePow, Nat.reduceDiv, Nat.reduceMod, mb_i, mb_u, WpC_drawD, WpT_nil, WpT_cons, WpT_guard, WpK_nil, scal, e1, e3, e4, e5, e6, e7, p4, v1, v6]
              (repeat' first
    | (refine CondV_dec (fun _ => ?_) (fun _ => ?_) <;> try (exfalso; omega))
    | (refine GuardV_td (fun _ => ?_) (fun _ => ?_) <;> try (exfalso; omega))
    | (refine GuardV_fd (fun _ => ?_) (fun _ => ?_) <;> try (exfalso; omega))
    | (refine CondV_split (fun _ => ?_) (fun _ => ?_))
    | (refine Need_of (by first | omega | decide) ?_)
    | refine WpK_cons ?_ ?_
    | refine WpK_guard ?_
    | simp (disch := first | omega | simp only [List.length_append, List.length_set, List.length_cons, List.length_nil] <;> omega | fail) only [evA, ↓evB, ↓astep, ↓aop, aBin, aInt, aStr, aUn, aNil, aMax, aresults, ares, aPack, ↓reduceIte, ↓reduceCtorEq, Nat.reduceEqDiff, Nat.reduceAdd, env0, aLoad, aLoadN, cellsOf, Int.reduceEq, Int.reduceLT, Int.reduceLE, Nat.reduceLeDiff, oneC, aop.fillL, setL, aApp, aAppC_nil, aAppC_own, xop, aSame_ptr, BIG, Bool.or_true, Bool.true_or, Bool.or_false, Bool.false_or, eqCells, eqCell, rowOf, ↓acallop, aBound, aIntOf, flat, flatN, CX_fn, CX_X, CX_pol, aStore, Nat.reduceBEq, List.size_toArray, Int.sub_zero, Int.zero_add, Int.add_zero, Int.toNat_zero, Int.reduceAdd, Int.reduceSub, Int.reduceMul, Int.reduceNeg, Int.reduceToNat, Nat.reduceSub, Nat.reduceMul, Int.natCast_zero, Int.reduceDiv, Int.reduceMod, Int.toNat_natCast, fdiv_nn, min_bits_i, Int.reducePow, Nat.reducePow, Nat.reduceDiv, Nat.reduceMod, mb_i, mb_u, WpC_drawD, WpT_nil, WpT_cons, WpT_guard, WpK_nil, scal, e1, e3, e4, e5, e6, e7, p4, v1, v6, x3])
              exact ⟨n1 - 1, by omega, j + 1, by omega, by (first | rfl | (simp only [Env_put_some, Env_put_none, ↓Env_set_at, ↓reduceIte, Nat.reduceEqDiff, e1] <;> rfl)), by (first | rfl | (simp only [Env_put_some, Env_put_none, ↓Env_set_at, ↓reduceIte, Nat.reduceEqDiff, e3] <;> rfl)), by (first | rfl | (simp only [Env_put_some, Env_put_none, ↓Env_set_at, ↓reduceIte, Nat.reduceEqDiff, e4] <;> rfl)), by (first | rfl | (simp only [Env_put_some, Env_put_none, ↓Env_set_at, ↓reduceIte, Nat.reduceEqDiff, e5] <;> rfl)), by (first | rfl | (simp only [Env_put_some, Env_put_none, ↓Env_set_at, ↓reduceIte, Nat.reduceEqDiff, e6] <;> rfl)), by (first | rfl | (simp only [Env_put_some, Env_put_none, ↓Env_set_at, ↓reduceIte, Nat.reduceEqDiff] <;> rfl)), hfr6.sets ⟨x1, x2⟩ _, hsim6.trans (Sim.set x3 (by omega))⟩
            · simp only [lp3_0, evA, ↓evB, ↓astep, ↓aop, aBin, aInt, aStr, aUn, aNil, aMax, aresults, ares, aPack, ↓reduceIte, ↓reduceCtorEq, Nat.reduceEqDiff, Nat.reduceAdd, env0, aLoad, aLoadN, cellsOf, Int.reduceEq, Int.reduceLT, Int.reduceLE, Nat.reduceLeDiff, oneC, aop.fillL, setL, aApp, aAppC_nil, aAppC_own, xop, aSame_ptr, BIG, Bool.or_true, Bool.true_or, Bool.or_false, Bool.false_or, eqCells, eqCell, rowOf, ↓acallop, aBound, aIntOf, flat, flatN, CX_fn, CX_X, CX_pol, aStore, Nat.reduceBEq, List.size_toArray, Int.sub_zero, Int.zero_add, Int.add_zero, Int.toNat_zero, Int.reduceAdd, Int.reduceSub, Int.reduceMul, Int.reduceNeg, Int.reduceToNat, Nat.reduceSub, Nat.reduceMul, Int.natCast_zero, Int.reduceDiv, Int.reduceMod, Int.toNat_natCast, fdiv_nn, min_bits_i, Int.reducePow, Nat.reducePow, Nat.reduceDiv, Nat.reduceMod, mb_i, mb_u, WpC_drawD, WpT_nil, WpT_cons, WpT_guard, WpK_nil, scal, e1, e3, e4, e5, e6, e7, p4, v1, v6]
              have hl1 := lt_of_get v1
              have hs7 : Sim Hc.length H1.length H6 (H6.set qi (.cells (cj.set (i * 3) (.string ⟨#[116, 117, 114, 110, 101, 100]⟩)) Ti true)) := Sim.set v1 (by omega)
              have v7 : (H6.set qi (.cells (cj.set (i * 3) (.string ⟨#[116, 117, 114, 110, 101, 100]⟩)) Ti true))[qi]? = some (.cells (cj.set (i * 3) (.string ⟨#[116, 117, 114, 110, 101, 100]⟩)) Ti true) := hset_self hl1 _
              (repeat' first
    | (refine CondV_dec (fun _ => ?_) (fun _ => ?_) <;> try (exfalso; omega))
    | (refine GuardV_td (fun _ => ?_) (fun _ => ?_) <;> try (exfalso; omega))
    | (refine GuardV_fd (fun _ => ?_) (fun _ => ?_) <;> try (exfalso; omega))
    | (refine CondV_split (fun _ => ?_) (fun _ => ?_))
    | (refine Need_of (by first | omega | decide) ?_)
    | refine WpK_cons ?_ ?_
    | refine WpK_guard ?_
    | simp (disch := first | omega | simp only [List.length_append, List.length_set, List.length_cons, List.length_nil] <;> omega | fail) only [evA, ↓evB, ↓astep, ↓aop, aBin, aInt, aStr, aUn, aNil, aMax, aresults, ares, aPack, ↓reduceIte, ↓reduceCtorEq, Nat.reduceEqDiff, Nat.reduceAdd, env0, aLoad, aLoadN, cellsOf, Int.reduceEq, Int.reduceLT, Int.reduceLE, Nat.reduceLeDiff, oneC, aop.fillL, setL, aApp, aAppC_nil, aAppC_own, xop, aSame_ptr, BIG, Bool.or_true, Bool.true_or, Bool.or_false, Bool.false_or, eqCells, eqCell, rowOf, ↓acallop, aBound, aIntOf, flat, flatN, CX_fn, CX_X, CX_pol, aStore, Nat.reduceBEq, List.size_toArray, Int.sub_zero, Int.zero_add, Int.add_zero, Int.toNat_zero, Int.reduceAdd, Int.reduceSub, Int.reduceMul, Int.reduceNeg, Int.reduceToNat, Nat.reduceSub, Nat.reduceMul, Int.natCast_zero, Int.reduceDiv, Int.reduceMod, Int.toNat_natCast, fdiv_nn, min_bits_i, Int.reducePow, Nat.reducePow, Nat.reduceDiv, Nat.reduceMod, mb_i, mb_u, WpC_drawD, WpT_nil, WpT_cons, WpT_guard, WpK_nil, scal, e1, e3, e4, e5, e6, e7, p4, v1, v6, v7, List.length_set])
              refine ⟨n - 1, by omega, i + 1, by omega, by (first | rfl | (simp only [Env_put_some, Env_put_none, ↓Env_set_at, ↓reduceIte, Nat.reduceEqDiff, e1] <;> rfl)), by (first | rfl | (simp only [Env_put_some, Env_put_none, ↓Env_set_at, ↓reduceIte, Nat.reduceEqDiff, e3] <;> rfl)), by (first | rfl | (simp only [Env_put_some, Env_put_none, ↓Env_set_at, ↓reduceIte, Nat.reduceEqDiff, e4] <;> rfl)), by (first | rfl | (simp only [Env_put_some, Env_put_none, ↓Env_set_at, ↓reduceIte, Nat.reduceEqDiff, e5] <;> rfl)), by (first | rfl | (simp only [Env_put_some, Env_put_none, ↓Env_set_at, ↓reduceIte, Nat.reduceEqDiff] <;> rfl)), (hfr.trans hfr6).sets ⟨w1, w2⟩ _, (hsim.trans hsim6).trans ?_⟩
              have := hs7.trans (Sim.set (off := i * 3 + 1) (v := .bool false) v7 (by omega))
              rwa [List.set_set] at this
          · exact ⟨0, by omega, by (first | rfl | (simp only [Env_put_some, Env_put_none, ↓Env_set_at, ↓reduceIte, Nat.reduceEqDiff, e1] <;> rfl)), by (first | rfl | (simp only [Env_put_some, Env_put_none, ↓Env_set_at, ↓reduceIte, Nat.reduceEqDiff, e3] <;> rfl)), by (first | rfl | (simp only [Env_put_some, Env_put_none, ↓Env_set_at, ↓reduceIte, Nat.reduceEqDiff, e4] <;> rfl)), by (first | rfl | (simp only [Env_put_some, Env_put_none, ↓Env_set_at, ↓reduceIte, Nat.reduceEqDiff, e5] <;> rfl)), by (first | rfl | (simp only [Env_put_some, Env_put_none, ↓Env_set_at, ↓reduceIte, Nat.reduceEqDiff, e6] <;> rfl)), by (first | rfl | (simp only [Env_put_some, Env_put_none, ↓Env_set_at, ↓reduceIte, Nat.reduceEqDiff] <;> rfl)), .refl _ _, .refl _ _ _⟩
        · simp only [lp3_1, evA, ↓evB, ↓astep, ↓aop, aBin, aInt, aStr, aUn, aNil, aMax, aresults, ares, aPack, ↓reduceIte, ↓reduceCtorEq, Nat.reduceEqDiff, Nat.reduceAdd, env0, aLoad, aLoadN, cellsOf, Int.reduceEq, Int.reduceLT, Int.reduceLE, Nat.reduceLeDiff, oneC, aop.fillL, setL, aApp, aAppC_nil, aAppC_own, xop, aSame_ptr, BIG, Bool.or_true, Bool.true_or, Bool.or_false, Bool.false_or, eqCells, eqCell, rowOf, ↓acallop, aBound, aIntOf, flat, flatN, CX_fn, CX_X, CX_pol, aStore, Nat.reduceBEq, List.size_toArray, Int.sub_zero, Int.zero_add, Int.add_zero, Int.toNat_zero, Int.reduceAdd, Int.reduceSub, Int.reduceMul, Int.reduceNeg, Int.reduceToNat, Nat.reduceSub, Nat.reduceMul, Int.natCast_zero, Int.reduceDiv, Int.reduceMod, Int.toNat_natCast, fdiv_nn, min_bits_i, Int.reducePow, Nat.reducePow, Nat.reduceDiv, Nat.reduceMod, mb_i, mb_u, WpC_drawD, WpT_nil, WpT_cons, WpT_guard, WpK_nil, scal, e1, e3, e4, e5, e6, q4]
          obtain ⟨H6, hH6⟩ : ∃ H6 : Heap, H6 = H5.set r (.cells [.string ⟨#[]⟩, .bool false, .slice none 0 0] 24 true) := ⟨_, rfl⟩
          have hf6 : Fr (fun x => Hc.length ≤ x) Hc H6 := by
            rw [hH6]
            exact ((hfc4.mono (fun _ _ h => h.elim)).trans (hfr.mono (fun _ _ h => h.1))).sets (by omega) _
          have hv6 : ItemV H6 S t (.agg #[.string x, .bool b, .slice a l.length c]) := hvc.mono fun i o hs ho => ⟨hs, hf6.2 _ _ (by have := hS i hs; omega) ho⟩
          have q6 := hf6.2 _ _ (by omega) hbox
          obtain ⟨w, K5, hrs2, rfl⟩ := Run_get (wShowR _ t (Nat.le_refl _) (by omega) (by omega) H6 _ _ hv6 ⟨H6.length, H6.length⟩ k (by omega))
          have hrs2 := hrs2 k (Nat.le_refl _)
          simp only [T0] at hrs2
          (repeat' first
    | (refine CondV_dec (fun _ => ?_) (fun _ => ?_) <;> try (exfalso; omega))
    | (refine GuardV_td (fun _ => ?_) (fun _ => ?_) <;> try (exfalso; omega))
    | (refine GuardV_fd (fun _ => ?_) (fun _ => ?_) <;> try (exfalso; omega))
    | (refine CondV_split (fun _ => ?_) (fun _ => ?_))
    | (refine Need_of (by first | omega | decide) ?_)
    | refine WpK_cons ?_ ?_
    | refine WpK_guard ?_
    | simp (disch := first | omega | simp only [List.length_append, List.length_set, List.length_cons, List.length_nil] <;> omega | fail) only [evA, ↓evB, ↓astep, ↓aop, aBin, aInt, aStr, aUn, aNil, aMax, aresults, ares, aPack, ↓reduceIte, ↓reduceCtorEq, Nat.reduceEqDiff, Nat.reduceAdd, env0, aLoad, aLoadN, cellsOf, Int.reduceEq, Int.reduceLT, Int.reduceLE, Nat.reduceLeDiff, oneC, aop.fillL, setL, aApp, aAppC_nil, aAppC_own, xop, aSame_ptr, BIG, Bool.or_true, Bool.true_or, Bool.or_false, Bool.false_or, eqCells, eqCell, rowOf, ↓acallop, aBound, aIntOf, flat, flatN, CX_fn, CX_X, CX_pol, aStore, Nat.reduceBEq, List.size_toArray, Int.sub_zero, Int.zero_add, Int.add_zero, Int.toNat_zero, Int.reduceAdd, Int.reduceSub, Int.reduceMul, Int.reduceNeg, Int.reduceToNat, Nat.reduceSub, Nat.reduceMul, Int.natCast_zero, Int.reduceDiv, Int.reduceMod, Int.toNat_natCast, fdiv_nn, min_bits_i, Int.reducePow, Nat.reducePow, Nat.reduceDiv, Nat.reduceMod, mb_i, mb_u, WpC_drawD, WpT_nil, WpT_cons, WpT_guard, WpK_nil, scal, e1, e3, e4, e5, e6, q4, q5, qr, ← hH6, q6, hrs2])
      · exact ⟨0, by omega, rfl, rfl, rfl, rfl, rfl, .refl _ _, .refl _ _ _⟩
theorem item_argA {H : Heap} {v : Value} (h : IsV Try.prog H 24 v) : ∃ t, ItemV H (fun i => i < H.length) t v :=
  isv_tr Try.underlying24 (by kernel_rfl) Try.underlying9 Try.underlying4 Try.underlying22 (by kernel_rfl) h
theorem main_ItemApart (H : Heap) (args : List Value) (h : IsVs Try.prog H Try.f3.params.toList args) : ∃ k, Run (fun v' _ => v' = .bool true) mk (acall T0 k 3 args H ⟨H.length, 0⟩) := by
  rw [Try.params3] at h
  obtain ⟨v0, r0, rfl, h0, h⟩ := args_cons h
  obtain rfl := args_nil h
  obtain ⟨t, ht⟩ := item_argA h0
  exact wApart t H _ (fun x hx => hx) _ ht
end Ev
end Go.Proofs.Ytfbelnjchpffeaa
