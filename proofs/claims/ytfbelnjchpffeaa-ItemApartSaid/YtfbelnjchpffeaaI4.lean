/-
  The program's walk through an item.
-/
import Derived.Test.YtfbelnjchpffeaaI3
namespace Go.Proofs.Ytfbelnjchpffeaa
namespace Ev
open Tag (mk)
set_option linter.unusedSimpArgs false
set_option linter.unusedVariables false
set_option maxRecDepth 4000
set_option maxHeartbeats 4000000
/-! ## What is kept -/
/-- All things are as they were, but those of X. -/
def Fr (X : Nat → Prop) (H H' : Heap) : Prop := H.length ≤ H'.length ∧ ∀ (i : Nat) (o : AObj), ¬ X i → H[i]? = some o → H'[i]? = some o
theorem Fr.refl (X : Nat → Prop) (H : Heap) : Fr X H H := ⟨Nat.le_refl _, fun _ _ _ h => h⟩
theorem Fr.trans {X : Nat → Prop} {A B D : Heap} (h : Fr X A B) (k : Fr X B D) : Fr X A D := ⟨Nat.le_trans h.1 k.1, fun i o hx ho => k.2 i o hx (h.2 i o hx ho)⟩
theorem Fr.app (X : Nat → Prop) (H L : Heap) : Fr X H (H ++ L) := ⟨by simp, fun i o _ h => get_app h L⟩
theorem Fr.appl {X : Nat → Prop} {A B : Heap} (h : Fr X A B) (L : Heap) : Fr X A (B ++ L) := h.trans (.app X B L)
theorem Fr.set {X : Nat → Prop} {H : Heap} {i : Nat} (hx : X i) (o : AObj) : Fr X H (H.set i o) := ⟨by simp, fun j p hj h => by
  rw [hset_ne]
  · exact h
  · rintro rfl; exact hj hx⟩
theorem Fr.sets {X : Nat → Prop} {A B : Heap} (h : Fr X A B) {i : Nat} (hx : X i) (o : AObj) : Fr X A (B.set i o) := h.trans (.set hx o)
theorem Fr.mono {X Y : Nat → Prop} {A B : Heap} (h : Fr X A B) (hy : ∀ i, i < A.length → X i → Y i) : Fr Y A B := ⟨h.1, fun i o hn ho => h.2 i o (fun hx => hn (hy i (lt_of_get ho) hx)) ho⟩
/-- What is done to things that were not there. -/
theorem Fr.new {X Y : Nat → Prop} {A B D : Heap} (h : Fr X A B) (k : Fr Y B D) (hy : ∀ i, Y i → X i ∨ A.length ≤ i) : Fr X A D := ⟨Nat.le_trans h.1 k.1, fun i o hn ho => k.2 i o (fun hyi => by
  rcases hy i hyi with h1 | h1
  · exact hn h1
  · have := lt_of_get ho; omega) (h.2 i o hn ho)⟩
theorem ItemV.fr {X : Nat → Prop} {H H' : Heap} {S : Nat → Prop} {t : Tr} {v : Value} (h : ItemV H S t v) (hf : Fr X H H') (hs : ∀ i, S i → ¬ X i) : ItemV H' S t v :=
  h.mono fun i o hS ho => ⟨hS, hf.2 i o (hs i hS) ho⟩
theorem Held.fr {X : Nat → Prop} {H H' : Heap} {S : Nat → Prop} {j : Nat} {t : ByteArray} {b : Bool} {l : List Tr} {a : Option Addr} {c : Nat} (h : Held H S j t b l a c) (hf : Fr X H H') (hj : ¬ X j) (hs : ∀ i, S i → ¬ X i) : Held H' S j t b l a c :=
  ⟨hf.2 _ _ hj h.box, fun hne => by
    obtain ⟨i, T, own, cells, h1, h2, h3, h4, h5⟩ := h.sub hne
    exact ⟨i, T, own, cells, h1, h2, h3, hf.2 _ _ (hs i h3) h4, ItemsAt.mono (fun i o hS ho => ⟨hS, hf.2 i o (hs i hS) ho⟩) l cells h5⟩⟩

/-! ## The walk, in plain words -/
mutual
def wk : Tr → Nat → Nat → Nat → Bool × Nat × Nat
  | .mk t b l, dep, c, d => if dep > 16 ∨ c + 1 > 1024 ∨ (b = true ∧ t.size ≠ 0) ∨ (b = false ∧ l.length ≠ 0) then (false, c + 1, max d dep) else wks l (dep + 1) (c + 1) (max d dep)
def wks : List Tr → Nat → Nat → Nat → Bool × Nat × Nat
  | [], _, c, d => (true, c, d)
  | x :: l, dep, c, d => if (wk x dep c d).1 then wks l dep (wk x dep c d).2.1 (wk x dep c d).2.2 else (false, (wk x dep c d).2)
end
mutual
theorem wk_ok : ∀ (t : Tr) (dep c d : Nat), ((wk t dep c d).1 = true ↔ rt t = true ∧ dep + dp t ≤ 17 ∧ c + sz t ≤ 1024) ∧ ((wk t dep c d).1 = true → (wk t dep c d).2 = (c + sz t, max d (dep + dp t - 1)))
  | .mk t b l, dep, c, d => by
    have h := wks_ok l (dep + 1) (c + 1) (max d dep)
    have h0 : l = [] → dps l = 0 ∧ szs l = 0 := by rintro rfl; simp [dps, szs]
    unfold wk rt dp sz
    by_cases hc : dep > 16 ∨ c + 1 > 1024 ∨ (b = true ∧ t.size ≠ 0) ∨ (b = false ∧ l.length ≠ 0)
    · rw [if_pos hc]
      refine ⟨⟨fun h => (by cases h), fun ⟨h1, h2, h3⟩ => ?_⟩, fun h => (by cases h)⟩
      exfalso
      simp only [Bool.and_eq_true, Bool.not_eq_true', Bool.or_eq_false_iff, Bool.and_eq_false_iff, decide_eq_false_iff_not, Bool.not_eq_false'] at h1
      rcases hc with hc | hc | ⟨rfl, hc⟩ | ⟨rfl, hc⟩
      · omega
      · omega
      · simp [hc] at h1
      · simp [hc] at h1
    · rw [if_neg hc]
      have hg : (b && decide (t.size ≠ 0) || !b && decide (l.length ≠ 0)) = false := by
        cases b <;> simp at hc ⊢ <;> simp [hc]
      rw [hg]
      simp only [Bool.not_false, Bool.true_and]
      refine ⟨?_, fun hw => ?_⟩
      · rw [h.1]
        constructor
        · rintro ⟨h1, h2, h3⟩
          by_cases hl : l = []
          · have := h0 hl; refine ⟨h1, by omega, by omega⟩
          · have := h2 hl; have := h3 hl; refine ⟨h1, by omega, by omega⟩
        · rintro ⟨h1, h2, h3⟩
          exact ⟨h1, fun _ => by omega, fun _ => by omega⟩
      · rw [h.2 hw]
        by_cases hl : l = []
        · subst hl; simp [szs, dps]
        · have hne : dps l = 0 → False := by
            cases l with
            | nil => exact absurd rfl hl
            | cons x l => unfold dps; have : 0 < dp x := (by cases x; unfold dp; omega); omega
          simp only [hl, if_false]
          refine Prod.ext ?_ ?_ <;> simp only <;> omega
theorem wks_ok : ∀ (l : List Tr) (dep c d : Nat), ((wks l dep c d).1 = true ↔ rts l = true ∧ (l ≠ [] → dep + dps l ≤ 17) ∧ (l ≠ [] → c + szs l ≤ 1024)) ∧ ((wks l dep c d).1 = true → (wks l dep c d).2 = (c + szs l, if l = [] then d else max d (dep + dps l - 1)))
  | [], dep, c, d => by simp [wks, rts, szs]
  | x :: l, dep, c, d => by
    have h1 := wk_ok x dep c d
    have h2 := wks_ok l dep (wk x dep c d).2.1 (wk x dep c d).2.2
    have h0 : l = [] → dps l = 0 ∧ szs l = 0 := by rintro rfl; simp [dps, szs]
    have hpos : 0 < dp x := by cases x; unfold dp; omega
    unfold wks rts dps szs
    by_cases hx : (wk x dep c d).1 = true
    · rw [if_pos hx]
      have hv := h1.2 hx
      rw [hv] at h2 ⊢
      obtain ⟨g1, g2, g3⟩ := h1.1.1 hx
      refine ⟨?_, fun hw => ?_⟩
      · rw [h2.1, g1, Bool.true_and]
        constructor
        · rintro ⟨q1, q2, q3⟩
          by_cases hl : l = []
          · have := h0 hl; refine ⟨q1, fun _ => by omega, fun _ => by omega⟩
          · have := q2 hl; have := q3 hl; refine ⟨q1, fun _ => by omega, fun _ => by simp only at this; omega⟩
        · rintro ⟨q1, q2, q3⟩
          have := q2 (by simp); have := q3 (by simp)
          refine ⟨q1, fun _ => by omega, fun _ => by simp only; omega⟩
      · rw [h2.2 hw]
        simp only [List.cons_ne_nil, if_false]
        refine Prod.ext ?_ ?_
        · simp only; omega
        · by_cases hl : l = []
          · have := h0 hl; simp only [hl, if_true]; have e := h0 hl; rw [← hl]; omega
          · simp only [hl, if_false]; omega
    · rw [if_neg hx]
      refine ⟨⟨fun h => (by cases h), fun ⟨q1, q2, q3⟩ => ?_⟩, fun h => (by cases h)⟩
      exfalso
      have := q2 (by simp); have := q3 (by simp)
      simp only [Bool.and_eq_true] at q1
      exact hx (h1.1.2 ⟨q1.1, by omega, by omega⟩)
end
theorem wk_may (t : Tr) : (wk t 1 0 0).1 = may t := by
  have h := (wk_ok t 1 0 0).1
  unfold may
  rw [Bool.eq_iff_iff, h]
  simp only [Bool.and_eq_true, decide_eq_true_eq]
  constructor
  · rintro ⟨h1, h2, h3⟩; exact ⟨⟨h1, by omega⟩, by omega⟩
  · rintro ⟨⟨h1, h2⟩, h3⟩; exact ⟨h1, by omega, by omega⟩
theorem wk_fst (t : Tr) (dep c d : Nat) : (wk t dep c d).1 = true → (wk t dep c d).2.1 ≤ 1024 ∧ (wk t dep c d).2.2 ≤ max d 16 ∧ c < (wk t dep c d).2.1 := fun h => by
  have h0 := sz_pos t
  have h1 := (wk_ok t dep c d).1.1 h
  have h2 := (wk_ok t dep c d).2 h
  rw [h2]; simp only; omega
/-! ## The walk -/
theorem imax (a b : Nat) : (if (a : Int) < (b : Int) then (b : Int) else (a : Int)) = ((max a b : Nat) : Int) := by split <;> omega
def atF (ic id ia : Nat) : Value := .func (.func 118) #[] #[.pointer (some ⟨ic, 0, none⟩), .pointer (some ⟨id, 0, none⟩), .pointer (some ⟨ia, 0, none⟩)]
structure AtH (H : Heap) (ic id ia : Nat) (Ta : TypeId) (c d : Nat) : Prop where
  c : H[ic]? = some (.cells [.int .i64 (c : Int)] 3 true)
  d : H[id]? = some (.cells [.int .i64 (d : Int)] 3 true)
  a : H[ia]? = some (.cells [atF ic id ia] Ta true)
theorem AtH.fr {X : Nat → Prop} {H H' : Heap} {ic id ia : Nat} {Ta : TypeId} {c d : Nat} (h : AtH H ic id ia Ta c d) (hf : Fr X H H') (h1 : ¬ X ic) (h2 : ¬ X id) (h3 : ¬ X ia) : AtH H' ic id ia Ta c d :=
  ⟨hf.2 _ _ h1 h.c, hf.2 _ _ h2 h.d, hf.2 _ _ h3 h.a⟩
def IAt (Hb : Heap) (S : Nat → Prop) (ic id ia j : Nat) (Ta : TypeId) (t : ByteArray) (l : List Tr) (a : Option Addr) (cc : Nat) (dep c0 d0 : Nat) (n : Nat) (e : Env) (H : Heap) : Prop :=
  ∃ (i c d : Nat) (b : Bool), i + n = l.length ∧ e 1 = .int .i64 (dep : Int) ∧ e 4 = .pointer (some ⟨ia, 0, none⟩) ∧ e 42 = .slice a l.length cc ∧ e 43 = .int .i64 (l.length : Int) ∧ e 44 = .int .i64 (i : Int) ∧
    AtH H ic id ia Ta c d ∧ Held H S j t b l a cc ∧ Fr (fun i => i = ic ∨ i = id) Hb H ∧ wks (l.drop i) (dep + 1) c d = wks l (dep + 1) c0 d0 ∧ c ≤ 1024 ∧ d ≤ 17 ∧ i ≤ c
theorem wAt : ∀ (N : Nat) (t : Tr), sz t ≤ N → ∀ (dep c d : Nat), 1 ≤ dep → dep ≤ 17 → c ≤ 1024 → d ≤ 17 → ∀ (H : Heap) (S : Nat → Prop) (v : Value) (ic id ia : Nat) (Ta : TypeId), ItemV H S t v → AtH H ic id ia Ta c d → ¬ S ic → ¬ S id → ic ≠ id → ic ≠ ia → id ≠ ia →
    ∀ (m : Ev.Mode), m.lim ≤ ic → m.lim ≤ id → m.lim ≤ H.length → m.fb ≤ H.length → ∀ (k : Nat), sz t + 2 ≤ k →
    Run (fun u H' => u = .bool (wk t dep c d).1 ∧ AtH H' ic id ia Ta (wk t dep c d).2.1 (wk t dep c d).2.2 ∧ Fr (fun i => i = ic ∨ i = id) H H') mk
      (acall T0 k 118 [v, .int .i64 (dep : Int), .pointer (some ⟨ic, 0, none⟩), .pointer (some ⟨id, 0, none⟩), .pointer (some ⟨ia, 0, none⟩)] H m) := by
  intro N
  induction N with
  | zero => intro t h; have := sz_pos t; omega
  | succ N ih =>
    intro t hN dep c d hd1 hd hc hdd H S v ic id ia Ta hv hA hS1 hS2 hne hne1 hne2 m hm1 hm2 hm3 hm4 k hk
    obtain ⟨t, b, l⟩ := t
    obtain ⟨a, cc, rfl, hh⟩ := hv.parts
    obtain ⟨k, rfl⟩ : ∃ q, k = q + 1 := ⟨k - 1, by omega⟩
    have hls := len_szs l
    unfold sz at hN hk
    obtain ⟨hA1, hA2, hA3⟩ := hA
    have hl1 := lt_of_get hA1
    have hl2 := lt_of_get hA2
    have hl3 := lt_of_get hA3
    refine Run_call (F := ir118) rfl (Nat.le_of_ble_eq_true rfl) ?_
    obtain ⟨Hc, hHc⟩ : ∃ Hc : Heap, Hc = H ++ [.cells [.string t, .bool b, .slice a l.length cc] 24 true] := ⟨_, rfl⟩
    have hold := hh Hc hHc
    have hbox := hold.box
    have hfr : Fr (fun i => i = ic ∨ i = id) H Hc := by rw [hHc]; exact .app _ _ _
    have q1 := hfr.2 ia _ (by omega) hA3
    have q2 : Hc[ic]? = some (.cells [.int .i64 (c : Int)] 3 true) := by rw [hHc]; exact get_app hA1 _
    have q3 : Hc[id]? = some (.cells [.int .i64 (d : Int)] 3 true) := by rw [hHc]; exact get_app hA2 _
    have hLc : Hc.length = H.length + 1 := by rw [hHc]; simp
    simp only [ir118]
    have fin : AtH ((Hc.set ic (.cells [.int .i64 ((c : Int) + 1)] 3 true)).set id (.cells [.int .i64 ((max d dep : Nat) : Int)] 3 true)) ic id ia Ta (c + 1) (max d dep) ∧
        Fr (fun i => i = ic ∨ i = id) H ((Hc.set ic (.cells [.int .i64 ((c : Int) + 1)] 3 true)).set id (.cells [.int .i64 ((max d dep : Nat) : Int)] 3 true)) :=
      ⟨⟨by rw [hset_ne (Ne.symm hne), hset_self (by omega)]; rfl, by rw [hset_self (by simp; omega)], by rw [hset_ne hne2, hset_ne hne1]; exact q1⟩, (hfr.sets (.inl rfl) _).sets (.inr rfl) _⟩
    obtain ⟨Hx, hHx⟩ : ∃ Hx, Hx = ((Hc.set ic (.cells [.int .i64 ((c : Int) + 1)] 3 true)).set id (.cells [.int .i64 ((max d dep : Nat) : Int)] 3 true)) := ⟨_, rfl⟩
    have fx2 : Hx[H.length]? = some (.cells [.string t, .bool b, .slice a l.length cc] 24 true) := by rw [hHx, hset_ne (by omega), hset_ne (by omega)]; exact hbox
    rw [← hHx] at fin
    have fx1 := fin.1.c
    have hn : ∀ q, S q → ¬ (q = ic ∨ q = id) := fun q hq => by rintro (rfl | rfl); exact hS1 hq; exact hS2 hq
    have hfx : Fr (fun i => i = ic ∨ i = id) Hc Hx := by rw [hHx]; exact ((Fr.refl _ Hc).sets (.inl rfl) _).sets (.inr rfl) _
    have hold2 : Held Hx S H.length t b l a cc := hold.fr hfx (by omega) hn
    by_cases hbad : dep > 16 ∨ c + 1 > 1024 ∨ (b = true ∧ t.size ≠ 0) ∨ (b = false ∧ l.length ≠ 0)
    · have hw : wk (.mk t b l) dep c d = (false, c + 1, max d dep) := by unfold wk; rw [if_pos hbad]
      rw [hw]
      cases b with
      | true =>
        have hbad' : dep > 16 ∨ c + 1 > 1024 ∨ t.size ≠ 0 := by simpa using hbad
        (repeat' first
    | (refine CondV_dec (fun _ => ?_) (fun _ => ?_) <;> try (exfalso; omega))
    | (refine GuardV_td (fun _ => ?_) (fun _ => ?_) <;> try (exfalso; omega))
    | (refine GuardV_fd (fun _ => ?_) (fun _ => ?_) <;> try (exfalso; omega))
    | (refine CondV_split (fun _ => ?_) (fun _ => ?_))
    | (refine Need_of (by first | omega | decide) ?_)
    | refine WpK_cons ?_ ?_
    | refine WpK_guard ?_
    | simp (disch := first | omega | simp only [List.length_append, List.length_set, List.length_cons, List.length_nil] <;> omega | fail) only [evA, ↓evB, ↓astep, ↓aop, aBin, aInt, aStr, aUn, aNil, aMax, aresults, ares, aPack, ↓reduceIte, ↓reduceCtorEq, Nat.reduceEqDiff, Nat.reduceAdd, env0, aLoad, aLoadN, cellsOf, Int.reduceEq, Int.reduceLT, Int.reduceLE, Nat.reduceLeDiff, oneC, aop.fillL, setL, aApp, aAppC_nil, aAppC_own, xop, aSame_ptr, BIG, Bool.or_true, Bool.true_or, Bool.or_false, Bool.false_or, eqCells, eqCell, rowOf, ↓acallop, aBound, aIntOf, flat, flatN, CX_fn, CX_X, CX_pol, aStore, Nat.reduceBEq, List.size_toArray, Int.sub_zero, Int.zero_add, Int.add_zero, Int.toNat_zero, Int.reduceAdd, Int.reduceSub, Int.reduceMul, Int.reduceNeg, Int.reduceToNat, Nat.reduceSub, Nat.reduceMul, Int.natCast_zero, Int.reduceDiv, Int.reduceMod, Int.toNat_natCast, fdiv_nn, min_bits_i, Int.reducePow, Nat.reducePow, Nat.reduceDiv, Nat.reduceMod, mb_i, mb_u, WpC_drawD, WpT_nil, WpT_cons, WpT_guard, WpK_nil, scal, ← hHc, hbox, q1, q2, q3, str_empty, imax, ← hHx, fx1, fx2])
        all_goals exact fin
      | false =>
        have hbad' : dep > 16 ∨ c + 1 > 1024 ∨ l.length ≠ 0 := by simpa using hbad
        (repeat' first
    | (refine CondV_dec (fun _ => ?_) (fun _ => ?_) <;> try (exfalso; omega))
    | (refine GuardV_td (fun _ => ?_) (fun _ => ?_) <;> try (exfalso; omega))
    | (refine GuardV_fd (fun _ => ?_) (fun _ => ?_) <;> try (exfalso; omega))
    | (refine CondV_split (fun _ => ?_) (fun _ => ?_))
    | (refine Need_of (by first | omega | decide) ?_)
    | refine WpK_cons ?_ ?_
    | refine WpK_guard ?_
    | simp (disch := first | omega | simp only [List.length_append, List.length_set, List.length_cons, List.length_nil] <;> omega | fail) only [evA, ↓evB, ↓astep, ↓aop, aBin, aInt, aStr, aUn, aNil, aMax, aresults, ares, aPack, ↓reduceIte, ↓reduceCtorEq, Nat.reduceEqDiff, Nat.reduceAdd, env0, aLoad, aLoadN, cellsOf, Int.reduceEq, Int.reduceLT, Int.reduceLE, Nat.reduceLeDiff, oneC, aop.fillL, setL, aApp, aAppC_nil, aAppC_own, xop, aSame_ptr, BIG, Bool.or_true, Bool.true_or, Bool.or_false, Bool.false_or, eqCells, eqCell, rowOf, ↓acallop, aBound, aIntOf, flat, flatN, CX_fn, CX_X, CX_pol, aStore, Nat.reduceBEq, List.size_toArray, Int.sub_zero, Int.zero_add, Int.add_zero, Int.toNat_zero, Int.reduceAdd, Int.reduceSub, Int.reduceMul, Int.reduceNeg, Int.reduceToNat, Nat.reduceSub, Nat.reduceMul, Int.natCast_zero, Int.reduceDiv, Int.reduceMod, Int.toNat_natCast, fdiv_nn, min_bits_i, Int.reducePow, Nat.reducePow, Nat.reduceDiv, Nat.reduceMod, mb_i, mb_u, WpC_drawD, WpT_nil, WpT_cons, WpT_guard, WpK_nil, scal, ← hHc, hbox, q1, q2, q3, str_empty, imax, ← hHx, fx1, fx2])
        all_goals exact fin
    · have hw : wk (.mk t b l) dep c d = wks l (dep + 1) (c + 1) (max d dep) := by unfold wk; rw [if_neg hbad]
      have hok : (b = true ∧ t.size = 0) ∨ (b = false ∧ l.length = 0) := by
        cases b
        · right; refine ⟨rfl, ?_⟩
          rcases Nat.eq_zero_or_pos l.length with h | h
          · exact h
          · exact absurd (.inr (.inr (.inr ⟨rfl, by omega⟩))) hbad
        · left; refine ⟨rfl, ?_⟩
          rcases Nat.eq_zero_or_pos t.size with h | h
          · exact h
          · exact absurd (.inr (.inr (.inl ⟨rfl, by omega⟩))) hbad
      rw [hw]
      rcases hok with ⟨rfl, h0⟩ | ⟨rfl, h0⟩
      all_goals
        (repeat' first
    | (refine CondV_dec (fun _ => ?_) (fun _ => ?_) <;> try (exfalso; omega))
    | (refine GuardV_td (fun _ => ?_) (fun _ => ?_) <;> try (exfalso; omega))
    | (refine GuardV_fd (fun _ => ?_) (fun _ => ?_) <;> try (exfalso; omega))
    | (refine CondV_split (fun _ => ?_) (fun _ => ?_))
    | (refine Need_of (by first | omega | decide) ?_)
    | refine WpK_cons ?_ ?_
    | refine WpK_guard ?_
    | simp (disch := first | omega | simp only [List.length_append, List.length_set, List.length_cons, List.length_nil] <;> omega | fail) only [evA, ↓evB, ↓astep, ↓aop, aBin, aInt, aStr, aUn, aNil, aMax, aresults, ares, aPack, ↓reduceIte, ↓reduceCtorEq, Nat.reduceEqDiff, Nat.reduceAdd, env0, aLoad, aLoadN, cellsOf, Int.reduceEq, Int.reduceLT, Int.reduceLE, Nat.reduceLeDiff, oneC, aop.fillL, setL, aApp, aAppC_nil, aAppC_own, xop, aSame_ptr, BIG, Bool.or_true, Bool.true_or, Bool.or_false, Bool.false_or, eqCells, eqCell, rowOf, ↓acallop, aBound, aIntOf, flat, flatN, CX_fn, CX_X, CX_pol, aStore, Nat.reduceBEq, List.size_toArray, Int.sub_zero, Int.zero_add, Int.add_zero, Int.toNat_zero, Int.reduceAdd, Int.reduceSub, Int.reduceMul, Int.reduceNeg, Int.reduceToNat, Nat.reduceSub, Nat.reduceMul, Int.natCast_zero, Int.reduceDiv, Int.reduceMod, Int.toNat_natCast, fdiv_nn, min_bits_i, Int.reducePow, Nat.reducePow, Nat.reduceDiv, Nat.reduceMod, mb_i, mb_u, WpC_drawD, WpT_nil, WpT_cons, WpT_guard, WpK_nil, scal, ← hHc, hbox, q1, q2, q3, str_empty, imax, ← hHx, fx1, fx2])
        refine WpC_loop (IAt Hc S ic id ia H.length Ta t l a cc dep (c + 1) (max d dep)) ?_ (n := l.length) (show l.length < k by omega) ?_
        · rintro n e H1 ⟨i, x, y, bb, hi, g1, g4, g42, g43, g44, hA, hold1, hfr1, hr, hx, hy, hic⟩
          have hHl := hfr1.1
          by_cases hc : i < l.length
          · obtain ⟨q, T, own, cells, rfl, rfl, hSq, hq, hle, hit⟩ := hold1.get hc
            obtain ⟨ai, ci, hcell, hsubi⟩ := hit.cells
            have hsl := sz_get hc
            have hr0 : wks (l.drop i) (dep + 1) x y = if (wk l[i] (dep + 1) x y).1 then wks (l.drop (i + 1)) (dep + 1) (wk l[i] (dep + 1) x y).2.1 (wk l[i] (dep + 1) x y).2.2 else (false, (wk l[i] (dep + 1) x y).2) := by rw [drop_cons' hc, wks]
            have hdep : dep ≤ 16 := by omega
            obtain ⟨H2, hH2⟩ : ∃ H2 : Heap, H2 = H1 ++ [.cells [.string l[i].text, .bool l[i].list, .slice ai l[i].sub.length ci] 24 true] := ⟨_, rfl⟩
            have hfr2 : Fr (fun i => i = ic ∨ i = id) H1 H2 := by rw [hH2]; exact .app _ _ _
            have hA2' : AtH H2 ic id ia Ta x y := ⟨by rw [hH2]; exact get_app hA.c _, by rw [hH2]; exact get_app hA.d _, by rw [hH2]; exact get_app hA.a _⟩
            have hv2 : ItemV H2 S l[i] (.agg #[.string l[i].text, .bool l[i].list, .slice ai l[i].sub.length ci]) := by
              have : ItemV H1 S l[i] (.agg #[.string l[i].text, .bool l[i].list, .slice ai l[i].sub.length ci]) := ⟨_, rfl, hcell ▸ hit⟩
              rw [hH2]; exact this.app _
            have := ih l[i] (by omega) (dep + 1) x y (by omega) (by omega) hx hy H2 S _ ic id ia Ta hv2 hA2' hS1 hS2 hne hne1 hne2 m hm1 hm2 (by rw [hH2]; simp; omega) (by rw [hH2]; simp; omega) k (by omega)
            obtain ⟨v, H3, hcall, rfl, hA3', hfr3⟩ := Run_get this
            have hcall := hcall k (Nat.le_refl _)
            rw [show ((dep + 1 : Nat) : Int) = (dep : Int) + 1 by omega] at hcall
            have hfst := wk_fst l[i] (dep + 1) x y
            have hl2 : H2[H1.length]? = some (.cells [.string l[i].text, .bool l[i].list, .slice ai l[i].sub.length ci] 24 true) := by rw [hH2]; simp
            have ha := hA.a
            have ha2 := hA2'.a
            simp only [T0] at hcall
            simp only [lp118_0, evA, ↓evB, ↓astep, ↓aop, aBin, aInt, aStr, aUn, aNil, aMax, aresults, ares, aPack, ↓reduceIte, ↓reduceCtorEq, Nat.reduceEqDiff, Nat.reduceAdd, env0, aLoad, aLoadN, cellsOf, Int.reduceEq, Int.reduceLT, Int.reduceLE, Nat.reduceLeDiff, oneC, aop.fillL, setL, aApp, aAppC_nil, aAppC_own, xop, aSame_ptr, BIG, Bool.or_true, Bool.true_or, Bool.or_false, Bool.false_or, eqCells, eqCell, rowOf, ↓acallop, aBound, aIntOf, flat, flatN, CX_fn, CX_X, CX_pol, aStore, Nat.reduceBEq, List.size_toArray, Int.sub_zero, Int.zero_add, Int.add_zero, Int.toNat_zero, Int.reduceAdd, Int.reduceSub, Int.reduceMul, Int.reduceNeg, Int.reduceToNat, Nat.reduceSub, Nat.reduceMul, Int.natCast_zero, Int.reduceDiv, Int.reduceMod, Int.toNat_natCast, fdiv_nn, min_bits_i, Int.reducePow, Nat.reducePow, Nat.reduceDiv, Nat.reduceMod, mb_i, mb_u, WpC_drawD, WpT_nil, WpT_cons, WpT_guard, WpK_nil, scal, g1, g4, g42, g43, g44, T0]
            cases hwb : (wk l[i] (dep + 1) x y).1 with
            | true =>
              rw [hwb] at hcall hr0
              have hfst := hfst hwb
              (repeat' first
    | (refine CondV_dec (fun _ => ?_) (fun _ => ?_) <;> try (exfalso; omega))
    | (refine GuardV_td (fun _ => ?_) (fun _ => ?_) <;> try (exfalso; omega))
    | (refine GuardV_fd (fun _ => ?_) (fun _ => ?_) <;> try (exfalso; omega))
    | (refine CondV_split (fun _ => ?_) (fun _ => ?_))
    | (refine Need_of (by first | omega | decide) ?_)
    | refine WpK_cons ?_ ?_
    | refine WpK_guard ?_
    | simp (disch := first | omega | simp only [List.length_append, List.length_set, List.length_cons, List.length_nil] <;> omega | fail) only [evA, ↓evB, ↓astep, ↓aop, aBin, aInt, aStr, aUn, aNil, aMax, aresults, ares, aPack, ↓reduceIte, ↓reduceCtorEq, Nat.reduceEqDiff, Nat.reduceAdd, env0, aLoad, aLoadN, cellsOf, Int.reduceEq, Int.reduceLT, Int.reduceLE, Nat.reduceLeDiff, oneC, aop.fillL, setL, aApp, aAppC_nil, aAppC_own, xop, aSame_ptr, BIG, Bool.or_true, Bool.true_or, Bool.or_false, Bool.false_or, eqCells, eqCell, rowOf, ↓acallop, aBound, aIntOf, flat, flatN, CX_fn, CX_X, CX_pol, aStore, Nat.reduceBEq, List.size_toArray, Int.sub_zero, Int.zero_add, Int.add_zero, Int.toNat_zero, Int.reduceAdd, Int.reduceSub, Int.reduceMul, Int.reduceNeg, Int.reduceToNat, Nat.reduceSub, Nat.reduceMul, Int.natCast_zero, Int.reduceDiv, Int.reduceMod, Int.toNat_natCast, fdiv_nn, min_bits_i, Int.reducePow, Nat.reducePow, Nat.reduceDiv, Nat.reduceMod, mb_i, mb_u, WpC_drawD, WpT_nil, WpT_cons, WpT_guard, WpK_nil, scal, g1, g4, g42, g43, g44, hq, hcell, ← hH2, hl2, ha, ha2, atF, hcall])
              all_goals refine ⟨n - 1, by omega, i + 1, _, _, bb, by omega, by (first | rfl | (simp only [Env_put_some, Env_put_none, ↓Env_set_at, ↓reduceIte, Nat.reduceEqDiff, g1] <;> rfl)), by (first | rfl | (simp only [Env_put_some, Env_put_none, ↓Env_set_at, ↓reduceIte, Nat.reduceEqDiff, g4] <;> rfl)), by (first | rfl | (simp only [Env_put_some, Env_put_none, ↓Env_set_at, ↓reduceIte, Nat.reduceEqDiff, g42] <;> rfl)), by (first | rfl | (simp only [Env_put_some, Env_put_none, ↓Env_set_at, ↓reduceIte, Nat.reduceEqDiff, g43] <;> rfl)), by (first | rfl | (simp only [Env_put_some, Env_put_none, ↓Env_set_at, ↓reduceIte, Nat.reduceEqDiff] <;> rfl)), hA3', (hold1.fr (hfr2.trans hfr3) (by omega) (fun q hq => by rintro (rfl | rfl); exact hS1 hq; exact hS2 hq)), (hfr1.trans hfr2).trans hfr3, ?_, hfst.1, by omega, by omega⟩
              all_goals rw [← hr, hr0]; rfl
            | false =>
              rw [hwb] at hcall hr0
              (repeat' first
    | (refine CondV_dec (fun _ => ?_) (fun _ => ?_) <;> try (exfalso; omega))
    | (refine GuardV_td (fun _ => ?_) (fun _ => ?_) <;> try (exfalso; omega))
    | (refine GuardV_fd (fun _ => ?_) (fun _ => ?_) <;> try (exfalso; omega))
    | (refine CondV_split (fun _ => ?_) (fun _ => ?_))
    | (refine Need_of (by first | omega | decide) ?_)
    | refine WpK_cons ?_ ?_
    | refine WpK_guard ?_
    | simp (disch := first | omega | simp only [List.length_append, List.length_set, List.length_cons, List.length_nil] <;> omega | fail) only [evA, ↓evB, ↓astep, ↓aop, aBin, aInt, aStr, aUn, aNil, aMax, aresults, ares, aPack, ↓reduceIte, ↓reduceCtorEq, Nat.reduceEqDiff, Nat.reduceAdd, env0, aLoad, aLoadN, cellsOf, Int.reduceEq, Int.reduceLT, Int.reduceLE, Nat.reduceLeDiff, oneC, aop.fillL, setL, aApp, aAppC_nil, aAppC_own, xop, aSame_ptr, BIG, Bool.or_true, Bool.true_or, Bool.or_false, Bool.false_or, eqCells, eqCell, rowOf, ↓acallop, aBound, aIntOf, flat, flatN, CX_fn, CX_X, CX_pol, aStore, Nat.reduceBEq, List.size_toArray, Int.sub_zero, Int.zero_add, Int.add_zero, Int.toNat_zero, Int.reduceAdd, Int.reduceSub, Int.reduceMul, Int.reduceNeg, Int.reduceToNat, Nat.reduceSub, Nat.reduceMul, Int.natCast_zero, Int.reduceDiv, Int.reduceMod, Int.toNat_natCast, fdiv_nn, min_bits_i, Int.reducePow, Nat.reducePow, Nat.reduceDiv, Nat.reduceMod, mb_i, mb_u, WpC_drawD, WpT_nil, WpT_cons, WpT_guard, WpK_nil, scal, g1, g4, g42, g43, g44, hq, hcell, ← hH2, hl2, ha, ha2, atF, hcall])
              all_goals rw [← hr, hr0]
              all_goals exact ⟨rfl, hA3', ((hfr.trans hfr1).trans hfr2).trans hfr3⟩
          · rw [List.drop_eq_nil_of_le (by omega)] at hr
            have e0 : wks [] (dep + 1) x y = (true, x, y) := by simp only [wks]
            rw [e0] at hr
            simp only [lp118_0, evA, ↓evB, ↓astep, ↓aop, aBin, aInt, aStr, aUn, aNil, aMax, aresults, ares, aPack, ↓reduceIte, ↓reduceCtorEq, Nat.reduceEqDiff, Nat.reduceAdd, env0, aLoad, aLoadN, cellsOf, Int.reduceEq, Int.reduceLT, Int.reduceLE, Nat.reduceLeDiff, oneC, aop.fillL, setL, aApp, aAppC_nil, aAppC_own, xop, aSame_ptr, BIG, Bool.or_true, Bool.true_or, Bool.or_false, Bool.false_or, eqCells, eqCell, rowOf, ↓acallop, aBound, aIntOf, flat, flatN, CX_fn, CX_X, CX_pol, aStore, Nat.reduceBEq, List.size_toArray, Int.sub_zero, Int.zero_add, Int.add_zero, Int.toNat_zero, Int.reduceAdd, Int.reduceSub, Int.reduceMul, Int.reduceNeg, Int.reduceToNat, Nat.reduceSub, Nat.reduceMul, Int.natCast_zero, Int.reduceDiv, Int.reduceMod, Int.toNat_natCast, fdiv_nn, min_bits_i, Int.reducePow, Nat.reducePow, Nat.reduceDiv, Nat.reduceMod, mb_i, mb_u, WpC_drawD, WpT_nil, WpT_cons, WpT_guard, WpK_nil, scal, g1, g4, g42, g43, g44]
            (repeat' first
    | (refine CondV_dec (fun _ => ?_) (fun _ => ?_) <;> try (exfalso; omega))
    | (refine GuardV_td (fun _ => ?_) (fun _ => ?_) <;> try (exfalso; omega))
    | (refine GuardV_fd (fun _ => ?_) (fun _ => ?_) <;> try (exfalso; omega))
    | (refine CondV_split (fun _ => ?_) (fun _ => ?_))
    | (refine Need_of (by first | omega | decide) ?_)
    | refine WpK_cons ?_ ?_
    | refine WpK_guard ?_
    | simp (disch := first | omega | simp only [List.length_append, List.length_set, List.length_cons, List.length_nil] <;> omega | fail) only [evA, ↓evB, ↓astep, ↓aop, aBin, aInt, aStr, aUn, aNil, aMax, aresults, ares, aPack, ↓reduceIte, ↓reduceCtorEq, Nat.reduceEqDiff, Nat.reduceAdd, env0, aLoad, aLoadN, cellsOf, Int.reduceEq, Int.reduceLT, Int.reduceLE, Nat.reduceLeDiff, oneC, aop.fillL, setL, aApp, aAppC_nil, aAppC_own, xop, aSame_ptr, BIG, Bool.or_true, Bool.true_or, Bool.or_false, Bool.false_or, eqCells, eqCell, rowOf, ↓acallop, aBound, aIntOf, flat, flatN, CX_fn, CX_X, CX_pol, aStore, Nat.reduceBEq, List.size_toArray, Int.sub_zero, Int.zero_add, Int.add_zero, Int.toNat_zero, Int.reduceAdd, Int.reduceSub, Int.reduceMul, Int.reduceNeg, Int.reduceToNat, Nat.reduceSub, Nat.reduceMul, Int.natCast_zero, Int.reduceDiv, Int.reduceMod, Int.toNat_natCast, fdiv_nn, min_bits_i, Int.reducePow, Nat.reducePow, Nat.reduceDiv, Nat.reduceMod, mb_i, mb_u, WpC_drawD, WpT_nil, WpT_cons, WpT_guard, WpK_nil, scal, g1, g4, g42, g43, g44])
            rw [← hr]
            exact ⟨rfl, hA, hfr.trans hfr1⟩
        · exact ⟨0, c + 1, max d dep, _, by omega, rfl, rfl, rfl, rfl, rfl, fin.1, hold2, hfx, rfl, by omega, by omega, by omega⟩
end Ev
end Go.Proofs.Ytfbelnjchpffeaa
