/-
  The program's reading of an item.
-/
import Derived.Test.YtfbelnjchpffeaaI10
namespace Go.Proofs.Ytfbelnjchpffeaa
namespace Ev
open Tag (mk)
set_option linter.unusedSimpArgs false
set_option linter.unusedVariables false
set_option maxRecDepth 4000
set_option maxHeartbeats 8000000
theorem szs_append : ∀ (a b : List Tr), szs (a ++ b) = szs a + szs b
  | [], b => by simp [szs]
  | t :: a, b => by rw [List.cons_append, szs, szs, szs_append a b]; omega
theorem lstA {f d : Nat} {r : List Nat} {acc : List Tr} : lst (f + 1) d (41 :: r) acc = some (acc, r) := by rw [lst_cons]; rfl
theorem lstB {f d : Nat} {s : List Nat} (h : ∀ r, s ≠ 41 :: r) : lst (f + 1) d s [] = match prs f d s with
    | none => none
    | some (t, rest) => lst f d rest [t] := by
  cases s with
  | nil => rw [lst_nil, prs_nil]
  | cons c r =>
    have : c ≠ 41 := fun h' => h r (by rw [h'])
    rw [lst_cons, if_neg this, if_neg (by simp)]
    simp only [if_true]
    cases prs f d (c :: r) <;> rfl
theorem lstC {f d : Nat} {r : List Nat} {acc : List Tr} (ha : acc ≠ []) : lst (f + 1) d (32 :: r) acc = match prs f d r with
    | none => none
    | some (t, rest) => lst f d rest (acc ++ [t]) := by
  rw [lst_cons, if_neg (by decide), if_neg (by simp)]
  simp only [ha, if_false]
  cases prs f d r <;> rfl
theorem lstD {f d : Nat} {s : List Nat} {acc : List Tr} (ha : acc ≠ []) (h : ∀ r, s ≠ 41 :: r) (h' : ∀ r, s ≠ 32 :: r) : lst f d s acc = none := by
  cases f with
  | zero => simp [lst]
  | succ f =>
    cases s with
    | nil => rw [lst_nil]
    | cons c r =>
      rw [lst_cons, if_neg (fun e => h r (by rw [e])), if_pos ⟨ha, fun e => h' r (by rw [e])⟩]
def ItemPost (f deep : Nat) (x : ByteArray) (n : Nat) (H : Heap) (jr : Nat) (u : Value) (H' : Heap) : Prop :=
  ∃ x' n' bad' t, H'[jr]? = some (rdr x' n' bad') ∧ Fr (fun i => i = jr) H H' ∧ ItemV H' (fun i => H.length ≤ i) t u ∧ x'.size ≤ x.size ∧
    ((bad' = false ∧ ∃ rest, prs f deep (bl x) = some (t, rest) ∧ n + sz t ≤ 1024 ∧ bl x' = rest ∧ n' = n + sz t) ∨ (bad' = true ∧ ∀ t rest, prs f deep (bl x) = some (t, rest) → 1024 < n + sz t))
def IIt (jr : Nat) (Hb : Heap) (deep f n N : Nat) (R : Option (List Tr × List Nat)) (k : Nat) (e : Env) (H : Heap) : Prop :=
  ∃ (y : ByteArray) (acc : List Tr) (a : Option Addr) (c nn : Nat) (bad : Bool), e 0 = .pointer (some ⟨jr, 0, none⟩) ∧ e 1 = .int .i64 (deep : Int) ∧ e 4 = .pointer (some ⟨Hb.length, 0, none⟩) ∧ e 5 = .pointer (some ⟨Hb.length + 1, 0, none⟩) ∧
    Hb.length + 2 ≤ H.length ∧ H[Hb.length]? = some (.cells [.string ⟨#[]⟩, .bool false, .slice none 0 0] 24 true) ∧ H[Hb.length + 1]? = some (.cells [.string ⟨#[]⟩, .bool true, .slice a acc.length c] 24 true) ∧
    H[jr]? = some (rdr y nn bad) ∧ Fr (fun i => i = jr) Hb H ∧ RowI H (Hb.length + 2) a c acc ∧ y.size ≤ N ∧ acc.length ≤ 2000 ∧
    ((bad = false ∧ k = y.size + 1 ∧ nn = n + 1 + szs acc ∧ nn ≤ 1024 ∧ ∃ f', f' ≤ f ∧ 2 * y.size + (if acc = [] then 3 else 1) ≤ f' ∧ lst f' (deep + 1) (bl y) acc = R) ∨
     (bad = true ∧ k = 0 ∧ acc ≠ [] ∧ ∀ l rest, R = some (l, rest) → 1024 < n + 1 + szs l))
theorem wItem : ∀ (f : Nat) (deep n : Nat) (x : ByteArray), deep ≤ 17 → n ≤ 1024 → x.size ≤ 100000 → 2 * x.size + 2 ≤ f → ∀ (H : Heap) (jr : Nat), H[jr]? = some (rdr x n false) → ∀ (m : Ev.Mode), m.lim ≤ jr → m.fb ≤ jr → ∀ (k : Nat), f + x.size + 30 ≤ k →
    Run (ItemPost f deep x n H jr) mk (acall T0 k 82 [.pointer (some ⟨jr, 0, none⟩), .int .i64 (deep : Int)] H m) := by
  intro f
  induction f using Nat.strongRecOn with
  | _ f ih =>
    intro deep n x hd hn hx hf H jr hr m hm1 hm2 k hk
    obtain ⟨f, rfl⟩ : ∃ q, f = q + 1 := ⟨f - 1, by omega⟩
    obtain ⟨k, rfl⟩ : ∃ q, k = q + 1 := ⟨k - 1, by omega⟩
    refine Run_call (F := ir82) rfl (Nat.le_of_ble_eq_true rfl) ?_
    have hj := lt_of_get hr
    have hr' := hr
    rw [rdr] at hr'
    obtain ⟨Hz, hHz⟩ : ∃ Hz : Heap, Hz = H ++ [.cells [.string ⟨#[]⟩, .bool false, .slice none 0 0] 24 true] := ⟨_, rfl⟩
    have hLz : Hz.length = H.length + 1 := by rw [hHz]; simp
    have hrz : Hz[jr]? = some (.cells [.string x, .int .i64 (n : Int), .bool false] 131 true) := by rw [hHz]; exact get_app hr' _
    have hzz : Hz[H.length]? = some (.cells [.string ⟨#[]⟩, .bool false, .slice none 0 0] 24 true) := by rw [hHz]; simp
    have hfz : Fr (fun i => i = jr) H Hz := by rw [hHz]; exact .app _ _ _
    by_cases hbad : 16 < deep ∨ 1024 < n + 1
    · have fin : ItemPost (f + 1) deep x n H jr (.agg #[.string ⟨#[]⟩, .bool false, .slice none 0 0]) ((Hz.set jr (.cells [.string x, .int .i64 ((n : Int) + 1), .bool true] 131 true)).set H.length (.cells [.string ⟨#[]⟩, .bool false, .slice none 0 0] 24 true)) := by
        refine ⟨x, n + 1, true, .mk ⟨#[]⟩ false [], ?_, ?_, .empty _ _ _, Nat.le_refl _, .inr ⟨rfl, fun t rest hp => ?_⟩⟩
        · rw [hset_ne (by omega), hset_self (by omega)]; rfl
        · exact (hfz.sets rfl _).new (.set (X := fun i => i = H.length) rfl _) (fun i hi => .inr (by omega))
        · rcases hbad with h | h
          · rw [prs_deep h] at hp; cases hp
          · have := sz_pos t; omega
      simp only [ir82]
      (repeat' first
    | (refine CondV_dec (fun _ => ?_) (fun _ => ?_) <;> try (exfalso; omega))
    | (refine GuardV_td (fun _ => ?_) (fun _ => ?_) <;> try (exfalso; omega))
    | (refine GuardV_fd (fun _ => ?_) (fun _ => ?_) <;> try (exfalso; omega))
    | (refine CondV_split (fun _ => ?_) (fun _ => ?_))
    | (refine Need_of (by first | omega | decide) ?_)
    | refine WpK_cons ?_ ?_
    | refine WpK_guard ?_
    | simp (disch := first | omega | simp only [List.length_append, List.length_set, List.length_cons, List.length_nil] <;> omega | fail) only [evA, ↓evB, ↓astep, ↓aop, aBin, aInt, aStr, aUn, aNil, aMax, aresults, ares, aPack, ↓reduceIte, ↓reduceCtorEq, Nat.reduceEqDiff, Nat.reduceAdd, env0, aLoad, aLoadN, cellsOf, Int.reduceEq, Int.reduceLT, Int.reduceLE, Nat.reduceLeDiff, oneC, aop.fillL, setL, aApp, aAppC_nil, aAppC_own, xop, aSame_ptr, BIG, Bool.or_true, Bool.true_or, Bool.or_false, Bool.false_or, eqCells, eqCell, rowOf, ↓acallop, aBound, aIntOf, flat, flatN, CX_fn, CX_X, CX_pol, aStore, Nat.reduceBEq, List.size_toArray, Int.sub_zero, Int.zero_add, Int.add_zero, Int.toNat_zero, Int.reduceAdd, Int.reduceSub, Int.reduceMul, Int.reduceNeg, Int.reduceToNat, Nat.reduceSub, Nat.reduceMul, Int.natCast_zero, Int.reduceDiv, Int.reduceMod, Int.toNat_natCast, fdiv_nn, min_bits_i, Int.reducePow, Nat.reducePow, Nat.reduceDiv, Nat.reduceMod, mb_i, mb_u, WpC_drawD, WpT_nil, WpT_cons, WpT_guard, WpK_nil, scal, ← hHz, hrz, hzz])
      · exact fin
      · rw [decide_eq_true (show (1024 : Int) < (n : Int) + 1 by omega)]; exact fin
    · have hdec : decide ((1024 : Int) < (n : Int) + 1) = false := decide_eq_false (by omega)
      obtain ⟨Ha, hHa⟩ : ∃ Ha : Heap, Ha = Hz.set jr (.cells [.string x, .int .i64 ((n : Int) + 1), .bool false] 131 true) := ⟨_, rfl⟩
      have hLa : Ha.length = H.length + 1 := by rw [hHa]; simp [hLz]
      have hra : Ha[jr]? = some (rdr x (n + 1) false) := by rw [hHa, hset_self (by omega)]; rfl
      have hra' : Ha[jr]? = some (.cells [.string x, .int .i64 ((n : Int) + 1), .bool false] 131 true) := by rw [hHa, hset_self (by omega)]
      have haa := hset_same hra'
      have hza : Ha[H.length]? = some (.cells [.string ⟨#[]⟩, .bool false, .slice none 0 0] 24 true) := by rw [hHa, hset_ne (by omega)]; exact hzz
      have hfa : Fr (fun i => i = jr) H Ha := by rw [hHa]; exact hfz.sets rfl _
      by_cases h40 : ∃ r, bl x = 40 :: r
      · obtain ⟨r, h40⟩ := h40
        have hs := sign_yes h40 (by decide) (by omega) hra hm1 (k := k) (by omega)
        rw [show ({ data := #[UInt8.ofNat 40] } : ByteArray) = ⟨#[40]⟩ from rfl] at hs
        obtain ⟨hx0, _, hblr⟩ := bl_head x 40 r h40
        have hpr : prs (f + 1) deep (bl x) = (lst f (deep + 1) r []).map fun p => (.mk ⟨#[]⟩ true p.1, p.2) := by
          rw [h40, prs_cons (by omega)]; rfl
        obtain ⟨R, hR⟩ : ∃ R, R = lst f (deep + 1) r [] := ⟨_, rfl⟩
        rw [← hR] at hpr
        obtain ⟨Hb, hHb⟩ : ∃ Hb, Hb = Ha.set jr (rdr (x.extract 1 x.size) (n + 1) false) := ⟨_, rfl⟩
        rw [← hHb] at hs
        have hLb : Hb.length = H.length + 1 := by rw [hHb]; simp [hLa]
        have hrb : Hb[jr]? = some (rdr (x.extract 1 x.size) (n + 1) false) := by rw [hHb]; exact hset_self (by omega) _
        have hzb : Hb[H.length]? = some (.cells [.string ⟨#[]⟩, .bool false, .slice none 0 0] 24 true) := by rw [hHb, hset_ne (by omega)]; exact hza
        have hfb : Fr (fun i => i = jr) H Hb := by rw [hHb]; exact hfa.sets rfl _
        simp only [T0] at hs
        simp only [ir82, T0]
        (repeat' first
    | (refine CondV_dec (fun _ => ?_) (fun _ => ?_) <;> try (exfalso; omega))
    | (refine GuardV_td (fun _ => ?_) (fun _ => ?_) <;> try (exfalso; omega))
    | (refine GuardV_fd (fun _ => ?_) (fun _ => ?_) <;> try (exfalso; omega))
    | (refine CondV_split (fun _ => ?_) (fun _ => ?_))
    | (refine Need_of (by first | omega | decide) ?_)
    | refine WpK_cons ?_ ?_
    | refine WpK_guard ?_
    | simp (disch := first | omega | simp only [List.length_append, List.length_set, List.length_cons, List.length_nil] <;> omega | fail) only [evA, ↓evB, ↓astep, ↓aop, aBin, aInt, aStr, aUn, aNil, aMax, aresults, ares, aPack, ↓reduceIte, ↓reduceCtorEq, Nat.reduceEqDiff, Nat.reduceAdd, env0, aLoad, aLoadN, cellsOf, Int.reduceEq, Int.reduceLT, Int.reduceLE, Nat.reduceLeDiff, oneC, aop.fillL, setL, aApp, aAppC_nil, aAppC_own, xop, aSame_ptr, BIG, Bool.or_true, Bool.true_or, Bool.or_false, Bool.false_or, eqCells, eqCell, rowOf, ↓acallop, aBound, aIntOf, flat, flatN, CX_fn, CX_X, CX_pol, aStore, Nat.reduceBEq, List.size_toArray, Int.sub_zero, Int.zero_add, Int.add_zero, Int.toNat_zero, Int.reduceAdd, Int.reduceSub, Int.reduceMul, Int.reduceNeg, Int.reduceToNat, Nat.reduceSub, Nat.reduceMul, Int.natCast_zero, Int.reduceDiv, Int.reduceMod, Int.toNat_natCast, fdiv_nn, min_bits_i, Int.reducePow, Nat.reducePow, Nat.reduceDiv, Nat.reduceMod, mb_i, mb_u, WpC_drawD, WpT_nil, WpT_cons, WpT_guard, WpK_nil, scal, ← hHz, hrz, hzz, hdec, ← hHa, hra', haa, hs])
        refine WpC_loop (IIt jr H deep f n x.size R) ?_ (n := x.size) (show x.size < k by omega) ?_
        · rintro ms e H1 ⟨y, acc, a, c, nn, bad, g0, g1, g4, g5, hL1, hz1, ht1, hr1, hfr1, hrow, hyN, hacc2, hst⟩
          have hj1 : jr < H1.length := lt_of_get hr1
          have hjL : jr < H.length := hj
          have hr1' := hr1
          rw [rdr] at hr1'
          have finB : ∀ (H2 : Heap) (y2 : ByteArray) (nn2 : Nat), H2[jr]? = some (rdr y2 nn2 true) → Fr (fun i => i = jr) H1 H2 → y2.size ≤ x.size → (∀ l rest, R = some (l, rest) → 1024 < n + 1 + szs l) →
              ItemPost (f + 1) deep x n H jr (.agg #[.string ⟨#[]⟩, .bool true, .slice a acc.length c]) (H2.set H.length (.cells [.string ⟨#[]⟩, .bool true, .slice a acc.length c] 24 true)) := by
            intro H2 y2 nn2 h1 h2 h3 h4
            have hfs : Fr (fun i => i = H.length) H2 (H2.set H.length (.cells [.string ⟨#[]⟩, .bool true, .slice a acc.length c] 24 true)) := .set (X := fun i => i = H.length) rfl _
            refine ⟨y2, nn2, true, .mk ⟨#[]⟩ true acc, by rw [hset_ne (by omega)]; exact h1, (hfr1.trans h2).new hfs (fun i hi => .inr (by omega)), ?_, h3, .inr ⟨rfl, fun t rest hp => ?_⟩⟩
            · exact (((hrow.fr h2 (fun i hi _ => by omega)).fr hfs (fun i hi _ => by omega)).tree _ _).mono fun i o hi ho => ⟨by omega, ho⟩
            · rw [hpr] at hp
              obtain ⟨p, hp1, hp2⟩ := Option.map_eq_some_iff.1 hp
              cases hp2
              have := h4 p.1 p.2 hp1
              unfold sz; omega
          by_cases h41 : ∃ r, bl y = 41 :: r
          · obtain ⟨r1, h41⟩ := h41
            have hs := sign_yes h41 (by decide) (by omega) hr1 hm1 (k := k) (by omega)
            rw [show ({ data := #[UInt8.ofNat 41] } : ByteArray) = ⟨#[41]⟩ from rfl] at hs
            obtain ⟨hy0, _, hbl1⟩ := bl_head y 41 r1 h41
            obtain ⟨H2, hH2⟩ : ∃ H2, H2 = H1.set jr (rdr (y.extract 1 y.size) nn bad) := ⟨_, rfl⟩
            rw [← hH2] at hs
            have hr2 : H2[jr]? = some (rdr (y.extract 1 y.size) nn bad) := by rw [hH2]; exact hset_self hj1 _
            have hf2 : Fr (fun i => i = jr) H1 H2 := by rw [hH2]; exact .set (X := fun i => i = jr) rfl _
            have hz2 := hf2.2 _ _ (show ¬ H.length = jr by omega) hz1
            have ht2 := hf2.2 _ _ (show ¬ H.length + 1 = jr by omega) ht1
            have hsz1 : (y.extract 1 y.size).size ≤ x.size := by rw [ByteArray.size_extract]; omega
            have hL2 := hf2.1
            simp only [T0] at hs
            simp only [lp82_0, evA, ↓evB, ↓astep, ↓aop, aBin, aInt, aStr, aUn, aNil, aMax, aresults, ares, aPack, ↓reduceIte, ↓reduceCtorEq, Nat.reduceEqDiff, Nat.reduceAdd, env0, aLoad, aLoadN, cellsOf, Int.reduceEq, Int.reduceLT, Int.reduceLE, Nat.reduceLeDiff, oneC, aop.fillL, setL, aApp, aAppC_nil, aAppC_own, xop, aSame_ptr, BIG, Bool.or_true, Bool.true_or, Bool.or_false, Bool.false_or, eqCells, eqCell, rowOf, ↓acallop, aBound, aIntOf, flat, flatN, CX_fn, CX_X, CX_pol, aStore, Nat.reduceBEq, List.size_toArray, Int.sub_zero, Int.zero_add, Int.add_zero, Int.toNat_zero, Int.reduceAdd, Int.reduceSub, Int.reduceMul, Int.reduceNeg, Int.reduceToNat, Nat.reduceSub, Nat.reduceMul, Int.natCast_zero, Int.reduceDiv, Int.reduceMod, Int.toNat_natCast, fdiv_nn, min_bits_i, Int.reducePow, Nat.reducePow, Nat.reduceDiv, Nat.reduceMod, mb_i, mb_u, WpC_drawD, WpT_nil, WpT_cons, WpT_guard, WpK_nil, scal, g0, g1, g4, g5, T0]
            (repeat' first
    | (refine CondV_dec (fun _ => ?_) (fun _ => ?_) <;> try (exfalso; omega))
    | (refine GuardV_td (fun _ => ?_) (fun _ => ?_) <;> try (exfalso; omega))
    | (refine GuardV_fd (fun _ => ?_) (fun _ => ?_) <;> try (exfalso; omega))
    | (refine CondV_split (fun _ => ?_) (fun _ => ?_))
    | (refine Need_of (by first | omega | decide) ?_)
    | refine WpK_cons ?_ ?_
    | refine WpK_guard ?_
    | simp (disch := first | omega | simp only [List.length_append, List.length_set, List.length_cons, List.length_nil] <;> omega | fail) only [evA, ↓evB, ↓astep, ↓aop, aBin, aInt, aStr, aUn, aNil, aMax, aresults, ares, aPack, ↓reduceIte, ↓reduceCtorEq, Nat.reduceEqDiff, Nat.reduceAdd, env0, aLoad, aLoadN, cellsOf, Int.reduceEq, Int.reduceLT, Int.reduceLE, Nat.reduceLeDiff, oneC, aop.fillL, setL, aApp, aAppC_nil, aAppC_own, xop, aSame_ptr, BIG, Bool.or_true, Bool.true_or, Bool.or_false, Bool.false_or, eqCells, eqCell, rowOf, ↓acallop, aBound, aIntOf, flat, flatN, CX_fn, CX_X, CX_pol, aStore, Nat.reduceBEq, List.size_toArray, Int.sub_zero, Int.zero_add, Int.add_zero, Int.toNat_zero, Int.reduceAdd, Int.reduceSub, Int.reduceMul, Int.reduceNeg, Int.reduceToNat, Nat.reduceSub, Nat.reduceMul, Int.natCast_zero, Int.reduceDiv, Int.reduceMod, Int.toNat_natCast, fdiv_nn, min_bits_i, Int.reducePow, Nat.reducePow, Nat.reduceDiv, Nat.reduceMod, mb_i, mb_u, WpC_drawD, WpT_nil, WpT_cons, WpT_guard, WpK_nil, scal, g0, g1, g4, g5, hs, hz2, ht2])
            rcases hst with ⟨rfl, _, hnn, hn1, f', hf', hff, hlst⟩ | ⟨rfl, _, _, hov⟩
            · obtain ⟨f'', rfl⟩ : ∃ q, f' = q + 1 := ⟨f' - 1, by split at hff <;> omega⟩
              rw [h41, lstA] at hlst
              have hfs : Fr (fun i => i = H.length) H2 (H2.set H.length (.cells [.string ⟨#[]⟩, .bool true, .slice a acc.length c] 24 true)) := .set (X := fun i => i = H.length) rfl _
              refine ⟨_, nn, false, .mk ⟨#[]⟩ true acc, by rw [hset_ne (by omega)]; exact hr2, (hfr1.trans hf2).new hfs (fun i hi => .inr (by omega)), ?_, hsz1, .inl ⟨rfl, r1, ?_, by unfold sz; omega, hbl1, by unfold sz; omega⟩⟩
              · exact (((hrow.fr hf2 (fun i hi _ => by omega)).fr hfs (fun i hi _ => by omega)).tree _ _).mono fun i o hi ho => ⟨by omega, ho⟩
              · rw [hpr, ← hlst]; rfl
            · exact finB H2 _ nn hr2 hf2 hsz1 hov
          have h41' : ∀ r, bl y ≠ 41 :: r := fun r h => h41 ⟨r, h⟩
          have hs := sign_no h41' (by decide) (by omega) hr1 hm1 (k := k) (by omega)
          rw [show ({ data := #[UInt8.ofNat 41] } : ByteArray) = ⟨#[41]⟩ from rfl] at hs
          simp only [T0] at hs
          have hit : ∀ (f'' : Nat) (y2 : ByteArray) (Hs : Heap), f'' < f + 1 → y2.size ≤ 100000 → 2 * y2.size + 2 ≤ f'' → nn ≤ 1024 → Hs[jr]? = some (rdr y2 nn false) → f'' + y2.size + 30 ≤ k → ∃ u H3, acall T0 k 82 [.pointer (some ⟨jr, 0, none⟩), .int .i64 ((deep : Int) + 1)] Hs m = some (u, H3) ∧ ItemPost f'' (deep + 1) y2 nn Hs jr u H3 := by
            intro f'' y2 Hs h1 h2 h3 h4 h5 h6
            obtain ⟨u, H3, hcall, hpost⟩ := Run_get (ih f'' h1 (deep + 1) nn y2 (by omega) h4 h2 h3 Hs jr h5 m hm1 hm2 k h6)
            have hcall := hcall k (Nat.le_refl _)
            rw [show ((deep + 1 : Nat) : Int) = (deep : Int) + 1 by omega] at hcall
            exact ⟨u, H3, hcall, hpost⟩
          by_cases hacc : acc = []
          · rcases hst with ⟨rfl, hms, hnn, hn1, f', hf', hff, hlst⟩ | ⟨_, _, hne, _⟩
            rotate_left
            · exact absurd hacc hne
            subst hacc
            simp only [if_true] at hff
            simp only [szs, Nat.add_zero] at hnn
            obtain ⟨f'', rfl⟩ : ∃ q, f' = q + 1 := ⟨f' - 1, by omega⟩
            rw [lstB h41'] at hlst
            obtain ⟨y2, hy2⟩ : ∃ y2, y2 = y := ⟨_, rfl⟩
            rw [← hy2] at hlst
            have hy2s : y2.size ≤ y.size := by rw [hy2]; exact Nat.le_refl _
            obtain ⟨u, H3, hcall, x3, n3, bad3, t3, hr3, hf3, ⟨us, rfl, hut⟩, hsz3, hpost3⟩ := hit f'' y2 H1 (by omega) (by omega) (by omega) hn1 (by rw [hy2]; exact hr1) (by omega)
            obtain ⟨ua, uc, rfl, hus⟩ := hut.cells
            have ht3 := hf3.2 _ _ (show ¬ H.length + 1 = jr by omega) ht1
            have hz3 := hf3.2 _ _ (show ¬ H.length = jr by omega) hz1
            have hfs1 : Fr (fun i => i = jr) H1 H1 := .refl _ _
            rcases hrow with ⟨_, rfl, rfl⟩ | ⟨q, cells, _, _, _, hne, _⟩
            rotate_left
            · exact absurd rfl hne
            have hL9 : (H.length + 1) < H3.length := lt_of_get ht3
            have hJ3 : jr < H3.length := lt_of_get hr3
            have hLs := hf3.1
            have hnewb : bad3 = true → ∀ l rest, R = some (l, rest) → 1024 < n + 1 + szs l := fun hb l rest hR' => by
              rcases hpost3 with ⟨h, _⟩ | ⟨_, hov⟩
              · rw [hb] at h; cases h
              · rw [← hlst] at hR'
                cases hp : prs f'' (deep + 1) (bl y2) with
                | none => rw [hp] at hR'; cases hR'
                | some p =>
                  obtain ⟨t0, rest0⟩ := p
                  rw [hp] at hR'
                  have h1 := hov t0 rest0 hp
                  obtain ⟨l', hl', _⟩ := (prs_sound f'').2 _ _ _ _ _ hR'
                  rw [hl', szs_append]
                  simp only [szs]
                  omega
            have hnewg : bad3 = false → x3.size < y.size ∧ nn + sz t3 ≤ 1024 ∧ n3 = nn + sz t3 ∧ 2 * x3.size + 1 ≤ f'' ∧ lst f'' (deep + 1) (bl x3) ([t3]) = R := fun hb => by
              rcases hpost3 with ⟨_, rest, hp, h1, h2, h3⟩ | ⟨h, _⟩
              · have hps := ((prs_sound f'').1 _ _ _ _ hp).1
                have hl1 := congrArg List.length hps
                rw [List.length_append, bl_length, ← h2, bl_length] at hl1
                have hl2 : 0 < (shw t3).length := List.length_pos_iff.2 (shw_ne t3)
                rw [← hlst, hp]
                simp only [h2]
                exact ⟨by omega, h1, h3, by omega, trivial⟩
              · rw [hb] at h; cases h
            simp only [T0] at hcall
            simp only [lp82_0, evA, ↓evB, ↓astep, ↓aop, aBin, aInt, aStr, aUn, aNil, aMax, aresults, ares, aPack, ↓reduceIte, ↓reduceCtorEq, Nat.reduceEqDiff, Nat.reduceAdd, env0, aLoad, aLoadN, cellsOf, Int.reduceEq, Int.reduceLT, Int.reduceLE, Nat.reduceLeDiff, oneC, aop.fillL, setL, aApp, aAppC_nil, aAppC_own, xop, aSame_ptr, BIG, Bool.or_true, Bool.true_or, Bool.or_false, Bool.false_or, eqCells, eqCell, rowOf, ↓acallop, aBound, aIntOf, flat, flatN, CX_fn, CX_X, CX_pol, aStore, Nat.reduceBEq, List.size_toArray, Int.sub_zero, Int.zero_add, Int.add_zero, Int.toNat_zero, Int.reduceAdd, Int.reduceSub, Int.reduceMul, Int.reduceNeg, Int.reduceToNat, Nat.reduceSub, Nat.reduceMul, Int.natCast_zero, Int.reduceDiv, Int.reduceMod, Int.toNat_natCast, fdiv_nn, min_bits_i, Int.reducePow, Nat.reducePow, Nat.reduceDiv, Nat.reduceMod, mb_i, mb_u, WpC_drawD, WpT_nil, WpT_cons, WpT_guard, WpK_nil, scal, g0, g1, g4, g5, T0]
            simp only [List.length_nil] at ht1 ht3
            have hbr := hr1'
            (repeat' first
    | (refine CondV_dec (fun _ => ?_) (fun _ => ?_) <;> try (exfalso; omega))
    | (refine GuardV_td (fun _ => ?_) (fun _ => ?_) <;> try (exfalso; omega))
    | (refine GuardV_fd (fun _ => ?_) (fun _ => ?_) <;> try (exfalso; omega))
    | (refine CondV_split (fun _ => ?_) (fun _ => ?_))
    | (refine Need_of (by first | omega | decide) ?_)
    | refine WpK_cons ?_ ?_
    | refine WpK_guard ?_
    | simp (disch := first | omega | simp only [List.length_append, List.length_set, List.length_cons, List.length_nil] <;> omega | fail) only [evA, ↓evB, ↓astep, ↓aop, aBin, aInt, aStr, aUn, aNil, aMax, aresults, ares, aPack, ↓reduceIte, ↓reduceCtorEq, Nat.reduceEqDiff, Nat.reduceAdd, env0, aLoad, aLoadN, cellsOf, Int.reduceEq, Int.reduceLT, Int.reduceLE, Nat.reduceLeDiff, oneC, aop.fillL, setL, aApp, aAppC_nil, aAppC_own, xop, aSame_ptr, BIG, Bool.or_true, Bool.true_or, Bool.or_false, Bool.false_or, eqCells, eqCell, rowOf, ↓acallop, aBound, aIntOf, flat, flatN, CX_fn, CX_X, CX_pol, aStore, Nat.reduceBEq, List.size_toArray, Int.sub_zero, Int.zero_add, Int.add_zero, Int.toNat_zero, Int.reduceAdd, Int.reduceSub, Int.reduceMul, Int.reduceNeg, Int.reduceToNat, Nat.reduceSub, Nat.reduceMul, Int.natCast_zero, Int.reduceDiv, Int.reduceMod, Int.toNat_natCast, fdiv_nn, min_bits_i, Int.reducePow, Nat.reducePow, Nat.reduceDiv, Nat.reduceMod, mb_i, mb_u, WpC_drawD, WpT_nil, WpT_cons, WpT_guard, WpK_nil, scal, g0, g1, g4, g5, hs, ht1, hr1', hcall, ht3])
            obtain ⟨Hz', hHz'⟩ : ∃ Hz' : Heap, Hz' = H3.set (H.length + 1) (.cells [.string ⟨#[]⟩, .bool true, .slice (some ⟨H3.length + 1, 0, none⟩) 1 3] 24 true) ++ [.cells [.string t3.text, .bool t3.list, .slice ua t3.sub.length uc] 24 true, .cells [.string t3.text, .bool t3.list, .slice ua t3.sub.length uc] 24 true] := ⟨_, rfl⟩
            rw [← hHz']
            have hLz' : Hz'.length = H3.length + 2 := by rw [hHz']; simp
            have hfz : Fr (fun z => z = H.length + 1) H3 Hz' := by rw [hHz']; exact (Fr.set (X := fun z => z = H.length + 1) rfl _).appl _
            have hut2 : ItemAt H3 (fun z => H.length + 2 ≤ z) t3 [.string t3.text, .bool t3.list, .slice ua t3.sub.length uc] := ItemAt.mono (fun z o hz ho => ⟨by omega, ho⟩) _ _ hut
            have hrowz : RowI Hz' (H.length + 2) (some ⟨H3.length + 1, 0, none⟩) 3 [t3] := RowI.one hut2 (fun z o hz ho => hfz.2 _ _ (by omega) ho) (by rw [hHz', happ_ge (by simp)]; simp) (by omega) (by omega)
            all_goals
              cases bad3 with
              | false =>
                obtain ⟨w1, w2, w3, w4, w5⟩ := hnewg rfl
                refine ⟨x3.size + 1, by omega, x3, [t3], some ⟨H3.length + 1, 0, none⟩, 3, n3, false, by (first | rfl | (simp only [Env_put_some, Env_put_none, ↓Env_set_at, ↓reduceIte, Nat.reduceEqDiff, g0] <;> rfl)), by (first | rfl | (simp only [Env_put_some, Env_put_none, ↓Env_set_at, ↓reduceIte, Nat.reduceEqDiff, g1] <;> rfl)), by (first | rfl | (simp only [Env_put_some, Env_put_none, ↓Env_set_at, ↓reduceIte, Nat.reduceEqDiff, g4] <;> rfl)), by (first | rfl | (simp only [Env_put_some, Env_put_none, ↓Env_set_at, ↓reduceIte, Nat.reduceEqDiff, g5] <;> rfl)), by omega, hfz.2 _ _ (by omega) hz3, ?_, hfz.2 _ _ (by omega) hr3, ((hfr1.trans hfs1).trans hf3).new hfz (fun z hz => .inr (by omega)), hrowz, by omega, ?_, .inl ⟨rfl, rfl, ?_, by omega, f'', by omega, ?_, w5⟩⟩
                · rw [hHz', happ_l (by first | omega | (simp; omega)), hset_self (by first | omega | (simp; omega))]; rfl
                · simp
                · simp only [szs]; omega
                · rw [if_neg (by simp)]; omega
              | true =>
                refine ⟨0, by omega, x3, [t3], some ⟨H3.length + 1, 0, none⟩, 3, n3, true, by (first | rfl | (simp only [Env_put_some, Env_put_none, ↓Env_set_at, ↓reduceIte, Nat.reduceEqDiff, g0] <;> rfl)), by (first | rfl | (simp only [Env_put_some, Env_put_none, ↓Env_set_at, ↓reduceIte, Nat.reduceEqDiff, g1] <;> rfl)), by (first | rfl | (simp only [Env_put_some, Env_put_none, ↓Env_set_at, ↓reduceIte, Nat.reduceEqDiff, g4] <;> rfl)), by (first | rfl | (simp only [Env_put_some, Env_put_none, ↓Env_set_at, ↓reduceIte, Nat.reduceEqDiff, g5] <;> rfl)), by omega, hfz.2 _ _ (by omega) hz3, ?_, hfz.2 _ _ (by omega) hr3, ((hfr1.trans hfs1).trans hf3).new hfz (fun z hz => .inr (by omega)), hrowz, by omega, ?_, .inr ⟨rfl, rfl, by simp, hnewb rfl⟩⟩
                · rw [hHz', happ_l (by first | omega | (simp; omega)), hset_self (by first | omega | (simp; omega))]; rfl
                · simp
          · have hal : 0 < acc.length := List.length_pos_iff.2 hacc
            have hali : 0 < (acc.length : Int) := by omega
            by_cases h32 : ∃ r, bl y = 32 :: r
            rotate_left
            · have h32' : ∀ r, bl y ≠ 32 :: r := fun r h => h32 ⟨r, h⟩
              have hs2 := sign_no h32' (by decide) (by omega) hr1 hm1 (k := k) (by omega)
              rw [show ({ data := #[UInt8.ofNat 32] } : ByteArray) = ⟨#[32]⟩ from rfl] at hs2
              have hov : ∀ l rest, R = some (l, rest) → 1024 < n + 1 + szs l := by
                rcases hst with ⟨_, _, _, _, f', _, _, hlst⟩ | ⟨_, _, _, hov⟩
                · intro l rest hR'
                  rw [← hlst, lstD hacc h41' h32'] at hR'; cases hR'
                · exact hov
              obtain ⟨H2, hH2⟩ : ∃ H2, H2 = H1.set jr (.cells [.string y, .int .i64 (nn : Int), .bool true] 131 true) := ⟨_, rfl⟩
              have hr2 : H2[jr]? = some (.cells [.string y, .int .i64 (nn : Int), .bool true] 131 true) := by rw [hH2]; exact hset_self hj1 _
              have hf2 : Fr (fun i => i = jr) H1 H2 := by rw [hH2]; exact .set (X := fun i => i = jr) rfl _
              have hz2 := hf2.2 _ _ (show ¬ H.length = jr by omega) hz1
              have ht2 := hf2.2 _ _ (show ¬ H.length + 1 = jr by omega) ht1
              have hL2 := hf2.1
              simp only [T0] at hs2
              simp only [lp82_0, evA, ↓evB, ↓astep, ↓aop, aBin, aInt, aStr, aUn, aNil, aMax, aresults, ares, aPack, ↓reduceIte, ↓reduceCtorEq, Nat.reduceEqDiff, Nat.reduceAdd, env0, aLoad, aLoadN, cellsOf, Int.reduceEq, Int.reduceLT, Int.reduceLE, Nat.reduceLeDiff, oneC, aop.fillL, setL, aApp, aAppC_nil, aAppC_own, xop, aSame_ptr, BIG, Bool.or_true, Bool.true_or, Bool.or_false, Bool.false_or, eqCells, eqCell, rowOf, ↓acallop, aBound, aIntOf, flat, flatN, CX_fn, CX_X, CX_pol, aStore, Nat.reduceBEq, List.size_toArray, Int.sub_zero, Int.zero_add, Int.add_zero, Int.toNat_zero, Int.reduceAdd, Int.reduceSub, Int.reduceMul, Int.reduceNeg, Int.reduceToNat, Nat.reduceSub, Nat.reduceMul, Int.natCast_zero, Int.reduceDiv, Int.reduceMod, Int.toNat_natCast, fdiv_nn, min_bits_i, Int.reducePow, Nat.reducePow, Nat.reduceDiv, Nat.reduceMod, mb_i, mb_u, WpC_drawD, WpT_nil, WpT_cons, WpT_guard, WpK_nil, scal, g0, g1, g4, g5, T0]
              (repeat' first
    | (refine CondV_dec (fun _ => ?_) (fun _ => ?_) <;> try (exfalso; omega))
    | (refine GuardV_td (fun _ => ?_) (fun _ => ?_) <;> try (exfalso; omega))
    | (refine GuardV_fd (fun _ => ?_) (fun _ => ?_) <;> try (exfalso; omega))
    | (refine CondV_split (fun _ => ?_) (fun _ => ?_))
    | (refine Need_of (by first | omega | decide) ?_)
    | refine WpK_cons ?_ ?_
    | refine WpK_guard ?_
    | simp (disch := first | omega | simp only [List.length_append, List.length_set, List.length_cons, List.length_nil] <;> omega | fail) only [evA, ↓evB, ↓astep, ↓aop, aBin, aInt, aStr, aUn, aNil, aMax, aresults, ares, aPack, ↓reduceIte, ↓reduceCtorEq, Nat.reduceEqDiff, Nat.reduceAdd, env0, aLoad, aLoadN, cellsOf, Int.reduceEq, Int.reduceLT, Int.reduceLE, Nat.reduceLeDiff, oneC, aop.fillL, setL, aApp, aAppC_nil, aAppC_own, xop, aSame_ptr, BIG, Bool.or_true, Bool.true_or, Bool.or_false, Bool.false_or, eqCells, eqCell, rowOf, ↓acallop, aBound, aIntOf, flat, flatN, CX_fn, CX_X, CX_pol, aStore, Nat.reduceBEq, List.size_toArray, Int.sub_zero, Int.zero_add, Int.add_zero, Int.toNat_zero, Int.reduceAdd, Int.reduceSub, Int.reduceMul, Int.reduceNeg, Int.reduceToNat, Nat.reduceSub, Nat.reduceMul, Int.natCast_zero, Int.reduceDiv, Int.reduceMod, Int.toNat_natCast, fdiv_nn, min_bits_i, Int.reducePow, Nat.reducePow, Nat.reduceDiv, Nat.reduceMod, mb_i, mb_u, WpC_drawD, WpT_nil, WpT_cons, WpT_guard, WpK_nil, scal, g0, g1, g4, g5, hs, ht1, hs2, hr1', ← hH2, hr2, hz2, ht2])
              exact finB H2 y nn hr2 hf2 (by omega) hov
            · obtain ⟨r2, h32⟩ := h32
              have hs2 := sign_yes h32 (by decide) (by omega) hr1 hm1 (k := k) (by omega)
              rw [show ({ data := #[UInt8.ofNat 32] } : ByteArray) = ⟨#[32]⟩ from rfl] at hs2
              obtain ⟨hy0, _, hbl2⟩ := bl_head y 32 r2 h32
              obtain ⟨y2, hy2⟩ : ∃ y2, y2 = y.extract 1 y.size := ⟨_, rfl⟩
              rw [← hy2] at hs2 hbl2
              have hy2s : y2.size + 1 = y.size := by rw [hy2, ByteArray.size_extract]; omega
              obtain ⟨H2, hH2⟩ : ∃ H2, H2 = H1.set jr (rdr y2 nn bad) := ⟨_, rfl⟩
              rw [← hH2] at hs2
              have hr2 : H2[jr]? = some (rdr y2 nn bad) := by rw [hH2]; exact hset_self hj1 _
              have hr2' := hr2
              rw [rdr] at hr2'
              have hfs1 : Fr (fun i => i = jr) H1 H2 := by rw [hH2]; exact .set (X := fun i => i = jr) rfl _
              have hz2 := hfs1.2 _ _ (show ¬ H.length = jr by omega) hz1
              have ht2 := hfs1.2 _ _ (show ¬ H.length + 1 = jr by omega) ht1
              have hL2 := hfs1.1
              simp only [T0] at hs2
              rcases hst with ⟨rfl, hms, hnn, hn1, f', hf', hff, hlst⟩ | ⟨rfl, _, _, hov⟩
              rotate_left
              · simp only [lp82_0, evA, ↓evB, ↓astep, ↓aop, aBin, aInt, aStr, aUn, aNil, aMax, aresults, ares, aPack, ↓reduceIte, ↓reduceCtorEq, Nat.reduceEqDiff, Nat.reduceAdd, env0, aLoad, aLoadN, cellsOf, Int.reduceEq, Int.reduceLT, Int.reduceLE, Nat.reduceLeDiff, oneC, aop.fillL, setL, aApp, aAppC_nil, aAppC_own, xop, aSame_ptr, BIG, Bool.or_true, Bool.true_or, Bool.or_false, Bool.false_or, eqCells, eqCell, rowOf, ↓acallop, aBound, aIntOf, flat, flatN, CX_fn, CX_X, CX_pol, aStore, Nat.reduceBEq, List.size_toArray, Int.sub_zero, Int.zero_add, Int.add_zero, Int.toNat_zero, Int.reduceAdd, Int.reduceSub, Int.reduceMul, Int.reduceNeg, Int.reduceToNat, Nat.reduceSub, Nat.reduceMul, Int.natCast_zero, Int.reduceDiv, Int.reduceMod, Int.toNat_natCast, fdiv_nn, min_bits_i, Int.reducePow, Nat.reducePow, Nat.reduceDiv, Nat.reduceMod, mb_i, mb_u, WpC_drawD, WpT_nil, WpT_cons, WpT_guard, WpK_nil, scal, g0, g1, g4, g5, T0]
                (repeat' first
    | (refine CondV_dec (fun _ => ?_) (fun _ => ?_) <;> try (exfalso; omega))
    | (refine GuardV_td (fun _ => ?_) (fun _ => ?_) <;> try (exfalso; omega))
    | (refine GuardV_fd (fun _ => ?_) (fun _ => ?_) <;> try (exfalso; omega))
    | (refine CondV_split (fun _ => ?_) (fun _ => ?_))
    | (refine Need_of (by first | omega | decide) ?_)
    | refine WpK_cons ?_ ?_
    | refine WpK_guard ?_
    | simp (disch := first | omega | simp only [List.length_append, List.length_set, List.length_cons, List.length_nil] <;> omega | fail) only [evA, ↓evB, ↓astep, ↓aop, aBin, aInt, aStr, aUn, aNil, aMax, aresults, ares, aPack, ↓reduceIte, ↓reduceCtorEq, Nat.reduceEqDiff, Nat.reduceAdd, env0, aLoad, aLoadN, cellsOf, Int.reduceEq, Int.reduceLT, Int.reduceLE, Nat.reduceLeDiff, oneC, aop.fillL, setL, aApp, aAppC_nil, aAppC_own, xop, aSame_ptr, BIG, Bool.or_true, Bool.true_or, Bool.or_false, Bool.false_or, eqCells, eqCell, rowOf, ↓acallop, aBound, aIntOf, flat, flatN, CX_fn, CX_X, CX_pol, aStore, Nat.reduceBEq, List.size_toArray, Int.sub_zero, Int.zero_add, Int.add_zero, Int.toNat_zero, Int.reduceAdd, Int.reduceSub, Int.reduceMul, Int.reduceNeg, Int.reduceToNat, Nat.reduceSub, Nat.reduceMul, Int.natCast_zero, Int.reduceDiv, Int.reduceMod, Int.toNat_natCast, fdiv_nn, min_bits_i, Int.reducePow, Nat.reducePow, Nat.reduceDiv, Nat.reduceMod, mb_i, mb_u, WpC_drawD, WpT_nil, WpT_cons, WpT_guard, WpK_nil, scal, g0, g1, g4, g5, hs, ht1, hs2, hr2', hz2, ht2])
                exact finB H2 y2 nn hr2 hfs1 (by omega) hov
              rw [if_neg hacc] at hff
              obtain ⟨f'', rfl⟩ : ∃ q, f' = q + 1 := ⟨f' - 1, by omega⟩
              rw [h32, lstC hacc, ← hbl2] at hlst
              obtain ⟨u, H3, hcall, x3, n3, bad3, t3, hr3, hf3, ⟨us, rfl, hut⟩, hsz3, hpost3⟩ := hit f'' y2 H2 (by omega) (by omega) (by omega) hn1 hr2 (by omega)
              obtain ⟨ua, uc, rfl, hus⟩ := hut.cells
              have ht3 := hf3.2 _ _ (show ¬ H.length + 1 = jr by omega) ht2
              have hz3 := hf3.2 _ _ (show ¬ H.length = jr by omega) hz2
              rcases hrow with ⟨h, _⟩ | ⟨q, cells, rfl, rfl, hq1, hne, hq2, hq3⟩
              · exact absurd h hacc
              have hq2b := (hfs1.trans hf3).2 _ _ (show ¬ q = jr by omega) hq2
              have hq3b : ItemsAt H3 (fun x => H.length + 2 ≤ x ∧ x ≠ q) acc cells := ItemsAt.mono (fun z o hz ho => ⟨hz, (hfs1.trans hf3).2 _ _ (show ¬ z = jr by omega) ho⟩) _ _ hq3
              have hcl := hq3.length
              have hqH1 := lt_of_get hq2
              have hlq3 := lt_of_get hq2b
              have htk : List.take (acc.length * 3) cells = cells := List.take_of_length_le (by omega)
              have hL9 : (H.length + 1) < H3.length := lt_of_get ht3
              have hJ3 : jr < H3.length := lt_of_get hr3
              have hLs := hf3.1
              have hnewb : bad3 = true → ∀ l rest, R = some (l, rest) → 1024 < n + 1 + szs l := fun hb l rest hR' => by
                rcases hpost3 with ⟨h, _⟩ | ⟨_, hov⟩
                · rw [hb] at h; cases h
                · rw [← hlst] at hR'
                  cases hp : prs f'' (deep + 1) (bl y2) with
                  | none => rw [hp] at hR'; cases hR'
                  | some p =>
                    obtain ⟨t0, rest0⟩ := p
                    rw [hp] at hR'
                    have h1 := hov t0 rest0 hp
                    obtain ⟨l', hl', _⟩ := (prs_sound f'').2 _ _ _ _ _ hR'
                    rw [hl', szs_append]
                    simp only [szs_append, szs]
                    omega
              have hnewg : bad3 = false → x3.size < y.size ∧ nn + sz t3 ≤ 1024 ∧ n3 = nn + sz t3 ∧ 2 * x3.size + 1 ≤ f'' ∧ lst f'' (deep + 1) (bl x3) (acc ++ [t3]) = R := fun hb => by
                rcases hpost3 with ⟨_, rest, hp, h1, h2, h3⟩ | ⟨h, _⟩
                · have hps := ((prs_sound f'').1 _ _ _ _ hp).1
                  have hl1 := congrArg List.length hps
                  rw [List.length_append, bl_length, ← h2, bl_length] at hl1
                  have hl2 : 0 < (shw t3).length := List.length_pos_iff.2 (shw_ne t3)
                  rw [← hlst, hp]
                  simp only [h2]
                  exact ⟨by omega, h1, h3, by omega, trivial⟩
                · rw [hb] at h; cases h
              have hacc1 : acc.length ≤ 1024 := by have := len_szs acc; omega
              simp only [T0] at hcall
              simp only [lp82_0, evA, ↓evB, ↓astep, ↓aop, aBin, aInt, aStr, aUn, aNil, aMax, aresults, ares, aPack, ↓reduceIte, ↓reduceCtorEq, Nat.reduceEqDiff, Nat.reduceAdd, env0, aLoad, aLoadN, cellsOf, Int.reduceEq, Int.reduceLT, Int.reduceLE, Nat.reduceLeDiff, oneC, aop.fillL, setL, aApp, aAppC_nil, aAppC_own, xop, aSame_ptr, BIG, Bool.or_true, Bool.true_or, Bool.or_false, Bool.false_or, eqCells, eqCell, rowOf, ↓acallop, aBound, aIntOf, flat, flatN, CX_fn, CX_X, CX_pol, aStore, Nat.reduceBEq, List.size_toArray, Int.sub_zero, Int.zero_add, Int.add_zero, Int.toNat_zero, Int.reduceAdd, Int.reduceSub, Int.reduceMul, Int.reduceNeg, Int.reduceToNat, Nat.reduceSub, Nat.reduceMul, Int.natCast_zero, Int.reduceDiv, Int.reduceMod, Int.toNat_natCast, fdiv_nn, min_bits_i, Int.reducePow, Nat.reducePow, Nat.reduceDiv, Nat.reduceMod, mb_i, mb_u, WpC_drawD, WpT_nil, WpT_cons, WpT_guard, WpK_nil, scal, g0, g1, g4, g5, T0]
              (repeat' first
    | (refine CondV_dec (fun _ => ?_) (fun _ => ?_) <;> try (exfalso; omega))
    | (refine GuardV_td (fun _ => ?_) (fun _ => ?_) <;> try (exfalso; omega))
    | (refine GuardV_fd (fun _ => ?_) (fun _ => ?_) <;> try (exfalso; omega))
    | (refine CondV_split (fun _ => ?_) (fun _ => ?_))
    | (refine Need_of (by first | omega | decide) ?_)
    | refine WpK_cons ?_ ?_
    | refine WpK_guard ?_
    | simp (disch := first | omega | simp only [List.length_append, List.length_set, List.length_cons, List.length_nil] <;> omega | fail) only [evA, ↓evB, ↓astep, ↓aop, aBin, aInt, aStr, aUn, aNil, aMax, aresults, ares, aPack, ↓reduceIte, ↓reduceCtorEq, Nat.reduceEqDiff, Nat.reduceAdd, env0, aLoad, aLoadN, cellsOf, Int.reduceEq, Int.reduceLT, Int.reduceLE, Nat.reduceLeDiff, oneC, aop.fillL, setL, aApp, aAppC_nil, aAppC_own, xop, aSame_ptr, BIG, Bool.or_true, Bool.true_or, Bool.or_false, Bool.false_or, eqCells, eqCell, rowOf, ↓acallop, aBound, aIntOf, flat, flatN, CX_fn, CX_X, CX_pol, aStore, Nat.reduceBEq, List.size_toArray, Int.sub_zero, Int.zero_add, Int.add_zero, Int.toNat_zero, Int.reduceAdd, Int.reduceSub, Int.reduceMul, Int.reduceNeg, Int.reduceToNat, Nat.reduceSub, Nat.reduceMul, Int.natCast_zero, Int.reduceDiv, Int.reduceMod, Int.toNat_natCast, fdiv_nn, min_bits_i, Int.reducePow, Nat.reducePow, Nat.reduceDiv, Nat.reduceMod, mb_i, mb_u, WpC_drawD, WpT_nil, WpT_cons, WpT_guard, WpK_nil, scal, g0, g1, g4, g5, hs, ht1, hs2, hr2', hcall, ht2, ht3, hq2b, htk])
              obtain ⟨Hz', hHz'⟩ : ∃ Hz' : Heap, Hz' = (H3.set q .dead).set (H.length + 1) (.cells [.string ⟨#[]⟩, .bool true, .slice (some ⟨H3.length + 1, 0, none⟩) (acc.length + 1) 3] 24 true) ++ [.cells [.string t3.text, .bool t3.list, .slice ua t3.sub.length uc] 24 true, .cells (cells ++ [.string t3.text, .bool t3.list, .slice ua t3.sub.length uc]) 24 true] := ⟨_, rfl⟩
              rw [← hHz']
              have hLz' : Hz'.length = H3.length + 2 := by rw [hHz']; simp
              have hfz : Fr (fun z => z = q ∨ z = H.length + 1) H3 Hz' := by rw [hHz']; exact ((Fr.set (X := fun z => z = q ∨ z = H.length + 1) (.inl rfl) _).sets (.inr rfl) _).appl _
              have hut2 : ItemAt H3 (fun z => H.length + 2 ≤ z ∧ z ≠ q) t3 [.string t3.text, .bool t3.list, .slice ua t3.sub.length uc] := ItemAt.mono (fun z o hz ho => ⟨⟨by omega, by omega⟩, ho⟩) _ _ hut
              have hrowz : RowI Hz' (H.length + 2) (some ⟨H3.length + 1, 0, none⟩) 3 (acc ++ [t3]) := RowI.more hq3b hut2 (fun z o hz hne ho => hfz.2 _ _ (by omega) ho) (by rw [hHz', happ_ge (by simp)]; simp) (by omega) (by omega)
              all_goals
                cases bad3 with
                | false =>
                  obtain ⟨w1, w2, w3, w4, w5⟩ := hnewg rfl
                  refine ⟨x3.size + 1, by omega, x3, acc ++ [t3], some ⟨H3.length + 1, 0, none⟩, 3, n3, false, by (first | rfl | (simp only [Env_put_some, Env_put_none, ↓Env_set_at, ↓reduceIte, Nat.reduceEqDiff, g0] <;> rfl)), by (first | rfl | (simp only [Env_put_some, Env_put_none, ↓Env_set_at, ↓reduceIte, Nat.reduceEqDiff, g1] <;> rfl)), by (first | rfl | (simp only [Env_put_some, Env_put_none, ↓Env_set_at, ↓reduceIte, Nat.reduceEqDiff, g4] <;> rfl)), by (first | rfl | (simp only [Env_put_some, Env_put_none, ↓Env_set_at, ↓reduceIte, Nat.reduceEqDiff, g5] <;> rfl)), by omega, hfz.2 _ _ (by omega) hz3, ?_, hfz.2 _ _ (by omega) hr3, ((hfr1.trans hfs1).trans hf3).new hfz (fun z hz => .inr (by omega)), hrowz, by omega, ?_, .inl ⟨rfl, rfl, ?_, by omega, f'', by omega, ?_, w5⟩⟩
                  · rw [hHz', happ_l (by first | omega | (simp; omega)), hset_self (by first | omega | (simp; omega))]; simp
                  · simp only [List.length_append, List.length_cons, List.length_nil]; omega
                  · rw [szs_append]; simp only [szs]; omega
                  · rw [if_neg (by simp)]; omega
                | true =>
                  refine ⟨0, by omega, x3, acc ++ [t3], some ⟨H3.length + 1, 0, none⟩, 3, n3, true, by (first | rfl | (simp only [Env_put_some, Env_put_none, ↓Env_set_at, ↓reduceIte, Nat.reduceEqDiff, g0] <;> rfl)), by (first | rfl | (simp only [Env_put_some, Env_put_none, ↓Env_set_at, ↓reduceIte, Nat.reduceEqDiff, g1] <;> rfl)), by (first | rfl | (simp only [Env_put_some, Env_put_none, ↓Env_set_at, ↓reduceIte, Nat.reduceEqDiff, g4] <;> rfl)), by (first | rfl | (simp only [Env_put_some, Env_put_none, ↓Env_set_at, ↓reduceIte, Nat.reduceEqDiff, g5] <;> rfl)), by omega, hfz.2 _ _ (by omega) hz3, ?_, hfz.2 _ _ (by omega) hr3, ((hfr1.trans hfs1).trans hf3).new hfz (fun z hz => .inr (by omega)), hrowz, by omega, ?_, .inr ⟨rfl, rfl, by simp, hnewb rfl⟩⟩
                  · rw [hHz', happ_l (by first | omega | (simp; omega)), hset_self (by first | omega | (simp; omega))]; simp
                  · simp only [List.length_append, List.length_cons, List.length_nil]; omega
        · refine ⟨x.extract 1 x.size, [], none, 0, n + 1, false, by (first | rfl | (simp only [Env_put_some, Env_put_none, ↓Env_set_at, ↓reduceIte, Nat.reduceEqDiff] <;> rfl)), by (first | rfl | (simp only [Env_put_some, Env_put_none, ↓Env_set_at, ↓reduceIte, Nat.reduceEqDiff] <;> rfl)), by (first | rfl | (simp only [Env_put_some, Env_put_none, ↓Env_set_at, ↓reduceIte, Nat.reduceEqDiff] <;> rfl)), by (first | rfl | (simp only [Env_put_some, Env_put_none, ↓Env_set_at, ↓reduceIte, Nat.reduceEqDiff, hLb] <;> rfl)), by simp; omega, by rw [happ_l (by omega)]; exact hzb, by rw [happ_ge (by omega), hLb, Nat.sub_self]; rfl, by rw [happ_l (by omega)]; exact hrb, hfb.appl _, .inl ⟨rfl, rfl, rfl⟩, by rw [ByteArray.size_extract]; omega, by simp, .inl ⟨rfl, ?_, rfl, by omega, f, Nat.le_refl _, ?_, by rw [hblr, hR]⟩⟩
          · rw [ByteArray.size_extract]; omega
          · rw [ByteArray.size_extract]; simp; omega
      · have h40' : ∀ r, bl x ≠ 40 :: r := fun r h => h40 ⟨r, h⟩
        have hs := sign_no h40' (by decide) (by omega) hra hm1 (k := k) (by omega)
        rw [show ({ data := #[UInt8.ofNat 40] } : ByteArray) = ⟨#[40]⟩ from rfl] at hs
        obtain ⟨u, Ht, hct, x', hft, hpost⟩ := Run_get (wText x (n + 1) hx Ha jr hra m hm1 hm2 k (by omega))
        have hct := hct k (Nat.le_refl _)
        have hzt := hft.2 _ _ (show ¬ H.length = jr by omega) hza
        have hLt := hft.1
        simp only [T0] at hs hct
        simp only [ir82, T0]
        rcases hpost with ⟨r, h45, rfl, hrt, hxr⟩ | ⟨h45, rfl, hrt, hxr⟩
        · (repeat' first
    | (refine CondV_dec (fun _ => ?_) (fun _ => ?_) <;> try (exfalso; omega))
    | (refine GuardV_td (fun _ => ?_) (fun _ => ?_) <;> try (exfalso; omega))
    | (refine GuardV_fd (fun _ => ?_) (fun _ => ?_) <;> try (exfalso; omega))
    | (refine CondV_split (fun _ => ?_) (fun _ => ?_))
    | (refine Need_of (by first | omega | decide) ?_)
    | refine WpK_cons ?_ ?_
    | refine WpK_guard ?_
    | simp (disch := first | omega | simp only [List.length_append, List.length_set, List.length_cons, List.length_nil] <;> omega | fail) only [evA, ↓evB, ↓astep, ↓aop, aBin, aInt, aStr, aUn, aNil, aMax, aresults, ares, aPack, ↓reduceIte, ↓reduceCtorEq, Nat.reduceEqDiff, Nat.reduceAdd, env0, aLoad, aLoadN, cellsOf, Int.reduceEq, Int.reduceLT, Int.reduceLE, Nat.reduceLeDiff, oneC, aop.fillL, setL, aApp, aAppC_nil, aAppC_own, xop, aSame_ptr, BIG, Bool.or_true, Bool.true_or, Bool.or_false, Bool.false_or, eqCells, eqCell, rowOf, ↓acallop, aBound, aIntOf, flat, flatN, CX_fn, CX_X, CX_pol, aStore, Nat.reduceBEq, List.size_toArray, Int.sub_zero, Int.zero_add, Int.add_zero, Int.toNat_zero, Int.reduceAdd, Int.reduceSub, Int.reduceMul, Int.reduceNeg, Int.reduceToNat, Nat.reduceSub, Nat.reduceMul, Int.natCast_zero, Int.reduceDiv, Int.reduceMod, Int.toNat_natCast, fdiv_nn, min_bits_i, Int.reducePow, Nat.reducePow, Nat.reduceDiv, Nat.reduceMod, mb_i, mb_u, WpC_drawD, WpT_nil, WpT_cons, WpT_guard, WpK_nil, scal, ← hHz, hrz, hzz, hdec, ← hHa, hra', haa, hs, hct, hzt])
          refine ⟨x', n + 1, false, .mk ⟨#[]⟩ false [], by rw [hset_ne (by omega)]; exact hrt, (hfa.trans hft).new (.set (X := fun i => i = H.length) rfl _) (fun i hi => .inr (by omega)), .empty _ _ _, ?_, .inl ⟨rfl, r, ?_, by unfold sz; simp [szs]; omega, hxr, by unfold sz; simp [szs]⟩⟩
          · have h1 := congrArg List.length hxr
            have h2 := congrArg List.length h45
            rw [bl_length] at h1 h2
            simp only [List.length_cons] at h2
            omega
          · rw [h45, prs_cons (by omega)]; rfl
        · (repeat' first
    | (refine CondV_dec (fun _ => ?_) (fun _ => ?_) <;> try (exfalso; omega))
    | (refine GuardV_td (fun _ => ?_) (fun _ => ?_) <;> try (exfalso; omega))
    | (refine GuardV_fd (fun _ => ?_) (fun _ => ?_) <;> try (exfalso; omega))
    | (refine CondV_split (fun _ => ?_) (fun _ => ?_))
    | (refine Need_of (by first | omega | decide) ?_)
    | refine WpK_cons ?_ ?_
    | refine WpK_guard ?_
    | simp (disch := first | omega | simp only [List.length_append, List.length_set, List.length_cons, List.length_nil] <;> omega | fail) only [evA, ↓evB, ↓astep, ↓aop, aBin, aInt, aStr, aUn, aNil, aMax, aresults, ares, aPack, ↓reduceIte, ↓reduceCtorEq, Nat.reduceEqDiff, Nat.reduceAdd, env0, aLoad, aLoadN, cellsOf, Int.reduceEq, Int.reduceLT, Int.reduceLE, Nat.reduceLeDiff, oneC, aop.fillL, setL, aApp, aAppC_nil, aAppC_own, xop, aSame_ptr, BIG, Bool.or_true, Bool.true_or, Bool.or_false, Bool.false_or, eqCells, eqCell, rowOf, ↓acallop, aBound, aIntOf, flat, flatN, CX_fn, CX_X, CX_pol, aStore, Nat.reduceBEq, List.size_toArray, Int.sub_zero, Int.zero_add, Int.add_zero, Int.toNat_zero, Int.reduceAdd, Int.reduceSub, Int.reduceMul, Int.reduceNeg, Int.reduceToNat, Nat.reduceSub, Nat.reduceMul, Int.natCast_zero, Int.reduceDiv, Int.reduceMod, Int.toNat_natCast, fdiv_nn, min_bits_i, Int.reducePow, Nat.reducePow, Nat.reduceDiv, Nat.reduceMod, mb_i, mb_u, WpC_drawD, WpT_nil, WpT_cons, WpT_guard, WpK_nil, scal, ← hHz, hrz, hzz, hdec, ← hHa, hra', haa, hs, hct, hzt])
          have hso := hxs_sound _ (bl x) (Nat.le_refl _)
          refine ⟨x', n + 1, decide ((hxs (bl x)).1 = []), .mk (bs (hxs (bl x)).1) false [], by rw [hset_ne (by omega)]; exact hrt, (hfa.trans hft).new (.set (X := fun i => i = H.length) rfl _) (fun i hi => .inr (by omega)), .empty _ _ _, ?_, ?_⟩
          · have h1 := congrArg List.length hxr
            have h2 := congrArg List.length hso.2
            rw [bl_length] at h1 h2
            rw [List.length_append] at h2
            omega
          · by_cases h0 : (hxs (bl x)).1 = []
            · right
              refine ⟨by rw [h0]; rfl, fun t rest hp => ?_⟩
              exfalso
              cases hq : bl x with
              | nil => rw [hq, prs_nil] at hp; cases hp
              | cons c r =>
                rw [hq, prs_cons (by omega), if_neg (fun e => h45 r (by rw [hq, e])), if_neg (fun e => h40' r (by rw [hq, e])), ← hq, if_pos h0] at hp
                cases hp
            · left
              refine ⟨by rw [decide_eq_false h0], _, ?_, by unfold sz; simp [szs]; omega, hxr, by unfold sz; simp [szs]⟩
              cases hq : bl x with
              | nil => rw [hq] at h0; exact absurd rfl h0
              | cons c r =>
                rw [prs_cons (by omega), if_neg (fun e => h45 r (by rw [hq, e])), if_neg (fun e => h40' r (by rw [hq, e])), ← hq, if_neg h0]
end Ev
end Go.Proofs.Ytfbelnjchpffeaa
