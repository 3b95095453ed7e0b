/-
  The laws SnapPlain and SnapRuns.
-/
import Derived.Test.YtfbelnjchpffeaaS8
namespace Go.Proofs.Ytfbelnjchpffeaa
namespace Ev
namespace L11
open Tag (mk)
open L15
set_option linter.unusedSimpArgs false
set_option linter.unusedVariables false
set_option maxRecDepth 4000
set_option maxHeartbeats 4000000
noncomputable def D6 : Cf := CX (xtab [(46, XAlive), (49, XUnp)]) (polt [])
theorem D6_ok : D6.Ok := CX_ok (all_cons xalive11 (all_cons x49 all_nil)) al_no
/-- The bytes of a length up to 250. -/
def szb (L : Nat) : List Nat := if L < 128 then [L] else [L % 128 + 128, 1]
theorem szb_nx (L : Nat) (h : L < 256) (l : List Nat) : nx (szb L ++ l) 0 0 = (L, (szb L).length, 0) := by
  unfold szb
  split
  · rename_i h1
    show nx (L :: l) 0 0 = _
    rw [nx, if_neg (by omega), if_pos h1]
    simp; omega
  · rename_i h1
    show nx ((L % 128 + 128) :: 1 :: l) 0 0 = _
    rw [nx, if_neg (by omega), if_neg (by omega), nx, if_neg (by omega), if_pos (by omega)]
    simp; omega
theorem szb_lt (L : Nat) (h : L < 256) : ∀ b ∈ szb L, b < 256 := by
  intro b hb
  unfold szb at hb
  split at hb
  · simp at hb; omega
  · simp at hb; omega
/-- What unpacks in one go. -/
theorem unp_one (L : Nat) (hL : L < 256) (t : ByteArray) (most : Int) (hm : L ≤ most) (out : List Nat) (ht : 0 < t.size) (he : elS t L 0 [] = (0, t.size, out)) (ho : out.length = L) : unpV (bs (szb L) ++ t) most = (bs out, 0) := by
  have h1 : nx (bl (bs (szb L) ++ t)) 0 0 = (L, (szb L).length, 0) := by rw [bl_append, bl_bs _ (szb_lt L hL)]; exact szb_nx L hL _
  have h2 : (bs (szb L) ++ t).extract (szb L).length (bs (szb L) ++ t).size = t := by
    apply bl_inj
    rw [bl_extract, bl_append, bl_bs _ (szb_lt L hL), List.take_of_length_le (by rw [List.length_append, bl_length, ByteArray.size_append, bs_size]; exact Nat.le_refl _), List.drop_left' rfl]
  have h3 : elsS t L (t.size + 2) 0 [] = (0, out) := by
    rw [elsS, if_pos ht, he, if_pos rfl]
    show elsS t L (t.size + 1) t.size out = _
    rw [elsS, if_neg (by omega), if_neg (by omega)]
  rw [unpV, h1]
  simp only
  rw [if_neg (by simp), if_neg (by omega), if_neg (by omega), h2, h3]
  rw [if_neg (by simp)]
theorem byt_app (hd : List Nat) (s t : ByteArray) (h : bl t = hd ++ bl s) (n : Nat) (hn : n = s.size) : byt t hd.length n = bl s := by
  rw [byt, h, List.drop_left' rfl, hn, ← bl_length, List.take_length]
theorem size_app (hd : List Nat) (s t : ByteArray) (h : bl t = hd ++ bl s) : t.size = hd.length + s.size := by
  rw [← bl_length, h, List.length_append, bl_length]
theorem bAt_app (hd : List Nat) (s t : ByteArray) (h : bl t = hd ++ bl s) (b : Nat) (r : List Nat) (hh : hd = b :: r) : bAt t 0 = b := by
  rw [bAt_bl, h, hh]; rfl
theorem el_short (s t : ByteArray) (hs : 0 < s.size ∧ s.size ≤ 60) (h : bl t = [4 * (s.size - 1)] ++ bl s) : elS t s.size 0 [] = (0, t.size, bl s) := by
  have hsz := size_app _ s t h
  have hb := bAt_app _ s t h _ _ rfl
  have hy := byt_app _ s t h (s.size - 1 + 1) (by omega)
  simp only [List.length_cons, List.length_nil, Nat.zero_add] at hsz hy
  rw [elS]
  simp only [hb]
  rw [if_pos (by omega), show 4 * (s.size - 1) / 4 = s.size - 1 by omega, litS, if_pos (by omega), litE, if_neg (by simp; omega), if_neg (by omega)]
  rw [Nat.zero_add, hy, hsz, List.nil_append, show 1 + (s.size - 1 + 1) = 1 + s.size by omega]
theorem ltl_zeros (n k : Nat) : ltl ([n] ++ List.replicate k 0) = n := by
  rw [ltl, List.reverse_append, List.reverse_replicate]
  show nm (List.replicate k 0 ++ [n]) = n
  rw [nm_append]
  have : ∀ k, nm (List.replicate k 0) = 0 := by
    intro k
    induction k with
    | zero => rfl
    | succ k ih => rw [List.replicate_succ', nm_append, ih]
  rw [this]; omega
theorem el_long (s t : ByteArray) (k : Nat) (hk : 1 ≤ k ∧ k ≤ 4) (hs : 0 < s.size ∧ s.size ≤ 250) (h : bl t = ([4 * (59 + k), s.size - 1] ++ List.replicate (k - 1) 0) ++ bl s) : elS t s.size 0 [] = (0, t.size, bl s) := by
  have hsz := size_app _ s t h
  have hb := bAt_app _ s t h (4 * (59 + k)) ([s.size - 1] ++ List.replicate (k - 1) 0) rfl
  have hl : ([4 * (59 + k), s.size - 1] ++ List.replicate (k - 1) 0).length = k + 1 := by simp; omega
  have hy := byt_app _ s t h (s.size - 1 + 1) (by omega)
  rw [hl] at hsz hy
  have hlt : byt t 1 k = [s.size - 1] ++ List.replicate (k - 1) 0 := by
    rw [byt, h]
    show List.take k (([s.size - 1] ++ List.replicate (k - 1) 0) ++ bl s) = _
    exact List.take_left' (by simp; omega)
  rw [elS]
  simp only [hb]
  rw [if_pos (by omega), show 4 * (59 + k) / 4 = 59 + k by omega, litS, if_neg (by omega), if_pos (by omega), litE, Nat.zero_add, show 59 + k - 59 = k by omega, hlt, ltl_zeros, if_neg (by simp; omega), if_neg (by omega)]
  rw [show 1 + k = k + 1 by omega, hy, hsz, List.nil_append, show k + 1 + (s.size - 1 + 1) = k + 1 + s.size by omega]
def I12 (s : ByteArray) (k : Nat) (m : Nat) (e : Env) (H : Heap) : Prop :=
  ∃ i : Nat, i + m = k ∧ 1 ≤ i ∧ e 0 = .string s ∧ e 7 = .int .i64 (k : Int) ∧ e 8 = .int .i64 (i : Int) ∧ e 6 = .string (bs ([4 * (59 + k), s.size - 1] ++ List.replicate (i - 1) 0))
theorem bs_append' (a b : List Nat) : bs a ++ bs b = bs (a ++ b) := bs_append a b
theorem bs_byte (b : Nat) : ({ data := #[UInt8.ofNat b] } : ByteArray) = bs [b] := rfl
theorem wPlain (s : ByteArray) (long : Nat) (hs : s.size < 2 ^ 63) (hl : long < 256) : Run (fun v _ => v = .bool true) mk (acall D6 50 12 [.string s, .int .u8 (long : Int)] [] ⟨0, 0⟩) := by
  refine Run_call (F := ir12) rfl (Nat.le_of_ble_eq_true rfl) ?_
  by_cases hbig : s.size = 0 ∨ 250 < s.size
  · simp only [ir12, D6]
    (repeat' first
    | (refine CondV_dec (fun _ => ?_) (fun _ => ?_) <;> try (exfalso; omega))
    | (refine GuardV_td (fun _ => ?_) (fun _ => ?_) <;> try (exfalso; omega))
    | (refine GuardV_fd (fun _ => ?_) (fun _ => ?_) <;> try (exfalso; omega))
    | (refine CondV_split (fun _ => ?_) (fun _ => ?_))
    | (refine Need_of (by first | omega | decide) ?_)
    | refine WpK_cons ?_ ?_
    | refine WpK_guard ?_
    | simp (disch := first | omega | simp only [List.length_append, List.length_set, List.length_cons, List.length_nil] <;> omega | fail) only [evA, ↓evB, ↓astep, ↓aop, aBin, aInt, aStr, aUn, aNil, aMax, aresults, ares, aPack, ↓reduceIte, ↓reduceCtorEq, Nat.reduceEqDiff, Nat.reduceAdd, env0, aLoad, aLoadN, cellsOf, Int.reduceEq, Int.reduceLT, Int.reduceLE, Nat.reduceLeDiff, oneC, aop.fillL, setL, aApp, aAppC_nil, aAppC_own, xop, eqCells, eqCell, rowOf, ↓acallop, aBound, aIntOf, flat, flatN, CX_fn, CX_X, CX_pol, aStore, Nat.reduceBEq, List.size_toArray, Int.sub_zero, Int.zero_add, Int.add_zero, Int.toNat_zero, Int.reduceAdd, Int.reduceSub, Int.reduceMul, Int.reduceNeg, Int.reduceToNat, Nat.reduceSub, Nat.reduceMul, Int.natCast_zero, Int.reduceDiv, Int.reduceMod, Int.toNat_natCast, fdiv_nn, min_bits_i, Int.reducePow, Nat.reducePow, Nat.reduceDiv, Nat.reduceMod, mb_i, mb_u, WpC_drawD, WpT_nil, WpT_cons, WpT_guard, WpK_nil, scal, XAlive_eq])
  have esz : ((s.size : Nat) : Int) - 1 = ((s.size - 1 : Nat) : Int) := by omega
  have emod : (long : Int) % 5 = ((long % 5 : Nat) : Int) := by omega
  -- what is unpacked in the end
  have fin : ∀ hd : List Nat, hd.length ≤ 6 → (∀ b ∈ hd, b < 256) → (∀ t : ByteArray, bl t = hd ++ bl s → elS t s.size 0 [] = (0, t.size, bl s)) → XUnp [.string (bs (szb s.size) ++ bs hd ++ s), .int .i64 250, .pointer none] = some (.tuple #[.string s, .int .i64 0]) := by
    intro hd h6 hb he
    have hbt : bl (bs hd ++ s) = hd ++ bl s := by rw [bl_append, bl_bs _ hb]
    have hts := size_app hd s _ hbt
    have h1 := unp_one s.size (by omega) (bs hd ++ s) 250 (by omega) (bl s) (by omega) (he _ hbt) (bl_length s)
    have h2 : nx (bl (bs (szb s.size) ++ (bs hd ++ s))) 0 0 = (s.size, (szb s.size).length, 0) := by rw [bl_append, bl_bs _ (szb_lt _ (by omega))]; exact szb_nx _ (by omega) _
    have h3 : (szb s.size).length ≤ 2 := by unfold szb; split <;> simp
    rw [ByteArray.append_assoc, XUnp_eq, if_pos ⟨by rw [ByteArray.size_append, bs_size, hts]; omega, by omega, by rw [h2]; intro _ _; show s.size ≤ 50000; omega⟩, h1, bs_bl]
    rfl
  have szs : s.size < 128 → bs [s.size] = bs (szb s.size) := fun h => by rw [szb, if_pos h]
  have szl : ¬ s.size < 128 → bs [s.size % 128 + 128, 1] = bs (szb s.size) := fun h => by rw [szb, if_neg h]
  have b2 : ∀ a b : Nat, ({ data := #[UInt8.ofNat a, UInt8.ofNat b] } : ByteArray) = bs [a, b] := fun _ _ => rfl
  have f1 : (s.size : Int) % 128 + 128 = ((s.size % 128 + 128 : Nat) : Int) := by omega
  have u1 : UInt8.ofNat 1 = 1 := rfl
  have b2' : ∀ a : Nat, ({ data := #[UInt8.ofNat a, 1] } : ByteArray) = bs [a, 1] := fun _ => rfl
  have z1 : ({ data := #[0] } : ByteArray) = bs [0] := rfl
  have hszl : (szb s.size).length ≤ 2 := by unfold szb; split <;> simp
  by_cases hk : 0 < long % 5 ∨ 60 ≤ s.size - 1
  · obtain ⟨k, hk0⟩ : ∃ k, k = max (long % 5) 1 := ⟨_, rfl⟩
    have hk1 : 1 ≤ k ∧ k ≤ 4 := by omega
    have hmax : (if ((long % 5 : Nat) : Int) < 1 then 1 else ((long % 5 : Nat) : Int)) = (k : Int) := by split <;> omega
    have e4 : (4 : Int) * (59 + (k : Int)) = ((4 * (59 + k) : Nat) : Int) := by omega
    have hf := fin ([4 * (59 + k), s.size - 1] ++ List.replicate (k - 1) 0) (by simp; omega) (by
      intro x hx
      rcases List.mem_append.1 hx with hx | hx
      · simp at hx; omega
      · have := List.eq_of_mem_replicate hx; omega) (fun t ht => el_long s t k hk1 (by omega) ht)
    simp only [ir12, D6]
    (repeat' first
    | (refine CondV_dec (fun _ => ?_) (fun _ => ?_) <;> try (exfalso; omega))
    | (refine GuardV_td (fun _ => ?_) (fun _ => ?_) <;> try (exfalso; omega))
    | (refine GuardV_fd (fun _ => ?_) (fun _ => ?_) <;> try (exfalso; omega))
    | (refine CondV_split (fun _ => ?_) (fun _ => ?_))
    | (refine Need_of (by first | omega | decide) ?_)
    | refine WpK_cons ?_ ?_
    | refine WpK_guard ?_
    | simp (disch := first | omega | simp only [List.length_append, List.length_set, List.length_cons, List.length_nil] <;> omega | fail) only [evA, ↓evB, ↓astep, ↓aop, aBin, aInt, aStr, aUn, aNil, aMax, aresults, ares, aPack, ↓reduceIte, ↓reduceCtorEq, Nat.reduceEqDiff, Nat.reduceAdd, env0, aLoad, aLoadN, cellsOf, Int.reduceEq, Int.reduceLT, Int.reduceLE, Nat.reduceLeDiff, oneC, aop.fillL, setL, aApp, aAppC_nil, aAppC_own, xop, eqCells, eqCell, rowOf, ↓acallop, aBound, aIntOf, flat, flatN, CX_fn, CX_X, CX_pol, aStore, Nat.reduceBEq, List.size_toArray, Int.sub_zero, Int.zero_add, Int.add_zero, Int.toNat_zero, Int.reduceAdd, Int.reduceSub, Int.reduceMul, Int.reduceNeg, Int.reduceToNat, Nat.reduceSub, Nat.reduceMul, Int.natCast_zero, Int.reduceDiv, Int.reduceMod, Int.toNat_natCast, fdiv_nn, min_bits_i, Int.reducePow, Nat.reducePow, Nat.reduceDiv, Nat.reduceMod, mb_i, mb_u, WpC_drawD, WpT_nil, WpT_cons, WpT_guard, WpK_nil, scal, XAlive_eq, esz, emod, hmax, e4, allBytes, byteOf, Int.toNat_natCast, b2, bs_byte])
    all_goals
      refine WpC_loop (I12 s k) ?_ (n := k - 1) (by omega) ?_
      · rintro m e H ⟨i, hi, hi1, h0, h7, h8, h6⟩
        simp only [lp12_0, evA, ↓evB, ↓astep, ↓aop, aBin, aInt, aStr, aUn, aNil, aMax, aresults, ares, aPack, ↓reduceIte, ↓reduceCtorEq, Nat.reduceEqDiff, Nat.reduceAdd, env0, aLoad, aLoadN, cellsOf, Int.reduceEq, Int.reduceLT, Int.reduceLE, Nat.reduceLeDiff, oneC, aop.fillL, setL, aApp, aAppC_nil, aAppC_own, xop, eqCells, eqCell, rowOf, ↓acallop, aBound, aIntOf, flat, flatN, CX_fn, CX_X, CX_pol, aStore, Nat.reduceBEq, List.size_toArray, Int.sub_zero, Int.zero_add, Int.add_zero, Int.toNat_zero, Int.reduceAdd, Int.reduceSub, Int.reduceMul, Int.reduceNeg, Int.reduceToNat, Nat.reduceSub, Nat.reduceMul, Int.natCast_zero, Int.reduceDiv, Int.reduceMod, Int.toNat_natCast, fdiv_nn, min_bits_i, Int.reducePow, Nat.reducePow, Nat.reduceDiv, Nat.reduceMod, mb_i, mb_u, WpC_drawD, WpT_nil, WpT_cons, WpT_guard, WpK_nil, scal, h0, h7, h8, h6]
        refine CondV_dec (fun hc => ?_) (fun hc => ?_)
        · have hst : bs ([4 * (59 + k), s.size - 1] ++ List.replicate (i - 1) 0) ++ bs [0] = bs ([4 * (59 + k), s.size - 1] ++ List.replicate i 0) := by
            obtain ⟨j, rfl⟩ : ∃ j, i = j + 1 := ⟨i - 1, by omega⟩
            rw [bs_append, List.append_assoc, Nat.add_sub_cancel, List.replicate_succ']
          obtain ⟨B, hB⟩ : ∃ B, B = bs ([4 * (59 + k), s.size - 1] ++ List.replicate (i - 1) 0) := ⟨_, rfl⟩
          have hBs : B.size = i + 1 := by rw [hB, bs_size]; simp; omega
          rw [← hB] at h6 hst
          (repeat' first
    | (refine CondV_dec (fun _ => ?_) (fun _ => ?_) <;> try (exfalso; omega))
    | (refine GuardV_td (fun _ => ?_) (fun _ => ?_) <;> try (exfalso; omega))
    | (refine GuardV_fd (fun _ => ?_) (fun _ => ?_) <;> try (exfalso; omega))
    | (refine CondV_split (fun _ => ?_) (fun _ => ?_))
    | (refine Need_of (by first | omega | decide) ?_)
    | refine WpK_cons ?_ ?_
    | refine WpK_guard ?_
    | simp (disch := first | omega | simp only [List.length_append, List.length_set, List.length_cons, List.length_nil] <;> omega | fail) only [evA, ↓evB, ↓astep, ↓aop, aBin, aInt, aStr, aUn, aNil, aMax, aresults, ares, aPack, ↓reduceIte, ↓reduceCtorEq, Nat.reduceEqDiff, Nat.reduceAdd, env0, aLoad, aLoadN, cellsOf, Int.reduceEq, Int.reduceLT, Int.reduceLE, Nat.reduceLeDiff, oneC, aop.fillL, setL, aApp, aAppC_nil, aAppC_own, xop, eqCells, eqCell, rowOf, ↓acallop, aBound, aIntOf, flat, flatN, CX_fn, CX_X, CX_pol, aStore, Nat.reduceBEq, List.size_toArray, Int.sub_zero, Int.zero_add, Int.add_zero, Int.toNat_zero, Int.reduceAdd, Int.reduceSub, Int.reduceMul, Int.reduceNeg, Int.reduceToNat, Nat.reduceSub, Nat.reduceMul, Int.natCast_zero, Int.reduceDiv, Int.reduceMod, Int.toNat_natCast, fdiv_nn, min_bits_i, Int.reducePow, Nat.reducePow, Nat.reduceDiv, Nat.reduceMod, mb_i, mb_u, WpC_drawD, WpT_nil, WpT_cons, WpT_guard, WpK_nil, scal, h0, h7, h8, h6, z1, hBs, hst])
          exact ⟨m - 1, by omega, i + 1, by omega, by omega, by (first | rfl | (simp only [Env_put_some, Env_put_none, ↓Env_set_at, ↓reduceIte, Nat.reduceEqDiff, h0] <;> rfl)), by (first | rfl | (simp only [Env_put_some, Env_put_none, ↓Env_set_at, ↓reduceIte, Nat.reduceEqDiff, h7] <;> rfl)), by (first | rfl | (simp only [Env_put_some, Env_put_none, ↓Env_set_at, ↓reduceIte, Nat.reduceEqDiff] <;> rfl)), by (first | rfl | (simp only [Env_put_some, Env_put_none, ↓Env_set_at, ↓reduceIte, Nat.reduceEqDiff] <;> rfl))⟩
        · have hik : i = k := by omega
          subst hik
          obtain ⟨B, hB⟩ : ∃ B, B = bs ([4 * (59 + i), s.size - 1] ++ List.replicate (i - 1) 0) := ⟨_, rfl⟩
          have hBs : B.size = i + 1 := by rw [hB, bs_size]; simp; omega
          rw [← hB] at h6 hf
          by_cases h128 : s.size < 128
          · have hz := szs h128
            have hzl : (szb s.size).length = 1 := by rw [szb, if_pos h128]; rfl
            (repeat' first
    | (refine CondV_dec (fun _ => ?_) (fun _ => ?_) <;> try (exfalso; omega))
    | (refine GuardV_td (fun _ => ?_) (fun _ => ?_) <;> try (exfalso; omega))
    | (refine GuardV_fd (fun _ => ?_) (fun _ => ?_) <;> try (exfalso; omega))
    | (refine CondV_split (fun _ => ?_) (fun _ => ?_))
    | (refine Need_of (by first | omega | decide) ?_)
    | refine WpK_cons ?_ ?_
    | refine WpK_guard ?_
    | simp (disch := first | omega | simp only [List.length_append, List.length_set, List.length_cons, List.length_nil] <;> omega | fail) only [evA, ↓evB, ↓astep, ↓aop, aBin, aInt, aStr, aUn, aNil, aMax, aresults, ares, aPack, ↓reduceIte, ↓reduceCtorEq, Nat.reduceEqDiff, Nat.reduceAdd, env0, aLoad, aLoadN, cellsOf, Int.reduceEq, Int.reduceLT, Int.reduceLE, Nat.reduceLeDiff, oneC, aop.fillL, setL, aApp, aAppC_nil, aAppC_own, xop, eqCells, eqCell, rowOf, ↓acallop, aBound, aIntOf, flat, flatN, CX_fn, CX_X, CX_pol, aStore, Nat.reduceBEq, List.size_toArray, Int.sub_zero, Int.zero_add, Int.add_zero, Int.toNat_zero, Int.reduceAdd, Int.reduceSub, Int.reduceMul, Int.reduceNeg, Int.reduceToNat, Nat.reduceSub, Nat.reduceMul, Int.natCast_zero, Int.reduceDiv, Int.reduceMod, Int.toNat_natCast, fdiv_nn, min_bits_i, Int.reducePow, Nat.reducePow, Nat.reduceDiv, Nat.reduceMod, mb_i, mb_u, WpC_drawD, WpT_nil, WpT_cons, WpT_guard, WpK_nil, scal, h0, h7, h8, h6, hBs, allBytes, byteOf, Int.toNat_natCast, b2, b2', bs_byte, f1, hz, hzl, hf, ByteArray.size_append])
          · have hz := szl h128
            have hzl : (szb s.size).length = 2 := by rw [szb, if_neg h128]; rfl
            (repeat' first
    | (refine CondV_dec (fun _ => ?_) (fun _ => ?_) <;> try (exfalso; omega))
    | (refine GuardV_td (fun _ => ?_) (fun _ => ?_) <;> try (exfalso; omega))
    | (refine GuardV_fd (fun _ => ?_) (fun _ => ?_) <;> try (exfalso; omega))
    | (refine CondV_split (fun _ => ?_) (fun _ => ?_))
    | (refine Need_of (by first | omega | decide) ?_)
    | refine WpK_cons ?_ ?_
    | refine WpK_guard ?_
    | simp (disch := first | omega | simp only [List.length_append, List.length_set, List.length_cons, List.length_nil] <;> omega | fail) only [evA, ↓evB, ↓astep, ↓aop, aBin, aInt, aStr, aUn, aNil, aMax, aresults, ares, aPack, ↓reduceIte, ↓reduceCtorEq, Nat.reduceEqDiff, Nat.reduceAdd, env0, aLoad, aLoadN, cellsOf, Int.reduceEq, Int.reduceLT, Int.reduceLE, Nat.reduceLeDiff, oneC, aop.fillL, setL, aApp, aAppC_nil, aAppC_own, xop, eqCells, eqCell, rowOf, ↓acallop, aBound, aIntOf, flat, flatN, CX_fn, CX_X, CX_pol, aStore, Nat.reduceBEq, List.size_toArray, Int.sub_zero, Int.zero_add, Int.add_zero, Int.toNat_zero, Int.reduceAdd, Int.reduceSub, Int.reduceMul, Int.reduceNeg, Int.reduceToNat, Nat.reduceSub, Nat.reduceMul, Int.natCast_zero, Int.reduceDiv, Int.reduceMod, Int.toNat_natCast, fdiv_nn, min_bits_i, Int.reducePow, Nat.reducePow, Nat.reduceDiv, Nat.reduceMod, mb_i, mb_u, WpC_drawD, WpT_nil, WpT_cons, WpT_guard, WpK_nil, scal, h0, h7, h8, h6, hBs, allBytes, byteOf, Int.toNat_natCast, b2, b2', bs_byte, f1, u1, hz, hzl, hf, ByteArray.size_append])
      · exact ⟨1, by omega, by omega, by (first | rfl | (simp only [Env_put_some, Env_put_none, ↓Env_set_at, ↓reduceIte, Nat.reduceEqDiff] <;> rfl)), by (first | rfl | (simp only [Env_put_some, Env_put_none, ↓Env_set_at, ↓reduceIte, Nat.reduceEqDiff] <;> rfl)), by (first | rfl | (simp only [Env_put_some, Env_put_none, ↓Env_set_at, ↓reduceIte, Nat.reduceEqDiff] <;> rfl)), by (first | rfl | (simp only [Env_put_some, Env_put_none, ↓Env_set_at, ↓reduceIte, Nat.reduceEqDiff] <;> rfl))⟩
  · have hf := fin [4 * (s.size - 1)] (by simp) (by simp; omega) (fun t ht => el_short s t (by omega) ht)
    have e4 : (4 : Int) * ((s.size - 1 : Nat) : Int) = ((4 * (s.size - 1) : Nat) : Int) := by omega
    by_cases h128 : s.size < 128
    · have hz := szs h128
      have hzl : (szb s.size).length = 1 := by rw [szb, if_pos h128]; rfl
      simp only [ir12, D6]
      (repeat' first
    | (refine CondV_dec (fun _ => ?_) (fun _ => ?_) <;> try (exfalso; omega))
    | (refine GuardV_td (fun _ => ?_) (fun _ => ?_) <;> try (exfalso; omega))
    | (refine GuardV_fd (fun _ => ?_) (fun _ => ?_) <;> try (exfalso; omega))
    | (refine CondV_split (fun _ => ?_) (fun _ => ?_))
    | (refine Need_of (by first | omega | decide) ?_)
    | refine WpK_cons ?_ ?_
    | refine WpK_guard ?_
    | simp (disch := first | omega | simp only [List.length_append, List.length_set, List.length_cons, List.length_nil] <;> omega | fail) only [evA, ↓evB, ↓astep, ↓aop, aBin, aInt, aStr, aUn, aNil, aMax, aresults, ares, aPack, ↓reduceIte, ↓reduceCtorEq, Nat.reduceEqDiff, Nat.reduceAdd, env0, aLoad, aLoadN, cellsOf, Int.reduceEq, Int.reduceLT, Int.reduceLE, Nat.reduceLeDiff, oneC, aop.fillL, setL, aApp, aAppC_nil, aAppC_own, xop, eqCells, eqCell, rowOf, ↓acallop, aBound, aIntOf, flat, flatN, CX_fn, CX_X, CX_pol, aStore, Nat.reduceBEq, List.size_toArray, Int.sub_zero, Int.zero_add, Int.add_zero, Int.toNat_zero, Int.reduceAdd, Int.reduceSub, Int.reduceMul, Int.reduceNeg, Int.reduceToNat, Nat.reduceSub, Nat.reduceMul, Int.natCast_zero, Int.reduceDiv, Int.reduceMod, Int.toNat_natCast, fdiv_nn, min_bits_i, Int.reducePow, Nat.reducePow, Nat.reduceDiv, Nat.reduceMod, mb_i, mb_u, WpC_drawD, WpT_nil, WpT_cons, WpT_guard, WpK_nil, scal, XAlive_eq, esz, emod, e4, allBytes, byteOf, Int.toNat_natCast, b2, b2', bs_byte, f1, u1, hz, hzl, hf, ByteArray.size_append])
    · omega
end L11
end Ev
end Go.Proofs.Ytfbelnjchpffeaa
