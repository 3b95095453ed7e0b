/-
  More rules for rewriting: calls that are walked where they stand, stores, heaps that grow; one table of functions for a seat.
-/
import Derived.Test.YtfbelnjchpffeaaEvS
namespace Go.Proofs.Ytfbelnjchpffeaa
namespace Ev
open Tag (mk)
set_option linter.unusedSimpArgs false
set_option linter.unusedVariables false
section
variable {C : Cf} {call : CallF} {N : Nat} {m : Mode} {e : Env} {H : Heap}

/-- A call that is walked where it stands. -/
def FnK (C : Cf) (k : Nat) (m : Mode) (args : List Value) (H : Heap) (R : Value → Heap → Prop) (_ : Tag (C, k, m, args, H, R)) (o : Option AFn) : Prop :=
  match o with
  | some F => args.length ≤ F.n ∧ WpC C (acall C k) k m F.body (env0 args) H (fun x e' H' => EndK (ResK H' R mk (aresults e' H' F.res)) mk x) mk
  | none => False
theorem FnK_some (k : Nat) (args : List Value) (R : Value → Heap → Prop) (t : Tag (C, k, m, args, H, R)) (n : Nat) (res : List ARes) (body : ACode) :
    FnK C k m args H R t (some ⟨n, res, body⟩) = Need (WpC C (acall C k) k m body (env0 args) H (fun x e' H' => EndK (ResK H' R mk (aresults e' H' res)) mk x) mk) mk (args.length ≤ n) := by
  simp only [FnK, Need]
unseal ResK in
theorem ResK_none (H : Heap) (R : Value → Heap → Prop) (t : Tag (H, R)) : ResK H R t none = False := (rfl)
theorem Run_acall (k f : Nat) (args : List Value) (R : Value → Heap → Prop) (t : Tag R) : Run R t (acall C (k + 1) f args H m) = FnK C k m args H R mk (C.fn f) := by
  cases hf : C.fn f with
  | none => simp [acall, hf, Run, FnK]
  | some F =>
    simp only [acall, hf, Option.bind_some, FnK]
    by_cases ha : args.length ≤ F.n
    · rw [if_pos ha]
      unfold WpC
      split
      · rename_i x e' H' heq
        rw [heq]
        cases x with
        | exit i => simp [Run, EndK]
        | normal =>
          simp only [EndK_normal, EndK_ret, Option.bind_some]
          cases aresults e' H' F.res <;> simp [Run, ResK_some, ResK_none, ha]
        | ret =>
          simp only [EndK_normal, EndK_ret, Option.bind_some]
          cases aresults e' H' F.res <;> simp [Run, ResK_some, ResK_none, ha]
      · rename_i heq; rw [heq]; simp [Run]
    · rw [if_neg ha]; simp [Run, ha]

unseal Run in
theorem Run_bind (r : Option (Value × Heap)) (f : Value × Heap → Option (Value × Heap)) (K : Value → Heap → Prop) (t : Tag K) : Run K t (r.bind f) = Run (fun v H' => Run K mk (f (v, H'))) mk r := by
  cases r with
  | none => simp [Run]
  | some p => rfl

/-! ## Heaps -/
theorem aStore_eq (m : Mode) (n : Nat) (H : Heap) (x : Value) (i off : Nat) {cs : List Value} {T : TypeId} (h : H[i]? = some (.cells cs T true)) : aStore m n H x (.pointer (some ⟨i, off, none⟩)) =
      if m.lim ≤ i ∧ x.cells.size = n ∧ off + n ≤ cs.length ∧ x.cells.toList.all oneC = true ∧ (i < m.fb → x.cells.toList.all flat = true) then
        some (H.set i (.cells (setL cs off x.cells.toList) T true))
      else none := by simp only [aStore, h]
theorem hset_self {H : Heap} {i : Nat} (h : i < H.length) (o : AObj) : (H.set i o)[i]? = some o := by simp [h]
theorem hset_ne {H : Heap} {i j : Nat} (h : i ≠ j) (o : AObj) : (H.set i o)[j]? = H[j]? := by simp [h]
theorem happ_l {H L : Heap} {i : Nat} (h : i < H.length) : (H ++ L)[i]? = H[i]? := List.getElem?_append_left h
theorem happ_ge {H L : Heap} {i : Nat} (h : H.length ≤ i) : (H ++ L)[i]? = L[i - H.length]? := List.getElem?_append_right h
theorem happ_set_ge {H L : Heap} {i : Nat} (h : H.length ≤ i) (o : AObj) : (H ++ L).set i o = H ++ L.set (i - H.length) o := List.set_append_right _ _ h
theorem happ_r {H L : Heap} (k : Nat) : (H ++ L)[H.length + k]? = L[k]? := by rw [List.getElem?_append_right (by omega)]; congr 1; omega
theorem happ_0 {H L : Heap} : (H ++ L)[H.length]? = L[0]? := by rw [List.getElem?_append_right (by omega)]; congr 1; omega
theorem happ_set_l {H L : Heap} {i : Nat} (h : i < H.length) (o : AObj) : (H ++ L).set i o = H.set i o ++ L := List.set_append_left _ _ h
theorem happ_set_r {H L : Heap} (k : Nat) (o : AObj) : (H ++ L).set (H.length + k) o = H ++ L.set k o := by rw [List.set_append_right _ _ (by omega)]; congr 2; omega
theorem happ_set_0 {H L : Heap} (o : AObj) : (H ++ L).set H.length o = H ++ L.set 0 o := by rw [List.set_append_right _ _ (by omega)]; congr 2; omega
theorem hset_set (H : Heap) (i : Nat) (a b : AObj) : (H.set i a).set i b = H.set i b := List.set_set ..
theorem hset_same {H : Heap} {i : Nat} {o : AObj} (h : H[i]? = some o) : H.set i o = H := by
  apply List.ext_getElem?
  intro j
  by_cases hj : i = j
  · subst hj; rw [hset_self (lt_of_get h), h]
  · rw [hset_ne hj]
theorem htake_app (H L : Heap) : (H ++ L).take H.length = H := List.take_left' rfl
theorem htake_set (H L : Heap) (i : Nat) (o : AObj) : (H.set i o ++ L).take H.length = H.set i o := List.take_left' (by simp)
theorem htake_set2 (H L : Heap) (i j : Nat) (o p : AObj) : ((H.set i o).set j p ++ L).take H.length = (H.set i o).set j p := List.take_left' (by simp)
theorem htake_ge {A L : Heap} {n : Nat} (h : A.length ≤ n) : (A ++ L).take n = A ++ L.take (n - A.length) := by rw [List.take_append, List.take_of_length_le h]
theorem htake_self (H : Heap) : List.take H.length H = H := List.take_length
theorem htake_set' (H : Heap) (i : Nat) (o : AObj) : (H.set i o).take H.length = H.set i o := List.take_of_length_le (by simp)
theorem hlen_set (H : Heap) (i : Nat) (o : AObj) : (H.set i o).length = H.length := List.length_set
theorem happ_assoc (A B D : Heap) : A ++ B ++ D = A ++ (B ++ D) := List.append_assoc ..

/-! ## One table of functions -/
theorem tab_cons (a : Nat) (F : AFn) (l : List (Nat × AFn)) (f : FuncId) : tab ((a, F) :: l) f = if (a == f) = true then some F else tab l f := by
  simp only [tab, List.find?]
  cases (a == f) <;> rfl
theorem xtab_cons (a : Nat) (g : List Value → Option Value) (l : List (Nat × (List Value → Option Value))) (f : FuncId) : xtab ((a, g) :: l) f = if (a == f) = true then some g else xtab l f := by
  simp only [xtab, List.find?]
  cases (a == f) <;> rfl
def polt (l : List (Nat × Pol)) : FuncId → Pol := fun f => ((l.find? (fun p => p.1 == f)).map (·.2)).getD .gen
theorem polt_cons (a : Nat) (g : Pol) (l : List (Nat × Pol)) (f : FuncId) : polt ((a, g) :: l) f = if (a == f) = true then g else polt l f := by
  simp only [polt, List.find?]
  cases (a == f) <;> rfl
theorem polt_nil (f : FuncId) : polt [] f = .gen := rfl
theorem al_no {x : List (Nat × (List Value → Option Value))} {pol : FuncId → Pol} : ∀ k : FuncId, ([] : List Nat).contains k = true → (∃ g, xtab x k = some g) ∨ (xtab x k = none ∧ (pol k = .al ∨ pol k = .ro)) := fun k h => by simp at h
theorem xtab_nil (f : FuncId) : xtab [] f = none := rfl

end
theorem Run_and {r : Option (Value × Heap)} {v : Value} {H : Heap} (h : Run (fun v' H' => v' = v ∧ H' = H) mk r) : r = some (v, H) := by
  unfold Run at h
  split at h
  · obtain ⟨rfl, rfl⟩ := h; rfl
  · exact h.elim
theorem Run_exi {v : Value} {f : Heap → Heap} {r : Option (Value × Heap)} (h : Run (fun v' H' => v' = v ∧ ∃ J, H' = f J) mk r) : ∃ J, r = some (v, f J) := by
  unfold Run at h
  split at h
  · obtain ⟨rfl, J, rfl⟩ := h; exact ⟨J, rfl⟩
  · exact h.elim
/-- A run's answer alone. -/
def Ans (r : Option (Value × Heap)) (v : Value) : Prop := r.map (·.1) = some v
unseal Run in
theorem Ans.run {r : Option (Value × Heap)} {v : Value} (h : Ans r v) : Run (fun v' _ => v' = v) mk r := by
  unfold Ans at h
  cases r with
  | none => cases h
  | some p => show p.1 = v; simpa using h

/-! ## More fuel does no harm -/
def CallLe (c c' : CallF) : Prop := ∀ f args H m r, c f args H m = some r → c' f args H m = some r
section
variable {C : Cf} {c c' : CallF}
theorem acallop_le (h : CallLe c c') {m : Mode} {H : Heap} {f : Value} {xs : List Value} {r : Value × Heap} (hr : acallop C c m H f xs = some r) : acallop C c' m H f xs = some r := by
  unfold acallop at hr ⊢
  split at hr
  · rename_i k a b
    split at hr
    · rename_i g hg; try simp only [hg]
      exact hr
    · rename_i hg
      try simp only [hg]
      split at hr
      · rename_i hp; try simp only [hp]
        exact h _ _ _ _ _ hr
      · rename_i hp
        try simp only [hp]
        obtain ⟨p, h1, h2⟩ := Option.bind_eq_some_iff.1 hr
        exact Option.bind_eq_some_iff.2 ⟨p, h _ _ _ _ _ h1, h2⟩
      · rename_i hp
        try simp only [hp]
        obtain ⟨p, h1, h2⟩ := Option.bind_eq_some_iff.1 hr
        exact Option.bind_eq_some_iff.2 ⟨p, h _ _ _ _ _ h1, h2⟩
      · rename_i hp
        try simp only [hp]
        obtain ⟨p, h1, h2⟩ := Option.bind_eq_some_iff.1 hr
        exact Option.bind_eq_some_iff.2 ⟨p, h _ _ _ _ _ h1, h2⟩
  · cases hr
theorem astep_le (h : CallLe c c') {m : Mode} {e : Env} {H : Heap} {op : AOp} {r : Value × Heap} (hr : astep C c m e H op = some r) : astep C c' m e H op = some r := by
  cases op <;> first | exact hr | exact acallop_le h hr
theorem aops_le (h : CallLe c c') {m : Mode} : ∀ {l : List AOper} {e : Env} {H : Heap} {r : Env × Heap}, aops C c m l e H = some r → aops C c' m l e H = some r
  | [], _, _, _, hr => hr
  | o :: l, e, H, r, hr => by
    unfold aops at hr ⊢
    split at hr
    · rename_i hw
      rw [if_pos hw]
      obtain ⟨p, h1, h2⟩ := Option.bind_eq_some_iff.1 hr
      exact Option.bind_eq_some_iff.2 ⟨p, astep_le h h1, aops_le h h2⟩
    · rename_i hw
      rw [if_neg hw]
      exact aops_le h hr
theorem adraw_le (h : CallLe c c') : ∀ {l : List AOper} {e : Env} {H : Heap} {r : Env}, adraw C c l e H = some r → adraw C c' l e H = some r
  | [], _, _, _, hr => hr
  | o :: l, e, H, r, hr => by
    unfold adraw at hr ⊢
    split at hr
    · rename_i hw
      rw [if_pos hw]
      obtain ⟨p, h1, h2⟩ := Option.bind_eq_some_iff.1 hr
      refine Option.bind_eq_some_iff.2 ⟨p, astep_le h h1, ?_⟩
      obtain ⟨v, H'⟩ := p
      simp only at h2 ⊢
      split at h2
      · rename_i hl; rw [if_pos hl]; exact adraw_le h h2
      · cases h2
    · rename_i hw
      rw [if_neg hw]
      exact adraw_le h hr
theorem rechk_le (h : CallLe c c') {e : Env} {H : Heap} : ∀ {l : List AOper}, rechk C c e H l = true → rechk C c' e H l = true
  | [], _ => rfl
  | o :: l, hr => by
    simp only [rechk, Bool.and_eq_true] at hr ⊢
    refine ⟨?_, rechk_le h hr.2⟩
    have h1 := hr.1
    split at h1
    · rename_i hw
      rw [if_pos hw]
      split at h1
      · rename_i d v H' hd hs
        rw [hd, astep_le h hs]; exact h1
      · cases h1
    · rename_i hw
      rw [if_neg hw]
theorem aopsD_le (h : CallLe c c') {m : Mode} : ∀ {l : List (AOper × List AOper)} {e : Env} {H : Heap} {r : Env × Heap}, aopsD C c m l e H = some r → aopsD C c' m l e H = some r
  | [], _, _, _, hr => hr
  | (o, ck) :: l, e, H, r, hr => by
    unfold aopsD at hr ⊢
    split at hr
    · rename_i hw
      rw [if_pos hw]
      obtain ⟨p, h1, h2⟩ := Option.bind_eq_some_iff.1 hr
      refine Option.bind_eq_some_iff.2 ⟨p, astep_le h h1, ?_⟩
      obtain ⟨v, H'⟩ := p
      simp only at h2 ⊢
      split at h2
      · rename_i hk; rw [if_pos (rechk_le h hk)]; exact aopsD_le h h2
      · cases h2
    · rename_i hw
      rw [if_neg hw]
      exact aopsD_le h hr
theorem aiter_le {b b' : Env → Heap → Option (AExit × Env × Heap)} (h : ∀ e H r, b e H = some r → b' e H = some r) : ∀ {n n' : Nat} {e : Env} {H : Heap} {r : AExit × Env × Heap}, n ≤ n' → aiter b n e H = some r → aiter b' n' e H = some r
  | 0, _, _, _, _, _, hr => by cases hr
  | n + 1, 0, _, _, _, hn, _ => by omega
  | n + 1, n' + 1, e, H, r, hn, hr => by
    unfold aiter at hr ⊢
    obtain ⟨p, h1, h2⟩ := Option.bind_eq_some_iff.1 hr
    refine Option.bind_eq_some_iff.2 ⟨p, h _ _ _ h1, ?_⟩
    obtain ⟨x, e', H'⟩ := p
    cases x with
    | normal => exact aiter_le h (by omega) h2
    | exit i => exact h2
    | ret => exact h2
theorem acode_le (h : CallLe c c') {N N' : Nat} (hN : N ≤ N') {m : Mode} : ∀ {a : ACode} {e : Env} {H : Heap} {r : AExit × Env × Heap}, acode C c N m a e H = some r → acode C c' N' m a e H = some r
  | .skip, _, _, _, hr => hr
  | .reg ops, e, H, r, hr => by
    simp only [acode, Option.map_eq_some_iff] at hr ⊢
    obtain ⟨p, h1, h2⟩ := hr
    exact ⟨p, aops_le h h1, h2⟩
  | .draw ops tail, e, H, r, hr => by
    simp only [acode, Option.bind_eq_some_iff, Option.map_eq_some_iff] at hr ⊢
    obtain ⟨e', h1, p, h2, h3⟩ := hr
    exact ⟨e', adraw_le h h1, p, aops_le h h2, h3⟩
  | .drawD ops tail, e, H, r, hr => by
    simp only [acode, Option.bind_eq_some_iff, Option.map_eq_some_iff] at hr ⊢
    obtain ⟨e', h1, p, h2, h3⟩ := hr
    exact ⟨e', adraw_le h h1, p, aopsD_le h h2, h3⟩
  | .seq a b, e, H, r, hr => by
    simp only [acode, Option.bind_eq_some_iff] at hr ⊢
    obtain ⟨p, h1, h2⟩ := hr
    refine ⟨p, acode_le h hN h1, ?_⟩
    obtain ⟨x, e', H'⟩ := p
    cases x with
    | normal => exact acode_le h hN h2
    | exit i => exact h2
    | ret => exact h2
  | .cond cd a b, e, H, r, hr => by
    simp only [acode] at hr ⊢
    split at hr
    · rename_i t ht
      cases t with
      | true => exact acode_le h hN hr
      | false => exact acode_le h hN hr
    · cases hr
  | .block id a, e, H, r, hr => by
    simp only [acode, Option.bind_eq_some_iff] at hr ⊢
    obtain ⟨p, h1, h2⟩ := hr
    exact ⟨p, acode_le h hN h1, h2⟩
  | .loop a, e, H, r, hr => by
    simp only [acode] at hr ⊢
    exact aiter_le (fun e H r hb => acode_le h hN hb) hN hr
  | .exit _, _, _, _, hr => hr
  | .ret, _, _, _, hr => hr
theorem acall_le : ∀ {k k' : Nat}, k ≤ k' → CallLe (acall C k) (acall C k')
  | 0, _, _ => fun f args H m r h => by cases h
  | k + 1, 0, hk => by omega
  | k + 1, k' + 1, hk => fun f args H m r h => by
    have ih := acall_le (show k ≤ k' by omega)
    simp only [acall, Option.bind_eq_some_iff] at h ⊢
    obtain ⟨F, hF, h⟩ := h
    refine ⟨F, hF, ?_⟩
    split at h
    · rename_i ha
      rw [if_pos ha]
      obtain ⟨p, h1, h2⟩ := Option.bind_eq_some_iff.1 h
      exact Option.bind_eq_some_iff.2 ⟨p, acode_le ih (by omega) h1, h2⟩
    · cases h
/-- What a run answers with little fuel, it answers with more. -/
theorem Run_fuel {k f : Nat} {args : List Value} {H : Heap} {m : Mode} {v : Value} {F : Heap → Heap} (h : ∃ J, acall C k f args H m = some (v, F J)) : ∃ J, ∀ q, k ≤ q → acall C q f args H m = some (v, F J) := by
  obtain ⟨J, h⟩ := h
  exact ⟨J, fun q hq => acall_le hq _ _ _ _ _ h⟩
theorem Run_fuel' {k f : Nat} {args : List Value} {H : Heap} {m : Mode} {r : Value × Heap} (h : acall C k f args H m = some r) : ∀ q, k ≤ q → acall C q f args H m = some r := fun q hq => acall_le hq _ _ _ _ _ h
end
/-- A run that ends, with what holds behind it. -/
theorem Run_get {C : Cf} {k f : Nat} {args : List Value} {H : Heap} {m : Mode} {Q : Value → Heap → Prop} {t : Tag Q} (h : Run Q t (acall C k f args H m)) : ∃ v H', (∀ q, k ≤ q → acall C q f args H m = some (v, H')) ∧ Q v H' := by
  cases hr : acall C k f args H m with
  | none => rw [hr] at h; unfold Run at h; exact h.elim
  | some p =>
    rw [hr] at h
    refine ⟨p.1, p.2, fun q hq => acall_le hq _ _ _ _ _ hr, ?_⟩
    unfold Run at h; exact h
/-! ## Bits -/
theorem fdiv_nn (a b : Int) (hb : 0 ≤ b) : a.fdiv b = a / b := Int.fdiv_eq_ediv_of_nonneg a hb
theorem min_bits_i (b : Int) (h : b ≤ 64) : min b.toNat IntKind.i64.bits = b.toNat := by
  simp only [IntKind.bits]; omega
theorem or_i64 (a b : Nat) (hb : b < 256) (ha : a < 2 ^ 40) : IntKind.i64.wrap ↑(BitVec.ofInt IntKind.i64.bits ((a : Int) * 256) ||| BitVec.ofInt IntKind.i64.bits (b : Int)).toNat = ((a * 256 + b : Nat) : Int) := by
  have e1 : ((a : Int) * 256) = ((a * 256 : Nat) : Int) := by omega
  rw [e1, BitVec.toNat_or, ofInt_nn _ _ (by omega) (by simp [IntKind.bits]; omega), ofInt_nn _ _ (by omega) (by simp [IntKind.bits]; omega)]
  simp only [Int.toNat_natCast]
  have := Nat.two_pow_add_eq_or_of_lt (i := 8) (b := b) (by omega) a
  rw [show a * 256 = 2 ^ 8 * a by omega, ← this, wrap_i64 _ (by omega) (by omega)]
theorem and3_i64 (a : Nat) (ha : a < 2 ^ 40) : IntKind.i64.wrap ↑(BitVec.ofInt IntKind.i64.bits (a : Int) &&& BitVec.ofInt IntKind.i64.bits 3).toNat = ((a % 4 : Nat) : Int) := by
  rw [BitVec.toNat_and, ofInt_nn _ _ (by omega) (by simp [IntKind.bits]; omega), ofInt_nn _ _ (by omega) (by simp [IntKind.bits])]
  simp only [Int.toNat_natCast]
  have := Nat.and_two_pow_sub_one_eq_mod a 2
  rw [show Int.toNat 3 = 2 ^ 2 - 1 from rfl, this, wrap_i64 _ (by omega) (by omega)]
theorem mb_i (n : Nat) (h : n ≤ 64) : min n IntKind.i64.bits = n := by
  have : IntKind.i64.bits = 64 := (rfl)
  omega
theorem mb_u (n : Nat) (h : n ≤ 64) : min n IntKind.u64.bits = n := by
  have : IntKind.u64.bits = 64 := (rfl)
  omega
/-! ## Append, where it is known what is appended to -/
theorem aAppC_nil (T sz bytes : Nat) (m : Mode) (H : Heap) (n c k : Nat) (news : List Value) : aAppC T sz bytes m H (.slice none n c) k news =
    if n = 0 ∧ k * bytes ≤ 140737488355328 ∧ k ≤ 4611686018427387904 ∧ 0 < sz ∧ news.all oneC = true then
      if k = 0 then some (.slice none 0 0, H) else some (.slice (some ⟨H.length, 0, none⟩) k sz, H ++ [.cells news T true])
    else none := rfl
theorem aAppC_own (T sz bytes : Nat) (m : Mode) (H : Heap) (i off n c k : Nat) (news : List Value) : aAppC T sz bytes m H (.slice (some ⟨i, off, none⟩) n c) k news =
    match H[i]? with
    | some (.cells cs T' true) =>
      if T' = T ∧ c = sz ∧ m.lim ≤ i ∧ off + n * sz ≤ cs.length ∧ (n + k) * bytes ≤ 140737488355328 ∧ n + k ≤ 4611686018427387904 ∧ 0 < sz ∧ news.all oneC = true then
        if k = 0 then some (.slice (some ⟨i, off, none⟩) n c, H)
        else some (.slice (some ⟨H.length, 0, none⟩) (n + k) sz, H.set i .dead ++ [.cells ((cs.drop off).take (n * sz) ++ news) T true])
      else none
    | _ => none := rfl
/-- Where bytes that grow lie: nowhere, or in a thing of their own. -/
def OutAt (T : TypeId) (H : Heap) (a : Option Addr) (c : Nat) (out : List Nat) : Prop :=
  (a = none ∧ c = 0 ∧ out = []) ∨ ∃ j, a = some ⟨j, 0, none⟩ ∧ c = 1 ∧ H[j]? = some (.cells (bv out) T true)
/-- Things that are not such bytes are kept. -/
def Keeps (T : TypeId) (H H' : Heap) : Prop := H.length ≤ H'.length ∧ ∀ (i : Nat) (o : AObj), H[i]? = some o → (∀ cs b, o ≠ AObj.cells cs T b) → H'[i]? = some o
theorem appc_ok {T : TypeId} {H : Heap} {a : Option Addr} {c fb : Nat} {out l : List Nat} (h : OutAt T H a c out) (hb : out.length + l.length ≤ 100000000) :
    ∃ a' c' H', aAppC T 1 1 ⟨0, fb⟩ H (.slice a out.length c) l.length (bv l) = some (.slice a' (out ++ l).length c', H') ∧ OutAt T H' a' c' (out ++ l) ∧ Keeps T H H' := by
  rcases h with ⟨rfl, rfl, rfl⟩ | ⟨j, rfl, rfl, hj⟩
  · simp only [List.length_nil, Nat.zero_add] at hb
    have c1 : ([] : List Nat).length = 0 ∧ l.length * 1 ≤ 140737488355328 ∧ l.length ≤ 4611686018427387904 ∧ 0 < 1 ∧ (bv l).all oneC = true := ⟨rfl, by omega, by omega, by omega, bv_oneC l⟩
    by_cases hk : l.length = 0
    · have : l = [] := List.eq_nil_of_length_eq_zero hk
      subst this
      exact ⟨none, 0, H, by rw [aAppC_nil, if_pos c1, if_pos hk]; rfl, .inl ⟨rfl, rfl, rfl⟩, Nat.le_refl _, fun i o h _ => h⟩
    · exact ⟨_, _, _, by rw [aAppC_nil, if_pos c1, if_neg hk]; rfl, .inr ⟨H.length, rfl, rfl, get_last _ _⟩, by simp, fun i o h _ => get_app h _⟩
  · have c1 : T = T ∧ 1 = 1 ∧ 0 ≤ j ∧ 0 + out.length * 1 ≤ (bv out).length ∧ (out.length + l.length) * 1 ≤ 140737488355328 ∧ out.length + l.length ≤ 4611686018427387904 ∧ 0 < 1 ∧ (bv l).all oneC = true :=
      ⟨rfl, rfl, Nat.zero_le _, by rw [bv_length]; omega, by omega, by omega, by omega, bv_oneC l⟩
    by_cases hk : l.length = 0
    · have : l = [] := List.eq_nil_of_length_eq_zero hk
      subst this
      exact ⟨some ⟨j, 0, none⟩, 1, H, by rw [aAppC_own, hj, List.append_nil]; exact (if_pos c1).trans (if_pos hk), .inr ⟨j, rfl, rfl, by rw [List.append_nil]; exact hj⟩, Nat.le_refl _, fun i o h _ => h⟩
    · refine ⟨some ⟨H.length, 0, none⟩, 1, H.set j .dead ++ [.cells (bv (out ++ l)) T true], ?_, .inr ⟨H.length, rfl, rfl, ?_⟩, by simp, fun i o h hne => ?_⟩
      · rw [aAppC_own, hj, List.length_append]
        refine ((if_pos c1).trans (if_neg hk)).trans ?_
        rw [List.drop_zero, Nat.mul_one, bv_take, bv_append]
      · rw [List.getElem?_append_right (by simp)]; simp
      · rw [List.getElem?_append_left (by simp; exact lt_of_get h), hset_ne]
        · exact h
        · rintro rfl
          rw [hj] at h; cases h
          exact hne _ _ rfl
theorem appS_ok {T : TypeId} {H : Heap} {a : Option Addr} {c fb : Nat} {out : List Nat} (t : ByteArray) (h : OutAt T H a c out) (hb : out.length + t.size ≤ 100000000) :
    ∃ a' c' H', aAppC T 1 1 ⟨0, fb⟩ H (.slice a out.length c) t.size (bytesL t) = some (.slice a' (out ++ bl t).length c', H') ∧ OutAt T H' a' c' (out ++ bl t) ∧ Keeps T H H' := by
  have := appc_ok (fb := fb) (l := bl t) h (by rw [bl_length]; exact hb)
  rw [bl_length] at this
  rw [bytesL_bv]; exact this
theorem OutAt.set {T : TypeId} {H : Heap} {a : Option Addr} {c : Nat} {out : List Nat} {i : Nat} {o : AObj} (x : AObj) (h : OutAt T H a c out) (hi : H[i]? = some o) (ho : ∀ cs b, o ≠ AObj.cells cs T b) : OutAt T (H.set i x) a c out := by
  rcases h with h | ⟨j, g1, g2, g3⟩
  · exact .inl h
  · refine .inr ⟨j, g1, g2, ?_⟩
    rw [hset_ne]
    · exact g3
    · rintro rfl; rw [hi] at g3; cases g3; exact ho _ _ rfl
theorem OutAt.app {T : TypeId} {H : Heap} {a : Option Addr} {c : Nat} {out : List Nat} (L : Heap) (h : OutAt T H a c out) : OutAt T (H ++ L) a c out := by
  rcases h with h | ⟨j, g1, g2, g3⟩
  · exact .inl h
  · exact .inr ⟨j, g1, g2, get_app g3 _⟩
end Ev
end Go.Proofs.Ytfbelnjchpffeaa
