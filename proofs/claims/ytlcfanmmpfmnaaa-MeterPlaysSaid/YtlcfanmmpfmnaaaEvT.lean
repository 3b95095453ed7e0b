/-
  More rules for rewriting: calls that are walked where they stand, stores, heaps that grow; one table of functions for a seat.
-/
import Derived.Test.YtlcfanmmpfmnaaaEvS
namespace Go.Proofs.Ytlcfanmmpfmnaaa
namespace Ev
open Tag (mk)
set_option linter.unusedSimpArgs false
set_option linter.unusedVariables false
section
variable {C : Cf} {call : CallF} {N : Nat} {m : Mode} {e : Env} {H : Heap}

/-- A call that is walked where it stands. -/
def FnK (C : Cf) (k : Nat) (m : Mode) (args : List Value) (H : Heap) (R : Value → Heap → Prop) (_ : Tag (C, k, m, args, H, R)) (o : Option AFn) : Prop :=
  match o with
  | some F => args.length ≤ F.n ∧ WpC C (acall C k) k m F.body (env0 args) H (fun x e' H' => EndK (ResK H' R mk (aresults e' H' F.res)) mk x) mk
  | none => False
theorem FnK_some (k : Nat) (args : List Value) (R : Value → Heap → Prop) (t : Tag (C, k, m, args, H, R)) (n : Nat) (res : List ARes) (body : ACode) :
    FnK C k m args H R t (some ⟨n, res, body⟩) = Need (WpC C (acall C k) k m body (env0 args) H (fun x e' H' => EndK (ResK H' R mk (aresults e' H' res)) mk x) mk) mk (args.length ≤ n) := by
  simp only [FnK, Need]
unseal ResK in
theorem ResK_none (H : Heap) (R : Value → Heap → Prop) (t : Tag (H, R)) : ResK H R t none = False := (rfl)
theorem Run_acall (k f : Nat) (args : List Value) (R : Value → Heap → Prop) (t : Tag R) : Run R t (acall C (k + 1) f args H m) = FnK C k m args H R mk (C.fn f) := by
  cases hf : C.fn f with
  | none => simp [acall, hf, Run, FnK]
  | some F =>
    simp only [acall, hf, Option.bind_some, FnK]
    by_cases ha : args.length ≤ F.n
    · rw [if_pos ha]
      unfold WpC
      split
      · rename_i x e' H' heq
        rw [heq]
        cases x with
        | exit i => simp [Run, EndK]
        | normal =>
          simp only [EndK_normal, EndK_ret, Option.bind_some]
          cases aresults e' H' F.res <;> simp [Run, ResK_some, ResK_none, ha]
        | ret =>
          simp only [EndK_normal, EndK_ret, Option.bind_some]
          cases aresults e' H' F.res <;> simp [Run, ResK_some, ResK_none, ha]
      · rename_i heq; rw [heq]; simp [Run]
    · rw [if_neg ha]; simp [Run, ha]

unseal Run in
theorem Run_bind (r : Option (Value × Heap)) (f : Value × Heap → Option (Value × Heap)) (K : Value → Heap → Prop) (t : Tag K) : Run K t (r.bind f) = Run (fun v H' => Run K mk (f (v, H'))) mk r := by
  cases r with
  | none => simp [Run]
  | some p => rfl

/-! ## Heaps -/
theorem aStore_eq (m : Mode) (n : Nat) (H : Heap) (x : Value) (i off : Nat) {cs : List Value} {T : TypeId} (h : H[i]? = some (.cells cs T true)) : aStore m n H x (.pointer (some ⟨i, off, none⟩)) =
      if m.lim ≤ i ∧ x.cells.size = n ∧ off + n ≤ cs.length ∧ x.cells.toList.all oneC = true ∧ (i < m.fb → x.cells.toList.all flat = true) then
        some (H.set i (.cells (setL cs off x.cells.toList) T true))
      else none := by simp only [aStore, h]
theorem hset_self {H : Heap} {i : Nat} (h : i < H.length) (o : AObj) : (H.set i o)[i]? = some o := by simp [h]
theorem hset_ne {H : Heap} {i j : Nat} (h : i ≠ j) (o : AObj) : (H.set i o)[j]? = H[j]? := by simp [h]
theorem happ_l {H L : Heap} {i : Nat} (h : i < H.length) : (H ++ L)[i]? = H[i]? := List.getElem?_append_left h
theorem happ_ge {H L : Heap} {i : Nat} (h : H.length ≤ i) : (H ++ L)[i]? = L[i - H.length]? := List.getElem?_append_right h
theorem happ_set_ge {H L : Heap} {i : Nat} (h : H.length ≤ i) (o : AObj) : (H ++ L).set i o = H ++ L.set (i - H.length) o := List.set_append_right _ _ h
theorem happ_r {H L : Heap} (k : Nat) : (H ++ L)[H.length + k]? = L[k]? := by rw [List.getElem?_append_right (by omega)]; congr 1; omega
theorem happ_0 {H L : Heap} : (H ++ L)[H.length]? = L[0]? := by rw [List.getElem?_append_right (by omega)]; congr 1; omega
theorem happ_set_l {H L : Heap} {i : Nat} (h : i < H.length) (o : AObj) : (H ++ L).set i o = H.set i o ++ L := List.set_append_left _ _ h
theorem happ_set_r {H L : Heap} (k : Nat) (o : AObj) : (H ++ L).set (H.length + k) o = H ++ L.set k o := by rw [List.set_append_right _ _ (by omega)]; congr 2; omega
theorem happ_set_0 {H L : Heap} (o : AObj) : (H ++ L).set H.length o = H ++ L.set 0 o := by rw [List.set_append_right _ _ (by omega)]; congr 2; omega
theorem hset_set (H : Heap) (i : Nat) (a b : AObj) : (H.set i a).set i b = H.set i b := List.set_set ..
theorem hset_same {H : Heap} {i : Nat} {o : AObj} (h : H[i]? = some o) : H.set i o = H := by
  apply List.ext_getElem?
  intro j
  by_cases hj : i = j
  · subst hj; rw [hset_self (lt_of_get h), h]
  · rw [hset_ne hj]
theorem htake_app (H L : Heap) : (H ++ L).take H.length = H := List.take_left' rfl
theorem htake_set (H L : Heap) (i : Nat) (o : AObj) : (H.set i o ++ L).take H.length = H.set i o := List.take_left' (by simp)
theorem htake_set2 (H L : Heap) (i j : Nat) (o p : AObj) : ((H.set i o).set j p ++ L).take H.length = (H.set i o).set j p := List.take_left' (by simp)
theorem htake_ge {A L : Heap} {n : Nat} (h : A.length ≤ n) : (A ++ L).take n = A ++ L.take (n - A.length) := by rw [List.take_append, List.take_of_length_le h]
theorem htake_self (H : Heap) : List.take H.length H = H := List.take_length
theorem htake_set' (H : Heap) (i : Nat) (o : AObj) : (H.set i o).take H.length = H.set i o := List.take_of_length_le (by simp)
theorem hlen_set (H : Heap) (i : Nat) (o : AObj) : (H.set i o).length = H.length := List.length_set
theorem happ_assoc (A B D : Heap) : A ++ B ++ D = A ++ (B ++ D) := List.append_assoc ..

/-! ## One table of functions -/
theorem tab_cons (a : Nat) (F : AFn) (l : List (Nat × AFn)) (f : FuncId) : tab ((a, F) :: l) f = if (a == f) = true then some F else tab l f := by
  simp only [tab, List.find?]
  cases (a == f) <;> rfl
theorem xtab_cons (a : Nat) (g : List Value → Option Value) (l : List (Nat × (List Value → Option Value))) (f : FuncId) : xtab ((a, g) :: l) f = if (a == f) = true then some g else xtab l f := by
  simp only [xtab, List.find?]
  cases (a == f) <;> rfl
def polt (l : List (Nat × Pol)) : FuncId → Pol := fun f => ((l.find? (fun p => p.1 == f)).map (·.2)).getD .gen
theorem polt_cons (a : Nat) (g : Pol) (l : List (Nat × Pol)) (f : FuncId) : polt ((a, g) :: l) f = if (a == f) = true then g else polt l f := by
  simp only [polt, List.find?]
  cases (a == f) <;> rfl
theorem polt_nil (f : FuncId) : polt [] f = .gen := rfl
theorem al_no {x : List (Nat × (List Value → Option Value))} {pol : FuncId → Pol} : ∀ k : FuncId, ([] : List Nat).contains k = true → (∃ g, xtab x k = some g) ∨ (xtab x k = none ∧ (pol k = .al ∨ pol k = .ro)) := fun k h => by simp at h
theorem xtab_nil (f : FuncId) : xtab [] f = none := rfl

end
theorem Run_and {r : Option (Value × Heap)} {v : Value} {H : Heap} (h : Run (fun v' H' => v' = v ∧ H' = H) mk r) : r = some (v, H) := by
  unfold Run at h
  split at h
  · obtain ⟨rfl, rfl⟩ := h; rfl
  · exact h.elim
theorem Run_exi {v : Value} {f : Heap → Heap} {r : Option (Value × Heap)} (h : Run (fun v' H' => v' = v ∧ ∃ J, H' = f J) mk r) : ∃ J, r = some (v, f J) := by
  unfold Run at h
  split at h
  · obtain ⟨rfl, J, rfl⟩ := h; exact ⟨J, rfl⟩
  · exact h.elim
/-- A run's answer alone. -/
def Ans (r : Option (Value × Heap)) (v : Value) : Prop := r.map (·.1) = some v
unseal Run in
theorem Ans.run {r : Option (Value × Heap)} {v : Value} (h : Ans r v) : Run (fun v' _ => v' = v) mk r := by
  unfold Ans at h
  cases r with
  | none => cases h
  | some p => show p.1 = v; simpa using h
end Ev
end Go.Proofs.Ytlcfanmmpfmnaaa
