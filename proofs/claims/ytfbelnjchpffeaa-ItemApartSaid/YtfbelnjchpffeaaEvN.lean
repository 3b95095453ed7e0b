/-
  Regions whose order is open.
-/
import Derived.Test.YtfbelnjchpffeaaEvM
namespace Go.Proofs.Ytfbelnjchpffeaa
namespace Ev
open Go.RowKit (Below)

/-! ## What must come ahead of what -/
def maskOf (acc : Array Nat) (o : Oper) : Nat := o.after.foldl (fun s e => if Region.binds .any e then s ||| 2 ^ e.on ||| acc.getD e.on 0 else s) 0

theorem mask_bit (acc : Array Nat) (j : Nat) : ∀ (l : List Edge) (s : Nat), (l.foldl (fun s e => if Region.binds .any e then s ||| 2 ^ e.on ||| acc.getD e.on 0 else s) s).testBit j = true →
    s.testBit j = true ∨ ∃ e ∈ l, Region.binds .any e = true ∧ (e.on = j ∨ (acc.getD e.on 0).testBit j = true)
  | [], s, h => .inl h
  | e :: l, s, h => by
    simp only [List.foldl_cons] at h
    rcases mask_bit acc j l _ h with h1 | ⟨e', he', h1⟩
    · split at h1
      · rename_i hb
        rw [Nat.testBit_or, Nat.testBit_or, Bool.or_eq_true, Bool.or_eq_true] at h1
        rcases h1 with (h1 | h1) | h1
        · exact .inl h1
        · rw [Nat.testBit_two_pow] at h1
          exact .inr ⟨e, by simp, hb, .inl (by simpa using h1)⟩
        · exact .inr ⟨e, by simp, hb, .inr h1⟩
      · exact .inl h1
    · exact .inr ⟨e', by simp [he'], h1⟩

theorem before_inv : ∀ (l : List Oper) (acc : Array Nat) (p : List Oper), acc.size = p.length →
    (∀ i j o, p[i]? = some o → (acc.getD i 0).testBit j = true → ∃ e ∈ o.after.toList, Region.binds .any e = true ∧ (e.on = j ∨ (e.on < i ∧ (acc.getD e.on 0).testBit j = true))) →
    ∀ i j o, (p ++ l)[i]? = some o → ((l.foldl (fun acc o => acc.push (maskOf acc o)) acc).getD i 0).testBit j = true →
      ∃ e ∈ o.after.toList, Region.binds .any e = true ∧ (e.on = j ∨ (e.on < i ∧ ((l.foldl (fun acc o => acc.push (maskOf acc o)) acc).getD e.on 0).testBit j = true))
  | [], acc, p, _, h, i, j, o, ho, hb => h i j o (by simpa using ho) hb
  | x :: l, acc, p, hs, h, i, j, o, ho, hb => by
    refine before_inv l (acc.push (maskOf acc x)) (p ++ [x]) (by simp [hs]) ?_ i j o (by simpa using ho) hb
    intro i j o ho hb
    have hget : ∀ k, k < acc.size → (acc.push (maskOf acc x)).getD k 0 = acc.getD k 0 := by
      intro k hk
      simp [Array.getD_eq_getD_getElem?, Array.getElem?_push, Nat.ne_of_lt hk]
    rw [List.getElem?_append] at ho
    split at ho
    · rename_i hi
      rw [hget i (by omega)] at hb
      obtain ⟨e, he, h1, h2⟩ := h i j o ho hb
      refine ⟨e, he, h1, h2.imp id fun ⟨h3, h4⟩ => ⟨h3, ?_⟩⟩
      rw [hget e.on (by omega)]; exact h4
    · rename_i hi
      have hi' : i = p.length := by
        rcases Nat.eq_zero_or_pos (i - p.length) with h' | h'
        · omega
        · rw [List.getElem?_eq_none (by simp; omega)] at ho; cases ho
      subst hi'
      simp at ho
      subst ho
      have : (acc.push (maskOf acc x)).getD p.length 0 = maskOf acc x := by
        rw [← hs]; simp [Array.getD_eq_getD_getElem?]
      rw [this] at hb
      unfold maskOf at hb
      rw [← Array.foldl_toList] at hb
      rcases mask_bit acc j _ _ hb with h1 | ⟨e, he, h1, h2⟩
      · simp at h1
      · refine ⟨e, he, h1, h2.imp id fun h3 => ?_⟩
        have hlt : e.on < acc.size := by
          rcases Nat.lt_or_ge e.on acc.size with h | h
          · exact h
          · rw [Array.getD_eq_getD_getElem?, Array.getElem?_eq_none h] at h3; simp at h3
        exact ⟨by omega, by rw [hget e.on hlt]; exact h3⟩

theorem before_spec {ops : Array Oper} {i j : Nat} {o : Oper} (ho : ops[i]? = some o) (hb : bitOf (Region.before ops) i j = true) :
    ∃ e ∈ o.after.toList, Region.binds .any e = true ∧ (e.on = j ∨ (e.on < i ∧ bitOf (Region.before ops) e.on j = true)) := by
  have hd : Region.before ops = ops.toList.foldl (fun acc o => acc.push (maskOf acc o)) #[] := by
    unfold Region.before
    rw [← Array.foldl_toList]
    rfl
  unfold bitOf at hb ⊢
  rw [hd] at hb ⊢
  exact before_inv ops.toList #[] [] rfl (by simp) i j o (by simpa using ho) hb

/-- The operations that have come up: with each, all that must come ahead of it. -/
def Closed (ops : Array Oper) (listed : Array Bool) : Prop := ∀ (i : Nat) (o : Oper), ops[i]? = some o → listed.getD i false = true → ∀ e ∈ o.after.toList, Region.binds .any e = true → listed.getD e.on false = true

theorem bit_listed {ops : Array Oper} {listed : Array Bool} (hc : Closed ops listed) : ∀ (i : Nat) (o : Oper), ops[i]? = some o → (∀ e ∈ o.after.toList, Region.binds .any e = true → listed.getD e.on false = true) →
    ∀ j, bitOf (Region.before ops) i j = true → listed.getD j false = true := by
  intro i
  induction i using Nat.strongRecOn with
  | _ i ih =>
    intro o ho he j hb
    obtain ⟨e, hm, h1, h2⟩ := before_spec ho hb
    rcases h2 with rfl | ⟨hlt, h3⟩
    · exact he e hm h1
    · have hle := he e hm h1
      cases hq : ops[e.on]? with
      | none =>
        exfalso
        have : e.on < i := hlt
        have hi := (Array.getElem?_eq_some_iff.1 ho).1
        rw [Array.getElem?_eq_getElem (by omega)] at hq
        cases hq
      | some o' => exact ih e.on hlt o' hq (hc e.on o' hq hle) j h3

theorem ready_spec {ops : Array Oper} {listed : Array Bool} {i : Nat} : i ∈ Region.ready .any ops listed ↔
    i < ops.size ∧ listed.getD i true = false ∧ ∃ o, ops[i]? = some o ∧ ∀ e ∈ o.after.toList, Region.binds .any e = true → listed.getD e.on false = true := by
  unfold Region.ready
  simp only [List.mem_filter, List.mem_range, Bool.and_eq_true, Bool.not_eq_true']
  constructor
  · rintro ⟨h1, h2, h3⟩
    refine ⟨h1, h2, ops[i], by simp [h1], ?_⟩
    rw [Array.getElem?_eq_getElem h1] at h3
    simp only [Option.map_some, Option.getD_some, Array.all_eq_true'] at h3
    intro e he hb
    have := h3 e (by simpa using he)
    simpa [hb] using this
  · rintro ⟨h1, h2, o, ho, h3⟩
    refine ⟨h1, h2, ?_⟩
    rw [ho]
    simp only [Option.map_some, Option.getD_some, Array.all_eq_true']
    intro e he
    cases hb : Region.binds .any e with
    | false => rfl
    | true => simp [h3 e (by simpa using he) hb]

section
variable {C : Cf} {B N : Nat} {m : Mode} {ρ : Emb} {H : Heap} {w : World} {e : Env} {a : Act} {call : CallF}

theorem getD_listed {listed : Array Bool} {i : Nat} (h : i < listed.size) : listed.getD i true = listed.getD i false := by
  simp [h, Array.getD_eq_getD_getElem?]

theorem getD_set {listed : Array Bool} {i j : Nat} (h : i < listed.size) : (listed.setIfInBounds i true).getD j false = if j = i then true else listed.getD j false := by
  by_cases hj : j = i
  · subst hj; rw [if_pos rfl]; simp [h, Array.getD_eq_getD_getElem?]
  · rw [if_neg hj]; simp [Array.getD_eq_getD_getElem?, Array.getElem?_setIfInBounds_ne (Ne.symm hj)]

/-! ## The operations in any order -/
theorem adraw_env : ∀ (l : List AOper) {e e' : Env}, adraw C call l e H = some e' → ∀ d, (∀ o ∈ l, o.dst ≠ some d) → e' d = e d
  | [], e, e', h, d, _ => by cases h; rfl
  | o :: l, e, e', h, d, hd => by
    have hput : ∀ v, (e.put o.dst v) d = e d := by
      intro v
      have := hd o (by simp)
      cases hq : o.dst with
      | none => rfl
      | some x =>
        rw [hq] at this
        simp only [Env.put, Env.set]
        rw [if_neg (fun h => this (by rw [h]))]
    simp only [adraw] at h
    split at h
    · simp only [Option.bind_eq_some_iff] at h
      obtain ⟨⟨v, H'⟩, _, h⟩ := h
      split at h
      · rw [adraw_env l h d (fun o ho => hd o (by simp [ho])), hput]
      · cases h
    · rw [adraw_env l h d (fun o ho => hd o (by simp [ho])), hput]

/-- What stands in the i-th operation's variable at the end, and in which variables it was done. -/
theorem adraw_at : ∀ (l : List AOper) (i : Nat) (o : AOper) {e e' : Env}, l[i]? = some o → adraw C call l e H = some e' →
    ∃ ei v, (if awanted ei o.g then ∃ H', astep C call ⟨H.length, H.length⟩ ei H o.op = some (v, H') ∧ H'.length = H.length else v = undef) ∧
      (∀ d, (∀ j p, j < i → l[j]? = some p → p.dst ≠ some d) → ei d = e d) ∧
      (∀ d, (∀ j p, i ≤ j → l[j]? = some p → p.dst ≠ some d) → ei d = e' d) ∧
      (∀ d, o.dst = some d → (∀ j p, i < j → l[j]? = some p → p.dst ≠ some d) → e' d = v)
  | [], i, o, e, e', h, _ => by simp at h
  | x :: l, 0, o, e, e', h, ha => by
    simp only [List.getElem?_cons_zero, Option.some.injEq] at h
    subst h
    have rest : ∀ v, adraw C call l (e.put x.dst v) H = some e' → (∀ d, (∀ j p, 0 ≤ j → (x :: l)[j]? = some p → p.dst ≠ some d) → e d = e' d) ∧
        (∀ d, x.dst = some d → (∀ j p, 0 < j → (x :: l)[j]? = some p → p.dst ≠ some d) → e' d = v) := by
      intro v hv
      refine ⟨fun d hd => ?_, fun d hx hd => ?_⟩
      · rw [adraw_env l hv d (fun o ho => ?_)]
        · have := hd 0 x (Nat.le_refl _) rfl
          cases hq : x.dst with
          | none => rfl
          | some y =>
            rw [hq] at this
            simp only [Env.put, Env.set]
            rw [if_neg (fun h => this (by rw [h]))]
        · obtain ⟨k, hk⟩ := List.mem_iff_getElem?.1 ho
          exact hd (k + 1) o (by omega) (by simpa using hk)
      · rw [adraw_env l hv d (fun o ho => ?_)]
        · rw [hx]; simp [Env.put, Env.set]
        · obtain ⟨k, hk⟩ := List.mem_iff_getElem?.1 ho
          exact hd (k + 1) o (by omega) (by simpa using hk)
    simp only [adraw] at ha
    split at ha
    · rename_i hw
      simp only [Option.bind_eq_some_iff] at ha
      obtain ⟨⟨v, H'⟩, h1, h2⟩ := ha
      split at h2
      · rename_i hlen
        exact ⟨e, v, by rw [if_pos hw]; exact ⟨H', h1, hlen⟩, fun d _ => rfl, (rest v h2).1, (rest v h2).2⟩
      · cases h2
    · rename_i hw
      exact ⟨e, undef, by rw [if_neg hw], fun d _ => rfl, (rest undef ha).1, (rest undef ha).2⟩
  | x :: l, i + 1, o, e, e', h, ha => by
    simp only [List.getElem?_cons_succ] at h
    have step : ∀ v, adraw C call l (e.put x.dst v) H = some e' → ∃ ei v, (if awanted ei o.g then ∃ H', astep C call ⟨H.length, H.length⟩ ei H o.op = some (v, H') ∧ H'.length = H.length else v = undef) ∧
      (∀ d, (∀ j p, j < i + 1 → (x :: l)[j]? = some p → p.dst ≠ some d) → ei d = e d) ∧
      (∀ d, (∀ j p, i + 1 ≤ j → (x :: l)[j]? = some p → p.dst ≠ some d) → ei d = e' d) ∧
      (∀ d, o.dst = some d → (∀ j p, i + 1 < j → (x :: l)[j]? = some p → p.dst ≠ some d) → e' d = v) := by
      intro v hv
      obtain ⟨ei, u, h1, h2, h3, h4⟩ := adraw_at l i o h hv
      refine ⟨ei, u, h1, fun d hd => ?_, fun d hd => h3 d fun j p hj hp => hd (j + 1) p (by omega) (by simpa using hp), fun d ho hd => h4 d ho fun j p hj hp => hd (j + 1) p (by omega) (by simpa using hp)⟩
      rw [h2 d fun j p hj hp => hd (j + 1) p (by omega) (by simpa using hp)]
      have := hd 0 x (by omega) rfl
      cases hq : x.dst with
      | none => rfl
      | some y =>
        rw [hq] at this
        simp only [Env.put, Env.set]
        rw [if_neg (fun h => this (by rw [h]))]
    simp only [adraw] at ha
    split at ha
    · simp only [Option.bind_eq_some_iff] at ha
      obtain ⟨⟨v, H'⟩, h1, h2⟩ := ha
      split at h2
      · exact step v h2
      · cases h2
    · exact step undef ha

end
end Ev
end Go.Proofs.Ytfbelnjchpffeaa
