/-
  A line is read as the one item that shows it.
-/
import Derived.Test.YtfbelnjchpffeaaI11
namespace Go.Proofs.Ytfbelnjchpffeaa
namespace Ev
open Tag (mk)
set_option linter.unusedSimpArgs false
set_option linter.unusedVariables false
theorem hv_hxc' (i : Nat) (h : i < 16) : hv (hxc i) = i ∧ hxc i ≠ 45 ∧ hxc i ≠ 40 ∧ hxc i ≠ 41 ∧ hxc i ≠ 32 := by
  refine ⟨hv_hxc i h, ?_⟩
  unfold hxc
  split <;> omega
theorem hxs_hx : ∀ (out rest : List Nat), (∀ b ∈ out, b < 256) → (rest = [] ∨ ∃ c r, rest = c :: r ∧ hv c < 0) → hxs (hx out ++ rest) = (out, rest)
  | [], rest, _, h => by
    rcases h with rfl | ⟨c, r, rfl, hc⟩
    · rfl
    · show hxs (c :: r) = _
      cases r with
      | nil => rfl
      | cons d r => rw [hxs, if_neg (fun h => by omega)]
  | b :: out, rest, hb, h => by
    have hb0 := hb b (List.mem_cons_self ..)
    have h1 := hv_hxc (b / 16) (by omega)
    have h2 := hv_hxc (b % 16) (by omega)
    have ih := hxs_hx out rest (fun x hx => hb x (List.mem_cons_of_mem _ hx)) h
    have : hx (b :: out) ++ rest = hxc (b / 16) :: hxc (b % 16) :: (hx out ++ rest) := by simp [hx]
    rw [this, hxs, if_pos ⟨by omega, by omega⟩, ih, h1, h2]
    have : (16 * ((b / 16 : Nat) : Int) + ((b % 16 : Nat) : Int)).toNat = b := by omega
    rw [this]
def Fol (rest : List Nat) : Prop := rest = [] ∨ ∃ r, rest = 32 :: r ∨ rest = 41 :: r
theorem Fol.hv {rest : List Nat} (h : Fol rest) : rest = [] ∨ ∃ c r, rest = c :: r ∧ Ev.hv c < 0 := by
  rcases h with h | ⟨r, h | h⟩
  · exact .inl h
  · exact .inr ⟨32, r, h, by decide⟩
  · exact .inr ⟨41, r, h, by decide⟩
theorem shw_head (t : Tr) (rest : List Nat) : ∃ c r, shw t ++ rest = c :: r ∧ c ≠ 41 ∧ c ≠ 32 := by
  obtain ⟨t, b, l⟩ := t
  unfold shw
  split
  · exact ⟨40, _, rfl, by decide, by decide⟩
  · split
    · exact ⟨45, _, rfl, by decide, by decide⟩
    · rename_i h
      cases hb : bl t with
      | nil => have := bl_length t; rw [hb] at this; simp at this; omega
      | cons b r =>
        have hb256 : b < 256 := bl_lt t b (by rw [hb]; simp)
        have := hv_hxc' (b / 16) (by omega)
        exact ⟨hxc (b / 16), _, by simp [hx]; rfl, this.2.2.2.1, this.2.2.2.2⟩
theorem prs_complete : ∀ (f : Nat), (∀ deep t rest, rt t = true → deep + dp t ≤ 17 → Fol rest → 2 * (shw t ++ rest).length + 2 ≤ f → prs f deep (shw t ++ rest) = some (t, rest)) ∧
    (∀ deep l acc rest, rts l = true → (l ≠ [] → deep + dps l ≤ 17) → 2 * (shws (decide (acc = [])) l ++ 41 :: rest).length + (if acc = [] then 3 else 1) ≤ f → lst f deep (shws (decide (acc = [])) l ++ 41 :: rest) acc = some (acc ++ l, rest)) := by
  intro f
  induction f with
  | zero => exact ⟨fun deep t rest _ _ _ h => by omega, fun deep l acc rest _ _ h => by split at h <;> omega⟩
  | succ f ih =>
    refine ⟨fun deep t rest h1 h2 h3 h4 => ?_, fun deep l acc rest h1 h2 h3 => ?_⟩
    · obtain ⟨t, b, l⟩ := t
      unfold rt at h1
      have hd : ¬ 16 < deep := by unfold dp at h2; omega
      cases b with
      | true =>
        simp only [Bool.true_and, Bool.not_true, Bool.false_and, Bool.or_false, Bool.and_eq_true, Bool.not_eq_true', decide_eq_false_iff_not, Decidable.not_not] at h1
        have ht : t = ⟨#[]⟩ := by have := str_empty t; rw [this]; exact h1.1
        subst ht
        have hs : shw (.mk ⟨#[]⟩ true l) ++ rest = 40 :: (shws true l ++ 41 :: rest) := by unfold shw; simp
        rw [hs] at h4 ⊢
        rw [prs_cons hd, if_neg (by decide), if_pos rfl]
        have := ih.2 (deep + 1) l [] rest h1.2 (fun hl => by
          unfold dp at h2; omega) (by simp only [decide_true, if_true]; simp only [List.length_cons] at h4; omega)
        simp only [decide_true] at this
        rw [this]; rfl
      | false =>
        simp only [Bool.false_and, Bool.not_false, Bool.true_and, Bool.false_or, Bool.and_eq_true, Bool.not_eq_true', decide_eq_false_iff_not, Decidable.not_not] at h1
        have hl : l = [] := List.eq_nil_of_length_eq_zero h1.1
        subst hl
        by_cases h0 : t.size = 0
        · have ht : t = ⟨#[]⟩ := by have := str_empty t; rw [this]; exact h0
          subst ht
          have hs : shw (.mk ⟨#[]⟩ false []) ++ rest = 45 :: rest := by unfold shw; rfl
          rw [hs, prs_cons hd, if_pos rfl]
        · have hs : shw (.mk t false []) = hx (bl t) := by unfold shw; simp only [Bool.false_eq_true, if_false, h0]
          rw [hs]
          have hx1 := hxs_hx (bl t) rest (bl_lt t) h3.hv
          cases hb : bl t with
          | nil => have := bl_length t; rw [hb] at this; simp at this; omega
          | cons b r =>
            have hb256 : b < 256 := bl_lt t b (by rw [hb]; simp)
            have hc := hv_hxc' (b / 16) (by omega)
            have hcons : hx (b :: r) ++ rest = hxc (b / 16) :: (hxc (b % 16) :: (hx r ++ rest)) := by simp [hx]
            rw [hb] at hx1
            rw [hcons, prs_cons hd, if_neg hc.2.1, if_neg hc.2.2.1, ← hcons, hx1, if_neg (by simp), ← hb, bs_bl]
    · cases l with
      | nil =>
        have : shws (decide (acc = [])) [] ++ 41 :: rest = 41 :: rest := by simp [shws]
        rw [this, lstA, List.append_nil]
      | cons x l =>
        have hdp := h2 (by simp)
        unfold dps at hdp
        unfold rts at h1
        simp only [Bool.and_eq_true] at h1
        have hfol : Fol (shws false l ++ 41 :: rest) := by
          cases l with
          | nil => exact .inr ⟨rest, .inr (by simp [shws])⟩
          | cons z l => exact .inr ⟨_, .inl (by unfold shws; simp; rfl)⟩
        have hpos : 0 < (shw x).length := List.length_pos_iff.2 (shw_ne x)
        by_cases hacc : acc = []
        · subst hacc
          have hs : shws (decide (([] : List Tr) = [])) (x :: l) ++ 41 :: rest = shw x ++ (shws false l ++ 41 :: rest) := by rw [shws]; simp
          rw [hs] at h3 ⊢
          simp only [if_true] at h3
          obtain ⟨c, r, hcr, hc1, hc2⟩ := shw_head x (shws false l ++ 41 :: rest)
          rw [lstB (by rw [hcr]; intro r' h; exact hc1 (by injection h)), ih.1 deep x _ h1.1 (by omega) hfol (by omega)]
          have := ih.2 deep l [x] rest h1.2 (fun _ => by omega) (by
            rw [if_neg (by simp)]; simp only [List.cons_ne_nil, decide_false]
            simp only [List.length_append] at h3 ⊢
            omega)
          simp only [List.cons_ne_nil, decide_false] at this
          exact this
        · have hs : shws (decide (acc = [])) (x :: l) ++ 41 :: rest = 32 :: (shw x ++ (shws false l ++ 41 :: rest)) := by rw [shws]; simp [hacc]
          rw [hs] at h3 ⊢
          rw [if_neg hacc] at h3
          simp only [List.length_cons] at h3
          rw [lstC hacc, ih.1 deep x _ h1.1 (by omega) hfol (by omega)]
          have hne : acc ++ [x] ≠ [] := by simp
          have := ih.2 deep l (acc ++ [x]) rest h1.2 (fun _ => by omega) (by
            rw [if_neg hne, decide_eq_false hne]
            simp only [List.length_append] at h3 ⊢
            omega)
          rw [decide_eq_false hne] at this
          simp only
          rw [this]; simp
/-- Its line. -/
def RdOK (s : ByteArray) (t : Tr) : Prop := may t = true ∧ shw t = bl s
theorem may_iff (t : Tr) : may t = true ↔ rt t = true ∧ dp t ≤ 16 ∧ sz t ≤ 1024 := by
  unfold may; simp only [Bool.and_eq_true, decide_eq_true_eq, and_assoc]
theorem prs_ok (s : ByteArray) (t : Tr) : prs (2 * s.size + 2) 1 (bl s) = some (t, []) ↔ rt t = true ∧ dp t ≤ 16 ∧ shw t = bl s := by
  constructor
  · intro h
    obtain ⟨h1, h2, h3⟩ := (prs_sound _).1 _ _ _ _ h
    exact ⟨h2, by omega, by rw [h1, List.append_nil]⟩
  · rintro ⟨h1, h2, h3⟩
    have := (prs_complete (2 * s.size + 2)).1 1 t [] h1 (by omega) (.inl rfl) (by rw [List.append_nil, h3, bl_length]; exact Nat.le_refl _)
    rw [List.append_nil, h3] at this
    exact this
theorem shw_inj {s : ByteArray} {t t' : Tr} (h : RdOK s t) (h' : RdOK s t') : t = t' := by
  have h1 := (may_iff t).1 h.1
  have h2 := (may_iff t').1 h'.1
  have a := (prs_ok s t).2 ⟨h1.1, h1.2.1, h.2⟩
  have b := (prs_ok s t').2 ⟨h2.1, h2.2.1, h'.2⟩
  rw [a] at b
  cases b; rfl
mutual
theorem sz_shw : ∀ t : Tr, rt t = true → sz t ≤ (shw t).length ∧ byt t ≤ (shw t).length
  | .mk t b l, h => by
    have hh := szs_shw true l
    have hb := bl_length t
    unfold rt at h
    unfold sz byt shw
    simp only [Bool.and_eq_true] at h
    have hh := hh h.2
    have h1 := h.1
    cases b with
    | true =>
      simp only [Bool.true_and, Bool.not_true, Bool.false_and, Bool.or_false, Bool.not_eq_true', decide_eq_false_iff_not, Decidable.not_not] at h1
      simp only [if_true, List.length_append, List.length_cons, List.length_nil]; omega
    | false =>
      simp only [Bool.false_and, Bool.not_false, Bool.true_and, Bool.false_or, Bool.not_eq_true', decide_eq_false_iff_not, Decidable.not_not] at h1
      have hl : l = [] := List.eq_nil_of_length_eq_zero h1
      subst hl
      simp only [Bool.false_eq_true, if_false, szs, byts]
      split
      · simp only [List.length_cons, List.length_nil]; omega
      · rw [hx_len, hb]; omega
theorem szs_shw : ∀ (f : Bool) (l : List Tr), rts l = true → szs l ≤ (shws f l).length ∧ byts l ≤ (shws f l).length
  | _, [], _ => by simp [szs, byts]
  | f, t :: l, h => by
    unfold rts at h
    simp only [Bool.and_eq_true] at h
    have h1 := sz_shw t h.1
    have h2 := szs_shw false l h.2
    unfold szs byts shws
    simp only [List.length_append]; omega
end
end Ev
end Go.Proofs.Ytfbelnjchpffeaa
