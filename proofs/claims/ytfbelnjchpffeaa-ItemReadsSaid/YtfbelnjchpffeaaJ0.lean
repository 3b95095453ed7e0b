/-
  What a line is read as has that line; and a line is read as what it shows.
-/
import Derived.Test.YtfbelnjchpffeaaI8
namespace Go.Proofs.Ytfbelnjchpffeaa
namespace Ev
open Tag (mk)
set_option linter.unusedSimpArgs false
set_option linter.unusedVariables false
theorem bl_bs256 (l : List Nat) (h : ∀ b ∈ l, b < 256) : bl (bs l) = l := bl_bs l h
theorem hxs_sound : ∀ (n : Nat) (s : List Nat), s.length ≤ n → (∀ b ∈ (hxs s).1, b < 256) ∧ s = hx (hxs s).1 ++ (hxs s).2
  | 0, [], _ => ⟨fun b hb => by simp [hxs] at hb, rfl⟩
  | n + 1, [], _ => ⟨fun b hb => by simp [hxs] at hb, rfl⟩
  | n + 1, [a], _ => ⟨fun b hb => by simp [hxs] at hb, rfl⟩
  | n + 1, a :: b :: r, hl => by
    unfold hxs
    split
    · rename_i h
      obtain ⟨h1, h2⟩ := hxs_sound n r (by simp only [List.length_cons] at hl; omega)
      obtain ⟨a1, a2⟩ := hxc_hv a h.1
      obtain ⟨b1, b2⟩ := hxc_hv b h.2
      obtain ⟨A, hA⟩ : ∃ A : Nat, hv a = A := ⟨(hv a).toNat, by omega⟩
      obtain ⟨B, hB⟩ : ∃ B : Nat, hv b = B := ⟨(hv b).toNat, by omega⟩
      rw [hA] at a1 a2 ⊢; rw [hB] at b1 b2 ⊢
      simp only [Int.toNat_natCast] at a1 b1
      refine ⟨fun x hx => ?_, ?_⟩
      · rcases List.mem_cons.1 hx with rfl | hx
        · omega
        · exact h1 x hx
      · have e : (16 * (A : Int) + B).toNat = 16 * A + B := by omega
        simp only [e]
        have : hx ((16 * A + B) :: (hxs r).1) = a :: b :: hx (hxs r).1 := by
          simp only [hx, List.flatMap_cons]
          rw [show (16 * A + B) / 16 = A by omega, show (16 * A + B) % 16 = B by omega, a1, b1]; rfl
        rw [this]
        simp only [List.cons_append]
        rw [← h2]
    · exact ⟨fun b hb => by simp at hb, rfl⟩
theorem shw_text (out : List Nat) (h : ∀ b ∈ out, b < 256) (h0 : out ≠ []) : shw (.mk (bs out) false []) = hx out := by
  unfold shw
  simp only [Bool.false_eq_true, if_false]
  rw [if_neg (by rw [bs_size]; intro h; exact h0 (List.eq_nil_of_length_eq_zero h)), bl_bs256 out h]
theorem prs_sound : ∀ (f : Nat), (∀ deep s t rest, prs f deep s = some (t, rest) → s = shw t ++ rest ∧ rt t = true ∧ deep + dp t ≤ 17) ∧
    (∀ deep s acc l rest, lst f deep s acc = some (l, rest) → ∃ l', l = acc ++ l' ∧ s = shws (decide (acc = [])) l' ++ [41] ++ rest ∧ rts l' = true ∧ (l' ≠ [] → deep + dps l' ≤ 17)) := by
  intro f
  induction f with
  | zero => exact ⟨fun deep s t rest h => by simp [prs] at h, fun deep s acc l rest h => by simp [lst] at h⟩
  | succ f ih =>
    refine ⟨fun deep s t rest h => ?_, fun deep s acc l rest h => ?_⟩
    · by_cases hd : 16 < deep
      · rw [prs_deep hd] at h; cases h
      · cases s with
        | nil => rw [prs_nil] at h; cases h
        | cons c r =>
          rw [prs_cons hd] at h
          split at h
          · rename_i hc
            subst hc
            cases h
            refine ⟨by unfold shw; rfl, by unfold rt; simp [rts], by unfold dp; simp [dps]; omega⟩
          · split at h
            · rename_i _ hc
              subst hc
              obtain ⟨p, hp, hq⟩ := Option.map_eq_some_iff.1 h
              obtain ⟨l, rest'⟩ := p
              cases hq
              obtain ⟨l', hl', h1, h2, h3⟩ := ih.2 _ _ _ _ _ hp
              rw [List.nil_append] at hl'
              subst hl'
              refine ⟨?_, ?_, ?_⟩
              · unfold shw; simp only [if_true]
                rw [h1]; simp
              · unfold rt; rw [h2]; rfl
              · unfold dp
                by_cases hl : l = []
                · subst hl; simp [dps]; omega
                · have := h3 hl; simp only; omega
            · split at h
              · cases h
              · rename_i _ _ h0
                cases h
                obtain ⟨h1, h2⟩ := hxs_sound _ (c :: r) (Nat.le_refl _)
                refine ⟨?_, by unfold rt; simp [rts], by unfold dp; simp [dps]; omega⟩
                rw [shw_text _ h1 h0]; exact h2
    · cases s with
      | nil => rw [lst_nil] at h; cases h
      | cons c r =>
        rw [lst_cons] at h
        split at h
        · rename_i hc
          subst hc
          cases h
          exact ⟨[], by simp, by simp [shws], by simp [rts], fun h => absurd rfl h⟩
        · rename_i hc
          split at h
          · cases h
          · rename_i hs
            split at h
            · cases h
            · rename_i y rest' hy
              obtain ⟨a1, a2, a3⟩ := ih.1 _ _ _ _ hy
              obtain ⟨l', rfl, b1, b2, b3⟩ := ih.2 _ _ _ _ _ h
              have hne : decide (acc ++ [y] = []) = false := by simp
              rw [hne] at b1
              refine ⟨y :: l', by simp, ?_, by unfold rts; rw [a2, b2]; rfl, fun _ => ?_⟩
              · unfold shws
                by_cases hacc : acc = []
                · subst hacc
                  simp only [if_true, decide_true] at a1 ⊢
                  rw [a1, b1]; simp
                · have h32 : c = 32 := by
                    rcases Nat.lt_trichotomy c 32 with h | h | h
                    · exact absurd ⟨hacc, by omega⟩ hs
                    · exact h
                    · exact absurd ⟨hacc, by omega⟩ hs
                  subst h32
                  simp only [hacc, if_false, decide_false, Bool.false_eq_true] at a1 ⊢
                  rw [a1, b1]; simp
              · unfold dps
                by_cases hl : l' = []
                · subst hl; simp [dps]; omega
                · have := b3 hl; omega
theorem shw_ne (t : Tr) : shw t ≠ [] := by
  cases t with
  | mk t b l =>
    unfold shw
    split
    · simp
    · split
      · simp
      · rename_i h
        intro h0
        have := congrArg List.length h0
        rw [hx_len, bl_length] at this
        simp at this; omega
theorem prs_rest {f deep : Nat} {s : ByteArray} {i : Nat} {t : Tr} {rest : List Nat} (hi : i ≤ s.size) (h : prs f deep ((bl s).drop i) = some (t, rest)) : i < s.size - rest.length ∧ rest.length ≤ s.size ∧ rest = (bl s).drop (s.size - rest.length) := by
  obtain ⟨h1, _, _⟩ := (prs_sound f).1 _ _ _ _ h
  have h2 := congrArg List.length h1
  rw [List.length_drop, bl_length, List.length_append] at h2
  have h3 : 0 < (shw t).length := List.length_pos_iff.2 (shw_ne t)
  refine ⟨by omega, by omega, ?_⟩
  have h4 : rest = ((bl s).drop i).drop (shw t).length := by rw [h1, List.drop_append_of_le_length (Nat.le_refl _)]; simp
  rw [List.drop_drop] at h4
  rw [show s.size - rest.length = i + (shw t).length by omega]
  exact h4
end Ev
end Go.Proofs.Ytfbelnjchpffeaa
