/-
  Cuts, numbers of things, and the operations that make or write memory.
-/
import Derived.Test.YtfbelnjchpffeaaEvE
namespace Go.Proofs.Ytfbelnjchpffeaa
namespace Ev

/-! ## Lists that are written -/
theorem setL_length {α : Type} : ∀ (l : List α) (cs : List α) (o : Nat), (setL cs o l).length = cs.length
  | [], _, _ => rfl
  | v :: l, cs, o => by simp [setL, setL_length l]

theorem VRs.setL {ρ : Emb} {l l' : List Value} (h : VRs ρ l l') : ∀ {a a' : List Value} (o : Nat), VRs ρ a a' → VRs ρ (Ev.setL a o l) (Ev.setL a' o l') := by
  induction h with
  | nil => intro a a' o k; exact k
  | cons h _ ih => intro a a' o k; exact ih (o + 1) (k.set o h)

theorem drop_set {α : Type} (l : List α) (b o : Nat) (v : α) : (l.set (b + o) v).drop b = (l.drop b).set o v := by
  apply List.ext_getElem?
  intro j
  simp only [List.getElem?_drop, List.getElem?_set, List.length_drop]
  by_cases h : o = j
  · subst h
    simp only [if_true]
    by_cases hl : b + o < l.length
    · rw [if_pos hl, if_pos (by omega)]
    · rw [if_neg hl, if_neg (by omega)]
  · rw [if_neg (by omega), if_neg h]

theorem window_setL {α : Type} : ∀ (l cur : List α) (b o n : Nat), o + l.length ≤ n → ((setL cur (b + o) l).drop b).take n = setL ((cur.drop b).take n) o l
  | [], _, _, _, _, _ => rfl
  | v :: l, cur, b, o, n, h => by
    simp only [setL]
    have := window_setL l (cur.set (b + o) v) b (o + 1) n (by simp at h; omega)
    rw [show b + o + 1 = b + (o + 1) by omega, this, drop_set, List.take_set]

theorem setL_get {α : Type} : ∀ (l cs : List α) (o k : Nat), o + l.length ≤ cs.length → (setL cs o l)[k]? = if o ≤ k ∧ k < o + l.length then l[k - o]? else cs[k]?
  | [], cs, o, k, _ => by
    simp only [setL, List.length_nil]
    rw [if_neg (by omega)]
  | v :: l, cs, o, k, h => by
    simp only [setL]
    rw [setL_get l (cs.set o v) (o + 1) k (by simp at h ⊢; omega)]
    simp only [List.length_cons] at h ⊢
    by_cases h1 : o + 1 ≤ k ∧ k < o + 1 + l.length
    · rw [if_pos h1, if_pos (by omega), show k - o = (k - (o + 1)) + 1 by omega]
      simp
    · rw [if_neg h1]
      by_cases h2 : k = o
      · subst h2
        rw [if_pos (by omega)]
        simp [show k < cs.length by omega]
      · rw [if_neg (by omega)]
        simp [Ne.symm h2]

section
variable {P : Program} {G B : Nat} {m : Mode} {ρ : Emb} {H : Heap} {w : World}

/-! ## A new thing -/
def Emb.put (ρ : Emb) (i : Nat) (l : Loc) : Emb := fun j => if j = i then some l else ρ j
theorem Emb.le_put {ρ : Emb} {i : Nat} {l : Loc} (h : ρ i = none) : ρ.le (ρ.put i l) := by
  intro j l' hj
  unfold Emb.put
  split
  · rename_i e; subst e; rw [h] at hj; cases hj
  · exact hj

theorem Rel.push {o : AObj} {l : Loc} {w' : World} (hr : Rel G B ρ H w)
    (hsame : ∀ (i : Nat) (o : AObj) l0, H[i]? = some o → o.live = true → ρ i = some l0 → w'.heap[l0.blk]? = w.heap[l0.blk]?)
    (hdist : ∀ (i : Nat) (o : AObj) l0, H[i]? = some o → o.live = true → ρ i = some l0 → l0.blk ≠ l.blk)
    (hobj : ObjR B (ρ.put H.length l) o (some l) w') (hbig : B ≤ w'.heap.size) : Rel G B (ρ.put H.length l) (H ++ [o]) w' := by
  have h0 : ρ H.length = none := hr.dom _ (Nat.le_refl _)
  have hlt : ∀ (i : Nat) (o' : AObj), (H ++ [o])[i]? = some o' → (i < H.length ∧ H[i]? = some o' ∧ (ρ.put H.length l) i = ρ i) ∨ (i = H.length ∧ o' = o) := by
    intro i o' hi
    rw [List.getElem?_append] at hi
    split at hi
    · rename_i h; exact .inl ⟨h, hi, by unfold Emb.put; rw [if_neg (by omega)]⟩
    · rename_i h
      have : i - H.length = 0 := by
        rcases Nat.eq_zero_or_pos (i - H.length) with h | h
        · exact h
        · rw [List.getElem?_eq_none (by simp; omega)] at hi; cases hi
      rw [this] at hi
      simp at hi
      exact .inr ⟨by omega, hi.symm⟩
  refine ⟨fun i hi => ?_, fun i o' ho => ?_, fun i j o1 o2 l1 l2 hne h1 h2 own live e1 e2 => ?_, hbig, fun g hg => ?_⟩
  · simp at hi
    unfold Emb.put
    rw [if_neg (by omega)]
    exact hr.dom i (by omega)
  · rcases hlt i o' ho with ⟨_, hi, he⟩ | ⟨rfl, rfl⟩
    · rw [he]
      cases hl : o'.live with
      | false => cases o' with
        | dead => trivial
        | _ => simp [AObj.live] at hl
      | true => exact ((hr.obj i o' hi).mono (Emb.le_put h0)).same fun loc hloc => hsame i o' loc hi hl hloc
    · rw [show (ρ.put H.length l) H.length = some l by simp [Emb.put]]
      exact hobj
  · have own_live : o1.live = true := by cases o1 <;> first | rfl | simp [AObj.own] at own
    rcases hlt i o1 h1 with ⟨_, hi, he⟩ | ⟨rfl, rfl⟩
    · rw [he] at e1
      rcases hlt j o2 h2 with ⟨_, hj, hf⟩ | ⟨rfl, rfl⟩
      · rw [hf] at e2
        exact hr.inj i j o1 o2 l1 l2 hne hi hj own live e1 e2
      · simp only [Emb.put, if_true, Option.some.injEq] at e2
        subst e2
        exact hdist i o1 l1 hi own_live e1
    · simp only [Emb.put, if_true, Option.some.injEq] at e1
      subst e1
      rcases hlt j o2 h2 with ⟨_, hj, hf⟩ | ⟨rfl, rfl⟩
      · rw [hf] at e2
        exact (hdist j o2 l2 hj live e2).symm
      · exact absurd rfl hne
  · obtain ⟨l0, e, r⟩ := hr.glob g hg
    refine ⟨l0, ?_, r⟩
    exact Emb.le_put h0 _ _ e

/-- A thing in a new block. -/
theorem Stp.push {o : AObj} {l : Loc} {w' : World} (hr : Rel G B ρ H w) (hl : w.heap.size ≤ l.blk)
    (hk : Kp (May m.lim ρ H) w w') (hs : ∀ b, b < w.heap.size → w'.heap[b]? = w.heap[b]?) (hobj : ObjR B (ρ.put H.length l) o (some l) w') :
    Stp G B m ρ H w (ρ.put H.length l) (H ++ [o]) w' where
  le := Emb.le_put (hr.dom _ (Nat.le_refl _))
  rel := by
    have hb : ∀ (i : Nat) (o : AObj) l0, H[i]? = some o → o.live = true → ρ i = some l0 → l0.blk < w.heap.size := by
      intro i o l0 ho hlv e
      obtain ⟨loc, e', h⟩ := (hr.obj i o ho).loc hlv
      rw [e] at e'; cases e'; exact h
    exact hr.push (fun i o l0 ho hlv e => hs _ (hb i o l0 ho hlv e)) (fun i o l0 ho hlv e => by have := hb i o l0 ho hlv e; omega) hobj (Nat.le_trans hr.big hk.size)
  kp := hk
  may b hb hm := by
    obtain ⟨i, o', l', hi, ho, own, e, hbl⟩ := hm
    rw [List.getElem?_append] at ho
    split at ho
    · rename_i h
      refine ⟨i, o', l', hi, ho, own, ?_, hbl⟩
      simpa [Emb.put, Nat.ne_of_lt h] using e
    · rename_i h
      have : i = H.length := by
        rcases Nat.eq_zero_or_pos (i - H.length) with h' | h'
        · omega
        · rw [List.getElem?_eq_none (by simp; omega)] at ho; cases ho
      subst this
      simp only [Emb.put, if_true, Option.some.injEq] at e
      subst e
      omega
  len := by simp
  fp i o1 o2 _ h1 h2 := by
    rw [List.getElem?_append_left (List.getElem?_eq_some_iff.1 h1).1, h1] at h2
    cases h2
    exact .refl _
  dom e := by simp at e

/-- A new row of cells. -/
theorem Stp.row {cs : List Value} {T T' : TypeId} {cur : Array Value} {fr : Nat × Nat} {w' : World} (hr : Rel G B ρ H w)
    (hw : w'.heap = w.heap.push (.cells cur T' fr)) (ho : w'.os = w.os) (ht : w'.tape = w.tape) (hu : w'.output = w.output)
    (hc : VRs ρ cs (cur.toList.take cs.length)) (hsz : cs.length ≤ cur.size) (hf : ∀ k, k < cur.size → (fr.1 ≤ k && k < fr.2) = false) (hT : wT T = T') :
    Stp G B m ρ H w (ρ.put H.length ⟨w.heap.size, 0, cur.size⟩) (H ++ [.cells cs T true]) w' := by
  refine .push hr (Nat.le_refl _) ⟨ho, ht, hu, by simp [hw], fun b hb _ => ?_⟩ (fun b hb => ?_) ?_
  · rw [hw, Array.getElem?_push, if_neg (by omega)]
  · rw [hw, Array.getElem?_push, if_neg (by omega)]
  · refine ⟨_, cur, fr, rfl, by simp [hw, hT], by simpa using hsz, Nat.le_refl _, ?_, fun _ => ⟨hr.big, hf, fun _ => rfl⟩⟩
    simpa using hc.mono (Emb.le_put (hr.dom _ (Nat.le_refl _)))

theorem no_frost (n : Nat) : ∀ k, k < n → (((0, 0) : Nat × Nat).1 ≤ k && decide (k < ((0, 0) : Nat × Nat).2)) = false := by
  intro k _; simp

theorem zero_spec {t : TypeId} {zs : List Value} (h : zeroOf P t = some zs) : ∃ i z, P.info? t = some i ∧ i.zero = some z ∧ z.cells.toList = zs ∧ zs.all flat = true ∧ zs.all oneC = true ∧ zs.length = i.size := by
  unfold zeroOf at h
  cases hi : P.info? t with
  | none => simp [hi] at h
  | some i =>
    cases hz : i.zero with
    | none => simp [hi, hz] at h
    | some z =>
      simp only [hi, hz, Option.bind_some] at h
      split at h
      · rename_i hc
        cases h
        simp only [Bool.and_eq_true, beq_iff_eq] at hc
        exact ⟨i, z, rfl, hz, rfl, hc.1.1.1, hc.1.1.2, by simpa using hc.1.2⟩
      · cases h

theorem zero_big {t : TypeId} {zs : List Value} (h : zeroOf P t = some zs) : t < BIG := by
  unfold zeroOf at h
  cases hi : P.info? t with
  | none => simp [hi] at h
  | some i =>
    cases hz : i.zero with
    | none => simp [hi, hz] at h
    | some z =>
      simp only [hi, hz, Option.bind_some] at h
      split at h
      · rename_i hc
        simp only [Bool.and_eq_true, decide_eq_true_eq] at hc
        exact hc.2
      · cases h

theorem s_new {T T' : TypeId} {zs : List Value} (hr : Rel G B ρ H w) (hz : zeroOf P T = some zs) (hT : wT T' = T) :
    DoesV P G B m ρ H w (Instr.alloc T true (.tuple #[])) (.pointer (some ⟨H.length, 0, none⟩)) (H ++ [.cells zs T' true]) := by
  obtain ⟨i, z, hi, hzz, rfl, hf, _, _⟩ := zero_spec hz
  refine ⟨.pointer (some ⟨w.heap.size, 0, none⟩), w.alloc (.cells z.cells T), ρ.put H.length ⟨w.heap.size, 0, z.cells.size⟩, ?_, ?_, ?_⟩
  · simp [Instr.alloc, zeroValue, typeInfo, hi, hzz, newVar, newRow]
  · exact .ptr _ _ ⟨w.heap.size, 0, z.cells.size⟩ (by simp [Emb.put])
  · exact .row hr rfl rfl rfl rfl (by rw [List.take_of_length_le (Nat.le_refl _)]; exact VRs.flat_refl hf) (by simp) (no_frost _) hT

theorem s_box {T T' : TypeId} {x x' : Value} (hr : Rel G B ρ H w) (hx : VR ρ x x') (hT : wT T' = T) :
    DoesV P G B m ρ H w (Instr.box T x') (.pointer (some ⟨H.length, 0, none⟩)) (H ++ [.cells x.cells.toList T' true]) := by
  have hc := hx.cells
  refine ⟨.pointer (some ⟨w.heap.size, 0, none⟩), w.alloc (.cells x'.cells T), ρ.put H.length ⟨w.heap.size, 0, x'.cells.size⟩, ?_, ?_, ?_⟩
  · simp [Instr.box, newVar, newRow]
  · exact .ptr _ _ ⟨w.heap.size, 0, x'.cells.size⟩ (by simp [Emb.put])
  · have hl := hc.length
    simp at hl
    exact .row hr rfl rfl rfl rfl (by rw [List.take_of_length_le (by simp; omega)]; exact hc) (by simp [hl]) (no_frost _) hT

end
end Ev
end Go.Proofs.Ytfbelnjchpffeaa
