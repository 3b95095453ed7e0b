/-
  The operations keep their word in every world: what 'aop' answers is what the machine's operation does.
-/
import Derived.Test.YtfbelnjchpffeaaEvC
namespace Go.Proofs.Ytfbelnjchpffeaa
namespace Ev

/-! ## Steps -/
/-- A thing below 'fb' has taken up nothing that leads anywhere. -/
def FPo : AObj → AObj → Prop
  | _, .dead => True
  | .cells cs T own, .cells cs' T' own' => T' = T ∧ own' = own ∧ cs'.length = cs.length ∧ ∀ (k : Nat) (v : Value), cs'[k]? = some v → flat v = true ∨ cs[k]? = some v
  | .map es own, .map es' own' => own' = own ∧ ∀ p, p ∈ es' → flat p.2 = true ∨ p ∈ es
  | _, _ => False

theorem FPo.refl (o : AObj) : FPo o o := by
  cases o with
  | dead => simp [FPo]
  | cells _ _ _ => exact ⟨rfl, rfl, rfl, fun _ _ h => .inr h⟩
  | map _ _ => exact ⟨rfl, fun _ h => .inr h⟩

theorem FPo.trans {a b c : AObj} (h : FPo a b) (k : FPo b c) : FPo a c := by
  cases c with
  | dead => simp [FPo]
  | cells c _ _ =>
    cases b with
    | cells b _ _ =>
      cases a with
      | cells a _ _ =>
        obtain ⟨h1, h2, h3, h4⟩ := h
        obtain ⟨k1, k2, k3, k4⟩ := k
        exact ⟨k1.trans h1, k2.trans h2, k3.trans h3, fun i v hv => (k4 i v hv).elim .inl fun hb => h4 i v hb⟩
      | _ => simp [FPo] at h
    | _ => simp [FPo] at k
  | map c _ =>
    cases b with
    | map b _ =>
      cases a with
      | map a _ =>
        obtain ⟨h1, h2⟩ := h
        obtain ⟨k1, k2⟩ := k
        exact ⟨k1.trans h1, fun p hp => (k2 p hp).elim .inl fun hb => h2 p hb⟩
      | _ => simp [FPo] at h
    | _ => simp [FPo] at k

def FP (fb : Nat) (H H' : Heap) : Prop := ∀ (i : Nat) (o o' : AObj), i < fb → H[i]? = some o → H'[i]? = some o' → FPo o o'

structure Stp (G B : Nat) (m : Mode) (ρ : Emb) (H : Heap) (w : World) (ρ' : Emb) (H' : Heap) (w' : World) : Prop where
  le : ρ.le ρ'
  rel : Rel G B ρ' H' w'
  kp : Kp (May m.lim ρ H) w w'
  may : ∀ b, b < w.heap.size → May m.lim ρ' H' b → May m.lim ρ H b
  len : H.length ≤ H'.length
  fp : FP m.fb H H'
  dom : H'.length = H.length → ρ' = ρ

theorem Stp.refl {G B : Nat} {m : Mode} {ρ : Emb} {H : Heap} {w : World} (hr : Rel G B ρ H w) : Stp G B m ρ H w ρ H w :=
  ⟨Emb.le_refl ρ, hr, .refl _ _, fun _ _ h => h, Nat.le_refl _, fun i o o' _ h h' => by rw [h] at h'; cases h'; exact .refl o, fun _ => rfl⟩

theorem Stp.trans {G B : Nat} {m : Mode} {ρ ρ' ρ'' : Emb} {H H' H'' : Heap} {w w' w'' : World}
    (h : Stp G B m ρ H w ρ' H' w') (k : Stp G B m ρ' H' w' ρ'' H'' w'') : Stp G B m ρ H w ρ'' H'' w'' where
  le := Emb.le_trans h.le k.le
  rel := k.rel
  kp := h.kp.trans2 k.kp h.may
  may b hb hm := h.may b hb (k.may b (Nat.lt_of_lt_of_le hb h.kp.size) hm)
  len := Nat.le_trans h.len k.len
  fp i o o'' hi ho ho'' := by
    have : i < H'.length := by
      have := (List.getElem?_eq_some_iff.1 ho).1
      have := h.len
      omega
    exact (h.fp i o _ hi ho (List.getElem?_eq_getElem this)).trans (k.fp i _ o'' hi (List.getElem?_eq_getElem this) ho'')
  dom e := by
    have h1 := h.len
    have h2 := k.len
    exact (k.dom (by omega)).trans (h.dom (by omega))

/-! ## Values, cell by cell -/
theorem VR.cells {ρ : Emb} {v v' : Value} (h : VR ρ v v') : VRs ρ v.cells.toList v'.cells.toList := by
  cases h with
  | agg a b hs h => exact .ofArr hs h
  | bool b => exact .cons (.bool b) .nil
  | int k n => exact .cons (.int k n) .nil
  | string s => exact .cons (.string s) .nil
  | nilFunc => exact .cons .nilFunc .nil
  | nilIface => exact .cons .nilIface .nil
  | ptrNone => exact .cons .ptrNone .nil
  | mapNone => exact .cons .mapNone .nil
  | sliceNone => exact .cons .sliceNone .nil
  | ptr i off l h => exact .cons (.ptr i off l h) .nil
  | slice i off n c o' c' l h ho hn ht => exact .cons (.slice i off n c o' c' l h ho hn ht) .nil
  | slice0 i off c a l h => exact .cons (.slice0 i off c a l h) .nil
  | map r l h => exact .cons (.map r l h) .nil
  | iface t v v' h => exact .cons (.iface t v v' h) .nil
  | tuple a b hs h => exact .cons (.tuple a b hs h) .nil
  | func fn a b c d hs h hs' h' => exact .cons (.func fn a b c d hs h hs' h') .nil

theorem VR.oneC {ρ : Emb} {v v' : Value} (h : VR ρ v v') : v'.oneCell' = Ev.oneC v := by cases h <;> rfl

theorem VRs.oneC {ρ : Emb} {l l' : List Value} (h : VRs ρ l l') (ho : l.all Ev.oneC = true) : ∀ v ∈ l', v.oneCell' = true := by
  induction h with
  | nil => intro v hv; cases hv
  | cons h _ ih =>
    simp only [List.all_cons, Bool.and_eq_true] at ho
    intro v hv
    cases hv with
    | head => rw [h.oneC]; exact ho.1
    | tail _ hv => exact ih ho.2 v hv

theorem VRs.flat_eq {ρ : Emb} {l l' : List Value} (h : VRs ρ l l') (ho : l.all flat = true) : l' = l := by
  induction h with
  | nil => rfl
  | cons h _ ih =>
    simp only [List.all_cons, Bool.and_eq_true] at ho
    rw [Ev.flat_eq ho.1 h, ih ho.2]

theorem VRs.flat_refl {ρ : Emb} : ∀ {l : List Value}, l.all flat = true → VRs ρ l l
  | [], _ => .nil
  | v :: l, h => by
    simp only [List.all_cons, Bool.and_eq_true] at h
    exact .cons (Ev.flat_refl h.1) (VRs.flat_refl h.2)

theorem Addr_add (b o n : Nat) : (⟨b, o, none⟩ : Addr).add n = ⟨b, o + n, none⟩ := by
  unfold Addr.add
  split <;> simp_all

theorem World_cell (w : World) (b o : Nat) (cur : Array Value) (T : TypeId) (fr : Nat × Nat) (h : w.heap[b]? = some (.cells cur T fr)) : w.cell? ⟨b, o, none⟩ = cur[o]? := by
  simp [World.cell?, h]

/-- A cell of a thing. -/
theorem Rel.cell {G B : Nat} {ρ : Emb} {H : Heap} {w : World} (hr : Rel G B ρ H w) {i off : Nat} {cs : List Value} {v : Value}
    (hc : cellsOf H i = some cs) (hv : cs[off]? = some v) {l : Loc} (hl : ρ i = some l) : ∃ v', w.cell? ⟨l.blk, l.base + off, none⟩ = some v' ∧ VR ρ v v' := by
  unfold cellsOf at hc
  split at hc
  · rename_i cs' T own ho
    cases hc
    obtain ⟨loc, cur, fr, h1, h2, h3, h4, h5, h6⟩ := hr.obj i _ ho
    rw [hl] at h1
    cases h1
    obtain ⟨v', hv', r⟩ := h5.get hv
    refine ⟨v', ?_, r⟩
    rw [World_cell w _ _ cur _ fr h2]
    rw [List.getElem?_take] at hv'
    split at hv'
    · simpa using hv'
    · cases hv'
  · cases hc

/-- A row of cells of a thing. -/
theorem Rel.row {G B : Nat} {ρ : Emb} {H : Heap} {w : World} (hr : Rel G B ρ H w) {i off n : Nat} {cs : List Value}
    (hc : cellsOf H i = some cs) (hn : off + n ≤ cs.length) {l : Loc} (hl : ρ i = some l) :
    ∃ vs, VRs ρ ((cs.drop off).take n) vs ∧ vs.length = n ∧ ∀ j v, vs[j]? = some v → w.cell? ⟨l.blk, l.base + off + j, none⟩ = some v := by
  unfold cellsOf at hc
  split at hc
  · rename_i cs' T own ho
    cases hc
    obtain ⟨loc, cur, fr, h1, h2, h3, h4, h5, h6⟩ := hr.obj i _ ho
    rw [hl] at h1
    cases h1
    refine ⟨_, (h5.drop off).take n, ?_, fun j v hv => ?_⟩
    · simp; omega
    · rw [World_cell w _ _ cur _ fr h2]
      simp only [List.getElem?_take, List.getElem?_drop] at hv
      split at hv
      · split at hv
        · rw [← hv]; simp [Nat.add_assoc]
        · cases hv
      · cases hv
  · cases hc

/-! ## What an operation does -/
def DoesV (P : Program) (G B : Nat) (m : Mode) (ρ : Emb) (H : Heap) (w : World) (s : Sem Value) (v : Value) (H' : Heap) : Prop :=
  ∃ v' w' ρ', s.run P w = .ok v' w' ∧ VR ρ' v v' ∧ Stp G B m ρ H w ρ' H' w'

def Does (P : Program) (G B : Nat) (m : Mode) (ρ : Emb) (H : Heap) (w : World) (s : Sem Next) (v : Value) (H' : Heap) : Prop :=
  ∃ v' w' ρ', (s.run P w = .ok (.value v') w' ∨ (s.run P w = .ok .skip w' ∧ v' = undef)) ∧ VR ρ' v v' ∧ Stp G B m ρ H w ρ' H' w'

theorem Does.ofV {P : Program} {G B : Nat} {m : Mode} {ρ : Emb} {H : Heap} {w : World} {s : Sem Value} {v : Value} {H' : Heap}
    (h : DoesV P G B m ρ H w s v H') : Does P G B m ρ H w (do pure (.value (← s))) v H' := by
  obtain ⟨v', w', ρ', hs, hv, hst⟩ := h
  exact ⟨v', w', ρ', .inl (by simp [hs]), hv, hst⟩

theorem DoesV.pure {P : Program} {G B : Nat} {m : Mode} {ρ : Emb} {H : Heap} {w : World} {s : Sem Value} {v v' : Value} (hr : Rel G B ρ H w)
    (hs : s.run P w = .ok v' w) (hv : VR ρ v v') : DoesV P G B m ρ H w s v H := ⟨v', w, ρ, hs, hv, .refl hr⟩

section
variable {P : Program} {G B : Nat} {m : Mode} {ρ : Emb} {H : Heap} {w : World}

theorem run_isAgg {t : TypeId} {g : Bool} (h : aggOf P t = some g) : (isAgg t).run P w = .ok g w := by
  unfold aggOf at h
  cases hu : P.underlying t with
  | none => simp [hu] at h
  | some d =>
    simp only [hu, Option.map_some, Option.some.injEq] at h
    subst h
    unfold isAgg
    simp only [Sem.run_bind, run_underlying hu, Result.andThen_ok]
    cases d <;> rfl

theorem run_sizeOf {t : TypeId} {n : Nat} (h : szOf P t = some n) : (sizeOf t).run P w = .ok n w := by
  unfold szOf at h
  cases hu : P.info? t with
  | none => simp [hu] at h
  | some i =>
    simp only [hu, Option.map_some, Option.some.injEq] at h
    subst h
    simp [sizeOf, typeInfo, hu]

theorem s_ld {t : TypeId} {x x' v : Value} (hr : Rel G B ρ H w) (hx : VR ρ x x') (hg : aggOf P t = some false) (h : aLoad H x = some v) :
    DoesV P G B m ρ H w (Instr.loadAt t x') v H := by
  unfold aLoad at h
  split at h
  · rename_i i off
    cases hx with
    | ptr _ _ l hl =>
      cases hc : cellsOf H i with
      | none => simp [hc] at h
      | some cs =>
        simp only [hc, Option.bind_some] at h
        obtain ⟨v', hv', r⟩ := hr.cell hc h hl
        exact .pure hr (by simp [Instr.loadAt, Instr.sureAddr, loadVar, run_isAgg hg, hv']) r
  · cases h

theorem s_ldn {t : TypeId} {n : Nat} {x x' v : Value} (hr : Rel G B ρ H w) (hx : VR ρ x x') (hg : aggOf P t = some true) (hn : szOf P t = some n) (h : aLoadN n H x = some v) :
    DoesV P G B m ρ H w (Instr.loadAt t x') v H := by
  unfold aLoadN at h
  split at h
  · rename_i i off
    cases hx with
    | ptr _ _ l hl =>
      cases hc : cellsOf H i with
      | none => simp [hc] at h
      | some cs =>
        simp only [hc, Option.bind_some] at h
        split at h
        · rename_i hle
          cases h
          obtain ⟨vs, hvs, hlen, hcell⟩ := hr.row hc hle hl
          refine .pure hr (v' := .agg vs.toArray) ?_ (.mkAgg (by simpa using hvs))
          subst hlen
          simp [Instr.loadAt, Instr.sureAddr, loadVar, run_isAgg hg, run_sizeOf hn, run_loadCells_list w ⟨l.blk, l.base + off, none⟩ vs (fun j v hv => by rw [Addr_add]; exact hcell j v hv)]
        · cases h
  · cases h

end
end Ev
end Go.Proofs.Ytfbelnjchpffeaa
