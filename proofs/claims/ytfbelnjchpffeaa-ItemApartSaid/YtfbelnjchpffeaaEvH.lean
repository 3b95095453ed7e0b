/-
  Literals, conversions, appends, and what else makes memory.
-/
import Derived.Test.YtfbelnjchpffeaaEvG
import Derived.Lib.ConvBytes
import Derived.Laws.BytesString
namespace Go.Proofs.Ytfbelnjchpffeaa
namespace Ev
section
variable {P : Program} {G B : Nat} {m : Mode} {ρ : Emb} {H : Heap} {w : World}

/-! ## Rows of zeros -/
theorem flat_rep_get {α : Type} (zs : List α) : ∀ (n k : Nat), k < n * zs.length → ((List.replicate n zs).flatten)[k]? = zs[k % zs.length]?
  | 0, k, h => by simp at h
  | n + 1, k, h => by
    rw [List.replicate_succ, List.flatten_cons, List.getElem?_append]
    by_cases hk : k < zs.length
    · rw [if_pos hk, Nat.mod_eq_of_lt hk]
    · rw [if_neg hk]
      have h2 : k - zs.length < n * zs.length := by rw [Nat.add_mul] at h; omega
      rw [flat_rep_get zs n (k - zs.length) h2]
      have : k % zs.length = (k - zs.length) % zs.length := by
        rw [Nat.mod_eq_sub_mod (by omega)]
      rw [this]

theorem flat_rep_len {α : Type} (zs : List α) (n : Nat) : ((List.replicate n zs).flatten).length = n * zs.length := by
  simp

theorem zero_row (z : Array Value) (n : Nat) : ((Array.range (n * z.size)).map (z[· % z.size]!)).toList = (List.replicate n z.toList).flatten := by
  apply List.ext_getElem?
  intro k
  by_cases hk : k < n * z.size
  · rw [flat_rep_get z.toList n k (by simpa using hk)]
    have hz : 0 < z.size := by
      rcases Nat.eq_zero_or_pos z.size with h | h
      · rw [h] at hk; simp at hk
      · exact h
    have : k % z.size < z.size := Nat.mod_lt _ hz
    simp [hk, this]
  · rw [List.getElem?_eq_none (by simp; omega), List.getElem?_eq_none (by rw [flat_rep_len]; simp; omega)]

/-! ## Filling a literal -/
theorem fold_setL : ∀ (l : List Value) (j : Nat) (off : Nat) (cells : Array Value),
    ((l.zipIdx j).foldl (fun (cs : Array Value) (p : Value × Nat) => cs.setIfInBounds (off + p.2) p.1) cells).toList = setL cells.toList (off + j) l
  | [], _, _, _ => rfl
  | v :: l, j, off, cells => by
    simp only [List.zipIdx_cons, List.foldl_cons, setL]
    rw [fold_setL l (j + 1) off, Array.toList_setIfInBounds]
    rfl

/-- The parts of a literal, as the world has them. -/
inductive PR (ρ : Emb) (e : Env) (place : Nat → Option (Nat × Nat)) : List (Nat × Nat × Opnd) → List (Nat × Value) → Prop where
  | nil : PR ρ e place [] []
  | cons {i off n : Nat} {x : Opnd} {x' : Value} {l : List (Nat × Nat × Opnd)} {l' : List (Nat × Value)} (hp : place i = some (off, n)) (h : VR ρ (oev e x) x') (t : PR ρ e place l l') :
      PR ρ e place ((off, n, x) :: l) ((i, x') :: l')

theorem fill_run {e : Env} {place : Nat → Option (Nat × Nat)} {l : List (Nat × Nat × Opnd)} {l' : List (Nat × Value)} (h : PR ρ e place l l') :
    ∀ {zs cs : List Value} {cells : Array Value}, VRs ρ zs cells.toList → zs.all oneC = true → aop.fillL e zs l = some cs → ∃ cells', Instr.fill place cells l' = some cells' ∧ VRs ρ cs cells'.toList ∧ cs.length = zs.length := by
  induction h with
  | nil => intro zs cs cells hz _ hf; cases hf; exact ⟨cells, rfl, hz, rfl⟩
  | @cons i off n x x' l l' hp hx t ih =>
    intro zs cs cells hz ho hf
    simp only [aop.fillL] at hf
    split at hf
    · rename_i hc
      obtain ⟨h1, h2, h3⟩ := hc
      have hcx := hx.cells
      have hlen := hcx.length
      have hzl := hz.length
      simp at hlen hzl
      have hne : ¬ (x'.cells.size ≠ n || decide (off + x'.cells.size > cells.size)) = true := by
        simp
        exact ⟨by omega, by omega⟩
      have key : VRs ρ (setL zs off (oev e x).cells.toList) (x'.cells.zipIdx.foldl (fun (cs : Array Value) (p : Value × Nat) => cs.setIfInBounds (off + p.2) p.1) cells).toList := by
        have := fold_setL x'.cells.toList 0 off cells
        rw [← Array.foldl_toList, Array.toList_zipIdx, this]
        exact VRs.setL hcx off hz
      have hone : (setL zs off (oev e x).cells.toList).all oneC = true := by
        simp only [List.all_eq_true] at ho h3 ⊢
        intro v hv
        obtain ⟨k, hk⟩ := List.mem_iff_getElem?.1 hv
        rw [setL_get _ _ _ _ (by simp; omega)] at hk
        split at hk
        · exact h3 v (List.mem_of_getElem? hk)
        · exact ho v (List.mem_of_getElem? hk)
      obtain ⟨cells', e1, e2, e3⟩ := ih key hone hf
      refine ⟨cells', ?_, e2, by rw [e3, setL_length]⟩
      simp only [Instr.fill, hp]
      rw [if_neg hne]
      exact e1
    · cases hf

theorem s_build_struct {t : TypeId} {e : Env} {fs : Array Field} {ps : List (Nat × Nat)} {zs cs : List Value} {l : List (Nat × Nat × Opnd)} {parts : Array (Nat × Value)} (hr : Rel G B ρ H w)
    (hz : zeroOf P t = some zs) (ht : P.underlying t = some (.struct fs)) (hp : cPlaces P fs.toList = some ps) (hl : PR ρ e (ps[·]?) l parts.toList) (h : aop.fillL e zs l = some cs) :
    DoesV P G B m ρ H w (Instr.build t parts) (.agg cs.toArray) H := by
  obtain ⟨i, z, hi, hzz, rfl, hf, ho, _⟩ := zero_spec hz
  obtain ⟨cells', e1, e2, _⟩ := fill_run hl (VRs.flat_refl hf) ho h
  have hm : ∀ (l : List Field) (ps : List (Nat × Nat)), cPlaces P l = some ps → (l.mapM (m := Sem) fun f => do pure (f.offset, ← sizeOf f.type)).run P w = .ok ps w := by
    intro l
    induction l with
    | nil => intro ps h; cases h; rfl
    | cons f l ih =>
      intro ps h
      simp only [cPlaces, Option.bind_eq_some_iff, Option.map_eq_some_iff] at h
      obtain ⟨n, hn, qs, hq, rfl⟩ := h
      simp only [List.mapM_cons, Sem.run_bind, run_sizeOf hn, Result.andThen_ok, Sem.run_pure, ih qs hq]
  have hm' : (fs.mapM (m := Sem) fun f => do pure (f.offset, ← sizeOf f.type)).run P w = .ok ps.toArray w := by
    rw [Array.mapM_eq_mapM_toList]
    simp only [Sem.run_map, hm fs.toList ps hp, Result.andThen_ok]
  refine .pure hr (v' := .agg cells') ?_ (.mkAgg (by simpa using e2))
  have e1' : Instr.fill (ps.toArray[·]?) z.cells parts.toList = some cells' := by
    rw [← e1]; congr 1; funext i; simp
  simp only [Instr.build, zeroValue, typeInfo, Sem.run_bind, run_program, Result.andThen_ok, hi, Sem.run_pure, hzz, run_underlying ht, hm', e1']

theorem s_build_array {t el : TypeId} {e : Env} {k n : Nat} {zs cs : List Value} {l : List (Nat × Nat × Opnd)} {parts : Array (Nat × Value)} (hr : Rel G B ρ H w)
    (hz : zeroOf P t = some zs) (ht : P.underlying t = some (.array k el)) (hn : szOf P el = some n) (hl : PR ρ e (fun i => some (i * n, n)) l parts.toList) (h : aop.fillL e zs l = some cs) :
    DoesV P G B m ρ H w (Instr.build t parts) (.agg cs.toArray) H := by
  obtain ⟨i, z, hi, hzz, rfl, hf, ho, _⟩ := zero_spec hz
  obtain ⟨cells', e1, e2, _⟩ := fill_run hl (VRs.flat_refl hf) ho h
  refine .pure hr (v' := .agg cells') ?_ (.mkAgg (by simpa using e2))
  simp only [Instr.build, zeroValue, typeInfo, Sem.run_bind, run_program, Result.andThen_ok, hi, Sem.run_pure, hzz, run_underlying ht, run_sizeOf hn, e1]

theorem s_lit {t el : TypeId} {e : Env} {len : Nat} {zs cs : List Value} {l : List (Nat × Nat × Opnd)} {parts : Array (Nat × Value)} (hr : Rel G B ρ H w)
    (hz : zeroOf P el = some zs) (ht : P.underlying t = some (.slice el)) (hlen : len * zs.length ≤ 1000) (hl : PR ρ e (fun i => some (i * zs.length, zs.length)) l parts.toList)
    (h : aop.fillL e (List.replicate len zs).flatten l = some cs) :
    DoesV P G B m ρ H w (Instr.buildSlice t len parts) (.slice (some ⟨H.length, 0, none⟩) len zs.length) (H ++ [.cells cs el true]) := by
  obtain ⟨i, z, hi, hzz, rfl, hf, ho, hsz⟩ := zero_spec hz
  have hsize : szOf P el = some z.cells.toList.length := by simp [szOf, hi, hsz]
  have hall : (List.replicate len z.cells.toList).flatten.all flat = true := by
    simp only [List.all_eq_true] at hf ⊢
    intro v hv
    simp only [List.mem_flatten, List.mem_replicate] at hv
    obtain ⟨l, ⟨_, rfl⟩, h⟩ := hv
    exact hf v h
  have hall1 : (List.replicate len z.cells.toList).flatten.all oneC = true := by
    simp only [List.all_eq_true] at ho ⊢
    intro v hv
    simp only [List.mem_flatten, List.mem_replicate] at hv
    obtain ⟨l, ⟨_, rfl⟩, h⟩ := hv
    exact ho v h
  let Z : Array Value := if len * z.cells.size = 0 then #[] else z.cells
  have hZ : ((Array.range (len * z.cells.size)).map (Z[· % Z.size]!)).toList = (List.replicate len z.cells.toList).flatten := by
    by_cases h0 : len * z.cells.size = 0
    · have : (List.replicate len z.cells.toList).flatten = [] := by
        apply List.eq_nil_of_length_eq_zero
        rw [flat_rep_len]; simpa using h0
      rw [this, h0]; simp
    · simp only [Z, if_neg h0]
      exact zero_row _ _
  obtain ⟨cells', e1, e2, e3⟩ := fill_run hl (cells := (Array.range (len * z.cells.size)).map (Z[· % Z.size]!)) (by rw [hZ]; exact VRs.flat_refl hall) hall1 h
  have hcl := e2.length
  simp at hcl
  have hcs : cs.length = len * z.cells.size := by rw [e3]; simp
  refine ⟨.slice (some ⟨w.heap.size, 0, none⟩) len len, w.alloc (.cells cells' el), ρ.put H.length ⟨w.heap.size, 0, cells'.size⟩, ?_, ?_, ?_⟩
  · have h24 : ¬ (len * z.cells.size > 2 ^ 24) := by simp at hlen; omega
    simp only [Array.length_toList] at hsize e1
    simp only [Instr.buildSlice, Sem.run_bind, run_underlying ht, Result.andThen_ok, run_sizeOf hsize]
    rw [if_neg h24]
    simp only [Z] at e1
    by_cases h0 : len * z.cells.size = 0
    · simp only [if_pos h0] at e1
      simp [h0] at e1 ⊢
      simp [e1, newRow]
    · simp only [if_neg h0] at e1
      simp [h0, zeroValue, typeInfo, hi, hzz, newRow] at e1 ⊢
      simp [e1]
  · refine .slice _ _ _ _ _ _ ⟨w.heap.size, 0, cells'.size⟩ (by simp [Emb.put]) (fun _ => rfl) (Nat.le_refl _) ?_
    simp; omega
  · exact .row hr rfl rfl rfl rfl (by rw [List.take_of_length_le (by simp; omega)]; exact e2) (by omega) (no_frost _) (wT_lt (zero_big hz))

end
end Ev
end Go.Proofs.Ytfbelnjchpffeaa
