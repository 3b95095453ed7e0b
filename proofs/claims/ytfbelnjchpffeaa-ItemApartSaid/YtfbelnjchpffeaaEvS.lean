/-
  Calls whose arguments are rows that lie in memory.
-/
import Derived.Test.YtfbelnjchpffeaaEvR
import Derived.ChangeSlices
import Derived.WideShapes
namespace Go.Proofs.Ytfbelnjchpffeaa
namespace Ev
open Go.RowKit (Below)

/-- A row's place: from its first cell to the end of its room. -/
structure RowAt (w : World) (l : Loc) (T : TypeId) (cs : List Value) : Prop where
  at_ : ∃ cur fr, w.heap[l.blk]? = some (.cells cur T fr) ∧ l.base + cs.length ≤ l.top ∧ l.top ≤ cur.size ∧ ∀ i v, cs[i]? = some v → cur[l.base + i]? = some v
  flat : cs.all Ev.flat = true

def rowsH (rows : List (TypeId × List Value)) : Heap := rows.map fun p => .cells p.2 (uT p.1) false
def rowsE (locs : List Loc) : Emb := fun i => locs[i]?

theorem rows_rel {w : World} {rows : List (TypeId × List Value)} {locs : List Loc} (hl : locs.length = rows.length) (h : ∀ (i : Nat) (l : Loc) (p : TypeId × List Value), locs[i]? = some l → rows[i]? = some p → RowAt w l p.1 p.2) : Rel 0 0 (rowsE locs) (rowsH rows) w := by
  refine ⟨fun i hi => ?_, fun i o ho => ?_, fun i j o o' l l' _ h1 _ own => ?_, Nat.zero_le _, fun g hg => by omega⟩
  · rw [rowsE, List.getElem?_eq_none (by simpa [rowsH, hl] using hi)]
  · rw [rowsH, List.getElem?_map] at ho
    obtain ⟨cs, hcs, rfl⟩ := Option.map_eq_some_iff.1 ho
    have hi := (List.getElem?_eq_some_iff.1 hcs).1
    have hli : locs[i]? = some locs[i] := List.getElem?_eq_getElem (by omega)
    have hr := h i _ cs hli hcs
    obtain ⟨cur, fr, q1, q2, q3, q4⟩ := hr.at_
    refine ⟨locs[i], cur, fr, hli, by rw [wT_uT]; exact q1, q2, q3, ?_, fun h => by cases h⟩
    refine .of_get (by simp; omega) fun k v hv => ⟨v, ?_, flat_refl (List.all_eq_true.1 hr.flat v (List.mem_of_getElem? hv))⟩
    have hk := (List.getElem?_eq_some_iff.1 hv).1
    rw [List.getElem?_take, if_pos hk, List.getElem?_drop]
    simpa using q4 k v hv
  · rw [rowsH, List.getElem?_map] at h1
    obtain ⟨cs, hcs, rfl⟩ := Option.map_eq_some_iff.1 h1
    cases own

/-- What a call over rows answers, if it writes none of them, it answers in every world that has the rows. -/
theorem topRows {C : Cf} (hC : C.Ok) (hG : C.G = 0) {rows : List (TypeId × List Value)} {locs : List Loc} {w : World} (hl : locs.length = rows.length) (hr : ∀ (i : Nat) (l : Loc) (p : TypeId × List Value), locs[i]? = some l → rows[i]? = some p → RowAt w l p.1 p.2)
    {k f : Nat} {args args' : List Value} {v : Value} (ha : VRs (rowsE locs) args args') (h : Run (fun v' _ => v' = v) Tag.mk (acall C k f args (rowsH rows) ⟨rows.length, 0⟩)) (hv : flat v = true) :
    Calls C.P f args'.toArray w fun e w' => e = .returned v ∧ Below w.heap.size w w' := by
  obtain ⟨H', h⟩ := Run_ex h
  obtain ⟨_, hc⟩ := acall_sound (B := 0) hC k f args (rowsH rows) _ v H' h (Nat.zero_le _)
  have hrel : Rel C.G 0 (rowsE locs) (rowsH rows) w := by rw [hG]; exact rows_rel hl hr
  refine (hc (rowsE locs) w args' hrel ha).mono ?_
  rintro e w' ⟨v', ρ', rfl, r, hst⟩
  refine ⟨by rw [flat_eq hv r], ⟨hst.kp.os, hst.kp.tape, hst.kp.output, hst.kp.size, fun b hb => hst.kp.block b hb fun ⟨i, o, l, h1, h2, _⟩ => ?_⟩⟩
  have := (List.getElem?_eq_some_iff.1 h2).1
  simp [rowsH] at this h1
  omega

/-- A slice argument of numbers: none, or a thing by itself that holds them. -/
def NumRow (k : IntKind) (w : World) (v : Value) (zs : List Int) : Prop :=
  (v = .slice none 0 0 ∧ zs = []) ∨
  ∃ (o : AObj) (l : Loc), Rel 0 0 (rowsE [l]) [o] w ∧ VR (rowsE [l]) (.slice (some ⟨0, 0, none⟩) zs.length 1) v ∧ o.own = false ∧ (0 < zs.length → ∃ T, o = .cells (zs.map (.int k)) T false)

theorem dead_rel {w : World} (l : Loc) : Rel 0 0 (rowsE [l]) [.dead] w := by
  refine ⟨fun i hi => by rw [rowsE, List.getElem?_eq_none (by simpa using hi)], fun i o ho => ?_, fun i j o o' l l' _ h1 _ own => ?_, Nat.zero_le _, fun g hg => by omega⟩
  · have : o = .dead := by
      cases i with
      | zero => simpa using ho.symm
      | succ i => simp at ho
    subst this; trivial
  · have : o = .dead := by
      cases i with
      | zero => simpa using h1.symm
      | succ i => simp at h1
    subst this; cases own

/-- One thing that is not the run's own. -/
theorem topOne {C : Cf} (hC : C.Ok) (hG : C.G = 0) {o : AObj} {l : Loc} {w : World} (hrel : Rel 0 0 (rowsE [l]) [o] w)
    {k f : Nat} {args args' : List Value} {v : Value} (ha : VRs (rowsE [l]) args args') (h : Run (fun v' _ => v' = v) Tag.mk (acall C k f args [o] ⟨1, 0⟩)) (hv : flat v = true) :
    Calls C.P f args'.toArray w fun e w' => e = .returned v ∧ Below w.heap.size w w' := by
  obtain ⟨H', h⟩ := Run_ex h
  obtain ⟨_, hc⟩ := acall_sound (B := 0) hC k f args [o] _ v H' h (Nat.zero_le _)
  refine (hc (rowsE [l]) w args' (by rw [hG]; exact hrel) ha).mono ?_
  rintro e w' ⟨v', ρ', rfl, r, hst⟩
  refine ⟨by rw [flat_eq hv r], ⟨hst.kp.os, hst.kp.tape, hst.kp.output, hst.kp.size, fun b hb => hst.kp.block b hb fun ⟨i, o, l, h1, h2, _⟩ => ?_⟩⟩
  have := (List.getElem?_eq_some_iff.1 h2).1
  simp at this h1
  omega

open Go.ChangeShapes Go.WideShapes in
theorem open_nums {H : Type} {enc : TypeId × Value → H} {P : Program} {w : World} {t e : TypeId} {k : IntKind} {v : Value} {d : DataW H} {ps : List MemPlace} (ht : P.underlying t = some (.slice e)) (he : P.underlying e = some (.int k)) (hc : P.cellsOf e = 1)
    (hval : Value.okWide P w .any 0 t v) (h : DataW.Trod enc P w 0 (fun _ => true) true t v d ps) :
    ∃ zs : List Int, NumRow k w v zs ∧ zs.length ≤ maxLen ∧ ∀ n ∈ zs, (Lit.int k n).wf = true := by
  obtain ⟨a, len, cap, rfl⟩ := okWide_slice ht hval
  obtain ⟨fuel, hf⟩ := h
  rcases open_ints ht he hc hf with ⟨hcs, _⟩ | ⟨x, l, c, zs, hcs, _, hl, hm, hz, _, hcell, hwz⟩
  · simp [Value.cells] at hcs
    obtain ⟨rfl, rfl, rfl⟩ := hcs
    exact ⟨[], .inl ⟨rfl, rfl⟩, by simp, by simp⟩
  · simp [Value.cells] at hcs
    obtain ⟨rfl, rfl, rfl⟩ := hcs
    have hz : zs.length = cap := by simpa using hz
    have hspot : x.spot = none := by
      simp only [Value.okWide, ht, Cell.okWide, Cell.ok] at hval
      exact hval.2.2.2.1
    obtain ⟨b, off, spot⟩ := x
    simp only at hspot
    subst hspot
    refine ⟨zs.take len, .inr ?_, by simp; omega, fun n hn => hwz n (List.mem_of_mem_take hn)⟩
    have hlen : (zs.take len).length = len := by simp; omega
    rw [hlen]
    rcases Nat.eq_zero_or_pos cap with h0 | hpos
    · have : len = 0 := by omega
      subst this; subst h0
      refine ⟨.dead, ⟨b, 0, off⟩, dead_rel _, .slice 0 0 0 1 off 0 ⟨b, 0, off⟩ rfl (fun h => by omega) (Nat.le_refl _) (by simp), rfl, fun h => by omega⟩
    · have hc0 : ∀ i, i < cap → w.cell? ⟨b, off + i, none⟩ = some (.int k (zs.getD i 0)) := fun i hi => by
        rw [← Addr_add]; exact hcell i (by omega)
      have hblk : ∃ cur T fr, w.heap[b]? = some (.cells cur T fr) := by
        have := hc0 0 hpos
        unfold World.cell? at this
        split at this
        · rename_i c T fr hq; exact ⟨c, T, fr, hq⟩
        · cases this
      obtain ⟨cur, T, fr, hq⟩ := hblk
      have hcur : ∀ i, i < cap → cur[off + i]? = some (.int k (zs.getD i 0)) := fun i hi => by
        have := hc0 i hi
        rwa [World_cell w b _ cur T fr hq] at this
      have hsz : off + cap ≤ cur.size := by
        have := (Array.getElem?_eq_some_iff.1 (hcur (cap - 1) (by omega))).1
        omega
      refine ⟨.cells ((zs.take len).map (.int k)) (uT T) false, ⟨b, off, off + cap⟩, ?_, .slice 0 0 len 1 off cap ⟨b, off, off + cap⟩ rfl (fun _ => rfl) hl (by simp), rfl, fun _ => ⟨uT T, rfl⟩⟩
      refine rows_rel (rows := [(T, (zs.take len).map (.int k))]) (locs := [⟨b, off, off + cap⟩]) rfl fun i l p h1 h2 => ?_
      cases i with
      | succ i => simp at h1
      | zero =>
        simp only [List.getElem?_cons_zero, Option.some.injEq] at h1 h2
        subst h1; subst h2
        refine ⟨⟨cur, fr, hq, by simp; omega, hsz, fun j v hv => ?_⟩, by
          rw [List.all_eq_true]
          intro x hx
          simp only [List.mem_map] at hx
          obtain ⟨z, _, rfl⟩ := hx
          rfl⟩
        simp only [List.getElem?_map, List.getElem?_take] at hv
        split at hv
        · rename_i hj
          rw [hcur j (by omega), List.getD_eq_getElem?_getD]
          obtain ⟨z, hz1, rfl⟩ := Option.map_eq_some_iff.1 hv
          rw [hz1]; rfl
        · cases hv
end Ev
end Go.Proofs.Ytfbelnjchpffeaa
