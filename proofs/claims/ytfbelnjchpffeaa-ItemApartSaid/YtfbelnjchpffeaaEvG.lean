/-
  Stores, cuts, literals.
-/
import Derived.Test.YtfbelnjchpffeaaEvF
namespace Go.Proofs.Ytfbelnjchpffeaa
namespace Ev
section
variable {P : Program} {G B : Nat} {m : Mode} {ρ : Emb} {H : Heap} {w : World}

/-! ## Stores -/
theorem storeCells_run (b : Nat) (T : TypeId) (fr : Nat × Nat) (o : Nat) : ∀ (vs : List Value) (i : Nat) (cur : Array Value) (w : World), w.heap[b]? = some (.cells cur T fr) → o + i + vs.length ≤ cur.size →
    (∀ k, k < cur.size → (fr.1 ≤ k && decide (k < fr.2)) = false) → (∀ v ∈ vs, v.oneCell' = true) →
    ∃ w' cur', (storeCells ⟨b, o, none⟩ vs i).run P w = .ok () w' ∧ w'.heap[b]? = some (.cells cur' T fr) ∧ cur'.toList = setL cur.toList (o + i) vs ∧ (∀ k, k ≠ b → w'.heap[k]? = w.heap[k]?) ∧
      w'.heap.size = w.heap.size ∧ w'.os = w.os ∧ w'.tape = w.tape ∧ w'.output = w.output
  | [], i, cur, w, hb, _, _, _ => ⟨w, cur, rfl, hb, rfl, fun _ _ => rfl, rfl, rfl, rfl, rfl⟩
  | v :: r, i, cur, w, hb, hl, hf, h1 => by
    simp only [List.length_cons] at hl
    have hi : o + i < cur.size := by omega
    have hst : (store ((⟨b, o, none⟩ : Addr).add i) v).run P w = .ok () (w.setCell ⟨b, o + i, none⟩ v) := by
      rw [Addr_add, run_store P w _ v _ (h1 v (by simp)), World_cell w b (o + i) cur T fr hb, Array.getElem?_eq_getElem hi]
      have : w.frozen? ⟨b, o + i, none⟩ = false := by simpa [World.frozen?, hb] using hf (o + i) hi
      simp [this]
    have hb' : (w.setCell ⟨b, o + i, none⟩ v).heap[b]? = some (.cells (cur.setIfInBounds (o + i) v) T fr) := by
      simp [World.setCell, Array.getElem?_modify, hb]
    obtain ⟨w', cur', e, h2, h3, h4, h5, h6, h7, h8⟩ := storeCells_run b T fr o r (i + 1) (cur.setIfInBounds (o + i) v) (w.setCell ⟨b, o + i, none⟩ v) hb' (by simp; omega) (by simpa using hf) (fun x hx => h1 x (by simp [hx]))
    refine ⟨w', cur', ?_, h2, ?_, fun k hk => ?_, ?_, h6, h7, h8⟩
    · simp only [storeCells, Sem.run_bind, hst, Result.andThen_ok, e]
    · rw [h3, Array.toList_setIfInBounds]; rfl
    · rw [h4 k hk]; simp [World.setCell, Array.getElem?_modify, Ne.symm hk]
    · rw [h5]; simp [World.setCell]

theorem s_st {t : TypeId} {n : Nat} {x x' a a' : Value} {H' : Heap} (hr : Rel G B ρ H w) (hn : szOf P t = some n) (hx : VR ρ x x') (ha : VR ρ a a') (h : aStore m n H x a = some H') :
    Does P G B m ρ H w (do Instr.storeAt t a' x'; pure .skip) undef H' := by
  unfold aStore at h
  split at h
  · rename_i i off
    split at h
    · rename_i cs T ho
      split at h
      · rename_i hc
        obtain ⟨hlim, hsz, hle, hone, hflat⟩ := hc
        cases h
        cases ha with
        | ptr _ _ l hl =>
          obtain ⟨loc, cur, fr, e1, h2, h3, h4, h5, h6⟩ := hr.obj i _ ho
          rw [hl] at e1; cases e1
          obtain ⟨hB, hfr, hbig⟩ := h6 rfl
          have hcx := hx.cells
          have hlen := hcx.length
          simp at hlen
          have hsz' : x'.cells.size = n := by omega
          obtain ⟨w', cur', e, k2, k3, k4, k5, k6, k7, k8⟩ := storeCells_run (P := P) l.blk (wT T) fr (l.base + off) x'.cells.toList 0 cur w h2 (by simp; omega) hfr (hcx.oneC hone)
          have hcs : cur'.size = cur.size := by
            have := congrArg List.length k3
            rw [setL_length] at this
            simpa using this
          refine ⟨undef, w', ρ, .inr ⟨?_, rfl⟩, .mkTuple .nil, ?_⟩
          · simp [Instr.storeAt, Instr.sureAddr, storeVar, run_sizeOf hn, hsz', e]
          have hget : ∀ (j : Nat) (o : AObj), (H.set i (.cells (setL cs off x.cells.toList) T true))[j]? = some o → (j = i ∧ o = .cells (setL cs off x.cells.toList) T true) ∨ (j ≠ i ∧ H[j]? = some o) := by
            intro j o hj
            rw [List.getElem?_set] at hj
            split at hj
            · rename_i e; subst e
              split at hj
              · cases hj; exact .inl ⟨rfl, rfl⟩
              · cases hj
            · rename_i e; exact .inr ⟨Ne.symm e, hj⟩
          have hown : ∀ (j : Nat) (o : AObj), (H.set i (.cells (setL cs off x.cells.toList) T true))[j]? = some o → ∃ o', H[j]? = some o' ∧ o'.own = o.own ∧ o'.live = o.live := by
            intro j o hj
            rcases hget j o hj with ⟨rfl, rfl⟩ | ⟨_, h⟩
            · exact ⟨_, ho, rfl, rfl⟩
            · exact ⟨o, h, rfl, rfl⟩
          refine ⟨Emb.le_refl _, ⟨fun j hj => hr.dom j (by simpa using hj), fun j o hj => ?_, fun j1 j2 o1 o2 l1 l2 hne hj1 hj2 own live e1 e2 => ?_, by rw [k5]; exact hr.big, hr.glob⟩,
            ⟨k6, k7, k8, by omega, fun b hb hnb => k4 b fun e => hnb ⟨i, _, l, hlim, ho, rfl, hl, e.symm⟩⟩, fun b hb hm => ?_, by simp, fun j o1 o2 hj h1 h2 => ?_, fun _ => rfl⟩
          · rcases hget j o hj with ⟨rfl, rfl⟩ | ⟨hne, hj'⟩
            · refine ⟨l, cur', fr, hl, k2, by rw [setL_length]; exact h3, by omega, ?_, fun _ => ⟨hB, by rw [hcs]; exact hfr, hbig⟩⟩
              rw [setL_length, k3, Nat.add_zero, window_setL _ _ _ _ _ (by simp; omega)]
              exact VRs.setL hcx off h5
            · cases hlv : o.live with
              | false => cases o with
                | dead => trivial
                | _ => simp [AObj.live] at hlv
              | true => exact (hr.obj j o hj').same fun loc hloc => k4 _ (hr.inj i j _ o l loc (Ne.symm hne) ho hj' rfl hlv hl hloc).symm
          · obtain ⟨o1', g1, g2, _⟩ := hown j1 o1 hj1
            obtain ⟨o2', g3, _, g4⟩ := hown j2 o2 hj2
            exact hr.inj j1 j2 o1' o2' l1 l2 hne g1 g3 (g2 ▸ own) (g4 ▸ live) e1 e2
          · obtain ⟨j, o, lj, a1, a2, a3, a4, a5⟩ := hm
            obtain ⟨o', g1, g2, _⟩ := hown j o a2
            exact ⟨j, o', lj, a1, g1, g2.trans a3, a4, a5⟩
          · rcases hget j o2 h2 with ⟨rfl, rfl⟩ | ⟨_, hj'⟩
            · rw [ho] at h1; cases h1
              refine ⟨rfl, rfl, setL_length _ _ _, fun k v hv => ?_⟩
              rw [setL_get _ _ _ _ (by simpa [hsz] using hle)] at hv
              split at hv
              · have := hflat hj
                simp only [List.all_eq_true] at this
                exact .inl (this v (List.mem_of_getElem? hv))
              · exact .inr hv
            · rw [hj'] at h1; cases h1; exact .refl _
      · cases h
    · cases h
  · cases h

/-! ## Cuts -/
/-- The bounds of a cut, as the world has them. -/
def OR (ρ : Emb) (e : Env) (o : Option Opnd) (o' : Option Value) : Prop :=
  match o, o' with
  | none, none => True
  | some x, some x' => VR ρ (oev e x) x'
  | _, _ => False

theorem int_same {x x' : Value} {n : Int} (hx : VR ρ x x') (h : aIntOf x = some n) : ∃ k, x' = .int k n := by
  cases hx <;> simp [aIntOf] at h
  subst h; exact ⟨_, rfl⟩

theorem bound_run {e : Env} {d mm M n : Nat} {o : Option Opnd} {o' : Option Value} (ho : OR ρ e o o') (h : aBound e d mm o = some n) (hM : mm ≤ M) (code : BoundsCode) :
    match o' with
    | none => n = d
    | some v => n ≤ mm ∧ (Instr.sliceBound v M code).run P w = .ok n w := by
  cases o with
  | none =>
    cases o' with
    | none => simpa [aBound] using h.symm
    | some v => exact ho.elim
  | some x =>
    cases o' with
    | none => exact ho.elim
    | some v =>
      simp only [aBound, Option.bind_eq_some_iff] at h
      obtain ⟨k, hk, h⟩ := h
      split at h
      · rename_i hc
        cases h
        obtain ⟨kk, rfl⟩ := int_same (ρ := ρ) ho hk
        refine ⟨by omega, ?_⟩
        have : 0 ≤ k ∧ k ≤ (M : Int) := ⟨hc.1, by omega⟩
        simp [Instr.sliceBound, asIntOf, this]
      · cases h

theorem s_cut {t : TypeId} {e : Env} {s : ByteArray} {x' : Value} {lo hi : Option Opnd} {lo' hi' : Option Value} {h l : Nat} (hr : Rel G B ρ H w) (ht : P.underlying t = some .string)
    (hx : VR ρ (.string s) x') (hlo : OR ρ e lo lo') (hhi : OR ρ e hi hi') (h1 : aBound e s.size s.size hi = some h) (h2 : aBound e 0 h lo = some l) :
    DoesV P G B m ρ H w (Instr.sliceAt t x' lo' hi' none) (.string (s.extract l h)) H := by
  cases hx
  have b1 := bound_run (P := P) (w := w) hhi h1 (Nat.le_refl _) .sliceAlen
  have b2 := bound_run (P := P) (w := w) hlo h2 (Nat.le_refl _) .sliceB
  refine .pure hr (v' := .string (s.extract l h)) ?_ (.string _)
  simp only [Instr.sliceAt, Instr.slice, Sem.run_bind, run_underlying ht, Result.andThen_ok, Instr.sliceBounds]
  cases hi' with
  | none =>
    simp only at b1
    subst b1
    cases lo' with
    | none => simp only at b2; subst b2; simp
    | some v => simp only at b2; simp [b2.2]
  | some u =>
    simp only at b1
    cases lo' with
    | none => simp only at b2; subst b2; simp [b1.2]
    | some v => simp only at b2; simp [b1.2, b2.2]

theorem run_bounds {e : Env} {n cap k h l : Nat} {sl : Bool} {lo hi mx : Option Opnd} {lo' hi' mx' : Option Value} (hlo : OR ρ e lo lo') (hhi : OR ρ e hi hi') (hmx : OR ρ e mx mx')
    (hc : n ≤ cap) (hm : mx.isSome = true → hi.isSome = true) (h1 : aBound e n n mx = some k) (h2 : aBound e n k hi = some h) (h3 : aBound e 0 h lo = some l) :
    ∃ mm, (Instr.sliceBounds sl n cap lo' hi' mx').run P w = .ok (l, h, mm) w ∧ l ≤ h ∧ h ≤ mm ∧ mm ≤ cap ∧ h ≤ n := by
  have hk : k ≤ n := by
    cases mx with
    | none => simp [aBound] at h1; omega
    | some x =>
      simp only [aBound, Option.bind_eq_some_iff] at h1
      obtain ⟨q, _, h⟩ := h1
      split at h
      · cases h; omega
      · cases h
  have hh : h ≤ n ∧ (hi.isSome = true → h ≤ k) := by
    cases hi with
    | none => simp [aBound] at h2; exact ⟨by omega, by simp⟩
    | some x =>
      simp only [aBound, Option.bind_eq_some_iff] at h2
      obtain ⟨q, _, h⟩ := h2
      split at h
      · cases h; exact ⟨by omega, fun _ => by omega⟩
      · cases h
  have hl : l ≤ h := by
    cases lo with
    | none => simp [aBound] at h3; omega
    | some x =>
      simp only [aBound, Option.bind_eq_some_iff] at h3
      obtain ⟨q, _, h⟩ := h3
      split at h
      · cases h; omega
      · cases h
  cases mx' with
  | none =>
    have hmx0 : mx = none := by cases mx with
      | none => rfl
      | some _ => exact hmx.elim
    subst hmx0
    simp [aBound] at h1
    subst h1
    refine ⟨cap, ?_, hl, by omega, Nat.le_refl _, hh.1⟩
    have b1 := bound_run (P := P) (w := w) hhi h2 hc (if sl then .sliceAcap else .sliceAlen)
    have b2 := bound_run (P := P) (w := w) hlo h3 (Nat.le_refl _) .sliceB
    cases hi' with
    | none =>
      simp only at b1
      subst b1
      cases lo' with
      | none => simp only at b2; subst b2; simp [Instr.sliceBounds]
      | some v => simp only at b2; simp [Instr.sliceBounds, b2.2]
    | some u =>
      simp only at b1
      cases lo' with
      | none => simp only at b2; subst b2; cases sl <;> simp at b1 <;> simp [Instr.sliceBounds, b1.2]
      | some v => simp only at b2; cases sl <;> simp at b1 <;> simp [Instr.sliceBounds, b1.2, b2.2]
  | some y =>
    have hmx1 : mx.isSome = true := by cases mx with
      | none => exact hmx.elim
      | some _ => rfl
    have b0 := bound_run (P := P) (w := w) hmx h1 hc (if sl then .slice3Acap else .slice3Alen)
    simp only at b0
    have b1 := bound_run (P := P) (w := w) hhi h2 (Nat.le_refl _) .slice3B
    have b2 := bound_run (P := P) (w := w) hlo h3 (Nat.le_refl _) .slice3C
    refine ⟨k, ?_, hl, hh.2 (hm hmx1), by omega, hh.1⟩
    cases hi' with
    | none =>
      have : hi = none := by cases hi with
        | none => rfl
        | some _ => exact hhi.elim
      subst this
      have := hm hmx1
      simp at this
    | some u =>
      simp only at b1
      cases lo' with
      | none => simp only at b2; subst b2; cases sl <;> simp at b0 <;> simp [Instr.sliceBounds, b0.2, b1.2]
      | some v => simp only at b2; cases sl <;> simp at b0 <;> simp [Instr.sliceBounds, b0.2, b1.2, b2.2]

theorem s_sub {t el : TypeId} {e : Env} {i off n sz : Nat} {x' : Value} {lo hi mx : Option Opnd} {lo' hi' mx' : Option Value} {k h l : Nat} (hr : Rel G B ρ H w) (ht : P.underlying t = some (.slice el)) (hs : szOf P el = some sz)
    (hx : VR ρ (.slice (some ⟨i, off, none⟩) n sz) x') (hlo : OR ρ e lo lo') (hhi : OR ρ e hi hi') (hmx : OR ρ e mx mx') (hm : mx.isSome = true → hi.isSome = true)
    (h1 : aBound e n n mx = some k) (h2 : aBound e n k hi = some h) (h3 : aBound e 0 h lo = some l) :
    DoesV P G B m ρ H w (Instr.sliceAt t x' lo' hi' mx') (.slice (some ⟨i, if h - l = 0 then 0 else off + l * sz, none⟩) (h - l) sz) H := by
  cases hx with
  | slice _ _ _ _ o' c' L hl ho hn hT =>
    obtain ⟨mm, hb, p1, p2, p3, p4⟩ := run_bounds (P := P) (w := w) (sl := true) hlo hhi hmx hn hm h1 h2 h3
    refine .pure hr (v' := .slice (some ⟨L.blk, if mm = l then o' else o' + l * sz, none⟩) (h - l) (mm - l)) ?_ ?_
    · simp only [Instr.sliceAt, Instr.slice, Sem.run_bind, run_underlying ht, Result.andThen_ok, hb, run_sizeOf hs, Option.map_some, Addr_add]
      split <;> rfl
    · refine .slice _ _ _ _ _ _ L hl (fun hpos => ?_) (by omega) ?_
      · rw [if_neg (by omega), if_neg (by omega), ho (by omega), Nat.add_assoc]
      · have q1 : mm * sz ≤ c' * sz := Nat.mul_le_mul_right _ p3
        split
        · rename_i e; subst e; simp; omega
        · have : l * sz + (mm - l) * sz = mm * sz := by rw [← Nat.add_mul]; congr 1; omega
          omega
  | slice0 _ _ _ a L hl =>
    obtain ⟨mm, hb, p1, p2, p3, p4⟩ := run_bounds (P := P) (w := w) (sl := true) hlo hhi hmx (Nat.le_refl _) hm h1 h2 h3
    refine .pure hr (v' := .slice (some a) 0 0) ?_ ?_
    · have : mm = 0 := by omega
      have : l = 0 := by omega
      have : h = 0 := by omega
      subst_vars
      simp [Instr.sliceAt, Instr.slice, run_underlying ht, hb, run_sizeOf hs]
    · have : h - l = 0 := by omega
      rw [this]
      exact .slice0 _ _ _ a L hl

theorem s_sub_nil {t el : TypeId} {e : Env} {sz : Nat} {x' : Value} {lo hi mx : Option Opnd} {lo' hi' mx' : Option Value} {k h l : Nat} (hr : Rel G B ρ H w) (ht : P.underlying t = some (.slice el)) (hs : szOf P el = some sz)
    (hx : VR ρ (.slice none 0 0) x') (hlo : OR ρ e lo lo') (hhi : OR ρ e hi hi') (hmx : OR ρ e mx mx') (hm : mx.isSome = true → hi.isSome = true)
    (h1 : aBound e 0 0 mx = some k) (h2 : aBound e 0 k hi = some h) (h3 : aBound e 0 h lo = some l) :
    DoesV P G B m ρ H w (Instr.sliceAt t x' lo' hi' mx') (.slice none 0 0) H := by
  cases hx with
  | sliceNone =>
    obtain ⟨mm, hb, p1, p2, p3, p4⟩ := run_bounds (P := P) (w := w) (sl := true) hlo hhi hmx (Nat.le_refl _) hm h1 h2 h3
    refine .pure hr (v' := .slice none 0 0) ?_ .sliceNone
    have : mm = 0 := by omega
    have : l = 0 := by omega
    have : h = 0 := by omega
    subst_vars
    simp [Instr.sliceAt, Instr.slice, run_underlying ht, hb, run_sizeOf hs]

theorem s_suba {t el : TypeId} {e : Env} {i off n sz : Nat} {cs : List Value} {x' : Value} {lo hi mx : Option Opnd} {lo' hi' mx' : Option Value} {k h l : Nat} (hr : Rel G B ρ H w) (ht : P.underlying t = some (.array n el)) (hs : szOf P el = some sz)
    (hx : VR ρ (.pointer (some ⟨i, off, none⟩)) x') (hcs : cellsOf H i = some cs) (hle : off + n * sz ≤ cs.length) (hlo : OR ρ e lo lo') (hhi : OR ρ e hi hi') (hmx : OR ρ e mx mx') (hm : mx.isSome = true → hi.isSome = true)
    (h1 : aBound e n n mx = some k) (h2 : aBound e n k hi = some h) (h3 : aBound e 0 h lo = some l) :
    DoesV P G B m ρ H w (Instr.sliceAt t x' lo' hi' mx') (.slice (some ⟨i, if h - l = 0 then 0 else off + l * sz, none⟩) (h - l) sz) H := by
  cases hx with
  | ptr _ _ L hl =>
    obtain ⟨mm, hb, p1, p2, p3, p4⟩ := run_bounds (P := P) (w := w) (sl := false) hlo hhi hmx (Nat.le_refl n) hm h1 h2 h3
    have htop : L.base + cs.length ≤ L.top := by
      unfold cellsOf at hcs
      split at hcs
      · rename_i cs' T own ho
        cases hcs
        obtain ⟨loc, cur, fr, e1, _, h3, _⟩ := hr.obj i _ ho
        rw [hl] at e1; cases e1; exact h3
      · cases hcs
    refine .pure hr (v' := .slice (some ⟨L.blk, if mm = l then L.base + off else L.base + off + l * sz, none⟩) (h - l) (mm - l)) ?_ ?_
    · simp only [Instr.sliceAt, Instr.sureAddr, Sem.run_bind, run_underlying ht, Result.andThen_ok, Sem.run_pure, hb, run_sizeOf hs, Addr_add]
      split <;> rfl
    · refine .slice _ _ _ _ _ _ L hl (fun hpos => ?_) (by omega) ?_
      · rw [if_neg (by omega), if_neg (by omega), Nat.add_assoc]
      · have q1 : mm * sz ≤ n * sz := Nat.mul_le_mul_right _ p3
        split
        · rename_i e; subst e; simp; omega
        · have : l * sz + (mm - l) * sz = mm * sz := by rw [← Nat.add_mul]; congr 1; omega
          omega

end
end Ev
end Go.Proofs.Ytfbelnjchpffeaa
