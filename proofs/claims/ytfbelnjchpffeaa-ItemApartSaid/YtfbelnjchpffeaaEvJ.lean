/-
  append, and make of a slice.
-/
import Derived.Test.YtfbelnjchpffeaaEvI
namespace Go.Proofs.Ytfbelnjchpffeaa
namespace Ev
set_option linter.unusedSimpArgs false
set_option linter.unusedVariables false
section
variable {P : Program} {G B : Nat} {m : Mode} {ρ : Emb} {H : Heap} {w : World}

theorem Rel.kill (hr : Rel G B ρ H w) (i : Nat) : Rel G B ρ (H.set i .dead) w :=
  hr.weaken_obj (by simp) fun j o ho => by
    rw [List.getElem?_set] at ho
    split at ho
    · split at ho
      · cases ho; exact .inl rfl
      · cases ho
    · exact .inr ho

theorem Stp.kill (hr : Rel G B ρ H w) (i : Nat) : Stp G B m ρ H w ρ (H.set i .dead) w where
  le := Emb.le_refl _
  rel := hr.kill i
  kp := .refl _ _
  may b _ hm := by
    obtain ⟨j, o, l, a1, a2, a3, a4, a5⟩ := hm
    rw [List.getElem?_set] at a2
    split at a2
    · split at a2
      · cases a2; simp [AObj.own] at a3
      · cases a2
    · exact ⟨j, o, l, a1, a2, a3, a4, a5⟩
  len := by simp
  fp j o o' _ h1 h2 := by
    rw [List.getElem?_set] at h2
    split at h2
    · split at h2
      · cases h2; simp [FPo]
      · cases h2
    · rw [h1] at h2; cases h2; exact .refl _
  dom _ := rfl

theorem put_len (ρ : Emb) (H : Heap) (i : Nat) (l : Loc) : ρ.put (H.set i .dead).length l = ρ.put H.length l := by simp

theorem first_run {sz k c : Nat} {a : Option Addr} {vs : List Value} (w : World) (hl : vs.length = k * sz) (hn : a = none → k = 0 ∧ vs = []) (hc : ∀ b, a = some b → ∀ j v, vs[j]? = some v → w.cell? (b.add j) = some v) :
    (Builtin.firstCells sz k (.slice a k c)).run P w = .ok vs.toArray w := by
  cases a with
  | none => obtain ⟨_, rfl⟩ := hn rfl; exact run_firstCells_none w sz k k c
  | some b => exact run_firstCells_some w sz k b k c vs hl (hc b rfl)

/-- What append does, whatever it is given: it stays in place, or it moves. -/
theorem append_room {ts : Array TypeId} {t u ty e : TypeId} {du : TypeDesc} {i : TypeInfo} {base : Option Addr} {n cap k : Nat} {y' : Value} {vs : List Value} (h0 : ts[0]? = some t) (h1 : ts[1]? = some u)
    (ht : P.underlying t = some (.slice e)) (hu : P.underlying u = some du) (hdu : (∃ e', du = .slice e') ∨ du = .string) (hi : P.info? e = some i)
    (hy : ∀ w' : World, w'.heap = w.heap → (Builtin.lenOf y').run P w' = .ok k w' ∧ (Builtin.firstCells i.size k y').run P w' = .ok vs.toArray w') (hroom : n + k ≤ cap) :
    (Builtin.append_ ts ty #[.slice base n cap, y']).run P w = (match base with
      | some b => (storeCells (b.add (n * i.size)) vs).run P w
      | none => .ok () w).andThen fun _ w' => .ok (.slice base (n + k) cap) w' := by
  obtain ⟨hl, hf⟩ := hy w rfl
  rcases hdu with ⟨e', rfl⟩ | rfl
  · cases base with
    | none => simp [Builtin.append_, h0, h1, run_underlying ht, run_underlying hu, sizeOf, typeInfo, hi, hl, hroom, hf]
    | some b => simp [Builtin.append_, h0, h1, run_underlying ht, run_underlying hu, sizeOf, typeInfo, hi, hl, hroom, hf]
  · cases base with
    | none => simp [Builtin.append_, h0, h1, run_underlying ht, run_underlying hu, sizeOf, typeInfo, hi, hl, hroom, hf]
    | some b => simp [Builtin.append_, h0, h1, run_underlying ht, run_underlying hu, sizeOf, typeInfo, hi, hl, hroom, hf]

theorem append_move {ts : Array TypeId} {t u ty e : TypeId} {du : TypeDesc} {i : TypeInfo} {z : Value} {base : Option Addr} {n cap k : Nat} {y' : Value} {us vs : List Value} (h0 : ts[0]? = some t) (h1 : ts[1]? = some u)
    (ht : P.underlying t = some (.slice e)) (hu : P.underlying u = some du) (hdu : (∃ e', du = .slice e') ∨ du = .string) (hi : P.info? e = some i) (hz : i.zero = some z)
    (hy : ∀ w' : World, w'.heap = w.heap → (Builtin.lenOf y').run P w' = .ok k w' ∧ (Builtin.firstCells i.size k y').run P w' = .ok vs.toArray w')
    (hlu : us.length = n * i.size) (hnu : base = none → n = 0 ∧ us = []) (hcu : ∀ b, base = some b → ∀ j v, us[j]? = some v → w.cell? (b.add j) = some v)
    (hmove : cap < n + k) (h63 : n + k ≤ 4611686018427387904) (hb : (n + k) * i.bytes ≤ 140737488355328) :
    (Builtin.append_ ts ty #[.slice base n cap, y']).run P w =
      .ok (.slice (some ⟨w.heap.size, 0, none⟩) (n + k) (grownCap w (n + k) cap e)) (w.drew.alloc (.cells (us.toArray ++ vs.toArray ++ Builtin.zeroCells z.cells (grownCap w (n + k) cap e - (n + k))) e)) := by
  obtain ⟨hl0, _⟩ := hy w rfl
  obtain ⟨hl, hf⟩ := hy w.drew rfl
  have hfu := first_run (P := P) (sz := i.size) (c := cap) w.drew hlu hnu (by simpa using hcu)
  have hroom : ¬ n + k ≤ cap := by omega
  have h63' : ¬ (9223372036854775807 < (n : Int) + (k : Int)) := by omega
  have hfit := growslice_fits (old := cap) (need := n + k) (bytes := i.bytes) hmove hb
  have h48' : ¬ (281474976710656 < Builtin.nextslicecap (n + k) cap * i.bytes) := by omega
  rcases hdu with ⟨e', rfl⟩ | rfl
  all_goals
    simp [Builtin.append_, h0, h1, run_underlying ht, run_underlying hu, sizeOf, typeInfo, zeroValue, hi, hz, hl0, hl, hroom, h63', h48', Question.forced, hf, hfu, newRow, grownCap]
    congr 2
    apply Array.ext'
    simp [List.append_assoc]

/-- The new row of an append that moves. -/
theorem app_new {e : TypeId} (he : e < BIG) {z : Value} {news us vs : List Value} {N K sz : Nat} (hr : Rel G B ρ H w) (h : VRs ρ news (us ++ vs)) (hN : (us ++ vs).length = N * sz) (hz : z.cells.size = sz) (hK : N ≤ K) :
    ∃ top, VR (ρ.put H.length ⟨w.heap.size, 0, top⟩) (.slice (some ⟨H.length, 0, none⟩) N sz) (.slice (some ⟨w.heap.size, 0, none⟩) N K) ∧
      Stp G B m ρ H w (ρ.put H.length ⟨w.heap.size, 0, top⟩) (H ++ [.cells news e true]) (w.drew.alloc (.cells (us.toArray ++ vs.toArray ++ Builtin.zeroCells z.cells (K - N)) e)) := by
  have hsz : (us.toArray ++ vs.toArray ++ Builtin.zeroCells z.cells (K - N)).size = K * sz := by
    simp only [List.length_append] at hN
    simp only [Array.size_append, List.size_toArray, size_zeroCells, hz, hN]
    rw [← Nat.add_mul]; congr 1; omega
  have hl := h.length
  obtain ⟨cur, hcur⟩ : ∃ cur, cur = us.toArray ++ vs.toArray ++ Builtin.zeroCells z.cells (K - N) := ⟨_, rfl⟩
  rw [← hcur] at hsz ⊢
  refine ⟨cur.size, ?_, ?_⟩
  · refine .slice _ _ _ _ _ _ ⟨w.heap.size, 0, cur.size⟩ (by simp [Emb.put]) (fun _ => rfl) hK ?_
    simp only [hsz]; omega
  · refine .row (cur := cur) (fr := (0, 0)) hr rfl rfl rfl rfl ?_ ?_ (no_frost _) ?_
    · have : cur.toList.take news.length = us ++ vs := by
        rw [hcur]
        simp only [Array.toList_append, List.append_assoc]
        rw [← List.append_assoc, hl]
        exact List.take_left
      rw [this]; exact h
    · rw [hsz, hl, hN]; exact Nat.mul_le_mul_right _ hK
    · exact wT_lt he

theorem s_appc {ts : Array TypeId} {t u ty e : TypeId} {du : TypeDesc} {i : TypeInfo} {zs : List Value} {x x' y' v : Value} {k : Nat} {news vs : List Value} {H' : Heap} (hr : Rel G B ρ H w) (h0 : ts[0]? = some t) (h1 : ts[1]? = some u)
    (ht : P.underlying t = some (.slice e)) (hu : P.underlying u = some du) (hdu : (∃ e', du = .slice e') ∨ du = .string) (hi : P.info? e = some i) (hz : zeroOf P e = some zs) (hx : VR ρ x x')
    (v1 : VRs ρ news vs) (v2 : vs.length = k * i.size) (hy : ∀ w' : World, w'.heap = w.heap → (Builtin.lenOf y').run P w' = .ok k w' ∧ (Builtin.firstCells i.size k y').run P w' = .ok vs.toArray w')
    (h : aAppC e i.size i.bytes m H x k news = some (v, H')) :
    DoesV P G B m ρ H w (Builtin.append_ ts ty #[x', y']) v H' := by
  have hbe := zero_big hz
  obtain ⟨i', z, hi', hzz, _, _, _, hzl⟩ := zero_spec hz
  rw [hi] at hi'; cases hi'
  have hzsz : z.cells.size = i.size := by
    rename_i hq _ _
    rw [← hzl, ← hq]; simp
  unfold aAppC at h
  split at h
  · -- the nil slice
    rename_i n cx
    split at h
    · rename_i hc
      obtain ⟨rfl, hb, h63, hsz, hone⟩ := hc
      cases hx with
      | sliceNone =>
        split at h
        · rename_i hk
          cases h
          subst hk
          refine .pure hr (v' := .slice none 0 0) ?_ .sliceNone
          have := append_room (P := P) (w := w) (ty := ty) (base := none) (n := 0) (cap := 0) h0 h1 ht hu hdu hi hy (by omega)
          simpa using this
        · rename_i hk
          cases h
          have := append_move (P := P) (w := w) (ty := ty) (base := none) (n := 0) (cap := 0) (us := []) h0 h1 ht hu hdu hi hzz hy (by simp) (fun _ => ⟨rfl, rfl⟩) (fun b hb => by cases hb) (by omega) (by omega) (by simpa using hb)
          simp only [Nat.zero_add] at this
          obtain ⟨top, g1, g2⟩ := app_new hbe (m := m) (e := e) (z := z) (us := []) (vs := vs) (N := k) (K := grownCap w k 0 e) (sz := i.size) hr (by simpa using v1) (by simpa using v2) hzsz (grownCap_ge w k 0 e)
          exact ⟨_, _, _, this, g1, g2⟩
    · cases h
  · -- a row of its own
    rename_i j off n cx
    split at h
    · rename_i cs T' ho
      split at h
      · rename_i hc
        obtain ⟨rfl, rfl, hlim, hle, hb, h63, hsz, hone⟩ := hc
        cases hx with
        | slice _ _ _ _ o' c' l hl hof hnc htop =>
          split at h
          · rename_i hk
            cases h
            subst hk
            have hvs : vs = [] := List.eq_nil_of_length_eq_zero (by simpa using v2)
            subst hvs
            refine .pure hr (v' := .slice (some ⟨l.blk, o', none⟩) n c') ?_ (.slice _ _ _ _ _ _ l hl hof hnc htop)
            have := append_room (P := P) (w := w) (ty := ty) (base := some ⟨l.blk, o', none⟩) (n := n) (cap := c') h0 h1 ht hu hdu hi hy (by omega)
            simpa [storeCells] using this
          · rename_i hk
            cases h
            have hcells : cellsOf H j = some cs := by unfold cellsOf; rw [ho]
            obtain ⟨us, u1, u2, u3⟩ := hr.row hcells hle hl
            have hu0 : ∀ q v, us[q]? = some v → w.cell? ((⟨l.blk, o', none⟩ : Addr).add q) = some v := by
              intro q v hq
              have hpos : 0 < n := by
                rcases Nat.eq_zero_or_pos n with h | h
                · have : us = [] := List.eq_nil_of_length_eq_zero (by rw [u2, h]; simp)
                  rw [this] at hq; simp at hq
                · exact h
              rw [Addr_add, hof hpos]
              exact u3 q v hq
            have hnews : VRs ρ ((cs.drop off).take (n * i.size) ++ news) (us ++ vs) := u1.append v1
            have hlen : (us ++ vs).length = (n + k) * i.size := by rw [List.length_append, u2, v2, Nat.add_mul]
            by_cases hroom : n + k ≤ c'
            · -- in place
              obtain ⟨loc, cur, fr, e1, q2, q3, q4, q5, q6⟩ := hr.obj j _ ho
              rw [hl] at e1; cases e1
              obtain ⟨hB, hfr, hbig⟩ := q6 rfl
              have hfit : o' + n * i.size + vs.length ≤ cur.size := by
                have : (n + k) * i.size ≤ c' * i.size := Nat.mul_le_mul_right _ hroom
                rw [Nat.add_mul] at this
                omega
              obtain ⟨w', cur', e, k2, k3, k4, k5, k6, k7, k8⟩ := storeCells_run (P := P) l.blk (wT T') fr (o' + n * i.size) vs 0 cur w q2 (by simpa using hfit) hfr (v1.oneC hone)
              have hcs : cur'.size = cur.size := by
                have := congrArg List.length k3
                rw [setL_length] at this
                simpa using this
              have hrun := append_room (P := P) (w := w) (ty := ty) (base := some ⟨l.blk, o', none⟩) (n := n) (cap := c') h0 h1 ht hu hdu hi hy hroom
              have hle' : ρ.le (ρ.put H.length ⟨l.blk, o', l.top⟩) := Emb.le_put (hr.dom _ (Nat.le_refl _))
              refine ⟨.slice (some ⟨l.blk, o', none⟩) (n + k) c', w', ρ.put H.length ⟨l.blk, o', l.top⟩, ?_, ?_, ?_⟩
              · rw [hrun]; simp only [Addr_add, e, Result.andThen_ok]
              · exact .slice _ _ _ _ _ _ ⟨l.blk, o', l.top⟩ (by simp [Emb.put]) (fun _ => rfl) hroom htop
              have hrk := hr.kill j
              have hlv : ∀ (q : Nat) (o : AObj) l0, (H.set j .dead)[q]? = some o → o.live = true → ρ q = some l0 → l0.blk ≠ l.blk := by
                intro q o l0 hq hlive e0
                rw [List.getElem?_set] at hq
                split at hq
                · split at hq
                  · cases hq; simp [AObj.live] at hlive
                  · cases hq
                · rename_i hne
                  exact (hr.inj j q _ o l l0 hne ho hq rfl hlive hl e0).symm
              have hobj : ObjR B (ρ.put H.length ⟨l.blk, o', l.top⟩) (.cells ((cs.drop off).take (n * i.size) ++ news) T' true) (some ⟨l.blk, o', l.top⟩) w' := by
                have hL : ((cs.drop off).take (n * i.size) ++ news).length = (n + k) * i.size := by rw [hnews.length, hlen]
                refine ⟨_, cur', fr, rfl, k2, ?_, by show l.top ≤ cur'.size; omega, ?_, fun _ => ⟨hB, by rw [hcs]; exact hfr, fun hb => absurd hbe (Nat.not_lt.2 hb)⟩⟩
                · rw [hL]
                  have : (n + k) * i.size ≤ c' * i.size := Nat.mul_le_mul_right _ hroom
                  simp only; omega
                · rw [hL, k3]
                  have hw : ((setL cur.toList (o' + n * i.size + 0) vs).drop o').take ((n + k) * i.size) = us ++ vs := by
                    rw [Nat.add_zero, window_setL _ _ _ _ _ (by rw [v2, ← Nat.add_mul]; exact Nat.le_refl _)]
                    apply List.ext_getElem?
                    intro q
                    have hcl : ((cur.toList.drop o').take ((n + k) * i.size)).length = (n + k) * i.size := by
                      have : (n + k) * i.size ≤ c' * i.size := Nat.mul_le_mul_right _ hroom
                      simp; omega
                    rw [setL_get _ _ _ _ (by rw [hcl, v2, ← Nat.add_mul]; exact Nat.le_refl _), List.getElem?_append, u2]
                    by_cases hq : q < n * i.size
                    · rw [if_neg (by omega), if_pos hq]
                      have hq' : q < us.length := by omega
                      have := hu0 q us[q] (by simp [hq'])
                      rw [Addr_add, World_cell w _ _ cur _ fr q2] at this
                      have hN : q < (n + k) * i.size := by rw [Nat.add_mul]; omega
                      simp [hN, this, hq']
                    · rw [if_neg hq]
                      by_cases hq2 : q < n * i.size + vs.length
                      · rw [if_pos (by omega)]
                      · rw [if_neg (by omega), List.getElem?_eq_none (by rw [hcl, Nat.add_mul]; omega), List.getElem?_eq_none (by omega)]
                  rw [hw]
                  exact hnews.mono hle'
              have hrel := hrk.push (o := .cells ((cs.drop off).take (n * i.size) ++ news) T' true) (l := ⟨l.blk, o', l.top⟩) (w' := w')
                (fun q o l0 hq hlive e0 => k4 _ (hlv q o l0 hq hlive e0)) (fun q o l0 hq hlive e0 => hlv q o l0 hq hlive e0) (by rw [put_len]; exact hobj) (by rw [k5]; exact hr.big)
              rw [put_len] at hrel
              refine ⟨hle', hrel, ⟨k6, k7, k8, by omega, fun b hb hnb => k4 b fun e => hnb ⟨j, _, l, hlim, ho, rfl, hl, e.symm⟩⟩, fun b hb hm => ?_, by simp, fun q o1 o2 _ h1 h2 => ?_, fun e => by simp at e⟩
              · obtain ⟨q, o, lq, a1, a2, a3, a4, a5⟩ := hm
                rw [List.getElem?_append] at a2
                split at a2
                · rename_i hq
                  simp only [List.length_set] at hq
                  rw [List.getElem?_set] at a2
                  split at a2
                  · split at a2
                    · cases a2; simp [AObj.own] at a3
                    · cases a2
                  · refine ⟨q, o, lq, a1, a2, a3, ?_, a5⟩
                    simpa [Emb.put, Nat.ne_of_lt hq] using a4
                · rename_i hq
                  have : q = H.length := by
                    simp only [List.length_set] at hq a2
                    rcases Nat.eq_zero_or_pos (q - H.length) with h' | h'
                    · omega
                    · rw [List.getElem?_eq_none (by simp; omega)] at a2; cases a2
                  subst this
                  simp only [Emb.put, if_true, Option.some.injEq] at a4
                  subst a4
                  exact ⟨j, _, l, hlim, ho, rfl, hl, a5⟩
              · rw [List.getElem?_append_left (by simp; exact (List.getElem?_eq_some_iff.1 h1).1), List.getElem?_set] at h2
                split at h2
                · split at h2
                  · cases h2; simp [FPo]
                  · cases h2
                · rw [h1] at h2; cases h2; exact .refl _
            · -- moved
              have := append_move (P := P) (w := w) (ty := ty) (base := some ⟨l.blk, o', none⟩) (n := n) (cap := c') (us := us) h0 h1 ht hu hdu hi hzz hy u2 (fun h => by cases h) (fun b hb => by cases hb; exact hu0) (by omega) h63 hb
              have hk := Stp.kill (m := m) hr j
              obtain ⟨top, g1, g2⟩ := app_new hbe (m := m) (e := T') (z := z) (us := us) (vs := vs) (N := n + k) (K := grownCap w (n + k) c' T') (sz := i.size) hk.rel hnews hlen hzsz (grownCap_ge w (n + k) c' T')
              simp only [List.length_set] at g1
              exact ⟨_, _, _, this, by simpa using g1, hk.trans g2⟩
        | slice0 _ _ _ ba l hl =>
          split at h
          · rename_i hk
            cases h
            subst hk
            have hvs : vs = [] := List.eq_nil_of_length_eq_zero (by simpa using v2)
            subst hvs
            refine .pure hr (v' := .slice (some ba) 0 0) ?_ (.slice0 _ _ _ ba l hl)
            have := append_room (P := P) (w := w) (ty := ty) (base := some ba) (n := 0) (cap := 0) h0 h1 ht hu hdu hi hy (by omega)
            simpa [storeCells] using this
          · rename_i hk
            cases h
            have := append_move (P := P) (w := w) (ty := ty) (base := some ba) (n := 0) (cap := 0) (us := []) h0 h1 ht hu hdu hi hzz hy (by simp) (fun h => by cases h) (fun b hb j v hv => by simp at hv) (by omega) (by omega) hb
            simp only [Nat.zero_add] at this
            have hk := Stp.kill (m := m) hr j
            obtain ⟨top, g1, g2⟩ := app_new hbe (m := m) (e := T') (z := z) (us := []) (vs := vs) (N := k) (K := grownCap w k 0 T') (sz := i.size) hk.rel (by simpa using v1) (by simpa using v2) hzsz (grownCap_ge w k 0 T')
            simp only [List.length_set] at g1
            exact ⟨_, _, _, this, by simpa using g1, by simpa using hk.trans g2⟩
      · cases h
    · cases h
  · cases h

theorem s_app {ts : Array TypeId} {t u ty e e' : TypeId} {i : TypeInfo} {zs : List Value} {x x' y y' v : Value} {H' : Heap} (hr : Rel G B ρ H w) (h0 : ts[0]? = some t) (h1 : ts[1]? = some u)
    (ht : P.underlying t = some (.slice e)) (hu : P.underlying u = some (.slice e')) (hi : P.info? e = some i) (hz : zeroOf P e = some zs) (hx : VR ρ x x') (hy : VR ρ y y') (h : aApp e i.size i.bytes m H x y = some (v, H')) :
    DoesV P G B m ρ H w (Builtin.append_ ts ty #[x', y']) v H' := by
  unfold aApp at h
  split at h
  · rename_i ay k cy
    simp only [Option.bind_eq_some_iff] at h
    obtain ⟨news, hrow, h⟩ := h
    have hsy : ∃ a c, y' = .slice a k c := by cases hy <;> exact ⟨_, _, rfl⟩
    obtain ⟨a, c, rfl⟩ := hsy
    obtain ⟨vs, v1, v2, v3, v4⟩ := row_run hr hy hrow rfl
    refine s_appc hr h0 h1 ht hu (.inl ⟨_, rfl⟩) hi hz hx v1 v2 (fun w' hw => ⟨rfl, first_run w' v2 v3 fun b hb j v hv => ?_⟩) h
    have := v4 b hb j v hv
    unfold World.cell? at this ⊢
    rw [hw]; exact this
  · cases h

theorem bytesL_size (s : ByteArray) : (bytesL s).length = s.size := by rw [bytesL, List.length_map]; exact Array.length_toList
theorem s_apps {ts : Array TypeId} {t u ty e : TypeId} {i : TypeInfo} {zs : List Value} {x x' y' v : Value} {s : ByteArray} {H' : Heap} (hr : Rel G B ρ H w) (h0 : ts[0]? = some t) (h1 : ts[1]? = some u)
    (ht : P.underlying t = some (.slice e)) (hu : P.underlying u = some .string) (hi : P.info? e = some i) (hz : zeroOf P e = some zs) (hx : VR ρ x x') (hy : VR ρ (.string s) y') (hsz : i.size = 1)
    (h : aAppC e i.size i.bytes m H x s.size (bytesL s) = some (v, H')) :
    DoesV P G B m ρ H w (Builtin.append_ ts ty #[x', y']) v H' := by
  cases hy
  refine s_appc (vs := bytesL s) hr h0 h1 ht hu (.inr rfl) hi hz hx ?_ (by rw [bytesL_size, hsz, Nat.mul_one]) (fun w' hw => ⟨rfl, ?_⟩) h
  · refine .flat_refl ?_
    simp only [bytesL, List.all_map, List.all_eq_true]
    intro b _; rfl
  · have : s.extract 0 s.size = s := by
      apply ByteArray.ext; simp
    simp only [Builtin.firstCells, this]
    show Result.ok _ _ = Result.ok _ _
    congr 1
    apply Array.ext'
    simp [bytesL]

theorem s_mks {t e : TypeId} {i : TypeInfo} {zs : List Value} {l' c' : Value} {kl kc : IntKind} {n : Int} (hr : Rel G B ρ H w) (ht : P.underlying t = some (.slice e)) (hi : P.info? e = some i) (hz : zeroOf P e = some zs)
    (hl : VR ρ (.int kl n) l') (hc : VR ρ (.int kc n) c') (h0 : 0 ≤ n) (hb : n * i.bytes ≤ 140737488355328) (h62 : n ≤ 4611686018427387904) (hpos : 0 < zs.length) :
    DoesV P G B m ρ H w (Instr.makeSlice t l' c') (.slice (some ⟨H.length, 0, none⟩) n.toNat zs.length) (H ++ [.cells (List.replicate n.toNat zs).flatten e true]) := by
  cases hl; cases hc
  obtain ⟨i', z, hi', hzz, hq, hf, _, hzl⟩ := zero_spec hz
  rw [hi] at hi'; cases hi'
  subst hq
  obtain ⟨N, rfl⟩ : ∃ N : Nat, n = N := ⟨n.toNat, by omega⟩
  have hw : IntKind.i64.wrap (N : Int) = N := by
    rw [IntKind.wrap_i64]; omega
  have hsize : szOf P e = some z.cells.size := by simp [szOf, hi]; simpa using hzl.symm
  obtain ⟨Z, hZ⟩ : ∃ Z : Array Value, Z = if N * z.cells.size = 0 then #[] else z.cells := ⟨_, rfl⟩
  obtain ⟨cur, hcd⟩ : ∃ cur : Array Value, cur = (Array.range (N * z.cells.size)).map (Z[· % Z.size]!) := ⟨_, rfl⟩
  have hcur : cur.toList = (List.replicate N z.cells.toList).flatten := by
    by_cases h : N * z.cells.size = 0
    · have : (List.replicate N z.cells.toList).flatten = [] := by
        apply List.eq_nil_of_length_eq_zero
        rw [flat_rep_len]; simpa using h
      rw [this, hcd, h]; simp
    · rw [hcd, hZ]; simp only [if_neg h]; exact zero_row _ _
  have hall : (List.replicate N z.cells.toList).flatten.all flat = true := by
    simp only [List.all_eq_true] at hf ⊢
    intro v hv
    simp only [List.mem_flatten, List.mem_replicate] at hv
    obtain ⟨l, ⟨_, rfl⟩, h⟩ := hv
    exact hf v h
  have hcl := congrArg List.length hcur
  simp only [Array.length_toList, flat_rep_len] at hcl
  refine ⟨.slice (some ⟨w.heap.size, 0, none⟩) N N, w.alloc (.cells cur e), ρ.put H.length ⟨w.heap.size, 0, cur.size⟩, ?_, ?_, ?_⟩
  · have h1 : ¬ (281474976710656 < (i.bytes : Int) * (N : Int)) := by rw [Int.mul_comm]; omega
    have h2 : ¬ ((N : Int) < 0) := by omega
    have hsz := run_sizeOf (P := P) (w := w) hsize
    rw [hcd, hZ]
    by_cases h : N * z.cells.size = 0
    · simp only [if_pos h]
      simp [Instr.makeSlice, run_underlying ht, asInt, asIntOf, typeInfo, hi, hw, h1, h2, hsz, newRow, h]
    · simp only [if_neg h]
      simp [Instr.makeSlice, run_underlying ht, asInt, asIntOf, typeInfo, hi, hw, h1, h2, hsz, newRow, h, zeroValue, hzz]
  · refine .slice _ _ _ _ _ _ ⟨w.heap.size, 0, cur.size⟩ (by simp [Emb.put]) (fun _ => rfl) (Nat.le_refl _) ?_
    simp only [hcl, Array.length_toList]; omega
  · refine .row (cur := cur) (fr := (0, 0)) hr rfl rfl rfl rfl ?_ ?_ (no_frost _) ?_
    · rw [List.take_of_length_le (by simp [hcl]), hcur]
      exact .flat_refl hall
    · simp [hcl]
    · exact wT_lt (zero_big hz)

end
end Ev
end Go.Proofs.Ytfbelnjchpffeaa
