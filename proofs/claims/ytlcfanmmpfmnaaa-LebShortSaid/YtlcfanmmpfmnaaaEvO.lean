/-
  A drawn region: whatever order is drawn, it does what 'adraw' and 'aops' answer.
-/
import Derived.Test.YtlcfanmmpfmnaaaEvN
namespace Go.Proofs.Ytlcfanmmpfmnaaa
namespace Ev
open Go.RowKit (Below)
section
variable {C : Cf} {B N : Nat} {m : Mode} {ρ : Emb} {H : Heap} {w : World} {e : Env} {a : Act} {call : CallF}

theorem Al.get {P : Program} {G : Nat} {ops : Array Oper} {l : List Nat} {as : List AOper} (h : Al P G ops N l as) : ∀ (k i : Nat), l[k]? = some i →
    ∃ o ao, ops[i]? = some o ∧ as[k]? = some ao ∧ cOper P G ops o = some ao ∧ wfOper N ao = true := by
  induction h with
  | nil => intro k i h; simp at h
  | @cons i o ao l as ho hc hw t ih =>
    intro k i' h
    cases k with
    | zero => simp at h; subst h; exact ⟨o, ao, ho, by simp, hc, hw⟩
    | succ k => simpa using ih k i' (by simpa using h)

theorem Al.drop {P : Program} {G : Nat} {ops : Array Oper} {l : List Nat} {as : List AOper} (h : Al P G ops N l as) : ∀ (k : Nat), Al P G ops N (l.drop k) (as.drop k) := by
  induction h with
  | nil => intro k; simp; exact .nil
  | cons ho hc hw t ih =>
    intro k
    cases k with
    | zero => exact .cons ho hc hw t
    | succ k => exact ih k

theorem Al.length {P : Program} {G : Nat} {ops : Array Oper} {l : List Nat} {as : List AOper} (h : Al P G ops N l as) : l.length = as.length := by
  induction h with
  | nil => rfl
  | cons _ _ _ _ ih => simp [ih]

structure DrawOk (ops : Array Oper) (as : List AOper) (t : Nat) : Prop where
  d1 : ∀ (i : Nat) (o : Oper), ops[i]? = some o → ∀ e ∈ o.after.toList, Region.binds .any e = true → e.on < i
  d2 : ∀ (i j : Nat) (o p : AOper), i < t → j < t → j ≠ i → as[i]? = some o → as[j]? = some p → ∀ d, p.dst = some d →
    o.dst ≠ some d ∧ (d ∈ tOper o → (j < i ∧ bitOf (Region.before ops) i j = true) ∨ (i < j ∧ bitOf (Region.before ops) j i = true))
  d3 : ∀ i, t ≤ i → i < ops.size → ∀ j, j < i → bitOf (Region.before ops) i j = true

theorem drawOk_spec {ops : Array Oper} {as : List AOper} {t : Nat} (h : drawOk ops as t = true) : DrawOk ops as t := by
  unfold drawOk at h
  simp only [Bool.and_eq_true] at h
  obtain ⟨⟨h1, h2⟩, h3⟩ := h
  refine ⟨fun i o ho e he hb => ?_, fun i j o p hi hj hji ho hp d hd => ?_, fun i hti hi j hj => ?_⟩
  · have hi := (Array.getElem?_eq_some_iff.1 ho).1
    have := List.all_eq_true.1 h1 i (by simpa using hi)
    rw [ho] at this
    simp only [Array.all_eq_true'] at this
    have := this e (by simpa using he)
    simpa [hb] using this
  · have := List.all_eq_true.1 h2 i (by simpa using hi)
    rw [ho] at this
    have := List.all_eq_true.1 this j (by simpa using hj)
    rw [hp] at this
    simp only [hd, Bool.or_eq_true, Bool.and_eq_true, Bool.not_eq_true', beq_iff_eq] at this
    rcases this with h | ⟨h4, h5⟩
    · exact absurd h hji
    · refine ⟨by simpa using h4, fun hm => ?_⟩
      rcases h5 with (h5 | h5) | h5
      · rw [List.contains_iff_mem.2 hm] at h5; cases h5
      · exact .inl (by simpa using h5)
      · exact .inr (by simpa using h5)
  · have := List.all_eq_true.1 h3 i (by simpa using hi)
    simp only [Bool.or_eq_true] at this
    rcases this with h | h
    · simp at h; omega
    · exact List.all_eq_true.1 h j (by simpa using hj)

theorem countP_lt {p q : Nat → Bool} {i : Nat} (hp : p i = true) (hq : q i = false) (hpq : ∀ j, q j = true → p j = true) : ∀ (l : List Nat), i ∈ l → l.countP q < l.countP p
  | [], h => by simp at h
  | x :: l, h => by
    have hle : l.countP q ≤ l.countP p := List.countP_mono_left fun j _ h => hpq j h
    simp only [List.countP_cons]
    by_cases hx : x = i
    · subst hx
      simp [hp, hq]; omega
    · have := countP_lt hp hq hpq l (by simpa [Ne.symm hx] using h)
      by_cases hqx : q x = true
      · simp [hqx, hpq x hqx]; omega
      · simp [hqx]; split <;> omega

def unl (n : Nat) (listed : Array Bool) : Nat := (List.range n).countP fun i => !listed.getD i false

theorem first_unlisted (f : Nat → Bool) : ∀ (t : Nat), (∀ j, j < t → f j = true) ∨ ∃ j, j < t ∧ f j = false ∧ ∀ k, k < j → f k = true
  | 0 => .inl fun j h => by omega
  | t + 1 => by
    rcases first_unlisted f t with h | ⟨j, h1, h2, h3⟩
    · cases hf : f t with
      | true =>
        refine .inl fun j hj => ?_
        rcases Nat.lt_or_ge j t with h' | h'
        · exact h j h'
        · obtain rfl : j = t := by omega
          exact hf
      | false => exact .inr ⟨t, by omega, hf, h⟩
    · exact .inr ⟨j, by omega, h2, h3⟩

theorem tmps_put {a : Act} {dst : Option Nat} {v : Value} {d : Nat} (hd : d < a.tmps.size) :
    (a.put dst v).tmps.getD d undef = if dst = some d then v else a.tmps.getD d undef := by
  cases dst with
  | none => simp [Act.put]
  | some x =>
    simp only [Act.put, Option.some.injEq]
    by_cases h : x = d
    · subst h; simp [hd, Array.getD_eq_getD_getElem?]
    · rw [if_neg h]; simp [Array.getD_eq_getD_getElem?, Array.getElem?_setIfInBounds_ne h]

theorem draw_any (hC : C.Ok) (hcall : CallOK C B call) {ops : Array Oper} {as : List AOper} {t : Nat} (hal : Al C.P C.G ops N (List.range' 0 ops.size) as) (hok : DrawOk ops as t) (htn : t ≤ ops.size)
    {e eF e' : Env} {H' : Heap} {a0 : Act} {w0 : World} (hfb : m.fb ≤ H.length) (h1 : adraw C call (as.take t) e H = some eF) (h2 : aops C call m (as.drop t) eF H = some (e', H'))
    {Q : Exit → Act → World → Prop} (hQ : ∀ a' w' ρ', EnvR ρ' N e' a' → a'.defers = a0.defers → Stp C.G B m ρ H w0 ρ' H' w' → Q .normal a' w') :
    ∀ (fuel : Nat) (listed : Array Bool) (a : Act) (w : World), unl ops.size listed ≤ fuel → listed.size = ops.size → (∀ i, listed.getD i false = true → i < t) → Closed ops listed → a.tmps.size = N → a.defers = a0.defers →
      Stp C.G B m ρ H w0 ρ H w → (∀ d, d < N → (∃ j p, listed.getD j false = true ∧ as[j]? = some p ∧ p.dst = some d) → VR ρ (eF d) (a.tmps.getD d undef)) →
      (∀ d, d < N → (¬ ∃ j p, listed.getD j false = true ∧ as[j]? = some p ∧ p.dst = some d) → VR ρ (e d) (a.tmps.getD d undef)) → wpAny C.P .any ops Q fuel listed a w := by
  have hlen : as.length = ops.size := by simpa using hal.length.symm
  have htk : ∀ (j : Nat) (p : AOper), (as.take t)[j]? = some p → j < t ∧ as[j]? = some p := by
    intro j p h
    rw [List.getElem?_take] at h
    split at h
    · rename_i hj; exact ⟨hj, h⟩
    · cases h
  intro fuel
  induction fuel with
  | zero =>
    intro listed a w hu hs hlt hcl hN hdf hst v1 v2
    rcases first_unlisted (fun j => listed.getD j false) t with hall | ⟨j0, hj0, hf, hbel⟩
    · refine forced hok.d1 hok.d3 (ops.size - t) t listed a w (by omega) (Nat.le_refl _) hs (fun i hi => ?_) ?_ 0 ?_
      · cases hq : listed.getD i false with
        | true => simp [hlt i hq]
        | false =>
          rcases Nat.lt_or_ge i t with h | h
          · have := hall i h; rw [hq] at this; cases this
          · simp; omega
      · have hal' := hal.drop t
        have hrng : (List.range' 0 ops.size).drop t = List.range' t (ops.size - t) := by simp
        rw [hrng] at hal'
        refine ops_sound hC hcall hal' ⟨hN, fun d hd => ?_⟩ hst.rel hfb h2 fun a' w' ρ' he' hd' hst' => hQ a' w' ρ' he' (hd'.trans hdf) (hst.trans hst')
        by_cases hw : ∃ j p, listed.getD j false = true ∧ as[j]? = some p ∧ p.dst = some d
        · exact v1 d hd hw
        · rw [adraw_env _ h1 d fun o ho hod => ?_]
          · exact v2 d hd hw
          · obtain ⟨k, hk⟩ := List.mem_iff_getElem?.1 ho
            obtain ⟨hkt, hk'⟩ := htk k o hk
            exact hw ⟨k, o, hall k hkt, hk', hod⟩
      · have : unl ops.size listed ≥ ops.size - t := by
          unfold unl
          have hsplit : List.range ops.size = List.range' 0 t ++ List.range' t (ops.size - t) := by
            rw [List.range_eq_range']
            have := List.range'_append (s := 0) (m := t) (n := ops.size - t) (step := 1)
            simp only [Nat.one_mul, Nat.zero_add] at this
            rw [this]; congr 1; omega
          rw [hsplit, List.countP_append]
          have : (List.range' t (ops.size - t)).countP (fun i => !listed.getD i false) = (List.range' t (ops.size - t)).length := by
            rw [List.countP_eq_length]
            intro i hi
            have : t ≤ i := by simp [List.mem_range'] at hi; omega
            cases hq : listed.getD i false with
            | true => have := hlt i hq; omega
            | false => rfl
          rw [this]; simp
        omega
    · exfalso
      have : 0 < unl ops.size listed := by
        unfold unl
        rw [List.countP_pos_iff]
        exact ⟨j0, by simp; omega, by rw [hf]; rfl⟩
      omega
  | succ fuel ih =>
    intro listed a w hu hs hlt hcl hN hdf hst v1 v2
    rcases first_unlisted (fun j => listed.getD j false) t with hall | ⟨j0, hj0, hf, hbel⟩
    · refine forced hok.d1 hok.d3 (ops.size - t) t listed a w (by omega) (Nat.le_refl _) hs (fun i hi => ?_) ?_ (fuel + 1) ?_
      · cases hq : listed.getD i false with
        | true => simp [hlt i hq]
        | false =>
          rcases Nat.lt_or_ge i t with h | h
          · have := hall i h; rw [hq] at this; cases this
          · simp; omega
      · have hal' := hal.drop t
        have hrng : (List.range' 0 ops.size).drop t = List.range' t (ops.size - t) := by simp
        rw [hrng] at hal'
        refine ops_sound hC hcall hal' ⟨hN, fun d hd => ?_⟩ hst.rel hfb h2 fun a' w' ρ' he' hd' hst' => hQ a' w' ρ' he' (hd'.trans hdf) (hst.trans hst')
        by_cases hw : ∃ j p, listed.getD j false = true ∧ as[j]? = some p ∧ p.dst = some d
        · exact v1 d hd hw
        · rw [adraw_env _ h1 d fun o ho hod => ?_]
          · exact v2 d hd hw
          · obtain ⟨k, hk⟩ := List.mem_iff_getElem?.1 ho
            obtain ⟨hkt, hk'⟩ := htk k o hk
            exact hw ⟨k, o, hall k hkt, hk', hod⟩
      · have : unl ops.size listed ≥ ops.size - t := by
          unfold unl
          have hsplit : List.range ops.size = List.range' 0 t ++ List.range' t (ops.size - t) := by
            rw [List.range_eq_range']
            have := List.range'_append (s := 0) (m := t) (n := ops.size - t) (step := 1)
            simp only [Nat.one_mul, Nat.zero_add] at this
            rw [this]; congr 1; omega
          rw [hsplit, List.countP_append]
          have : (List.range' t (ops.size - t)).countP (fun i => !listed.getD i false) = (List.range' t (ops.size - t)).length := by
            rw [List.countP_eq_length]
            intro i hi
            have : t ≤ i := by simp [List.mem_range'] at hi; omega
            cases hq : listed.getD i false with
            | true => have := hlt i hq; omega
            | false => rfl
          rw [this]; simp
        omega
    · refine ⟨fun h0 => ?_, fun i hi => ?_⟩
      · exfalso
        have hjn : j0 < ops.size := by omega
        have : j0 ∈ Region.ready .any ops listed := ready_spec.2 ⟨hjn, by rw [getD_listed (by omega)]; exact hf, ops[j0], by simp [hjn], fun e he hb => hbel _ (hok.d1 j0 _ (by simp [hjn]) e he hb)⟩
        rw [h0] at this; cases this
      · obtain ⟨hin, hli, o, ho, hedges⟩ := ready_spec.1 hi
        rw [getD_listed (by omega)] at hli
        have hbits := bit_listed hcl i o ho hedges
        have hit : i < t := by
          rcases Nat.lt_or_ge i t with h | h
          · exact h
          · have := hbits j0 (hok.d3 i h hin j0 (by omega))
            rw [hf] at this; cases this
        obtain ⟨o', ao, ho', hao, hc, hw⟩ := hal.get i i (by simp [hin])
        rw [ho] at ho'; cases ho'
        obtain ⟨hts, hds, htg⟩ := wf_spec hw
        obtain ⟨ei, v, hv, f1, f2, f3⟩ := adraw_at (as.take t) i ao (by rw [List.getElem?_take, if_pos hit]; exact hao) h1
        have hdis : ∀ (j : Nat) (p : AOper) (d : Nat), j < t → j ≠ i → as[j]? = some p → ao.dst = some d → p.dst ≠ some d := fun j p d hj hji hp hd => (hok.d2 j i p ao hj hit (Ne.symm hji) hp hao d hd).1
        have hOn : EnvOn ρ (fun d => d ∈ tOper ao) ei a := by
          refine ⟨fun d hd => ?_⟩
          by_cases hwr : ∃ j p, listed.getD j false = true ∧ as[j]? = some p ∧ p.dst = some d
          · have hwr' := hwr
            obtain ⟨j, p, hj, hp, hpd⟩ := hwr
            have hjt := hlt j hj
            have hji : j ≠ i := fun h => by subst h; rw [hli] at hj; cases hj
            obtain ⟨g1, g2⟩ := hok.d2 i j ao p hit hjt hji hao hp d hpd
            have hlt' : j < i := by
              rcases g2 hd with ⟨h, _⟩ | ⟨h, hb⟩
              · exact h
              · exfalso
                have hjn : j < ops.size := by omega
                have := bit_listed hcl j ops[j] (by simp [hjn]) (fun e he hb => hcl j _ (by simp [hjn]) hj e he hb) i hb
                rw [hli] at this; cases this
            rw [f2 d fun j' p' hj' hp' hpd' => ?_]
            · exact v1 d (htg d hd) hwr'
            · obtain ⟨hj't, hp''⟩ := htk j' p' hp'
              by_cases h : j' = i
              · subst h; rw [hao] at hp''; cases hp''; exact g1 hpd'
              · exact (hok.d2 j' j p' p hj't hjt (by omega) hp'' hp d hpd).1 hpd'
          · rw [f1 d fun j' p' hj' hp' hpd' => ?_]
            · exact v2 d (htg d hd) hwr
            · obtain ⟨hj't, hp''⟩ := htk j' p' hp'
              obtain ⟨g1, g2⟩ := hok.d2 i j' ao p' hit hj't (by omega) hao hp'' d hpd'
              rcases g2 hd with ⟨_, hb⟩ | ⟨h, _⟩
              · exact hwr ⟨j', p', hbits j' hb, hp'', hpd'⟩
              · omega
        obtain ⟨hwant, hdst, hop⟩ := wanted_eq hc (S := fun d => d ∈ tOper ao) (fun d hd => ⟨hd, by rw [hN]; exact htg d hd⟩) hOn
        -- the rest, behind whatever value came
        have next : ∀ v' w', VR ρ v v' → Stp C.G B m ρ H w0 ρ H w' → wpAny C.P .any ops Q fuel (listed.setIfInBounds i true) (a.put o.dst v') w' := by
          intro v' w' hvv hst'
          have hil : i < listed.size := by omega
          refine ih (listed.setIfInBounds i true) _ _ ?_ (by simp [hs]) ?_ ?_ (by rw [put_size]; exact hN) (by rw [put_def]; exact hdf) hst' ?_ ?_
          · have : unl ops.size (listed.setIfInBounds i true) < unl ops.size listed := by
              refine countP_lt (i := i) (by rw [hli]; rfl) (by rw [getD_set hil]; simp) (fun j hj => ?_) _ (by simpa using hin)
              rw [getD_set hil] at hj
              split at hj
              · simp at hj
              · exact hj
            omega
          · intro j hj
            rw [getD_set hil] at hj
            split at hj
            · rename_i h; omega
            · exact hlt j hj
          · intro j oj hoj hj e he hb
            rw [getD_set hil] at hj ⊢
            split
            · rfl
            · split at hj
              · rename_i h; subst h
                rw [ho] at hoj; cases hoj
                exact hedges e he hb
              · exact hcl j oj hoj hj e he hb
          · intro d hd hwr
            rw [tmps_put (by omega), hdst]
            split
            · rename_i hdd
              rw [f3 d hdd fun j p hj hp => by
                obtain ⟨hjt, hp'⟩ := htk j p hp
                exact hdis j p d hjt (by omega) hp' hdd]
              exact hvv
            · rename_i hdd
              obtain ⟨j, p, hj, hp, hpd⟩ := hwr
              rw [getD_set hil] at hj
              split at hj
              · rename_i h; subst h; rw [hao] at hp; cases hp; exact absurd hpd hdd
              · exact v1 d hd ⟨j, p, hj, hp, hpd⟩
          · intro d hd hwr
            rw [tmps_put (by omega), hdst]
            split
            · rename_i hdd
              exact absurd ⟨i, ao, by rw [getD_set hil]; simp, hao, hdd⟩ hwr
            · refine v2 d hd fun ⟨j, p, hj, hp, hpd⟩ => hwr ⟨j, p, ?_, hp, hpd⟩
              rw [getD_set hil]
              split
              · rfl
              · exact hj
        unfold wpOp
        rw [ho]
        simp only [hwant]
        split at hv
        · rename_i hyes
          rw [if_pos hyes]
          obtain ⟨H1, hstep, hl1⟩ := hv
          refine .inl (astep_sound hC hcall hop (S := fun d => d ∈ tOper ao) (fun d hd => by simp [tOper, hd]) hOn hst.rel (Nat.le_refl _) hstep fun v' w' ρ' hvv hst' => ?_)
          have hρ := hst'.dom hl1
          subst hρ
          exact next v' w' hvv (hst.trans (Stp.ro hst.rel hst'))
        · rename_i hno
          rw [if_neg hno]
          subst hv
          exact next undef w (undef_vr _) hst

theorem draw_sound (hC : C.Ok) (hcall : CallOK C B call) {ops : Array Oper} {as : List AOper} {t id : Nat} (hal : Al C.P C.G ops N (List.range' 0 ops.size) as) (hok : DrawOk ops as t) (htn : t ≤ ops.size)
    {e eF e' : Env} {H' : Heap} (he : EnvR ρ N e a) (hr : Rel C.G B ρ H w) (hfb : m.fb ≤ H.length) (h1 : adraw C call (as.take t) e H = some eF) (h2 : aops C call m (as.drop t) eF H = some (e', H'))
    {Q : Exit → Act → World → Prop} (hQ : ∀ a' w' ρ', EnvR ρ' N e' a' → a'.defers = a.defers → Stp C.G B m ρ H w ρ' H' w' → Q .normal a' w') :
    (Code.region id ops true).wp C.P Q a w := by
  refine wp_region_any hC.mixed ?_
  have hnone : ∀ i, (Array.replicate ops.size false).getD i false = false := by
    intro i
    simp only [Array.getD_eq_getD_getElem?, Array.getElem?_replicate]
    split <;> rfl
  refine draw_any hC hcall hal hok htn (e := e) hfb h1 h2 (a0 := a) (w0 := w) hQ ops.size _ a _ ?_ (by simp) (fun i h => by rw [hnone] at h; cases h) (fun i o _ h => by rw [hnone] at h; cases h) he.size rfl ?_
    (fun d hd ⟨j, p, h, _⟩ => by rw [hnone] at h; cases h) (fun d hd _ => he.val d hd)
  · unfold unl
    refine Nat.le_trans List.countP_le_length (by simp)
  · exact .ofBelow hr ⟨rfl, rfl, rfl, Nat.le_refl _, fun _ _ => rfl⟩

end
end Ev
end Go.Proofs.Ytlcfanmmpfmnaaa
