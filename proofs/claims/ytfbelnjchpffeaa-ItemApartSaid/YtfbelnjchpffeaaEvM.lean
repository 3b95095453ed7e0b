/-
  Code: what 'acode' answers is what the machine's code does.
-/
import Derived.Test.YtfbelnjchpffeaaEvL
namespace Go.Proofs.Ytfbelnjchpffeaa
namespace Ev
open Go.RowKit (Below)
section
variable {C : Cf} {B N : Nat} {m : Mode} {ρ : Emb} {H : Heap} {w : World} {e : Env} {a : Act} {call : CallF}

structure EnvR (ρ : Emb) (N : Nat) (e : Env) (a : Act) : Prop where
  size : a.tmps.size = N
  val : ∀ t, t < N → VR ρ (e t) (a.tmps.getD t undef)
theorem EnvR.on (he : EnvR ρ N e a) : EnvOn ρ (· < N) e a := ⟨he.val⟩

theorem EnvR.put {ρ' : Emb} {dst : Option Nat} {v v' : Value} (he : EnvR ρ N e a) (hl : ρ.le ρ') (hd : ∀ d, dst = some d → d < N) (hv : VR ρ' v v') : EnvR ρ' N (e.put dst v) (a.put dst v') := by
  cases dst with
  | none => exact ⟨he.size, fun t ht => (he.val t ht).mono hl⟩
  | some d =>
    have hdN := hd d rfl
    refine ⟨by simp [Act.put, he.size], fun t ht => ?_⟩
    simp only [Env.put, Env.set, Act.put]
    have hsz := he.size
    by_cases htd : t = d
    · subst htd
      rw [if_pos rfl]
      simp [hsz, ht, Array.getD_eq_getD_getElem?]
      exact hv
    · rw [if_neg htd]
      have := (he.val t ht).mono hl
      simpa [Array.getD_eq_getD_getElem?, Array.getElem?_setIfInBounds_ne (Ne.symm htd)] using this

theorem put_size (a : Act) (dst : Option Nat) (v : Value) : (a.put dst v).tmps.size = a.tmps.size := by
  cases dst <;> simp [Act.put]
theorem put_def (a : Act) (dst : Option Nat) (v : Value) : (a.put dst v).defers = a.defers := by
  cases dst <;> rfl

theorem wanted_eq {G : Nat} {P : Program} {ops : Array Oper} {o : Oper} {ao : AOper} {S : Nat → Prop} (hc : cOper P G ops o = some ao) (hw : ∀ t ∈ tOper ao, S t ∧ t < a.tmps.size) (he : EnvOn ρ S e a) :
    Region.wanted o (yielded ops a.tmps) = awanted e ao.g ∧ o.dst = ao.dst ∧ cOp P G o = some ao.op := by
  simp only [cOper, Option.bind_eq_some_iff] at hc
  obtain ⟨op, hop, hc⟩ := hc
  split at hc
  · rename_i hg
    cases hc
    exact ⟨by simp [Region.wanted, hg, awanted], rfl, hop⟩
  · rename_i j b hg
    simp only [Option.map_eq_some_iff] at hc
    obtain ⟨d, hd, rfl⟩ := hc
    refine ⟨?_, rfl, hop⟩
    have hd' := hw d (by simp [tOper])
    have hv := he.val d hd'.1
    have hget : a.tmps[d]? = some (a.tmps.getD d undef) := by
      have : d < a.tmps.size := hd'.2
      simp [this, Array.getD_eq_getD_getElem?]
    simp only [Region.wanted, hg, yielded, hd, Option.bind_some, hget, awanted]
    generalize a.tmps.getD d undef = u at hv
    cases hq : e d <;> rw [hq] at hv <;> cases hv <;> simp

/-- One operation, a call or not. -/
theorem astep_sound (hC : C.Ok) (hcall : CallOK C B call) {S : Nat → Prop} {o : Oper} {ao : AOp} {v : Value} {H' : Heap} (hc : cOp C.P C.G o = some ao) (ht : ∀ t ∈ tOp ao, S t) (he : EnvOn ρ S e a) (hr : Rel C.G B ρ H w) (hfb : m.fb ≤ H.length)
    (h : astep C call m e H ao = some (v, H')) {K : Act → World → Prop} {Q : Exit → Act → World → Prop}
    (hK : ∀ v' w' ρ', VR ρ' v v' → Stp C.G B m ρ H w ρ' H' w' → K (a.put o.dst v') w') : o.wp C.P a w K Q := by
  by_cases hcl : ∃ f xs, ao = .call f xs
  · obtain ⟨f, xs, rfl⟩ := hcl
    obtain ⟨c, F, hop, hF, hxs, hf⟩ := cOp_call hc
    have vf := opnd_sound hf (fun t h => ht t (by simp [tOp, h])) he hr
    have vxs := opnds_sound hxs (fun t h => ht t (by simp [tOp] at h ⊢; exact .inr h)) he hr
    simp only [astep] at h
    unfold acallop at h
    split at h
    · rename_i k fa fb hfv
      rw [hfv] at vf
      obtain ⟨fa', fb', hF', ra, rb⟩ : ∃ fa' fb', a.eval F = .func (.func k) fa' fb' ∧ VRs ρ fa.toList fa'.toList ∧ VRs ρ fb.toList fb'.toList := by
        cases hq : a.eval F <;> rw [hq] at vf <;> cases vf
        rename_i h1 h2 h3 h4
        exact ⟨_, _, rfl, .ofArr h1 h2, .ofArr h3 h4⟩
      have hargs : VRs ρ (fa.toList ++ xs.map (oev e) ++ fb.toList) (fa'.toList ++ c.args.toList.map a.eval ++ fb'.toList) := (ra.append vxs).append rb
      have harr : (fa'.toList ++ c.args.toList.map a.eval ++ fb'.toList).toArray = fa' ++ c.args.map a.eval ++ fb' := by
        apply Array.ext'; simp
      have go : (∃ fn cc, C.P.funcs[k]? = some fn ∧ fn.body = some cc ∧ (fn.name == "runtime.NumGoroutine") = false) →
          Calls C.P k (fa' ++ c.args.map a.eval ++ fb') w (fun e w' => ∃ v' ρ', e = .returned v' ∧ VR ρ' v v' ∧ Stp C.G B m ρ H w ρ' H' w') → o.wp C.P a w K Q := by
        rintro ⟨fn, cc, g1, g2, g3⟩ hcalls
        unfold Oper.wp
        have : (execOp a.eval o).run C.P w = .ok (.enter k (fa' ++ c.args.map a.eval ++ fb')) w := by
          unfold execOp
          rw [hop]
          simp only [resolve, hF, hF', Deferred.ofValue]
          simp only [pure_bind, invoke]
          exact run_callFunc g1 g2 g3 _ _
        rw [this]
        simp only [Oper.upon]
        refine hcalls.mono ?_
        rintro e' w' ⟨v', ρ', rfl, r1, r2⟩
        exact hK v' w' ρ' r1 r2
      split at h
      · -- by contract
        rename_i g hg
        obtain ⟨hv, rfl⟩ := map_pair h
        obtain ⟨hfn, hX⟩ := hC.X k g hg
        obtain ⟨h1, h2, h3⟩ := hX _ _ hv
        have heq := hargs.flat_eq h2
        refine go hfn ?_
        rw [← harr, heq]
        refine (h3 w).mono ?_
        rintro e' w' ⟨rfl, hb⟩
        exact ⟨v, ρ, rfl, flat_refl h1, .ofBelow hr hb⟩
      · split at h
        · -- as it is
          obtain ⟨hfn, hcl⟩ := hcall _ _ _ _ _ _ h hfb
          refine go hfn ?_
          rw [← harr]
          exact hcl ρ w _ hr hargs
        · -- it writes nothing
          simp only [Option.bind_eq_some_iff] at h
          obtain ⟨⟨v1, H1⟩, h1, h2⟩ := h
          split at h2
          · rename_i hfl
            cases h2
            obtain ⟨hfn, hcl⟩ := hcall _ _ _ _ _ _ h1 (Nat.le_refl _)
            refine go hfn ?_
            rw [← harr]
            refine (hcl ρ w _ hr hargs).mono ?_
            rintro e' w' ⟨v', ρ', rfl, r1, r2⟩
            rw [flat_eq hfl r1]
            exact ⟨_, ρ, rfl, flat_refl hfl, .ro hr r2⟩
          · cases h2
        · -- it writes nothing that leads anywhere
          simp only [Option.bind_eq_some_iff] at h
          obtain ⟨⟨v1, H1⟩, h1, h2⟩ := h
          split at h2
          · rename_i hfl
            cases h2
            obtain ⟨hfn, hcl⟩ := hcall _ _ _ _ _ _ h1 (Nat.le_refl _)
            refine go hfn ?_
            rw [← harr]
            refine (hcl ρ w _ hr hargs).mono ?_
            rintro e' w' ⟨v', ρ', rfl, r1, r2⟩
            rw [flat_eq hfl r1]
            exact ⟨_, ρ, rfl, flat_refl hfl, .fw hr r2⟩
          · cases h2
        · -- it makes new things at most
          simp only [Option.bind_eq_some_iff] at h
          obtain ⟨⟨v1, H1⟩, h1, h2⟩ := h
          split at h2
          · rename_i hfl
            cases h2
            obtain ⟨hfn, hcl⟩ := hcall _ _ _ _ _ _ h1 (Nat.le_refl _)
            refine go hfn ?_
            rw [← harr]
            refine (hcl ρ w _ hr hargs).mono ?_
            rintro e' w' ⟨v', ρ', rfl, r1, r2⟩
            exact ⟨v', ρ', rfl, r1, .al hr r2 hfl⟩
          · cases h2
    · cases h
  · have hn : ∀ f xs, ao ≠ .call f xs := fun f xs e => hcl ⟨f, xs, e⟩
    have h' : aop e H m ao = some (v, H') := by
      cases ao <;> first | exact h | exact absurd rfl (hn _ _)
    obtain ⟨v', w', ρ', hrun, hv, hst⟩ := aop_sound hc hn ht he hr h'
    unfold Oper.wp
    rcases hrun with hrun | ⟨hrun, rfl⟩
    · rw [hrun]; exact hK v' w' ρ' hv hst
    · rw [hrun]; exact hK undef w' ρ' hv hst

/-- Numbers of operations, and the operations. -/
inductive Al (P : Program) (G : Nat) (ops : Array Oper) (N : Nat) : List Nat → List AOper → Prop where
  | nil : Al P G ops N [] []
  | cons {i : Nat} {o : Oper} {ao : AOper} {l : List Nat} {as : List AOper} (ho : ops[i]? = some o) (hc : cOper P G ops o = some ao) (hw : wfOper N ao = true) (t : Al P G ops N l as) : Al P G ops N (i :: l) (ao :: as)

theorem wf_spec {ao : AOper} (h : wfOper N ao = true) : (∀ t ∈ tOp ao.op, t < N) ∧ (∀ d, ao.dst = some d → d < N) ∧ (∀ t ∈ tOper ao, t < N) := by
  simp only [wfOper, Bool.and_eq_true, List.all_eq_true] at h
  refine ⟨fun t ht => by simpa using h.1 t (by simp [tOper, ht]), fun d hd => ?_, fun t ht => by simpa using h.1 t ht⟩
  have := h.2
  rw [hd] at this
  simpa using this

theorem undef_vr (ρ : Emb) : VR ρ undef undef := .mkTuple .nil

theorem ops_sound (hC : C.Ok) (hcall : CallOK C B call) {ops : Array Oper} {l : List Nat} {as : List AOper} (hal : Al C.P C.G ops N l as) :
    ∀ {ρ H w e a e' H'}, EnvR ρ N e a → Rel C.G B ρ H w → m.fb ≤ H.length → aops C call m as e H = some (e', H') → ∀ {Q : Exit → Act → World → Prop},
      (∀ a' w' ρ', EnvR ρ' N e' a' → a'.defers = a.defers → Stp C.G B m ρ H w ρ' H' w' → Q .normal a' w') → wpOps C.P ops Q l a w := by
  induction hal with
  | nil =>
    intro ρ H w e a e' H' he hr _ h Q hQ
    cases h
    exact hQ a w ρ he rfl (.refl hr)
  | @cons i o ao l as ho hc hw t ih =>
    intro ρ H w e a e' H' he hr hfb h Q hQ
    obtain ⟨hts, hds, htg⟩ := wf_spec hw
    obtain ⟨hwant, hdst, hop⟩ := wanted_eq hc (fun t ht => ⟨htg t ht, by rw [he.size]; exact htg t ht⟩) he.on
    rw [wpOps_cons]
    unfold wpOp
    rw [ho]
    simp only [hwant]
    simp only [aops] at h
    split at h
    · rename_i hyes
      rw [if_pos hyes]
      simp only [Option.bind_eq_some_iff] at h
      obtain ⟨⟨v, H1⟩, h1, h2⟩ := h
      refine .inl (astep_sound hC hcall hop hts he.on hr hfb h1 fun v' w' ρ' hv hst => ?_)
      rw [hdst]
      exact ih (he.put hst.le hds hv) hst.rel (Nat.le_trans hfb hst.len) h2 fun a' w'' ρ'' he' hd' hst' => hQ a' w'' ρ'' he' (hd'.trans (put_def _ _ _)) (hst.trans hst')
    · rename_i hno
      rw [if_neg hno, hdst]
      exact ih (he.put (Emb.le_refl _) hds (undef_vr _)) hr hfb h fun a' w'' ρ'' he' hd' hst' => hQ a' w'' ρ'' he' (hd'.trans (put_def _ _ _)) hst'

theorem al_range {P : Program} {G : Nat} {ops : Array Oper} : ∀ (os : List Oper) (as : List AOper) (k : Nat), (∀ j, os[j]? = ops[k + j]?) → cOpers P G ops os = some as → as.all (wfOper N) = true → Al P G ops N (List.range' k os.length) as
  | [], _, _, _, h, _ => by cases h; exact .nil
  | o :: os, as, k, hk, h, hw => by
    simp only [cOpers, Option.bind_eq_some_iff, Option.map_eq_some_iff] at h
    obtain ⟨ao, hao, l, hl, rfl⟩ := h
    simp only [List.all_cons, Bool.and_eq_true] at hw
    refine .cons (by have := hk 0; simpa using this.symm) hao hw.1 ?_
    exact al_range os l (k + 1) (fun j => by have := hk (j + 1); simp at this; rw [this]; congr 1; omega) hl hw.2

end
end Ev
end Go.Proofs.Ytfbelnjchpffeaa
