/-
  Calls and lists of operations.
-/
import Derived.Test.YtfbelnjchpffeaaEvK
namespace Go.Proofs.Ytfbelnjchpffeaa
namespace Ev
open Go.RowKit (Below)

structure Cf.Ok (C : Cf) : Prop where
  mixed : C.P.follows .mixedOrders = true
  alok : ∀ k, C.al k = true → (∃ g, C.X k = some g) ∨ (C.X k = none ∧ (C.pol k = .al ∨ C.pol k = .ro))
  fn : ∀ f F, C.fn f = some F → ∃ fn, C.P.funcs[f]? = some fn ∧ cFn C.al C.P C.G fn = some F ∧ (fn.name == "runtime.NumGoroutine") = false
  X : ∀ f g, C.X f = some g → (∃ fn c, C.P.funcs[f]? = some fn ∧ fn.body = some c ∧ (fn.name == "runtime.NumGoroutine") = false) ∧
    ∀ args v, g args = some v → flat v = true ∧ args.all flat = true ∧ ∀ w, Calls C.P f args.toArray w fun e w' => e = .returned v ∧ Below w.heap.size w w'

def CallOK (C : Cf) (B : Nat) (call : CallF) : Prop := ∀ f args H m v H', call f args H m = some (v, H') → m.fb ≤ H.length →
  (∃ fn c, C.P.funcs[f]? = some fn ∧ fn.body = some c ∧ (fn.name == "runtime.NumGoroutine") = false) ∧
  ∀ ρ w args', Rel C.G B ρ H w → VRs ρ args args' → Calls C.P f args'.toArray w fun e w' => ∃ v' ρ', e = .returned v' ∧ VR ρ' v v' ∧ Stp C.G B m ρ H w ρ' H' w'

section
variable {C : Cf} {B N : Nat} {m : Mode} {ρ : Emb} {H : Heap} {w : World} {e : Env} {a : Act}

theorem VR.back {ρ ρ' : Emb} (hl : ρ.le ρ') {v u : Value} (h : VR ρ v u) : ∀ {u' : Value}, VR ρ' v u' → VR ρ v u' := by
  induction h with
  | bool b => intro u' k; cases k; exact .bool b
  | int k n => intro u' k; cases k; exact .int _ _
  | string s => intro u' k; cases k; exact .string s
  | nilFunc => intro u' k; cases k; exact .nilFunc
  | nilIface => intro u' k; cases k; exact .nilIface
  | ptrNone => intro u' k; cases k; exact .ptrNone
  | mapNone => intro u' k; cases k; exact .mapNone
  | sliceNone => intro u' k; cases k; exact .sliceNone
  | ptr i off l h =>
    intro u' k
    cases k with
    | ptr _ _ l' h' =>
      rw [hl _ _ h] at h'; cases h'
      exact .ptr i off l h
  | slice i off n c o' c' l h ho hn ht =>
    intro u' k
    cases k with
    | slice _ _ _ _ o2 c2 l' h' ho' hn' ht' =>
      rw [hl _ _ h] at h'; cases h'
      exact .slice i off n c o2 c2 l h ho' hn' ht'
    | slice0 _ _ _ a l' h' =>
      exact .slice0 i off c a l h
  | slice0 i off c a l h =>
    intro u' k
    cases k with
    | slice _ _ _ _ o2 c2 l' h' ho' hn' ht' =>
      rw [hl _ _ h] at h'; cases h'
      exact .slice i off 0 c o2 c2 l h ho' hn' ht'
    | slice0 _ _ _ a' l' h' => exact .slice0 i off c a' l h
  | map r l h =>
    intro u' k
    cases k with
    | map _ l' h' =>
      rw [hl _ _ h] at h'; cases h'
      exact .map r l h
  | iface t v v' _ ih => intro u' k; cases k with
    | iface _ _ w hw => exact .iface t v w (ih hw)
  | agg a b hs _ ih => intro u' k; cases k with
    | agg _ b' hs' h' => exact .agg a b' hs' fun i h1 h2 => ih i h1 (hs ▸ h1) (h' i h1 h2)
  | tuple a b hs _ ih => intro u' k; cases k with
    | tuple _ b' hs' h' => exact .tuple a b' hs' fun i h1 h2 => ih i h1 (hs ▸ h1) (h' i h1 h2)
  | func fn a b c d hs _ hs' _ ih ih' => intro u' k; cases k with
    | func _ _ b' _ d' q1 q2 q3 q4 => exact .func fn a b' c d' q1 (fun i h1 h2 => ih i h1 (hs ▸ h1) (q2 i h1 h2)) q3 (fun i h1 h2 => ih' i h1 (hs' ▸ h1) (q4 i h1 h2))

/-- A call that wrote nothing that was there. -/
theorem Stp.ofBelow {w' : World} {G : Nat} (hr : Rel G B ρ H w) (hb : Below w.heap.size w w') : Stp G B m ρ H w ρ H w' where
  le := Emb.le_refl _
  rel := ⟨hr.dom, fun i o ho => by
    cases hl : o.live with
    | false => cases o with
      | dead => trivial
      | _ => simp [AObj.live] at hl
    | true =>
      obtain ⟨loc, e, h⟩ := (hr.obj i o ho).loc hl
      exact (hr.obj i o ho).same fun loc' e' => by rw [e] at e'; cases e'; exact hb.block _ h,
    hr.inj, Nat.le_trans hr.big hb.size, hr.glob⟩
  kp := ⟨hb.os, hb.tape, hb.output, hb.size, fun b h _ => hb.block b h⟩
  may _ _ h := h
  len := Nat.le_refl _
  fp := fun i o o' _ h h' => by rw [h] at h'; cases h'; exact .refl o
  dom _ := rfl

theorem Stp.ro {G : Nat} {ρ' : Emb} {H' : Heap} {w' : World} {k : Nat} (hr : Rel G B ρ H w) (h : Stp G B ⟨H.length, k⟩ ρ H w ρ' H' w') : Stp G B m ρ H w ρ H w' :=
  .ofBelow hr ⟨h.kp.os, h.kp.tape, h.kp.output, h.kp.size, fun b hb => h.kp.block b hb fun ⟨i, o, l, h1, h2, _⟩ => by
    have := (List.getElem?_eq_some_iff.1 h2).1
    simp only at h1
    omega⟩

theorem ER.back {ρ ρ' : Emb} (hl : ρ.le ρ') {a b : List (Value × Value)} {c d : List MapEntry} (h : ER ρ a c) (k : ER ρ' b d) (hf : ∀ p, p ∈ b → flat p.2 = true ∨ p ∈ a) : ER ρ b d := by
  induction k with
  | nil => exact .nil
  | @cons kk v v' n l l' hk hv t ih =>
    refine .cons hk ?_ (ih fun p hp => hf p (by simp [hp]))
    rcases hf (kk, v) (by simp) with h1 | h1
    · rw [Ev.flat_eq h1 hv]; exact Ev.flat_refl h1
    · have : ∃ u, VR ρ v u := by
        clear hf ih t
        induction h with
        | nil => simp at h1
        | @cons k2 v2 v2' n2 l2 l2' hk2 hv2 _ ih2 =>
          simp only [List.mem_cons, Prod.mk.injEq] at h1
          rcases h1 with ⟨rfl, rfl⟩ | h1
          · exact ⟨_, hv2⟩
          · exact ih2 h1
      obtain ⟨u, hu⟩ := this
      exact hu.back hl hv

/-- A call that wrote nothing that leads anywhere, and whose own things are let go. -/
theorem Stp.fw {G : Nat} {ρ' : Emb} {H' : Heap} {w' : World} (hr : Rel G B ρ H w) (h : Stp G B ⟨m.lim, H.length⟩ ρ H w ρ' H' w') : Stp G B m ρ H w ρ (H'.take H.length) w' := by
  have hlen : (H'.take H.length).length = H.length := by have := h.len; simp; omega
  have hget : ∀ (i : Nat) (o : AObj), (H'.take H.length)[i]? = some o → i < H.length ∧ H'[i]? = some o := by
    intro i o ho
    rw [List.getElem?_take] at ho
    split at ho
    · rename_i hi; exact ⟨hi, ho⟩
    · cases ho
  have hsrc : ∀ (i : Nat) (o : AObj), (H'.take H.length)[i]? = some o → ∃ o0, H[i]? = some o0 ∧ FPo o0 o := by
    intro i o ho
    obtain ⟨hi, h'⟩ := hget i o ho
    exact ⟨_, List.getElem?_eq_getElem hi, h.fp i _ o hi (List.getElem?_eq_getElem hi) h'⟩
  have hlive : ∀ {o0 o : AObj}, FPo o0 o → o.live = true → o0.live = true ∧ (o.own = true → o0.own = true) := by
    intro o0 o hf hl
    cases o <;> cases o0 <;> simp_all [FPo, AObj.live, AObj.own]
  have hloc : ∀ (i : Nat) (o : AObj), (H'.take H.length)[i]? = some o → o.live = true → ∃ l, ρ i = some l ∧ ρ' i = some l := by
    intro i o ho hl
    obtain ⟨o0, h0, hf⟩ := hsrc i o ho
    obtain ⟨l, e, _⟩ := (hr.obj i o0 h0).loc (hlive hf hl).1
    exact ⟨l, e, h.le _ _ e⟩
  refine ⟨Emb.le_refl _, ⟨fun i hi => hr.dom i (by omega), fun i o ho => ?_, fun i j o1 o2 l1 l2 hne h1 h2 own live e1 e2 => ?_, h.rel.big, hr.glob⟩, ?_, fun b hb hm => ?_, by omega, fun i o o' hi h1 h2 => ?_, fun _ => rfl⟩
  · obtain ⟨o0, h0, hf⟩ := hsrc i o ho
    have hobj := h.rel.obj i o (hget i o ho).2
    have hobj0 := hr.obj i o0 h0
    cases o with
    | dead => trivial
    | cells cs T own =>
      cases o0 with
      | cells cs0 T0 own0 =>
        obtain ⟨l, e, e'⟩ := hloc i _ ho rfl
        obtain ⟨loc, cur, fr, q1, q2, q3, q4, q5, q6⟩ := hobj
        rw [e'] at q1; cases q1
        obtain ⟨loc0, cur0, fr0, p1, p2, p3, p4, p5, p6⟩ := hobj0
        obtain ⟨f1, f2, f3, f4⟩ := hf
        refine ⟨l, cur, fr, e, q2, q3, q4, ?_, q6⟩
        refine .of_get q5.length fun k v hv => ?_
        obtain ⟨v', hv', r⟩ := q5.get hv
        refine ⟨v', hv', ?_⟩
        rcases f4 k v hv with h1 | h1
        · rw [Ev.flat_eq h1 r]; exact Ev.flat_refl h1
        · obtain ⟨u, _, hu⟩ := p5.get h1
          exact hu.back h.le r
      | _ => simp [FPo] at hf
    | map es own =>
      cases o0 with
      | map es0 own0 =>
        obtain ⟨l, e, e'⟩ := hloc i _ ho rfl
        obtain ⟨loc, ents, clock, q1, q2, q3, q4⟩ := hobj
        rw [e'] at q1; cases q1
        obtain ⟨loc0, ents0, clock0, p1, p2, p3, p4⟩ := hobj0
        obtain ⟨f1, f2⟩ := hf
        exact ⟨l, ents, clock, e, q2, p3.back h.le q3 f2, q4⟩
      | _ => simp [FPo] at hf
  · exact h.rel.inj i j o1 o2 l1 l2 hne (hget i o1 h1).2 (hget j o2 h2).2 own live (h.le _ _ e1) (h.le _ _ e2)
  · exact ⟨h.kp.os, h.kp.tape, h.kp.output, h.kp.size, fun b hb hn => h.kp.block b hb hn⟩
  · obtain ⟨i, o, l, h1, h2, h3, h4, h5⟩ := hm
    have hl : o.live = true := by cases o <;> first | rfl | simp [AObj.own] at h3
    obtain ⟨o0, h0, hf⟩ := hsrc i o h2
    exact ⟨i, o0, l, h1, h0, (hlive hf hl).2 h3, h4, h5⟩
  · obtain ⟨hi', h'⟩ := hget i o' h2
    exact h.fp i o o' hi' h1 h'

/-- What was made anew is taken up, what was there is as it was. -/
theorem Stp.al {G : Nat} {ρ' : Emb} {H' : Heap} {w' : World} {k : Nat} (hr : Rel G B ρ H w) (h : Stp G B ⟨H.length, k⟩ ρ H w ρ' H' w') (ho : (H'.drop H.length).all ownOr = true) :
    Stp G B m ρ H w ρ' (H ++ H'.drop H.length) w' := by
  have hlen : (H ++ H'.drop H.length).length = H'.length := by have := h.len; simp; omega
  have hb : Below w.heap.size w w' := ⟨h.kp.os, h.kp.tape, h.kp.output, h.kp.size, fun b hb => h.kp.block b hb fun ⟨i, o, l, h1, h2, _⟩ => by
    have := (List.getElem?_eq_some_iff.1 h2).1
    simp only at h1
    omega⟩
  have hget : ∀ (i : Nat) (o : AObj), (H ++ H'.drop H.length)[i]? = some o → (i < H.length ∧ H[i]? = some o) ∨ (H.length ≤ i ∧ H'[i]? = some o ∧ ownOr o = true) := by
    intro i o hi
    rw [List.getElem?_append] at hi
    split at hi
    · rename_i h; exact .inl ⟨h, hi⟩
    · rename_i h
      refine .inr ⟨by omega, ?_, List.all_eq_true.1 ho o (List.mem_of_getElem? hi)⟩
      rw [List.getElem?_drop] at hi
      rw [← hi]; congr 1; omega
  have hold : ∀ (i : Nat) (o : AObj), H[i]? = some o → o.live = true → ∃ l, ρ i = some l ∧ ρ' i = some l ∧ l.blk < w.heap.size := by
    intro i o hi hl
    obtain ⟨l, e, hlt⟩ := (hr.obj i o hi).loc hl
    exact ⟨l, e, h.le _ _ e, hlt⟩
  have hnew : ∀ (i : Nat) (o : AObj) (l : Loc), H.length ≤ i → H'[i]? = some o → o.own = true → ρ' i = some l → w.heap.size ≤ l.blk := by
    intro i o l hi ho hown e
    rcases Nat.lt_or_ge l.blk w.heap.size with hlt | hge
    · obtain ⟨j, _, _, h1, h2, _⟩ := h.may l.blk hlt ⟨i, o, l, hi, ho, hown, e, rfl⟩
      have := (List.getElem?_eq_some_iff.1 h2).1
      simp only at h1
      omega
    · exact hge
  have hlo : ∀ {o : AObj}, o.own = true → o.live = true := by intro o; cases o <;> simp [AObj.own, AObj.live]
  have hol : ∀ {o : AObj}, o.live = true → ownOr o = true → o.own = true := by intro o; cases o <;> simp [AObj.own, AObj.live, ownOr]
  refine ⟨h.le, ⟨fun i hi => h.rel.dom i (by omega), fun i o hi => ?_, fun i j o1 o2 l1 l2 hne h1 h2 own live e1 e2 => ?_, h.rel.big, h.rel.glob⟩, ⟨hb.os, hb.tape, hb.output, hb.size, fun b h _ => hb.block b h⟩, fun b hbs hm => ?_, by rw [hlen]; exact h.len, fun i o o' hi h1 h2 => ?_, fun e => h.dom (by rw [← hlen]; exact e)⟩
  · rcases hget i o hi with ⟨hlt, h1⟩ | ⟨hge, h1, _⟩
    · cases hl : o.live with
      | false => cases o with
        | dead => trivial
        | _ => simp [AObj.live] at hl
      | true =>
        obtain ⟨l, e, e', hlt'⟩ := hold i o h1 hl
        have := (hr.obj i o h1).same (w' := w') fun loc e2 => by rw [e] at e2; cases e2; exact hb.block _ hlt'
        rw [e] at this; rw [e']
        exact this.mono h.le
    · exact h.rel.obj i o h1
  · rcases hget i o1 h1 with ⟨_, p1⟩ | ⟨q1, p1, r1⟩ <;> rcases hget j o2 h2 with ⟨_, p2⟩ | ⟨q2, p2, r2⟩
    · obtain ⟨l, e, e', _⟩ := hold i o1 p1 (hlo own)
      obtain ⟨l', g, g', _⟩ := hold j o2 p2 live
      rw [e'] at e1; cases e1
      rw [g'] at e2; cases e2
      exact hr.inj i j o1 o2 _ _ hne p1 p2 own live e g
    · obtain ⟨l, e, e', hlt⟩ := hold i o1 p1 (hlo own)
      rw [e'] at e1; cases e1
      have := hnew j o2 l2 q2 p2 (hol live r2) e2
      omega
    · obtain ⟨l, e, e', hlt⟩ := hold j o2 p2 live
      rw [e'] at e2; cases e2
      have := hnew i o1 l1 q1 p1 own e1
      omega
    · exact h.rel.inj i j o1 o2 l1 l2 hne p1 p2 own live e1 e2
  · obtain ⟨i, o, l, h1, h2, h3, h4, h5⟩ := hm
    rcases hget i o h2 with ⟨_, p⟩ | ⟨q, p, _⟩
    · obtain ⟨l', e, e', _⟩ := hold i o p (hlo h3)
      rw [e'] at h4; cases h4
      exact ⟨i, o, l, h1, p, h3, e, h5⟩
    · have := hnew i o l q p h3 h4
      omega
  · rcases hget i o' h2 with ⟨_, p⟩ | ⟨q, p, _⟩
    · rw [h1] at p; cases p; exact .refl o
    · have := (List.getElem?_eq_some_iff.1 h1).1
      omega

theorem run_callFunc {P : Program} {f : Nat} {fn : Func} {c : Code} (hf : P.funcs[f]? = some fn) (hb : fn.body = some c) (hn : (fn.name == "runtime.NumGoroutine") = false) (args : Array Value) (w : World) :
    (callFunc f args).run P w = .ok (.enter f args) w := by
  have : ¬ fn.name = "runtime.NumGoroutine" := by simpa using hn
  simp [callFunc, hf, hb, this]

theorem cOp0_call {P : Program} {G : Nat} {o : Oper} {f : Opnd} {xs : List Opnd} (h : cOp0 P G o = some (.call f xs)) :
    ∃ c F, o.op = .call c ∧ c.callee = .value F ∧ cOpnds G c.args.toList = some xs ∧ cOpnd G F = some f := by
  unfold cOp0 at h
  split at h
  case h_23 c hop =>
    simp only [cCall, Option.bind_eq_some_iff] at h
    obtain ⟨ys, hys, h⟩ := h
    split at h
    · rename_i F hF
      split at h
      · cases h
      · simp only [Option.map_eq_some_iff] at h
        obtain ⟨g, hg, h⟩ := h
        cases h
        exact ⟨c, F, hop, hF, hys, hg⟩
    all_goals first
      | grind
      | (split at h <;> first | (simp only [Option.bind_eq_some_iff, Option.map_eq_some_iff] at h; obtain ⟨_, _, _, _, h⟩ := h; cases h) | cases h)
  all_goals exfalso
  all_goals try unfold cBin at h
  all_goals try unfold cConv at h
  all_goals try unfold cSlice at h
  all_goals repeat' first
    | (cases h; done)
    | (replace h := Option.bind_eq_some_iff.1 h; obtain ⟨_, _, h⟩ := h)
    | (replace h := Option.map_eq_some_iff.1 h; obtain ⟨_, _, h⟩ := h)
    | split at h

theorem cOp_call {P : Program} {G : Nat} {o : Oper} {f : Opnd} {xs : List Opnd} (h : cOp P G o = some (.call f xs)) :
    ∃ c F, o.op = .call c ∧ c.callee = .value F ∧ cOpnds G c.args.toList = some xs ∧ cOpnd G F = some f := by
  unfold cOp at h
  split at h
  · rename_i b hb; cases h; exact cOp0_call hb
  · exfalso
    split at h
    · rename_i b hb
      cases h
      unfold cX at hb
      repeat' first
        | (cases hb; done)
        | (replace hb := Option.bind_eq_some_iff.1 hb; obtain ⟨_, _, hb⟩ := hb)
        | (replace hb := Option.map_eq_some_iff.1 hb; obtain ⟨_, _, hb⟩ := hb)
        | split at hb
    · cases h

end
end Ev
end Go.Proofs.Ytfbelnjchpffeaa
