/-
  Code, calls, and what a call on an empty heap answers.
-/
import Derived.Test.YtfbelnjchpffeaaEvOD
namespace Go.Proofs.Ytfbelnjchpffeaa
namespace Ev
open Go.RowKit (Below)
section
variable {C : Cf} {B N : Nat} {m : Mode} {ρ : Emb} {H : Heap} {w : World} {e : Env} {a : Act} {call : CallF}

def exOf : AExit → Exit
  | .normal => .normal
  | .exit id => .exit id
  | .ret => .ret

def CodeOK (C : Cf) (B N : Nat) (c : Code) (run : Env → Heap → Option (AExit × Env × Heap)) (m : Mode) : Prop :=
  ∀ {ρ H w e a x e' H'}, EnvR ρ N e a → Rel C.G B ρ H w → m.fb ≤ H.length → run e H = some (x, e', H') → ∀ {Q : Exit → Act → World → Prop},
    (∀ a' w' ρ', EnvR ρ' N e' a' → a'.defers = a.defers → Stp C.G B m ρ H w ρ' H' w' → Q (exOf x) a' w') → c.wp C.P Q a w

theorem iter_sound {c : Code} {run : Env → Heap → Option (AExit × Env × Heap)} (hb : CodeOK C B N c run m) : ∀ (k : Nat) {ρ H w e a x e' H'}, EnvR ρ N e a → Rel C.G B ρ H w → m.fb ≤ H.length → aiter run k e H = some (x, e', H') → ∀ {Q : Exit → Act → World → Prop},
    (∀ a' w' ρ', EnvR ρ' N e' a' → a'.defers = a.defers → Stp C.G B m ρ H w ρ' H' w' → Q (exOf x) a' w') → Code.rounds C.P c Q k a w := by
  intro k
  induction k with
  | zero => intro ρ H w e a x e' H' _ _ _ h; cases h
  | succ k ih =>
    intro ρ H w e a x e' H' he hr hfb h Q hQ
    rw [rounds_succ]
    simp only [aiter, Option.bind_eq_some_iff] at h
    obtain ⟨⟨x1, e1, H1⟩, h1, h2⟩ := h
    refine hb he hr hfb h1 fun a1 w1 ρ1 he1 hd1 hst1 => ?_
    cases x1 with
    | normal =>
      simp only [exOf, Exit.then]
      exact ih he1 hst1.rel (Nat.le_trans hfb hst1.len) h2 fun a' w' ρ' he' hd' hst' => hQ a' w' ρ' he' (hd'.trans hd1) (hst1.trans hst')
    | exit id => cases h2; exact hQ _ _ _ he1 hd1 hst1
    | ret => cases h2; exact hQ _ _ _ he1 hd1 hst1

theorem code_sound (hC : C.Ok) (hcall : CallOK C B call) (K : Nat) : ∀ (c : Code) (ac : ACode), cCode C.al C.P C.G c = some ac → wfCode N ac = true → CodeOK C B N c (acode C call K m ac) m := by
  intro c
  induction c with
  | skip =>
    intro ac hc _ ρ H w e a x e' H' he hr hfb h Q hQ
    cases hc; cases h
    exact wp_skip (hQ a w ρ he rfl (.refl hr))
  | region id ops draw =>
    intro ac hc hw ρ H w e a x e' H' he hr hfb h Q hQ
    simp only [cCode, Option.bind_eq_some_iff] at hc
    obtain ⟨as, has, hc⟩ := hc
    have hlen : as.length = ops.toList.length := by
      have : ∀ (os : List Oper) (as : List AOper), cOpers C.P C.G ops os = some as → as.length = os.length := by
        intro os
        induction os with
        | nil => intro as h; cases h; rfl
        | cons o os ih =>
          intro as h
          simp only [cOpers, Option.bind_eq_some_iff, Option.map_eq_some_iff] at h
          obtain ⟨ao, _, l, hl, rfl⟩ := h
          simp [ih l hl]
      exact this _ _ has
    have al : ∀ (_ : as.all (wfOper N) = true), Al C.P C.G ops N (List.range' 0 ops.size) as := fun h => by
      have := al_range (N := N) ops.toList as 0 (fun j => by simp) has h
      simpa using this
    have bad : ∀ {Y : Prop}, acode C call K m badC e H = some (x, e', H') → Y := fun hb => by
      simp [badC, acode, aops, awanted, astep, aop, xop] at hb
    split at hc
    · rename_i hdr
      split at hc
      · -- read again
        rename_i hc0
        cases hc
        have hc := hc0
        have hwf : as.all (wfOper N) = true := by
          unfold cDrawD at hc
          simp only at hc
          split at hc
          · cases hc
            simp only [wfCode, Bool.and_eq_true, List.all_eq_true, List.mem_map, List.mem_filter, List.mem_range] at hw
            rw [List.all_eq_true]
            intro ao hao
            obtain ⟨k, hk⟩ := List.mem_iff_getElem?.1 hao
            have hkn : k < ops.size := by
              have := (List.getElem?_eq_some_iff.1 hk).1
              simp at hlen; omega
            have hpk : pickA as k = ao := by simp [pickA, hk]
            cases hp : (firstKindD (Region.before ops) as 0 []).getD k false with
            | true => exact hw.1 ao ⟨k, ⟨hkn, hp⟩, hpk⟩
            | false =>
              have := hw.2 (pickA as k, ckOf (Region.before ops) as (fun i => (firstKindD (Region.before ops) as 0 []).getD i false) ops.size k) ⟨k, ⟨hkn, by rw [hp]; rfl⟩, rfl⟩
              rw [hpk] at this; exact this
          · cases hc
        cases draw with
        | false => cases hdr
        | true =>
          have hx := (drawD_sound (id := id) hC hcall (al hwf) hc he hr hfb h (Q := fun _ _ _ => True) (fun _ _ _ _ _ _ => trivial)).1
          subst hx
          exact (drawD_sound (id := id) hC hcall (al hwf) hc he hr hfb h hQ).2
      split at hc
      rotate_left
      · cases hc; exact bad h
      rename_i hc0
      cases hc
      have hc := hc0
      have hwf : as.all (wfOper N) = true := by
        unfold cDraw at hc
        simp only at hc
        split at hc
        · cases hc
          simp only [wfCode, Bool.and_eq_true, List.all_eq_true, List.mem_map, List.mem_filter, List.mem_range] at hw
          rw [List.all_eq_true]
          intro ao hao
          obtain ⟨k, hk⟩ := List.mem_iff_getElem?.1 hao
          have hkn : k < ops.size := by
            have := (List.getElem?_eq_some_iff.1 hk).1
            simp at hlen; omega
          have hpk : pickA as k = ao := by simp [pickA, hk]
          cases hp : (firstKind C.al (Region.before ops) as 0 []).getD k false with
          | true => exact hw.1 ao ⟨k, ⟨hkn, hp⟩, hpk⟩
          | false => exact hw.2 ao ⟨k, ⟨hkn, by rw [hp]; rfl⟩, hpk⟩
        · cases hc
      cases draw with
      | false => cases hdr
      | true =>
        have hx := (draw_sound (id := id) hC hcall (al hwf) hc he hr hfb h (Q := fun _ _ _ => True) (fun _ _ _ _ _ _ => trivial)).1
        subst hx
        exact (draw_sound (id := id) hC hcall (al hwf) hc he hr hfb h hQ).2
    · cases hc
      simp only [acode, Option.map_eq_some_iff] at h
      obtain ⟨⟨e2, H2⟩, h2, h3⟩ := h
      cases h3
      rename_i hdr
      cases draw with
      | true => exact absurd rfl hdr
      | false =>
        refine wp_region ?_
        rw [List.range_eq_range']
        exact ops_sound hC hcall (al hw) he hr hfb h2 hQ
  | seq c1 c2 ih1 ih2 =>
    intro ac hc hw ρ H w e a x e' H' he hr hfb h Q hQ
    simp only [cCode, Option.bind_eq_some_iff, Option.map_eq_some_iff] at hc
    obtain ⟨a1, hc1, a2, hc2, rfl⟩ := hc
    simp only [wfCode, Bool.and_eq_true] at hw
    simp only [acode, Option.bind_eq_some_iff] at h
    obtain ⟨⟨x1, e1, H1⟩, h1, h2⟩ := h
    refine wp_seq (ih1 a1 hc1 hw.1 he hr hfb h1 fun a' w' ρ' he' hd' hst' => ?_)
    cases x1 with
    | normal =>
      simp only [exOf, Exit.then]
      exact ih2 a2 hc2 hw.2 he' hst'.rel (Nat.le_trans hfb hst'.len) h2 fun a2 w2 ρ2 he2 hd2 hst2 => hQ a2 w2 ρ2 he2 (hd2.trans hd') (hst'.trans hst2)
    | exit id => cases h2; exact hQ _ _ _ he' hd' hst'
    | ret => cases h2; exact hQ _ _ _ he' hd' hst'
  | cond cd c1 c2 ih1 ih2 =>
    intro ac hc hw ρ H w e a x e' H' he hr hfb h Q hQ
    simp only [cCode, Option.bind_eq_some_iff, Option.map_eq_some_iff] at hc
    obtain ⟨oc, hoc, a1, hc1, a2, hc2, rfl⟩ := hc
    simp only [wfCode, Bool.and_eq_true, List.all_eq_true] at hw
    have hv := opnd_sound hoc (S := (· < N)) (fun t ht => by simpa using hw.1.1 t ht) he.on hr
    simp only [acode] at h
    split at h
    · rename_i t ht
      rw [ht] at hv
      have hcb : a.eval cd = .bool t := by cases hq : a.eval cd <;> rw [hq] at hv <;> cases hv; rfl
      refine wp_cond hcb ?_
      cases t with
      | true => exact ih1 a1 hc1 hw.1.2 he hr hfb h hQ
      | false => exact ih2 a2 hc2 hw.2 he hr hfb h hQ
    · cases h
  | block id c ih =>
    intro ac hc hw ρ H w e a x e' H' he hr hfb h Q hQ
    simp only [cCode, Option.map_eq_some_iff] at hc
    obtain ⟨a1, hc1, rfl⟩ := hc
    simp only [wfCode] at hw
    simp only [acode, Option.bind_eq_some_iff] at h
    obtain ⟨⟨x1, e1, H1⟩, h1, h2⟩ := h
    refine wp_block (ih a1 hc1 hw he hr hfb h1 fun a' w' ρ' he' hd' hst' => ?_)
    cases x1 with
    | normal => cases h2; exact hQ _ _ _ he' hd' hst'
    | exit id' =>
      simp only [exOf, Exit.inBlock]
      simp only at h2
      split at h2
      · rename_i hid; rw [if_pos hid]; cases h2; exact hQ _ _ _ he' hd' hst'
      · rename_i hid; rw [if_neg hid]; cases h2; exact hQ _ _ _ he' hd' hst'
    | ret => cases h2; exact hQ _ _ _ he' hd' hst'
  | loop c ih =>
    intro ac hc hw ρ H w e a x e' H' he hr hfb h Q hQ
    simp only [cCode, Option.map_eq_some_iff] at hc
    obtain ⟨a1, hc1, rfl⟩ := hc
    simp only [wfCode] at hw
    simp only [acode] at h
    exact wp_loop_rounds K (iter_sound (ih a1 hc1 hw) K he hr hfb h hQ)
  | exit id =>
    intro ac hc _ ρ H w e a x e' H' he hr hfb h Q hQ
    cases hc; cases h
    exact wp_exit (hQ a w ρ he rfl (.refl hr))
  | ret =>
    intro ac hc _ ρ H w e a x e' H' he hr hfb h Q hQ
    cases hc; cases h
    exact wp_ret (hQ a w ρ he rfl (.refl hr))
  | _ =>
    intro ac hc _ ρ H w e a x e' H' he hr hfb h Q hQ
    cases hc
    simp [badC, acode, aops, awanted, astep, aop, xop] at h

/-! ## Results -/
theorem lv_one {T : TypeId} {x x' v : Value} (hr : Rel C.G B ρ H w) (hx : VR ρ x x') (hg : aggOf C.P T = some false) (h : aLoad H x = some v) :
    ∃ v', (do loadVar T (← asAddr x') : Sem Value).run C.P w = .ok v' w ∧ VR ρ v v' := by
  unfold aLoad at h
  split at h
  · rename_i i off
    cases hx with
    | ptr _ _ l hl =>
      cases hc : cellsOf H i with
      | none => simp [hc] at h
      | some cs =>
        simp only [hc, Option.bind_some] at h
        obtain ⟨v', hv', r⟩ := hr.cell hc h hl
        exact ⟨v', by simp [asAddr, loadVar, run_isAgg hg, hv'], r⟩
  · cases h

theorem lv_row {T : TypeId} {n : Nat} {x x' v : Value} (hr : Rel C.G B ρ H w) (hx : VR ρ x x') (hg : aggOf C.P T = some true) (hn : szOf C.P T = some n) (h : aLoadN n H x = some v) :
    ∃ v', (do loadVar T (← asAddr x') : Sem Value).run C.P w = .ok v' w ∧ VR ρ v v' := by
  unfold aLoadN at h
  split at h
  · rename_i i off
    cases hx with
    | ptr _ _ l hl =>
      cases hc : cellsOf H i with
      | none => simp [hc] at h
      | some cs =>
        simp only [hc, Option.bind_some] at h
        split at h
        · rename_i hle
          cases h
          obtain ⟨vs, hvs, hlen, hcell⟩ := hr.row hc hle hl
          refine ⟨.agg vs.toArray, ?_, .mkAgg (by simpa using hvs)⟩
          subst hlen
          simp [asAddr, loadVar, run_isAgg hg, run_sizeOf hn, run_loadCells_list w ⟨l.blk, l.base + off, none⟩ vs (fun j v hv => by rw [Addr_add]; exact hcell j v hv)]
        · cases h
  · cases h

theorem res_list (hr : Rel C.G B ρ H w) (he : EnvR ρ N e a) (f : ResultVar → Sem Value) (f1 : ∀ t, f (.tmp t) = pure (a.tmps.getD t undef)) (f2 : ∀ b t, f (.cell b t) = (do loadVar t (← asAddr (a.tmps.getD b undef)) : Sem Value)) :
    ∀ (rs : List ResultVar) (ars : List ARes) (vs : List Value), cRes C.P rs = some ars → ars.all (wfRes N) = true → aresults e H ars = some vs →
      ∃ vs', (rs.mapM f).run C.P w = .ok vs' w ∧ VRs ρ vs vs'
  | [], ars, vs, hc, _, h => by cases hc; cases h; exact ⟨[], rfl, .nil⟩
  | .tmp t :: rs, ars, vs, hc, hw, h => by
    simp only [cRes, Option.map_eq_some_iff] at hc
    obtain ⟨l, hl, rfl⟩ := hc
    simp only [List.all_cons, Bool.and_eq_true, wfRes, decide_eq_true_eq] at hw
    simp only [aresults, ares, Option.bind_some, Option.map_eq_some_iff] at h
    obtain ⟨us, hus, rfl⟩ := h
    obtain ⟨vs', hvs', r2⟩ := res_list hr he f f1 f2 rs l us hl hw.2 hus
    exact ⟨_ :: vs', by simp [List.mapM_cons, f1, hvs'], .cons (he.val t hw.1) r2⟩
  | .cell b T :: rs, ars, vs, hc, hw, h => by
    simp only [cRes, Option.bind_eq_some_iff, Option.map_eq_some_iff] at hc
    obtain ⟨g, hg, n, hn, l, hl, rfl⟩ := hc
    simp only [List.all_cons, Bool.and_eq_true, wfRes, decide_eq_true_eq] at hw
    simp only [aresults, Option.bind_eq_some_iff, Option.map_eq_some_iff] at h
    obtain ⟨v, hv, us, hus, rfl⟩ := h
    obtain ⟨vs', hvs', r2⟩ := res_list hr he f f1 f2 rs l us hl hw.2 hus
    have : ∃ v', (do loadVar T (← asAddr (a.tmps.getD b undef)) : Sem Value).run C.P w = .ok v' w ∧ VR ρ v v' := by
      cases g with
      | false => exact lv_one hr (he.val b hw.1) hg hv
      | true => exact lv_row hr (he.val b hw.1) hg hn hv
    obtain ⟨v', hv', r1⟩ := this
    refine ⟨v' :: vs', ?_, .cons r1 r2⟩
    rw [List.mapM_cons]
    simp only [f2]
    rw [Sem.run_bind, hv']
    simp [hvs']

theorem results_sound {fn : Func} {ars : List ARes} {vs : List Value} (hr : Rel C.G B ρ H w) (he : EnvR ρ N e a) (hc : cRes C.P fn.results.toList = some ars) (hw : ars.all (wfRes N) = true) (h : aresults e H ars = some vs) :
    ∃ v', (results fn a.tmps).run C.P w = .ok v' w ∧ VR ρ (aPack vs) v' := by
  obtain ⟨vs', h1, h2⟩ := res_list hr he (fun
    | .tmp t => pure (a.tmps.getD t undef)
    | .cell a' t => do loadVar t (← asAddr (a.tmps.getD a' undef))) (fun _ => rfl) (fun _ _ => rfl) _ _ _ hc hw h
  refine ⟨if h : vs'.toArray.size = 1 then vs'.toArray[0] else .tuple vs'.toArray, ?_, ?_⟩
  · unfold results
    rw [Array.mapM_eq_mapM_toList, Sem.run_bind, Sem.run_map]
    erw [h1]
    simp
  · cases h2 with
    | nil => exact .mkTuple .nil
    | cons hv t => cases t with
      | nil => simpa [aPack] using hv
      | cons hv' t' => simp [aPack]; exact .mkTuple (.cons hv (.cons hv' t'))

theorem acall_sound (hC : C.Ok) : ∀ (k : Nat), CallOK C B (acall C k)
  | 0 => fun f args H m v H' h => by cases h
  | k + 1 => fun f args H m v H' h hfb => by
    simp only [acall, Option.bind_eq_some_iff] at h
    obtain ⟨F, hF, h⟩ := h
    obtain ⟨fn, hfn, hcf, hname⟩ := hC.fn f F hF
    simp only [cFn, Option.bind_eq_some_iff] at hcf
    obtain ⟨c, hbody, ac, hac, ar, har, hcf⟩ := hcf
    split at hcf
    · rename_i hwf
      cases hcf
      simp only [Bool.and_eq_true] at hwf
      split at h
      · rename_i hle
        simp only at hle h
        refine ⟨⟨fn, c, hfn, hbody, hname⟩, fun ρ w args' hr hargs => ?_⟩
        simp only [Option.bind_eq_some_iff] at h
        obtain ⟨⟨x, e', H1⟩, h1, h2⟩ := h
        have hargl := hargs.length
        have he0 : EnvR ρ fn.ntmps (env0 args) { tmps := args'.toArray ++ Array.replicate (fn.ntmps - args'.toArray.size) undef, defers := [] } := by
          refine ⟨by simp; omega, fun t ht => ?_⟩
          simp only [env0, Array.getD_eq_getD_getElem?, Array.getElem?_append, List.size_toArray, List.getElem?_toArray, Array.getElem?_replicate]
          by_cases hta : t < args.length
          · obtain ⟨v', hv', r⟩ := hargs.get (List.getElem?_eq_getElem hta)
            rw [if_pos (by omega), hv', List.getElem?_eq_getElem hta]
            exact r
          · rw [if_neg (by omega), List.getElem?_eq_none (by omega), if_pos (by omega)]
            exact undef_vr ρ
        refine calls_of_wp hfn hbody (code_sound hC (acall_sound hC k) k c ac hac hwf.1 he0 hr hfb h1 fun a' w' ρ' he' hd' hst' => ?_)
        have fin : ∀ vs, aresults e' H1 ar = some vs → (aPack vs, H1) = (v, H') → a'.defers = [] ∧ ∃ v', (results fn a'.tmps).run C.P w' = .ok v' w' ∧
              ∃ v'' ρ'', Ending.returned v' = .returned v'' ∧ VR ρ'' v v'' ∧ Stp C.G B m ρ H w ρ'' H' w' := by
          intro vs hvs heq
          obtain ⟨v', hv', r⟩ := results_sound hst'.rel he' har hwf.2 hvs
          cases heq
          exact ⟨hd', v', hv', v', ρ', rfl, r, hst'⟩
        cases x with
        | normal =>
          simp only [Option.map_eq_some_iff] at h2
          obtain ⟨vs, hvs, heq⟩ := h2
          exact fin vs hvs heq
        | exit id => cases h2
        | ret =>
          simp only [Option.map_eq_some_iff] at h2
          obtain ⟨vs, hvs, heq⟩ := h2
          exact fin vs hvs heq
      · cases h
    · cases hcf

/-- What a call on an empty heap answers, it answers in every world. -/
theorem top (hC : C.Ok) (hG : C.G = 0) {k f : Nat} {args : List Value} {m : Mode} {v : Value} {H' : Heap} (h : acall C k f args [] m = some (v, H')) (hm : m.fb = 0) (hv : flat v = true) (ha : args.all flat = true) (w : World) :
    Calls C.P f args.toArray w fun e w' => e = .returned v ∧ Below w.heap.size w w' := by
  obtain ⟨_, hc⟩ := acall_sound (B := 0) hC k f args [] m v H' h (by rw [hm]; exact Nat.zero_le _)
  refine (hc (fun _ => none) w args ⟨fun _ _ => rfl, fun i o h => by simp at h, fun i j o o' l l' _ h => by simp at h, Nat.zero_le _, fun g hg => by rw [hG] at hg; omega⟩ (.flat_refl ha)).mono ?_
  rintro e w' ⟨v', ρ', rfl, r, hst⟩
  refine ⟨by rw [flat_eq hv r], ⟨hst.kp.os, hst.kp.tape, hst.kp.output, hst.kp.size, fun b hb => hst.kp.block b hb fun ⟨i, o, l, _, h, _⟩ => by simp at h⟩⟩

end
end Ev
end Go.Proofs.Ytfbelnjchpffeaa
