/-
  Every operation of the small language does what the machine's operation does.
-/
import Derived.Test.YtfbelnjchpffeaaEvJ
import Derived.Laws.StructEq
import Derived.Lib.UnsafeStr
import Derived.Lib.Builder
namespace Go.Proofs.Ytfbelnjchpffeaa
namespace Ev
set_option linter.unusedSimpArgs false
set_option linter.unusedVariables false

/-- The variables of S, as the world has them. -/
structure EnvOn (ρ : Emb) (S : Nat → Prop) (e : Env) (a : Act) : Prop where
  val : ∀ t, S t → VR ρ (e t) (a.tmps.getD t undef)

section
variable {P : Program} {G B : Nat} {S : Nat → Prop} {m : Mode} {ρ : Emb} {H : Heap} {w : World} {e : Env} {a : Act}

theorem opnd_sound {x : Operand} {y : Opnd} (hc : cOpnd G x = some y) (ht : ∀ t ∈ tOpnd y, S t) (he : EnvOn ρ S e a) (hr : Rel G B ρ H w) : VR ρ (oev e y) (a.eval x) := by
  unfold cOpnd at hc
  split at hc
  · cases hc; exact he.val _ (ht _ (by simp [tOpnd]))
  · split at hc
    · rename_i hf; cases hc; exact flat_refl hf
    · cases hc
  · split at hc
    · rename_i g hg
      cases hc
      obtain ⟨l, h1, h2, h3⟩ := hr.glob g hg
      have := VR.ptr (ρ := ρ) g 0 l h1
      rw [h2, h3] at this
      exact this
    · cases hc
  · cases hc; exact .mkFunc .nil .nil

theorem opnds_sound : ∀ {xs : List Operand} {ys : List Opnd}, cOpnds G xs = some ys → (∀ t ∈ ys.flatMap tOpnd, S t) → EnvOn ρ S e a → Rel G B ρ H w → VRs ρ (ys.map (oev e)) (xs.map a.eval)
  | [], _, h, _, _, _ => by cases h; exact .nil
  | x :: xs, ys, h, ht, he, hr => by
    simp only [cOpnds, Option.bind_eq_some_iff, Option.map_eq_some_iff] at h
    obtain ⟨y, hy, zs, hz, rfl⟩ := h
    exact .cons (opnd_sound hy (fun t h => ht t (by simp [h])) he hr) (opnds_sound hz (fun t h => ht t (by simp at h ⊢; exact .inr h)) he hr)

theorem opt_sound {x : Option Operand} {y : Option Opnd} (hc : cOpt G x = some y) (ht : ∀ t ∈ tOpt y, S t) (he : EnvOn ρ S e a) (hr : Rel G B ρ H w) : OR ρ e y (x.map a.eval) := by
  cases x with
  | none => cases hc; trivial
  | some x =>
    simp only [cOpt, Option.map_eq_some_iff] at hc
    obtain ⟨z, hz, rfl⟩ := hc
    exact opnd_sound hz ht he hr

theorem parts_sound {place : Nat → Option (Nat × Nat)} : ∀ {xs : List (Nat × Operand)} {l : List (Nat × Nat × Opnd)}, cParts G place xs = some l → (∀ t ∈ l.flatMap (fun p => tOpnd p.2.2), S t) → EnvOn ρ S e a → Rel G B ρ H w →
    PR ρ e place l (xs.map fun (i, x) => (i, a.eval x))
  | [], _, h, _, _, _ => by cases h; exact .nil
  | (i, x) :: xs, l, h, ht, he, hr => by
    simp only [cParts, Option.bind_eq_some_iff, Option.map_eq_some_iff] at h
    obtain ⟨p, hp, y, hy, zs, hz, rfl⟩ := h
    exact .cons hp (opnd_sound hy (fun t h => ht t (by simp [h])) he hr) (parts_sound hz (fun t h => ht t (by simp at h ⊢; exact .inr h)) he hr)

theorem map_pair {α : Type} {o : Option α} {H H' : Heap} {v : α} (h : o.map (fun z => (z, H)) = some (v, H')) : o = some v ∧ H' = H := by
  cases o with
  | none => cases h
  | some z => cases h; exact ⟨rfl, rfl⟩

theorem isU8_spec {t : TypeId} (h : isU8 P t = true) : P.underlying t = some (.int .u8) ∧ t < BIG := by
  unfold isU8 at h
  simp only [Bool.and_eq_true, decide_eq_true_eq] at h
  refine ⟨?_, h.1⟩
  have h := h.2
  split at h
  · assumption
  · cases h

theorem does_value {s : Sem Next} {v v' : Value} (hr : Rel G B ρ H w) (hs : s = pure (.value v')) (hv : VR ρ v v') : Does P G B m ρ H w s v H := by
  subst hs
  exact ⟨v', w, ρ, .inl rfl, hv, .refl hr⟩

theorem bin_sound {op : BinOp} {t : TypeId} {X Y : Operand} {ao : AOp} {v : Value} {H' : Heap} (hc : cBin P G op t X Y = some ao) (ht : ∀ t ∈ tOp ao, S t) (he : EnvOn ρ S e a) (hr : Rel G B ρ H w) (h : aop e H m ao = some (v, H')) :
    DoesV P G B m ρ H w (do eqGuard op t X Y (a.eval X) (a.eval Y); binOp op t (a.eval X) (a.eval Y)) v H' := by
  simp only [cBin, Option.bind_eq_some_iff] at hc
  obtain ⟨x, hx, y, hy, hc⟩ := hc
  have nil_case : ∀ (k : Nat) (neg : Bool), nilKind P t k → (k = 4 → (cstOpnd X || cstOpnd Y) = true) → op = (if neg then .neq else .eql) → ao = .nileq k neg x y →
      DoesV P G B m ρ H w (do eqGuard op t X Y (a.eval X) (a.eval Y); binOp op t (a.eval X) (a.eval Y)) v H' := by
    intro k neg hk hcst hop hao
    subst hao
    have vx := opnd_sound hx (fun t h => ht t (by simp [tOp, h])) he hr
    have vy := opnd_sound hy (fun t h => ht t (by simp [tOp, h])) he hr
    simp only [aop] at h
    split at h
    · rename_i p q hp hq
      split at h
      · rename_i hpq
        cases h
        rw [hop]
        exact s_nileq hr hk hcst vx vy hp hq hpq
      · obtain ⟨c, hsame, hv⟩ := Option.map_eq_some_iff.1 h
        cases hv
        rw [hop]
        cases k with
        | zero => obtain ⟨el, hu, hz⟩ := hk; exact s_sameptr hr hu hz vx vy hsame
        | succ k => simp [aSamePtr] at hsame
    · cases h
  have bool_case : ∀ (neg : Bool), P.underlying t = some .bool → op = (if neg then .neq else .eql) → ao = .booleq neg x y →
      DoesV P G B m ρ H w (do eqGuard op t X Y (a.eval X) (a.eval Y); binOp op t (a.eval X) (a.eval Y)) v H' := by
    intro neg hk hop hao
    subst hao
    have vx := opnd_sound hx (fun t h => ht t (by simp [tOp, h])) he hr
    have vy := opnd_sound hy (fun t h => ht t (by simp [tOp, h])) he hr
    simp only [aop] at h
    split at h
    · rename_i p q hp hq
      cases h
      rw [hp] at vx; rw [hq] at vy
      rw [hop]
      exact s_booleq hr hk vx vy
    · cases h
  have plain : ao = .bin op x y → DoesV P G B m ρ H w (do eqGuard op t X Y (a.eval X) (a.eval Y); binOp op t (a.eval X) (a.eval Y)) v H' := by
    intro hao
    subst hao
    have vx := opnd_sound hx (fun t h => ht t (by simp [tOp, h])) he hr
    have vy := opnd_sound hy (fun t h => ht t (by simp [tOp, h])) he hr
    simp only [aop] at h
    obtain ⟨hb, rfl⟩ := map_pair h
    exact s_bin hr vx vy hb
  split at hc
  · cases hc; exact plain rfl
  · cases hc; exact plain rfl
  · cases hc; exact bool_case false (by assumption) rfl rfl
  · cases hc; exact bool_case true (by assumption) rfl rfl
  · split at hc
    · rename_i hz; cases hc; exact nil_case 0 false ⟨_,  by assumption, hz⟩ (by simp) rfl rfl
    · cases hc
  · split at hc
    · rename_i hz; cases hc; exact nil_case 0 true ⟨_,  by assumption, hz⟩ (by simp) rfl rfl
    · cases hc
  · cases hc; exact nil_case 1 false ⟨_,  by assumption⟩ (by simp) rfl rfl
  · cases hc; exact nil_case 1 true ⟨_,  by assumption⟩ (by simp) rfl rfl
  · cases hc; exact nil_case 2 false ⟨_, _,  by assumption⟩ (by simp) rfl rfl
  · cases hc; exact nil_case 2 true ⟨_, _,  by assumption⟩ (by simp) rfl rfl
  · cases hc; exact nil_case 3 false ⟨_, _, _,  by assumption⟩ (by simp) rfl rfl
  · cases hc; exact nil_case 3 true ⟨_, _, _,  by assumption⟩ (by simp) rfl rfl
  · split at hc
    · rename_i hq; cases hc; exact nil_case 4 false ⟨_, by assumption⟩ (fun _ => hq) rfl rfl
    · cases hc
  · split at hc
    · rename_i hq; cases hc; exact nil_case 4 true ⟨_, by assumption⟩ (fun _ => hq) rfl rfl
    · cases hc
  · cases hc

theorem conv_sound {s d : TypeId} {X : Operand} {ao : AOp} {v : Value} {H' : Heap} (hc : cConv P G s d X = some ao) (ht : ∀ t ∈ tOp ao, S t) (he : EnvOn ρ S e a) (hr : Rel G B ρ H w) (h : aop e H m ao = some (v, H')) :
    DoesV P G B m ρ H w (convert s d (a.eval X)) v H' := by
  simp only [cConv, Option.bind_eq_some_iff] at hc
  obtain ⟨x, hx, hc⟩ := hc
  split at hc
  · rename_i k0 k hs hd
    cases hc
    have vx := opnd_sound hx (fun t h => ht t (by simp [tOp, h])) he hr
    simp only [aop] at h
    split at h
    · rename_i k1 n hn; cases h; rw [hn] at vx; exact s_conv hr hs hd vx
    · cases h
  · rename_i hs hd
    cases hc
    have vx := opnd_sound hx (fun t h => ht t (by simp [tOp, h])) he hr
    simp only [aop] at h
    split at h
    · rename_i b hb; cases h; rw [hb] at vx; exact s_s2s hr hs hd vx
    · cases h
  · rename_i el hs hd
    split at hc
    · rename_i h8
      cases hc
      have vx := opnd_sound hx (fun t h => ht t (by simp [tOp, h])) he hr
      simp only [aop] at h
      split at h
      · rename_i b hb; cases h; rw [hb] at vx; exact s_s2b hr hs hd (isU8_spec h8).1 (isU8_spec h8).2 vx
      · cases h
    · cases hc
  · rename_i el hs hd
    split at hc
    · rename_i h8
      cases hc
      have vx := opnd_sound hx (fun t h => ht t (by simp [tOp, h])) he hr
      simp only [aop, Option.bind_eq_some_iff, Option.map_eq_some_iff] at h
      obtain ⟨l, hl, bs, hb, hh⟩ := h
      cases hh
      exact s_b2s hr hs hd (isU8_spec h8).1 vx hl hb
    · cases hc
  · cases hc

theorem nil_cap {c : Nat} {x' : Value} (h : VR ρ (.slice none 0 c) x') : c = 0 := by cases h; rfl
theorem bound0 {o : Option Opnd} {n : Nat} (h : aBound e 0 0 o = some n) : n = 0 := by
  cases o with
  | none => simpa [aBound] using h.symm
  | some x =>
    simp only [aBound, Option.bind_eq_some_iff] at h
    obtain ⟨k, _, h⟩ := h
    split at h
    · cases h; omega
    · cases h

theorem slice_sound {t : TypeId} {X : Operand} {lo hi mx : Option Operand} {ao : AOp} {v : Value} {H' : Heap} (hc : cSlice P G t X lo hi mx = some ao) (ht : ∀ t ∈ tOp ao, S t) (he : EnvOn ρ S e a) (hr : Rel G B ρ H w)
    (h : aop e H m ao = some (v, H')) : DoesV P G B m ρ H w (Instr.sliceAt t (a.eval X) (lo.map a.eval) (hi.map a.eval) (mx.map a.eval)) v H' := by
  simp only [cSlice, Option.bind_eq_some_iff] at hc
  obtain ⟨x, hx, l, hl, hh, hhi, mm, hm, hc⟩ := hc
  split at hc
  · rename_i hu
    split at hc
    · rename_i hn
      cases hc
      have vx := opnd_sound hx (fun t h => ht t (by simp [tOp, h])) he hr
      have vl := opt_sound hl (fun t h => ht t (by simp [tOp, h])) he hr
      have vh := opt_sound hhi (fun t h => ht t (by simp [tOp, h])) he hr
      have hmx : mx = none := by
        cases mx with
        | none => rfl
        | some q => simp only [cOpt, Option.map_eq_some_iff] at hm; obtain ⟨_, _, rfl⟩ := hm; simp at hn
      subst hmx
      simp only [aop] at h
      split at h
      · rename_i s hs
        simp only [Option.bind_eq_some_iff, Option.map_eq_some_iff] at h
        obtain ⟨h', h1, l', h2, h3⟩ := h
        cases h3
        rw [hs] at vx
        exact s_cut hr hu vx vl vh h1 h2
      · cases h
    · cases hc
  · rename_i el hu
    split at hc
    · cases hc
    · rename_i hq
      simp only [Option.map_eq_some_iff] at hc
      obtain ⟨sz, hsz, rfl⟩ := hc
      have hq' : mm.isSome = true → hh.isSome = true := by
        intro h1
        cases hh with
        | none => simp [h1] at hq
        | some _ => rfl
      have vx := opnd_sound hx (fun t h => ht t (by simp [tOp, h])) he hr
      have vl := opt_sound hl (fun t h => ht t (by simp [tOp, h])) he hr
      have vh := opt_sound hhi (fun t h => ht t (by simp [tOp, h])) he hr
      have vm := opt_sound hm (fun t h => ht t (by simp [tOp, h])) he hr
      simp only [aop] at h
      split at h
      · rename_i n c hs
        split at h
        · rename_i hn
          subst hn
          simp only [Option.bind_eq_some_iff, Option.map_eq_some_iff] at h
          obtain ⟨k, h1, h', h2, l', h3, h4⟩ := h
          cases h4
          rw [hs] at vx
          have hc0 : c = 0 := nil_cap vx
          subst hc0
          have hk0 := bound0 h1
          subst hk0
          exact s_sub_nil hr hu hsz vx vl vh vm hq' h1 h2 h3
        · cases h
      · rename_i i off n c hs
        split at h
        · rename_i hcs
          subst hcs
          simp only [Option.bind_eq_some_iff, Option.map_eq_some_iff] at h
          obtain ⟨k, h1, h', h2, l', h3, h4⟩ := h
          cases h4
          rw [hs] at vx
          exact s_sub hr hu hsz vx vl vh vm hq' h1 h2 h3
        · cases h
      · cases h
  · rename_i n el hu
    split at hc
    · cases hc
    · rename_i hq
      simp only [Option.map_eq_some_iff] at hc
      obtain ⟨sz, hsz, rfl⟩ := hc
      have hq' : mm.isSome = true → hh.isSome = true := by
        intro h1
        cases hh with
        | none => simp [h1] at hq
        | some _ => rfl
      have vx := opnd_sound hx (fun t h => ht t (by simp [tOp, h])) he hr
      have vl := opt_sound hl (fun t h => ht t (by simp [tOp, h])) he hr
      have vh := opt_sound hhi (fun t h => ht t (by simp [tOp, h])) he hr
      have vm := opt_sound hm (fun t h => ht t (by simp [tOp, h])) he hr
      simp only [aop] at h
      split at h
      · rename_i i off hs
        simp only [Option.bind_eq_some_iff] at h
        obtain ⟨cs, hcs, h⟩ := h
        split at h
        · rename_i hle
          simp only [Option.bind_eq_some_iff, Option.map_eq_some_iff] at h
          obtain ⟨k, h1, h', h2, l', h3, h4⟩ := h
          cases h4
          rw [hs] at vx
          exact s_suba hr hu hsz vx hcs hle vl vh vm hq' h1 h2 h3
        · cases h
      · cases h
  · cases hc

theorem len_call {c : Call} {x : Opnd} {k : Nat} {v : Value} {H' : Heap} {ty : TypeId} (hb : c.callee = .builtin .len) (hxs : cOpnds G c.args.toList = some [x])
    (hk : (k = 0 ∧ (c.argTypes[0]?).bind P.underlying = some .string) ∨ (k = 1 ∧ ∃ e, (c.argTypes[0]?).bind P.underlying = some (.slice e)) ∨ (k = 2 ∧ ∃ q e, (c.argTypes[0]?).bind P.underlying = some (.map q e)))
    (ht : ∀ t ∈ tOpnd x, S t) (he : EnvOn ρ S e a) (hr : Rel G B ρ H w) (h : aop e H m (.len k x) = some (v, H')) :
    Does P G B m ρ H w (do let d ← resolve a.eval c ty; invoke d.target d.args) v H' := by
  have hargs : VRs ρ ([x].map (oev e)) (c.args.toList.map a.eval) := opnds_sound hxs (by simpa using ht) he hr
  obtain ⟨X, hX, rx⟩ : ∃ X, c.args.map a.eval = #[X] ∧ VR ρ (oev e x) X := by
    have hl := hargs.length
    simp at hl
    have : (c.args.map a.eval).toList = c.args.toList.map a.eval := by simp
    cases hq : c.args.toList.map a.eval with
    | nil => rw [hq] at hargs; cases hargs
    | cons X l =>
      rw [hq] at hargs
      cases hargs with
      | cons h t =>
        cases t
        refine ⟨X, ?_, h⟩
        apply Array.ext'
        rw [this, hq]
  have run : ∀ {v : Value}, DoesV P G B m ρ H w (Builtin.len_ c.argTypes ty #[X]) v H' → Does P G B m ρ H w (do let d ← resolve a.eval c ty; invoke d.target d.args) v H' := by
    intro v hd
    have := Does.ofV hd
    unfold resolve
    rw [hb]
    simpa [hX, invoke, builtin] using this
  have key : ∀ {d : TypeDesc}, (c.argTypes[0]?).bind P.underlying = some d → ∃ t, c.argTypes[0]? = some t ∧ P.underlying t = some d := by
    intro d hd
    simpa [Option.bind_eq_some_iff] using hd
  simp only [aop] at h
  rcases hk with ⟨rfl, hu⟩ | ⟨rfl, el, hu⟩ | ⟨rfl, q, el, hu⟩
  · obtain ⟨t, h0, hut⟩ := key hu
    split at h <;> try (rename_i hh _; cases hh; done)
    all_goals first
      | (cases h; done)
      | (rename_i s _ hs; cases h; rw [hs] at rx; exact run (s_len0 hr h0 hut rx))
      | (rename_i hh _; simp at hh)
  · obtain ⟨t, h0, hut⟩ := key hu
    split at h <;> first
      | (cases h; done)
      | (rename_i s n cc _ hs; cases h; rw [hs] at rx; exact run (s_len1 hr h0 hut rx))
      | (rename_i hh _; simp at hh)
  · obtain ⟨t, h0, hut⟩ := key hu
    split at h <;> first
      | (cases h; done)
      | (rename_i hs; cases h; rw [hs] at rx; exact run (s_len2n hr h0 hut rx))
      | (rename_i i _ hs; split at h
         · rename_i es own hi; cases h; rw [hs] at rx; exact run (s_len2 hr h0 hut rx hi)
         · cases h)
      | (rename_i hh _; simp at hh)

theorem arr_of_list {f : Operand → Value} {xs : Array Operand} {l : List Value} (h : xs.toList.map f = l) : xs.map f = l.toArray := by
  apply Array.ext'; simpa using h

theorem mm_call {c : Call} {x : Opnd} {xs : List Opnd} {mx : Bool} {v : Value} {H' : Heap} {ty : TypeId} (hb : c.callee = .builtin (if mx then .max else .min)) (hxs : cOpnds G c.args.toList = some (x :: xs))
    (ht : ∀ t ∈ tOp (.mm mx x xs), S t) (he : EnvOn ρ S e a) (hr : Rel G B ρ H w) (h : aop e H m (.mm mx x xs) = some (v, H')) :
    Does P G B m ρ H w (do let d ← resolve a.eval c ty; invoke d.target d.args) v H' := by
  have hargs : VRs ρ ((x :: xs).map (oev e)) (c.args.toList.map a.eval) := opnds_sound hxs (by simpa [tOp] using ht) he hr
  simp only [aop] at h
  obtain ⟨hv, rfl⟩ := map_pair h
  cases hq : c.args.toList.map a.eval with
  | nil => rw [hq] at hargs; cases hargs
  | cons X l =>
    rw [hq] at hargs
    simp only [List.map_cons] at hargs
    cases hargs with
    | cons h1 h2 =>
      obtain ⟨v', r1, r2⟩ := mm_run (P := P) (w := w) h2 h1 hv
      have hX := arr_of_list hq
      have hd : DoesV P G B m ρ H' w (if mx then Builtin.max_ c.argTypes ty (X :: l).toArray else Builtin.min_ c.argTypes ty (X :: l).toArray) v H' := by
        refine .pure hr ?_ r2
        cases mx <;> simpa [Builtin.max_, Builtin.min_] using r1
      have := Does.ofV hd
      unfold resolve
      rw [hb]
      cases mx <;> simpa [hX, invoke, builtin] using this

theorem app_call {c : Call} {x y : Opnd} {t u el el' : TypeId} {i : TypeInfo} {zs : List Value} {v : Value} {H' : Heap} {ty : TypeId} (hb : c.callee = .builtin .append) (hxs : cOpnds G c.args.toList = some [x, y])
    (h0 : c.argTypes[0]? = some t) (h1 : c.argTypes[1]? = some u) (hu : P.underlying t = some (.slice el)) (hu' : P.underlying u = some (.slice el')) (hi : P.info? el = some i) (hz : zeroOf P el = some zs)
    (ht : ∀ q ∈ tOp (.app el i.size i.bytes x y), S q) (he : EnvOn ρ S e a) (hr : Rel G B ρ H w) (h : aop e H m (.app el i.size i.bytes x y) = some (v, H')) :
    Does P G B m ρ H w (do let d ← resolve a.eval c ty; invoke d.target d.args) v H' := by
  have hargs : VRs ρ ([x, y].map (oev e)) (c.args.toList.map a.eval) := opnds_sound hxs (by simpa [tOp] using ht) he hr
  simp only [aop] at h
  cases hq : c.args.toList.map a.eval with
  | nil => rw [hq] at hargs; cases hargs
  | cons X l =>
    rw [hq] at hargs
    simp only [List.map_cons, List.map_nil] at hargs
    cases hargs with
    | cons g1 g2 =>
      cases g2 with
      | cons g2 g3 =>
        cases g3
        rename_i Y
        have hX := arr_of_list hq
        have hd := s_app (ts := c.argTypes) (ty := ty) hr h0 h1 hu hu' hi hz g1 g2 h
        have := Does.ofV hd
        unfold resolve
        rw [hb]
        simpa [hX, invoke, builtin] using this

/-- Whatever is no call of a function. -/
theorem aop_sound0 {o : Oper} {ao : AOp} {v : Value} {H' : Heap} (hc : cOp0 P G o = some ao) (hncall : ∀ f xs, ao ≠ .call f xs) (ht : ∀ t ∈ tOp ao, S t) (he : EnvOn ρ S e a) (hr : Rel G B ρ H w)
    (h : aop e H m ao = some (v, H')) : Does P G B m ρ H w (execOp a.eval o) v H' := by
  unfold cOp0 at hc
  unfold execOp
  split at hc
  · -- move
    simp only [Option.map_eq_some_iff] at hc
    obtain ⟨x, hx, rfl⟩ := hc
    rename_i X hop
    simp only [hop]
    cases h
    exact does_value hr rfl (opnd_sound hx (fun t h => ht t (by simp [tOp, h])) he hr)
  · simp only [Option.map_eq_some_iff] at hc
    obtain ⟨x, hx, rfl⟩ := hc
    rename_i X hop
    simp only [hop]
    cases h
    exact does_value hr rfl (opnd_sound hx (fun t h => ht t (by simp [tOp, h])) he hr)
  · -- pick
    simp only [Option.bind_eq_some_iff, Option.map_eq_some_iff] at hc
    obtain ⟨x, hx, y, hy, z, hz, rfl⟩ := hc
    rename_i X Y Z hop
    simp only [hop]
    simp only [aop] at h
    split at h
    · rename_i b hb
      cases h
      have vx := opnd_sound hx (fun t h => ht t (by simp [tOp, h])) he hr
      have vy := opnd_sound hy (fun t h => ht t (by simp [tOp, h])) he hr
      have vz := opnd_sound hz (fun t h => ht t (by simp [tOp, h])) he hr
      rw [hb] at vx
      have hX : a.eval X = .bool b := by cases hq : a.eval X <;> rw [hq] at vx <;> cases vx; rfl
      refine ⟨if b then a.eval Y else a.eval Z, w, ρ, .inl ?_, ?_, .refl hr⟩
      · simp [hX, asBool]
      · cases b <;> simp [vy, vz]
    · cases h
  · -- alloc
    simp only [Option.map_eq_some_iff] at hc
    obtain ⟨z, hz, rfl⟩ := hc
    rename_i T hop
    simp only [hop]
    cases h
    exact .ofV (s_new hr hz (wT_mT (zero_big hz)))
  · -- box
    simp only [Option.bind_eq_some_iff] at hc
    obtain ⟨x, hx, hc⟩ := hc
    split at hc
    rotate_left
    · cases hc
    rename_i T X hop hbe
    cases hc
    simp only [hop]
    simp only [aop] at h
    split at h
    · cases h
      exact .ofV (s_box hr (opnd_sound hx (fun t h => ht t (by simp [tOp, h])) he hr) (wT_mT hbe))
    · cases h
  · -- build
    rename_i t parts hop
    simp only [hop]
    simp only [Option.bind_eq_some_iff] at hc
    obtain ⟨z, hz, hc⟩ := hc
    split at hc
    · rename_i fs hu
      simp only [Option.bind_eq_some_iff, Option.map_eq_some_iff] at hc
      obtain ⟨ps, hps, l, hl, rfl⟩ := hc
      simp only [aop, Option.map_eq_some_iff] at h
      obtain ⟨cs, hcs, hh⟩ := h
      cases hh
      have := parts_sound (place := (ps[·]?)) hl (by simpa [tOp] using ht) he hr
      exact .ofV (s_build_struct hr hz hu hps (by simpa using this) hcs)
    · rename_i n el hu
      simp only [Option.bind_eq_some_iff, Option.map_eq_some_iff] at hc
      obtain ⟨n, hn, l, hl, rfl⟩ := hc
      simp only [aop, Option.map_eq_some_iff] at h
      obtain ⟨cs, hcs, hh⟩ := h
      cases hh
      have := parts_sound (place := fun i => some (i * n, n)) hl (by simpa [tOp] using ht) he hr
      exact .ofV (s_build_array hr hz hu hn (by simpa using this) hcs)
    · cases hc
  · -- buildSlice
    rename_i t len parts hop
    simp only [hop]
    split at hc
    · rename_i el hu
      simp only [Option.bind_eq_some_iff] at hc
      obtain ⟨z, hz, hc⟩ := hc
      split at hc
      · rename_i hle
        simp only [Option.map_eq_some_iff] at hc
        obtain ⟨l, hl, rfl⟩ := hc
        simp only [aop, Option.map_eq_some_iff] at h
        obtain ⟨cs, hcs, hh⟩ := h
        cases hh
        have := parts_sound (place := fun i => some (i * z.length, z.length)) hl (by simpa [tOp] using ht) he hr
        exact .ofV (s_lit hr hz hu hle (by simpa using this) hcs)
      · cases hc
    · cases hc
  · -- load
    rename_i t X hop
    simp only [hop]
    simp only [Option.bind_eq_some_iff] at hc
    obtain ⟨x, hx, g, hg, hc⟩ := hc
    split at hc
    · rename_i hgt
      subst hgt
      simp only [Option.map_eq_some_iff] at hc
      obtain ⟨n, hn, rfl⟩ := hc
      simp only [aop] at h
      obtain ⟨hv, rfl⟩ := map_pair h
      exact .ofV (s_ldn hr (opnd_sound hx (fun t h => ht t (by simp [tOp, h])) he hr) hg hn hv)
    · rename_i hgf
      cases hc
      have : g = false := by simpa using hgf
      subst this
      simp only [aop] at h
      obtain ⟨hv, rfl⟩ := map_pair h
      exact .ofV (s_ld hr (opnd_sound hx (fun t h => ht t (by simp [tOp, h])) he hr) hg hv)
  · -- store
    rename_i t A X hop
    simp only [hop]
    simp only [Option.bind_eq_some_iff, Option.map_eq_some_iff] at hc
    obtain ⟨b, hb, x, hx, n, hn, rfl⟩ := hc
    simp only [aop, Option.map_eq_some_iff] at h
    obtain ⟨H1, hst, hh⟩ := h
    cases hh
    exact s_st hr hn (opnd_sound hx (fun t h => ht t (by simp [tOp, h])) he hr) (opnd_sound hb (fun t h => ht t (by simp [tOp, h])) he hr) hst
  · -- nilCheck
    rename_i X hop
    simp only [hop]
    simp only [Option.map_eq_some_iff] at hc
    obtain ⟨x, hx, rfl⟩ := hc
    have vx := opnd_sound hx (fun t h => ht t (by simp [tOp, h])) he hr
    simp only [aop] at h
    split at h
    · rename_i p hp
      cases h
      rw [hp] at vx
      cases hq : a.eval X <;> rw [hq] at vx <;> cases vx
      rename_i l hl
      exact does_value hr rfl (.ptr _ _ l hl)
    · rename_i f p q hp
      cases h
      rw [hp] at vx
      cases hq : a.eval X <;> rw [hq] at vx <;> cases vx
      rename_i h1 h2 h3 h4
      exact does_value hr rfl (.func _ _ _ _ _ h1 h2 h3 h4)
    · cases h
  · rename_i op t X Y T hop
    simp only [hop]
    exact .ofV (bin_sound hc ht he hr h)
  · rename_i op t X hop
    simp only [hop]
    simp only [Option.map_eq_some_iff] at hc
    obtain ⟨x, hx, rfl⟩ := hc
    simp only [aop] at h
    obtain ⟨hv, rfl⟩ := map_pair h
    exact .ofV (s_un hr (opnd_sound hx (fun t h => ht t (by simp [tOp, h])) he hr) hv)
  · rename_i s d X hop
    simp only [hop]
    exact .ofV (conv_sound hc ht he hr h)
  · -- makeFunc
    rename_i fn A C hop
    simp only [hop]
    simp only [Option.bind_eq_some_iff, Option.map_eq_some_iff] at hc
    obtain ⟨x, hx, y, hy, rfl⟩ := hc
    cases h
    have vx := opnds_sound hx (fun t h => ht t (by simp [tOp] at h ⊢; exact .inl h)) he hr
    have vy := opnds_sound hy (fun t h => ht t (by simp [tOp] at h ⊢; exact .inr h)) he hr
    exact .ofV (.pure hr (v' := .func fn (A.map a.eval) (C.map a.eval)) (by simp [Instr.makeFunc]) (.mkFunc (by simpa using vx) (by simpa using vy)))
  · -- makeInterface
    rename_i t X hop
    simp only [hop]
    simp only [Option.bind_eq_some_iff] at hc
    obtain ⟨x, hx, hc⟩ := hc
    split at hc
    · cases hc
    · rename_i d hni hu
      cases hc
      cases h
      exact .ofV (s_mki hr hu (fun ms e => hni ms e) (opnd_sound hx (fun t h => ht t (by simp [tOp, h])) he hr))
    · cases hc
  · -- makeSlice
    rename_i t L C hop
    simp only [hop]
    simp only [Option.bind_eq_some_iff] at hc
    obtain ⟨x, hx, y, hy, hc⟩ := hc
    split at hc
    · rename_i el hu
      simp only [Option.bind_eq_some_iff, Option.map_eq_some_iff] at hc
      obtain ⟨i, hi, z, hz, rfl⟩ := hc
      have vx := opnd_sound hx (fun t h => ht t (by simp [tOp, h])) he hr
      have vy := opnd_sound hy (fun t h => ht t (by simp [tOp, h])) he hr
      simp only [aop] at h
      split at h
      · rename_i k1 n1 k2 n2 e1 e2
        split at h
        · rename_i hcnd
          obtain ⟨rfl, h0, hb, h62, hpos⟩ := hcnd
          cases h
          rw [e1] at vx; rw [e2] at vy
          exact .ofV (s_mks hr hu hi hz vx vy h0 hb h62 hpos)
        · cases h
      · cases h
    · cases hc
  · rename_i t X lo hi mx hop
    simp only [hop]
    exact .ofV (slice_sound hc ht he hr h)
  · -- fieldAddr
    rename_i s X f hop
    simp only [hop]
    simp only [Option.bind_eq_some_iff] at hc
    obtain ⟨x, hx, hc⟩ := hc
    split at hc
    · rename_i fs hu
      simp only [Option.bind_eq_some_iff] at hc
      obtain ⟨fd, hfd, n, hn, hc⟩ := hc
      split at hc
      · cases hc
      · rename_i h0
        cases hc
        have vx := opnd_sound hx (fun t h => ht t (by simp [tOp, h])) he hr
        simp only [aop] at h
        split at h
        · rename_i i o hp
          cases h
          rw [hp] at vx
          exact .ofV (s_fa hr hu hfd hn h0 vx)
        · cases h
    · cases hc
  · -- field
    rename_i s X f hop
    simp only [hop]
    simp only [Option.bind_eq_some_iff] at hc
    obtain ⟨x, hx, hc⟩ := hc
    split at hc
    · rename_i fs hu
      simp only [Option.bind_eq_some_iff] at hc
      obtain ⟨fd, hfd, g, hg, hc⟩ := hc
      split at hc
      · rename_i hgt
        subst hgt
        simp only [Option.map_eq_some_iff] at hc
        obtain ⟨n, hn, rfl⟩ := hc
        have vx := opnd_sound hx (fun t h => ht t (by simp [tOp, h])) he hr
        simp only [aop] at h
        split at h
        · rename_i cs hp
          cases h
          rw [hp] at vx
          exact .ofV (s_fldn hr hu hfd hg hn vx)
        · cases h
      · rename_i hgf
        have : g = false := by simpa using hgf
        subst this
        cases hc
        have vx := opnd_sound hx (fun t h => ht t (by simp [tOp, h])) he hr
        simp only [aop] at h
        split at h
        · rename_i cs hp
          obtain ⟨hv, rfl⟩ := map_pair h
          rw [hp] at vx
          exact .ofV (s_fld hr hu hfd hg vx hv)
        · cases h
    · cases hc
  · -- indexAddr
    rename_i t X I hop
    simp only [hop]
    simp only [Option.bind_eq_some_iff] at hc
    obtain ⟨x, hx, y, hy, hc⟩ := hc
    split at hc
    · rename_i el hu
      simp only [Option.map_eq_some_iff] at hc
      obtain ⟨n, hn, rfl⟩ := hc
      have vx := opnd_sound hx (fun t h => ht t (by simp [tOp, h])) he hr
      have vy := opnd_sound hy (fun t h => ht t (by simp [tOp, h])) he hr
      simp only [aop] at h
      split at h
      · rename_i j off q c kk k e1 e2
        split at h
        · rename_i hk
          cases h
          rw [e1] at vx; rw [e2] at vy
          exact .ofV (s_ia hr hu hn vx vy hk.1 hk.2)
        · cases h
      · cases h
    · rename_i q el hu
      simp only [Option.map_eq_some_iff] at hc
      obtain ⟨n, hn, rfl⟩ := hc
      have vx := opnd_sound hx (fun t h => ht t (by simp [tOp, h])) he hr
      have vy := opnd_sound hy (fun t h => ht t (by simp [tOp, h])) he hr
      simp only [aop] at h
      split at h
      · rename_i j off kk k e1 e2
        split at h
        · rename_i hk
          cases h
          rw [e1] at vx; rw [e2] at vy
          exact .ofV (s_iaa hr hu hn vx vy hk.1 hk.2)
        · cases h
      · cases h
    · cases hc
  · -- index
    rename_i t X I hop
    simp only [hop]
    simp only [Option.bind_eq_some_iff] at hc
    obtain ⟨x, hx, y, hy, hc⟩ := hc
    split at hc
    · rename_i hu
      cases hc
      have vx := opnd_sound hx (fun t h => ht t (by simp [tOp, h])) he hr
      have vy := opnd_sound hy (fun t h => ht t (by simp [tOp, h])) he hr
      simp only [aop] at h
      split at h
      · rename_i s kk k e1 e2
        split at h
        · rename_i h0
          simp only [Option.map_eq_some_iff] at h
          obtain ⟨b, hb, hh⟩ := h
          cases hh
          rw [e1] at vx; rw [e2] at vy
          exact .ofV (s_ixs hr hu vx vy h0 hb)
        · cases h
      · cases h
    · rename_i q el hu
      simp only [Option.bind_eq_some_iff, Option.map_eq_some_iff] at hc
      obtain ⟨n, hn, g, hg, rfl⟩ := hc
      have vx := opnd_sound hx (fun t h => ht t (by simp [tOp, h])) he hr
      have vy := opnd_sound hy (fun t h => ht t (by simp [tOp, h])) he hr
      simp only [aop] at h
      split at h
      · rename_i cs kk k e1 e2
        split at h
        · rename_i hk
          rw [e1] at vx; rw [e2] at vy
          cases g with
          | true => simp only [if_true] at h; cases h; exact .ofV (s_ixan hr hu hn hg vx vy hk.1 hk.2)
          | false =>
            simp only [Bool.false_eq_true, if_false] at h
            obtain ⟨hv, rfl⟩ := map_pair h
            exact .ofV (s_ixa hr hu hn hg vx vy hk.1 hk.2 hv)
        · cases h
      · cases h
    · cases hc
  · -- extract
    rename_i X n hop
    simp only [hop]
    simp only [Option.map_eq_some_iff] at hc
    obtain ⟨x, hx, rfl⟩ := hc
    have vx := opnd_sound hx (fun t h => ht t (by simp [tOp, h])) he hr
    simp only [aop] at h
    split at h
    · rename_i vs hp
      obtain ⟨hv, rfl⟩ := map_pair h
      rw [hp] at vx
      exact .ofV (s_ext hr vx hv)
    · cases h
  · -- call
    rename_i c hop
    simp only [hop]
    simp only [cCall, Option.bind_eq_some_iff] at hc
    obtain ⟨xs, hxs, hc⟩ := hc
    split at hc
    · split at hc
      · cases hc
      · simp only [Option.map_eq_some_iff] at hc
        obtain ⟨f, _, rfl⟩ := hc
        exact absurd rfl (hncall _ _)
    · rename_i hb
      split at hc
      · cases hc; exact len_call hb hxs (.inl ⟨rfl, by assumption⟩) (fun t h => ht t (by simpa [tOp] using h)) he hr h
      · cases hc; exact len_call hb hxs (.inr (.inl ⟨rfl, _, by assumption⟩)) (fun t h => ht t (by simpa [tOp] using h)) he hr h
      · cases hc; exact len_call hb hxs (.inr (.inr ⟨rfl, _, _, by assumption⟩)) (fun t h => ht t (by simpa [tOp] using h)) he hr h
      · cases hc
    · rename_i hb
      split at hc
      · cases hc; exact mm_call (mx := false) hb hxs ht he hr h
      · cases hc
    · rename_i hb
      split at hc
      · cases hc; exact mm_call (mx := true) hb hxs ht he hr h
      · cases hc
    · rename_i hb
      split at hc
      · rename_i el el' b1 b2 hu hu'
        simp only [Option.bind_eq_some_iff, Option.map_eq_some_iff] at hc hu hu'
        obtain ⟨i, hi, z, hz, rfl⟩ := hc
        obtain ⟨t, h0, hu⟩ := hu
        obtain ⟨u, h1, hu'⟩ := hu'
        exact app_call hb hxs h0 h1 hu hu' hi hz ht he hr h
      · cases hc
    · cases hc
  · cases hc


/-! ## The other operations -/
theorem eqCell_flat {k : Nat} {a b : Value} {c : Bool} (h : eqCell k a b = some c) : flat a = true ∧ flat b = true := by
  unfold eqCell at h
  split at h <;> first | exact ⟨rfl, rfl⟩ | cases h
theorem eqCells_flat : ∀ {ks : List Nat} {l r : List Value} {c : Bool}, eqCells ks l r = some c → l.all flat = true ∧ r.all flat = true
  | [], [], [], _, _ => ⟨rfl, rfl⟩
  | k :: ks, a :: l, b :: r, c, h => by
    simp only [eqCells, Option.bind_eq_some_iff, Option.map_eq_some_iff] at h
    obtain ⟨x, hx, y, hy, _⟩ := h
    have h1 := eqCell_flat hx
    have h2 := eqCells_flat hy
    simp [h1, h2]
  | [], [], _ :: _, _, h => by cases h
  | [], _ :: _, _, _, h => by cases h
  | _ :: _, [], _, _, h => by cases h
  | _ :: _, _ :: _, [], _, h => by cases h
theorem equal_plain {k : Nat} {t : TypeId} {x y : Value} {c : Bool} (d : Nat) (hk : plainK P t = some k) (h : eqCell k x y = some c) : (Op.equalIn (d + 1) t x y).run P w = .ok c w := by
  unfold plainK at hk
  split at hk
  · rename_i hu
    cases hk
    unfold eqCell at h
    split at h <;> first | (rename_i hh; cases hh; done) | skip
    · cases h; simp [Op.equalIn, run_underlying hu]
    · cases h
  · rename_i q hu
    cases hk
    unfold eqCell at h
    split at h <;> first | (rename_i hh; cases hh; done) | skip
    · rename_i k1 a1 k2 b1 _
      split at h
      · rename_i hkk; subst hkk; cases h; simp [Op.equalIn, run_underlying hu]
      · cases h
    · cases h
  · rename_i hu
    cases hk
    unfold eqCell at h
    split at h <;> first | (rename_i hh; cases hh; done) | skip
    · rename_i a b _
      cases h
      have : (a == b) = decide (a = b) := by
        obtain ⟨⟨x⟩⟩ := a
        obtain ⟨⟨y⟩⟩ := b
        show ((⟨x⟩ : Array UInt8) == ⟨y⟩) = _
        by_cases hab : x = y
        · subst hab; simp
        · simp [hab]
      simp [Op.equalIn, run_underlying hu, this]
    · cases h
  · cases hk
theorem plain_agg {t : TypeId} {k : Nat} (hk : plainK P t = some k) : aggOf P t = some false := by
  unfold plainK at hk
  unfold aggOf
  split at hk
  · rename_i hu; rw [hu]; rfl
  · rename_i hu; rw [hu]; rfl
  · rename_i hu; rw [hu]; rfl
  · cases hk
theorem eqFields_plain (d : Nat) (xs ys : Array Value) : ∀ (fs : List Field) (o : Nat) (ks : List Nat) (c : Bool), plainFields P o fs = some ks → eqCells ks (xs.toList.drop o) (ys.toList.drop o) = some c →
    (Op.eqFields (d + 1) xs ys fs).run P w = .ok c w
  | [], o, ks, c, h, hc => by
    cases h
    have : c = true := by
      unfold eqCells at hc
      split at hc <;> simp_all
    subst this
    simp [Op.eqFields]
  | f :: fs, o, ks, c, h, hc => by
    simp only [plainFields, Option.bind_eq_some_iff] at h
    obtain ⟨k, hk, h⟩ := h
    split at h
    · rename_i hf
      obtain ⟨hn, rfl⟩ := hf
      obtain ⟨ks', hks, rfl⟩ := Option.map_eq_some_iff.1 h
      cases hx : xs.toList.drop f.offset with
      | nil => rw [hx] at hc; simp [eqCells] at hc
      | cons a l =>
        cases hy : ys.toList.drop f.offset with
        | nil => rw [hx, hy] at hc; simp [eqCells] at hc
        | cons b r =>
          rw [hx, hy] at hc
          simp only [eqCells, Option.bind_eq_some_iff, Option.map_eq_some_iff] at hc
          obtain ⟨p, hp, q, hq, rfl⟩ := hc
          have tailx : xs.toList.drop (f.offset + 1) = l := by rw [← List.drop_drop, hx]; rfl
          have taily : ys.toList.drop (f.offset + 1) = r := by rw [← List.drop_drop, hy]; rfl
          have ih := eqFields_plain d xs ys fs (f.offset + 1) ks' q hks (by rw [tailx, taily]; exact hq)
          have getx : xs[f.offset]? = some a := by
            have : (xs.toList.drop f.offset)[0]? = some a := by rw [hx]; rfl
            simpa using this
          have gety : ys[f.offset]? = some b := by
            have : (ys.toList.drop f.offset)[0]? = some b := by rw [hy]; rfl
            simpa using this
          have hag := plain_agg hk
          simp only [Op.eqFields, if_pos hn, Sem.run_bind, part, run_isAgg hag, Result.andThen_ok, Bool.false_eq_true, if_false, getx, gety, Sem.run_pure, equal_plain d hk hp]
          cases p with
          | true => simp [ih]
          | false => simp
    · cases h

/-! ## What strings.Builder leans on -/
theorem freeze_get (w : World) (p : Addr) (n b : Nat) (h : b ≠ p.block) : (w.freeze p n).heap[b]? = w.heap[b]? := by
  unfold World.freeze
  split
  · rfl
  · simp only [Array.getElem?_modify]
    rw [if_neg (Ne.symm h)]
theorem freeze_rest (w : World) (p : Addr) (n : Nat) : (w.freeze p n).os = w.os ∧ (w.freeze p n).tape = w.tape ∧ (w.freeze p n).output = w.output ∧ (w.freeze p n).heap.size = w.heap.size := by
  unfold World.freeze
  split
  · exact ⟨rfl, rfl, rfl, rfl⟩
  · exact ⟨rfl, rfl, rfl, by simp⟩
theorem Stp.freeze {i o n : Nat} {cs : List Value} {T : TypeId} {l : Loc} (hr : Rel G B ρ H w) (ho : H[i]? = some (.cells cs T true)) (hl : ρ i = some l) (hlim : m.lim ≤ i) :
    Stp G B m ρ H w ρ (H.set i .dead) (w.freeze ⟨l.blk, o, none⟩ n) := by
  have hk := hr.kill i
  obtain ⟨f1, f2, f3, f4⟩ := freeze_rest w ⟨l.blk, o, none⟩ n
  have hs := Stp.kill (m := m) hr i
  have hne : ∀ (j : Nat) (x : AObj) (loc : Loc), (H.set i .dead)[j]? = some x → x.live = true → ρ j = some loc → loc.blk ≠ l.blk := by
    intro j x loc hj hlv e
    rw [List.getElem?_set] at hj
    split at hj
    · split at hj
      · cases hj; simp [AObj.live] at hlv
      · cases hj
    · rename_i hij
      exact (hr.inj i j _ x l loc hij ho hj rfl hlv hl e).symm
  refine ⟨Emb.le_refl _, ⟨hk.dom, fun j x hj => ?_, hk.inj, by rw [f4]; exact hr.big, hr.glob⟩, ⟨f1, f2, f3, by omega, fun b hb hn => freeze_get w _ n b fun e => hn ⟨i, _, l, hlim, ho, rfl, hl, e.symm⟩⟩, hs.may, hs.len, hs.fp, fun _ => rfl⟩
  cases hlv : x.live with
  | false => cases x with
    | dead => trivial
    | _ => simp [AObj.live] at hlv
  | true => exact (hk.obj j x hj).same fun loc hloc => freeze_get w _ n _ (hne j x loc hj hlv hloc)

theorem liesAt_at {u : TypeId} (hc : P.cellsOf u = 1) (count off n : Nat) (hn : off + n ≤ count) : liesAt P P.depth u count off u n = true := by
  have hd : P.depth = (2 * (P.types.size + Made.depth) + 1) + 1 := rfl
  rw [hd]
  simp only [liesAt, Bool.or_eq_true]
  left
  rw [hd]
  simp [rowAt, hc, hn, sameLayout, Nat.mod_one]
theorem liesAt_whole {u : TypeId} (hc : P.cellsOf u = 2) (cells : Nat) (h : 1 < cells) : liesAt P P.depth u (cells / P.cellsOf u) 0 u 1 = true := by
  have hd : P.depth = (2 * (P.types.size + Made.depth) + 1) + 1 := rfl
  rw [hd]
  simp only [liesAt, Bool.or_eq_true]
  left
  rw [hd]
  have : 1 ≤ cells / 2 := by omega
  simp [rowAt, hc, sameLayout, this]

theorem s_up {s d t : TypeId} {n : Nat} {x x' v : Value} {H' : Heap} (hr : Rel G B ρ H w) (hs : P.underlying s = some (.pointer t)) (hd : P.underlying d = some .unsafePointer) (hn : szOf P t = some n) (h0 : n ≠ 0)
    (hx : VR ρ x x') (h : xop m H .up [x] = some (v, H')) : DoesV P G B m ρ H w (convert s d x') v H' := by
  unfold xop at h
  split at h <;> first | (rename_i h1 _; cases h1; done) | (cases h; done) | skip
  · rename_i _ h2
    simp only [List.cons.injEq, and_true] at h2
    rw [h2] at hx
    cases h; cases hx
    refine .pure hr (v' := .pointer none) ?_ .ptrNone
    simp [convert, run_underlying hs, run_underlying hd, Conv.unsafePointer]
  · rename_i i off _ h2
    simp only [List.cons.injEq, and_true] at h2
    rw [h2] at hx
    obtain ⟨cs, hcs, h⟩ := Option.bind_eq_some_iff.1 h
    split at h
    · rename_i hoff
      cases h
      cases hx with
      | ptr _ _ l hl =>
        unfold cellsOf at hcs
        split at hcs
        · rename_i cs' T own ho
          cases hcs
          obtain ⟨loc, cur, fr, e1, q2, q3, q4, q5, q6⟩ := hr.obj i _ ho
          rw [hl] at e1; cases e1
          obtain ⟨j, hj, hjs⟩ := Option.map_eq_some_iff.1 hn
          refine .pure hr (v' := .pointer (some ⟨l.blk, l.base + off, none⟩)) ?_ (.ptr _ _ l hl)
          exact Lib.run_to_unsafe w ⟨l.blk, l.base + off, none⟩ hs hd hj (by omega) (e := wT T) (cells := cur.size) (by simp [World.shape?, q2]) (by show l.base + off < cur.size; omega)
        · cases hcs
    · cases h

theorem s_down {s d u : TypeId} {n : Nat} {x x' v : Value} {H' : Heap} (hr : Rel G B ρ H w) (hs : P.underlying s = some .unsafePointer) (hd : P.underlying d = some (.pointer u)) (hn : szOf P u = some n) (h2c : P.cellsOf u = 2)
    (hx : VR ρ x x') (h : xop m H (.down u) [x] = some (v, H')) : DoesV P G B m ρ H w (convert s d x') v H' := by
  unfold xop at h
  split at h <;> first | (rename_i h1 _; cases h1; done) | (cases h; done) | skip
  · rename_i u' i off h1 h2
    cases h1
    simp only [List.cons.injEq, and_true] at h2
    rw [h2] at hx
    split at h
    · rename_i cs T ho
      split at h
      · rename_i hc
        obtain ⟨rfl, rfl, hlen⟩ := hc
        cases h
        cases hx with
        | ptr _ _ l hl =>
          obtain ⟨loc, cur, fr, e1, q2, q3, q4, q5, q6⟩ := hr.obj i _ ho
          rw [hl] at e1; cases e1
          obtain ⟨_, _, hbase⟩ := q6 rfl
          have hb := hbase (Nat.le_add_left _ _)
          rw [wT_big] at q2
          obtain ⟨j, hj, hjs⟩ := Option.map_eq_some_iff.1 hn
          refine .pure hr (v' := .pointer (some ⟨l.blk, l.base + 0, none⟩)) ?_ (.ptr _ _ l hl)
          refine Lib.run_from_unsafe w ⟨l.blk, l.base + 0, none⟩ hs hd hj (e := u) (cells := cur.size) (by simp [World.shape?, q2]) ?_
          simp only [hb, Nat.add_zero]
          exact liesAt_whole h2c _ (by omega)
      · cases h
    · cases h

theorem s_sdata {ts : Array TypeId} {ty : TypeId} {x x' v : Value} {H' : Heap} (hr : Rel G B ρ H w) (hx : VR ρ x x') (h : xop m H .sdata [x] = some (v, H')) : DoesV P G B m ρ H w (Builtin.unsafeSliceData_ ts ty #[x']) v H' := by
  unfold xop at h
  split at h <;> first | (rename_i h1 _; cases h1; done) | (cases h; done) | skip
  · rename_i n c _ h2
    simp only [List.cons.injEq, and_true] at h2
    rw [h2] at hx
    split at h
    · rename_i h0
      subst h0
      cases h; cases hx
      exact .pure hr (v' := .pointer none) rfl .ptrNone
    · cases h
  · rename_i i off n c _ h2
    simp only [List.cons.injEq, and_true] at h2
    rw [h2] at hx
    split at h
    · rename_i h0
      cases h
      cases hx with
      | slice _ _ _ _ o' c' l hl hof hnc htop =>
        refine .pure hr (v' := .pointer (some ⟨l.blk, o', none⟩)) ?_ (by rw [hof h0]; exact .ptr _ _ l hl)
        exact Lib.run_unsafeSliceData_row w ts ty _ n c' (by omega)
      | slice0 => omega
    · cases h

theorem run_loadB : ∀ (xs : List Int) (a : Addr) (acc : ByteArray), (∀ j x, xs[j]? = some x → w.cell? (a.add j) = some (.int .u8 x)) →
    (loadBytes a acc xs.length).run P w = .ok ⟨acc.data ++ (xs.map fun n => UInt8.ofNat n.toNat).toArray⟩ w
  | [], a, acc, _ => by simp [loadBytes]
  | x :: l, a, acc, h => by
    have h0 : w.cell? a = some (.int .u8 x) := by
      have := h 0 x rfl
      simpa [Addr.add] using this
    have ih := run_loadB l (a.add 1) (acc.push x.toNat.toUInt8) (fun j y hy => by
      have := h (j + 1) y (by simpa using hy)
      have e : (a.add 1).add j = a.add (j + 1) := by
        unfold Addr.add
        by_cases hj : j = 0
        · subst hj; simp
        · simp [hj]; omega
      rw [e]; exact this)
    simp only [List.length_cons, loadBytes, Sem.run_bind, run_load, h0, Result.andThen]
    rw [ih]
    congr 1
    apply ByteArray.ext
    simp [ByteArray.push]

theorem s_ustr {ts : Array TypeId} {pt ty u : TypeId} {x x' y y' v : Value} {H' : Heap} (hr : Rel G B ρ H w) (h0 : ts[0]? = some pt) (hsz : ts.size = 2) (hp : P.underlying pt = some (.pointer u)) (hc : P.cellsOf u = 1) (hu : u < BIG)
    (hx : VR ρ x x') (hy : VR ρ y y') (h : xop m H (.ustr u) [x, y] = some (v, H')) : DoesV P G B m ρ H w (Builtin.unsafeString_ ts ty #[x', y']) v H' := by
  obtain ⟨it, rfl⟩ : ∃ it, ts = #[pt, it] := by
    obtain ⟨l⟩ := ts
    match l, hsz with
    | [a, b], _ => simp at h0; subst h0; exact ⟨b, rfl⟩
  unfold xop at h
  split at h <;> first | (rename_i h1 _; cases h1; done) | (cases h; done) | skip
  · rename_i u' n h1 h2
    cases h1
    simp only [List.cons.injEq, and_true] at h2
    rw [h2.1] at hx; rw [h2.2] at hy
    split at h
    · rename_i hn
      subst hn
      cases h; cases hx; cases hy
      exact .pure hr (v' := .string .empty) (Lib.run_unsafeString_none w pt it ty none) (.string _)
    · cases h
  · rename_i u' i off n h1 h2
    cases h1
    simp only [List.cons.injEq, and_true] at h2
    rw [h2.1] at hx; rw [h2.2] at hy
    split at h
    · rename_i cs T ho
      split at h
      · rename_i hcond
        obtain ⟨rfl, hlim, hpos, hle, h63⟩ := hcond
        obtain ⟨bs, hbs, hv⟩ := Option.map_eq_some_iff.1 h
        cases hv
        cases hy
        cases hx with
        | ptr _ _ l hl =>
          obtain ⟨loc, cur, fr, e1, q2, q3, q4, q5, q6⟩ := hr.obj i _ ho
          rw [hl] at e1; cases e1
          rw [wT_lt hu] at q2
          obtain ⟨N, rfl⟩ : ∃ N : Nat, n = N := ⟨n.toNat, by omega⟩
          simp only [Int.toNat_natCast] at hbs hle
          have hcells : cellsOf H i = some cs := by unfold cellsOf; rw [ho]
          obtain ⟨vs, v1, v2, v3⟩ := hr.row hcells (off := off) (n := N) (by omega) hl
          obtain ⟨ns, hns, hbn⟩ := allBytes_spec hbs
          have hlen : bs.length = N := by
            have := congrArg List.length hns
            rw [List.length_map, v1.length, v2] at this
            rw [hbn, List.length_map]; exact this.symm
          have hflat : ((cs.drop off).take N).all flat = true := by
            rw [hns]; simp [List.all_eq_true, flat, flatN]
          have hvs := v1.flat_eq hflat
          have hload := run_loadB (P := P) (w := w) ns ⟨l.blk, l.base + off, none⟩ .empty (fun j z hz => by
            rw [Addr_add]
            refine v3 j _ ?_
            rw [hvs, hns, List.getElem?_map, hz]; rfl)
          have hnl : ns.length = N := by rw [← hlen, hbn, List.length_map]
          rw [hnl] at hload
          have hlies := liesAt_at (P := P) hc (cur.size / P.cellsOf T) (l.base + off) N (by rw [hc, Nat.div_one]; omega)
          have hN : ¬ ((N : Int) = 0) := by omega
          have hneg : ¬ (N : Int) < 0 := by omega
          have hmax : IntKind.i64.max = 9223372036854775807 := rfl
          have h63' : ¬ (9223372036854775807 : Int) < (N : Int) := by omega
          refine ⟨.string ⟨bs.toArray⟩, _, ρ, ?_, .string _, .freeze (o := l.base + off) (n := N) hr ho hl hlim⟩
          have hdef : Builtin.unsafeString_ #[pt, it] ty #[.pointer (some ⟨l.blk, l.base + off, none⟩), .int .i64 (N : Int)] =
              (do
                let n ← asInt (.int .i64 (N : Int))
                if n < 0 then runtimePanic (.error "unsafe.String: len out of range")
                if n > IntKind.i64.max then unsupported (.unsafePointer "String: a length above the largest int")
                if n = 0 then pure (.string .empty)
                else if ← variablesAt ⟨l.blk, l.base + off, none⟩ (← elemOf pt) n.toNat then do
                  let s ← loadBytes ⟨l.blk, l.base + off, none⟩ .empty n.toNat
                  freeze ⟨l.blk, l.base + off, none⟩ n.toNat
                  pure (.string s)
                else unsupported (.unsafePointer "String: not so many bytes at ptr")) := rfl
          rw [hdef]
          have hs : (⟨l.blk, l.base + off, none⟩ : Addr).block = l.blk := rfl
          have hshape : w.shape? l.blk = some (T, cur.size) := by simp [World.shape?, q2]
          simp [asInt, asIntOf, hmax, h63', hneg, hN, variablesAt, hshape, elemOf, run_underlying hp, hlies, hload, hbn]
          intro h; omega
      · cases h
    · cases h

/-! ## Functions of the machine's own -/
theorem findNext_none {fn : Func} {n : String} (h : fn.name = n) (h1 : Extern.allNextRows.lookup n = none) (h2 : Extern.allNextRows.lookup fn.origin = none) : Extern.findNext fn = none := by
  simp [Extern.findNext, h, h1, h2]
theorem find_noesc {fn : Func} (h : fn.name = "internal/abi.NoEscape") : Extern.find fn = some Extern.AbiNoEscape.same := by
  have h1 : Extern.allGenericRows.lookup "internal/abi.NoEscape" = none := by kernel_rfl
  have h2 : Extern.allTypedRows.lookup "internal/abi.NoEscape" = none := by kernel_rfl
  have h3 : Extern.allRows.lookup "internal/abi.NoEscape" = some Extern.AbiNoEscape.same := by kernel_rfl
  simp [Extern.find, h, h1, h2, h3]
theorem find_idxb {fn : Func} (h : fn.name = "internal/bytealg.IndexByteString") : Extern.find fn = some Extern.BytealgIndexByte.indexByte := by
  have h1 : Extern.allGenericRows.lookup "internal/bytealg.IndexByteString" = none := by kernel_rfl
  have h2 : Extern.allTypedRows.lookup "internal/bytealg.IndexByteString" = none := by kernel_rfl
  have h3 : Extern.allRows.lookup "internal/bytealg.IndexByteString" = some Extern.BytealgIndexByte.indexByte := by kernel_rfl
  simp [Extern.find, h, h1, h2, h3]

theorem x_sound {o : Oper} {ao : AOp} {v : Value} {H' : Heap} (hc : cX P G o = some ao) (ht : ∀ t ∈ tOp ao, S t) (he : EnvOn ρ S e a) (hr : Rel G B ρ H w)
    (h : aop e H m ao = some (v, H')) : Does P G B m ρ H w (execOp a.eval o) v H' := by
  unfold cX at hc
  unfold execOp
  split at hc
  · rename_i op t X Y T hop
    simp only [hop]
    simp only [Option.bind_eq_some_iff] at hc
    obtain ⟨x, hx, y, hy, hc⟩ := hc
    have main : ∀ (neg : Bool) (ks : List Nat), op = (if neg then .neq else .eql) → eqsOf P t = some ks → ao = .x (.eqs neg ks) [x, y] → Does P G B m ρ H w (do pure (.value (← (do eqGuard op t X Y (a.eval X) (a.eval Y); binOp op t (a.eval X) (a.eval Y))))) v H' := by
      intro neg ks hop' hks hao
      subst hao
      have vx := opnd_sound hx (fun t h => ht t (by simp [tOp, h])) he hr
      have vy := opnd_sound hy (fun t h => ht t (by simp [tOp, h])) he hr
      simp only [aop, List.map_cons, List.map_nil] at h
      unfold xop at h
      split at h <;> first | (rename_i h1 _; cases h1; done) | (rename_i h1; cases h1; done) | (cases h; done) | skip
      · rename_i neg' ks' A C' h1 h2
        cases h1
        simp only [List.cons.injEq, and_true] at h2
        obtain ⟨c, hcc, hv⟩ := Option.map_eq_some_iff.1 h
        cases hv
        obtain ⟨f1, f2⟩ := eqCells_flat hcc
        rw [h2.1] at vx; rw [h2.2] at vy
        have ex : a.eval X = .agg A := by
          cases hq : a.eval X <;> rw [hq] at vx <;> cases vx
          rename_i A' hs hh
          have hvs : VRs ρ A.toList A'.toList := .ofArr hs hh
          rw [Array.ext' (hvs.flat_eq f1)]
        have ey : a.eval Y = .agg C' := by
          cases hq : a.eval Y <;> rw [hq] at vy <;> cases vy
          rename_i A' hs hh
          have hvs : VRs ρ C'.toList A'.toList := .ofArr hs hh
          rw [Array.ext' (hvs.flat_eq f2)]
        unfold eqsOf at hks
        split at hks
        · rename_i fs hu
          simp only [Option.bind_eq_some_iff] at hks
          obtain ⟨ks2, hk2, hks⟩ := hks
          split at hks
          · rename_i hg
            cases hks
            have hfo : P.fieldsOf t = fs := by simp [Program.fieldsOf, hu]
            have hrun := eqFields_plain (w := w) 9998 A C' fs.toList 0 _ c hk2 (by simpa using hcc)
            have heq : (Op.equal t (.agg A) (.agg C')).run P w = .ok c w := by
              have := run_equalIn_struct (P := P) w 9999 t A C' (by rw [hfo]; exact hu) hg.1
              rw [hfo] at this
              exact this.trans hrun
            refine .ofV (.pure hr (v' := .bool (if neg then !c else c)) ?_ (.bool _))
            rw [hop', ex, ey]
            cases neg with
            | true => simp [eqGuard, hg.2, binOp, heq]
            | false => simp [eqGuard, hg.2, binOp, heq]
          · cases hks
        · cases hks
    split at hc
    · obtain ⟨ks, hks, rfl⟩ := Option.map_eq_some_iff.1 hc
      exact main false ks rfl hks rfl
    · obtain ⟨ks, hks, rfl⟩ := Option.map_eq_some_iff.1 hc
      exact main true ks rfl hks rfl
    · cases hc
  · rename_i c hop
    simp only [hop]
    simp only [Option.bind_eq_some_iff] at hc
    obtain ⟨xs, hxs, hc⟩ := hc
    split at hc
    · rename_i A C' hb
      split at hc
      · rename_i el hu hu'
        simp only [Option.bind_eq_some_iff, Option.map_eq_some_iff] at hc hu hu'
        obtain ⟨i, hi, z, hz, rfl⟩ := hc
        obtain ⟨t, h0, hu⟩ := hu
        obtain ⟨u, h1, hu'⟩ := hu'
        have hargs : VRs ρ ([A, C'].map (oev e)) (c.args.toList.map a.eval) := opnds_sound hxs (by simpa [tOp] using ht) he hr
        simp only [aop, List.map_cons, List.map_nil] at h
        unfold xop at h
        split at h <;> first | (rename_i h1 _; cases h1; done) | (rename_i h1; cases h1; done) | (cases h; done) | skip
        · rename_i T sz bytes x s h1' h2
          cases h1'
          simp only [List.cons.injEq, and_true] at h2
          split at h
          · rename_i hsz
            cases hq : c.args.toList.map a.eval with
            | nil => rw [hq] at hargs; cases hargs
            | cons X l =>
              rw [hq] at hargs
              simp only [List.map_cons, List.map_nil] at hargs
              cases hargs with
              | cons g1 g2 =>
                cases g2 with
                | cons g2 g3 =>
                  cases g3
                  rename_i Y
                  have hX := arr_of_list hq
                  rw [h2.1] at g1; rw [h2.2] at g2
                  have hd := s_apps (ts := c.argTypes) (ty := o.type) hr h0 h1 hu hu' hi hz g1 g2 hsz h
                  have := Does.ofV hd
                  unfold resolve
                  rw [hb]
                  simpa [hX, invoke, builtin] using this
          · cases h
      · cases hc
    · -- functions of the machine's own
      rename_i F hb
      have go : ∀ (k : FuncId) (fn : Func) (ext : Array Value → Sem Value), F = .func k → P.funcs[k]? = some fn → (fn.name == "runtime.NumGoroutine") = false → fn.body.isNone = true → Extern.findNext fn = none → Extern.find fn = some ext →
          ∀ (args : Array Value) (v' : Value), c.args.map a.eval = args → (ext args).run P w = .ok v' w → H' = H → VR ρ v v' → Does P G B m ρ H w (do let d ← resolve a.eval c o.type; invoke d.target d.args) v H' := by
        intro k fn ext hF hfn hname hbody hnx hfd args v' hargs hrun hH hv
        subst hH
        refine ⟨v', w, ρ, .inl ?_, hv, .refl hr⟩
        have hev : a.eval F = .func (.func k) #[] #[] := by rw [hF]; rfl
        have : (do let d ← resolve a.eval c o.type; invoke d.target d.args : Sem Next) = callFunc k args := by
          simp only [resolve, hb, hev, Deferred.ofValue, pure_bind, invoke]
          rw [hargs]; simp
        rw [this, run_callFunc_extern hfn hname hbody hnx hfd, hrun]; rfl
      split at hc
      · rename_i A hext
        cases hc
        unfold extOf at hext
        split at hext
        · rename_i k
          split at hext
          · rename_i fn hfn
            split at hext
            · cases hext
            · rename_i hbody
              split at hext
              · rename_i hnm
                cases hcl : c.args.toList with
                | nil => rw [hcl] at hxs; cases hxs
                | cons X l =>
                  have hxs' := hxs
                  rw [hcl] at hxs'
                  have vxs : VRs ρ ([A].map (oev e)) (c.args.toList.map a.eval) := opnds_sound hxs (by simpa [tOp] using ht) he hr
                  cases hq : c.args.toList.map a.eval with
                  | nil => rw [hq] at vxs; cases vxs
                  | cons X' l' =>
                    rw [hq] at vxs
                    simp only [List.map_cons, List.map_nil] at vxs
                    cases vxs with
                    | cons g1 g2 =>
                      cases g2
                      have hX := arr_of_list hq
                      simp only [Bool.and_eq_true, beq_iff_eq, Option.isNone_iff_eq_none] at hnm
                      cases h
                      refine go k fn _ rfl hfn (by simp [hnm.1]) (by simpa using hbody) ?_ (find_noesc hnm.1) _ _ hX rfl rfl g1
                      exact findNext_none hnm.1 (by kernel_rfl) hnm.2
              · split at hext <;> cases hext
          · cases hext
        · cases hext
      · rename_i A C' hext
        cases hc
        unfold extOf at hext
        split at hext
        · rename_i k
          split at hext
          · rename_i fn hfn
            split at hext
            · cases hext
            · rename_i hbody
              split at hext
              · cases hext
              · split at hext
                · rename_i hnm
                  have vxs : VRs ρ ([A, C'].map (oev e)) (c.args.toList.map a.eval) := opnds_sound hxs (by simpa [tOp] using ht) he hr
                  simp only [aop, List.map_cons, List.map_nil] at h
                  unfold xop at h
                  split at h <;> first | (rename_i h1 _; cases h1; done) | (rename_i h1; cases h1; done) | (cases h; done) | skip
                  rename_i s cc h1 h2
                  simp only [List.cons.injEq, and_true] at h2
                  cases hq : c.args.toList.map a.eval with
                  | nil => rw [hq] at vxs; cases vxs
                  | cons X' l' =>
                    rw [hq] at vxs
                    simp only [List.map_cons, List.map_nil] at vxs
                    cases vxs with
                    | cons g1 g2 =>
                      cases g2 with
                      | cons g2 g3 =>
                        cases g3
                        have hX := arr_of_list hq
                        rw [h2.1] at g1; rw [h2.2] at g2
                        cases g1; cases g2
                        simp only [Bool.and_eq_true, beq_iff_eq, Option.isNone_iff_eq_none] at hnm
                        cases h
                        refine go k fn _ rfl hfn (by simp [hnm.1]) (by simpa using hbody) ?_ (find_idxb hnm.1) _ _ hX (run_indexByte_string s cc w) rfl (.int _ _)
                        exact findNext_none hnm.1 (by kernel_rfl) hnm.2
                · cases hext
          · cases hext
        · cases hext
      · cases hc
    · -- unsafe.SliceData
      rename_i A hb
      cases hc
      have vxs : VRs ρ ([A].map (oev e)) (c.args.toList.map a.eval) := opnds_sound hxs (by simpa [tOp] using ht) he hr
      cases hq : c.args.toList.map a.eval with
      | nil => rw [hq] at vxs; cases vxs
      | cons X' l' =>
        rw [hq] at vxs
        simp only [List.map_cons, List.map_nil] at vxs
        cases vxs with
        | cons g1 g2 =>
          cases g2
          have hX := arr_of_list hq
          have := Does.ofV (s_sdata (P := P) (ts := c.argTypes) (ty := o.type) hr g1 h)
          unfold resolve
          rw [hb]
          simpa [hX, invoke, builtin] using this
    · -- unsafe.String
      rename_i A C' hb
      split at hc
      · rename_i u hu hsz
        split at hc
        · rename_i hcu
          cases hc
          obtain ⟨pt, h0, hp⟩ := Option.bind_eq_some_iff.1 hu
          have vxs : VRs ρ ([A, C'].map (oev e)) (c.args.toList.map a.eval) := opnds_sound hxs (by simpa [tOp] using ht) he hr
          cases hq : c.args.toList.map a.eval with
          | nil => rw [hq] at vxs; cases vxs
          | cons X' l' =>
            rw [hq] at vxs
            simp only [List.map_cons, List.map_nil] at vxs
            cases vxs with
            | cons g1 g2 =>
              cases g2 with
              | cons g2 g3 =>
                cases g3
                have hX := arr_of_list hq
                have := Does.ofV (s_ustr (ty := o.type) hr h0 hsz hp hcu.1 hcu.2 g1 g2 h)
                unfold resolve
                rw [hb]
                simpa [hX, invoke, builtin] using this
        · cases hc
      · cases hc
    · cases hc
  · rename_i s d X hop
    simp only [hop]
    simp only [Option.bind_eq_some_iff] at hc
    obtain ⟨x, hx, hc⟩ := hc
    split at hc
    · rename_i t hs hd
      obtain ⟨n, hn, hc⟩ := Option.bind_eq_some_iff.1 hc
      split at hc
      · cases hc
      · rename_i h0
        cases hc
        exact .ofV (s_up hr hs hd hn h0 (opnd_sound hx (fun t h => ht t (by simp [tOp, h])) he hr) h)
    · rename_i u hs hd
      obtain ⟨n, hn, hc⟩ := Option.bind_eq_some_iff.1 hc
      split at hc
      · cases hc
      · rename_i h0
        cases hc
        exact .ofV (s_down hr hs hd hn (by simp only [not_or, Decidable.not_not] at h0; exact h0.2.2.1) (opnd_sound hx (fun t h => ht t (by simp [tOp, h])) he hr) h)
    · cases hc
  · cases hc

/-- Whatever is no call of a function. -/
theorem aop_sound {o : Oper} {ao : AOp} {v : Value} {H' : Heap} (hc : cOp P G o = some ao) (hncall : ∀ f xs, ao ≠ .call f xs) (ht : ∀ t ∈ tOp ao, S t) (he : EnvOn ρ S e a) (hr : Rel G B ρ H w)
    (h : aop e H m ao = some (v, H')) : Does P G B m ρ H w (execOp a.eval o) v H' := by
  unfold cOp at hc
  split at hc
  · rename_i b hb; cases hc; exact aop_sound0 hb hncall ht he hr h
  · split at hc
    · rename_i b hb; cases hc; exact x_sound hb ht he hr h
    · cases hc; simp [aop, xop] at h

end
end Ev
end Go.Proofs.Ytfbelnjchpffeaa
