/-
  A drawn region: whatever order is drawn, it does what 'adraw' and 'aops' answer.
-/
import Derived.Test.YtfbelnjchpffeaaEvN
namespace Go.Proofs.Ytfbelnjchpffeaa
namespace Ev
open Go.RowKit (Below)
section
variable {C : Cf} {B N : Nat} {m : Mode} {ρ : Emb} {H : Heap} {w : World} {e : Env} {a : Act} {call : CallF}

theorem Al.get {P : Program} {G : Nat} {ops : Array Oper} {l : List Nat} {as : List AOper} (h : Al P G ops N l as) : ∀ (k i : Nat), l[k]? = some i →
    ∃ o ao, ops[i]? = some o ∧ as[k]? = some ao ∧ cOper P G ops o = some ao ∧ wfOper N ao = true := by
  induction h with
  | nil => intro k i h; simp at h
  | @cons i o ao l as ho hc hw t ih =>
    intro k i' h
    cases k with
    | zero => simp at h; subst h; exact ⟨o, ao, ho, by simp, hc, hw⟩
    | succ k => simpa using ih k i' (by simpa using h)

theorem Al.length {P : Program} {G : Nat} {ops : Array Oper} {l : List Nat} {as : List AOper} (h : Al P G ops N l as) : l.length = as.length := by
  induction h with
  | nil => rfl
  | cons _ _ _ _ ih => simp [ih]

theorem al_map {P : Program} {G : Nat} {ops : Array Oper} {as : List AOper} : ∀ (l : List Nat), (∀ i ∈ l, ∃ o ao, ops[i]? = some o ∧ as[i]? = some ao ∧ cOper P G ops o = some ao ∧ wfOper N ao = true) → Al P G ops N l (l.map (pickA as))
  | [], _ => .nil
  | i :: l, h => by
    obtain ⟨o, ao, h1, h2, h3, h4⟩ := h i (by simp)
    have e : pickA as i = ao := by simp [pickA, h2]
    refine .cons h1 (by rw [e]; exact h3) (by rw [e]; exact h4) (al_map l fun i hi => h i (by simp [hi]))

structure DrawOk (al : FuncId → Bool) (ops : Array Oper) (as : List AOper) (ip : Nat → Bool) : Prop where
  d1 : ∀ (i : Nat) (o : Oper), ops[i]? = some o → ∀ e ∈ o.after.toList, Region.binds .any e = true → e.on < i
  pre : ∀ (i j : Nat) (o p : AOper), i < ops.size → j < ops.size → ip i = true → ip j = true → j ≠ i → as[i]? = some o → as[j]? = some p → ∀ d, p.dst = some d →
    o.dst ≠ some d ∧ (d ∈ tOper o → (j < i ∧ bitOf (Region.before ops) i j = true) ∨ (i < j ∧ bitOf (Region.before ops) j i = true))
  mix : ∀ (i j : Nat) (o p : AOper), i < ops.size → j < ops.size → ip i = false → ip j = true → as[i]? = some o → as[j]? = some p →
    bitOf (Region.before ops) i j = true ∨ (clash p o = false ∧ (light p.op = true ∨ soft al o.op = true))
  tail : ∀ (i j : Nat), i < ops.size → j < i → ip i = false → ip j = false → bitOf (Region.before ops) i j = true

theorem drawOk_spec {al : FuncId → Bool} {ops : Array Oper} {as : List AOper} {ip : Nat → Bool} (hl : as.length = ops.size) (h : drawOk al ops as ip = true) : DrawOk al ops as ip := by
  unfold drawOk at h
  simp only [Bool.and_eq_true] at h
  obtain ⟨h1, h2⟩ := h
  have key : ∀ (i j : Nat) (o p : AOper), i < ops.size → j < ops.size → as[i]? = some o → as[j]? = some p →
      (if ip i = true ∧ ip j = true then j == i || (match p.dst with
          | some d => !(o.dst == some d) && (!(tOper o).contains d || (decide (j < i) && bitOf (Region.before ops) i j) || (decide (i < j) && bitOf (Region.before ops) j i))
          | none => true)
        else if ip j = true then bitOf (Region.before ops) i j || (!clash p o && (light p.op || soft al o.op))
        else if ip i = true then true
        else decide (i ≤ j) || bitOf (Region.before ops) i j) = true := by
    intro i j o p hi hj ho hp
    have := List.all_eq_true.1 h2 i (by simpa using hi)
    rw [ho] at this
    have := List.all_eq_true.1 this j (by simpa using hj)
    rw [hp] at this
    exact this
  refine ⟨fun i o ho e he hb => ?_, fun i j o p hi hj hpi hpj hji ho hp d hd => ?_, fun i j o p hi hj hpi hpj ho hp => ?_, fun i j hi hj hpi hpj => ?_⟩
  · have hi := (Array.getElem?_eq_some_iff.1 ho).1
    have := List.all_eq_true.1 h1 i (by simpa using hi)
    rw [ho] at this
    simp only [Array.all_eq_true'] at this
    have := this e (by simpa using he)
    simpa [hb] using this
  · have := key i j o p hi hj ho hp
    simp only [hpi, hpj, and_self, if_true, hd, Bool.or_eq_true, Bool.and_eq_true, Bool.not_eq_true', beq_iff_eq] at this
    rcases this with h | ⟨h4, h5⟩
    · exact absurd h hji
    · refine ⟨by simpa using h4, fun hm => ?_⟩
      rcases h5 with (h5 | h5) | h5
      · rw [List.contains_iff_mem.2 hm] at h5; cases h5
      · exact .inl (by simpa using h5)
      · exact .inr (by simpa using h5)
  · have := key i j o p hi hj ho hp
    simp only [hpi, hpj, Bool.false_eq_true, false_and, if_false, if_true, Bool.or_eq_true, Bool.and_eq_true, Bool.not_eq_true'] at this
    exact this
  · obtain ⟨o, ho⟩ : ∃ o, as[i]? = some o := ⟨_, List.getElem?_eq_getElem (by omega)⟩
    obtain ⟨p, hp⟩ : ∃ p, as[j]? = some p := ⟨_, List.getElem?_eq_getElem (by omega)⟩
    have := key i j o p hi (by omega) ho hp
    simp only [hpi, hpj, Bool.false_eq_true, false_and, if_false, Bool.or_eq_true, decide_eq_true_eq] at this
    rcases this with h | h
    · omega
    · exact h

theorem clash_spec {o p : AOper} (h : clash o p = false) : (∀ d, o.dst = some d → d ∉ tOper p ∧ p.dst ≠ some d) ∧ (∀ d, p.dst = some d → d ∉ tOper o ∧ o.dst ≠ some d) := by
  unfold clash at h
  simp only [Bool.or_eq_false_iff] at h
  obtain ⟨h1, h2⟩ := h
  refine ⟨fun d hd => ?_, fun d hd => ?_⟩
  · rw [hd] at h1
    simp only [Bool.or_eq_false_iff] at h1
    refine ⟨fun hm => ?_, fun hp => ?_⟩
    · rw [List.contains_iff_mem.2 hm] at h1; cases h1.1
    · rw [hp] at h1; simp at h1
  · rw [hd] at h2
    refine ⟨fun hm => ?_, fun hp => ?_⟩
    · simp only at h2; rw [List.contains_iff_mem.2 hm] at h2; cases h2
    · rw [hp] at h1
      simp [hd] at h1

theorem countP_lt {p q : Nat → Bool} {i : Nat} (hp : p i = true) (hq : q i = false) (hpq : ∀ j, q j = true → p j = true) : ∀ (l : List Nat), i ∈ l → l.countP q < l.countP p
  | [], h => by simp at h
  | x :: l, h => by
    have hle : l.countP q ≤ l.countP p := List.countP_mono_left fun j _ h => hpq j h
    simp only [List.countP_cons]
    by_cases hx : x = i
    · subst hx
      simp [hp, hq]; omega
    · have := countP_lt hp hq hpq l (by simpa [Ne.symm hx] using h)
      by_cases hqx : q x = true
      · simp [hqx, hpq x hqx]; omega
      · simp [hqx]; split <;> omega

def unl (n : Nat) (listed : Array Bool) : Nat := (List.range n).countP fun i => !listed.getD i false

theorem first_unlisted (f : Nat → Bool) : ∀ (t : Nat), (∀ j, j < t → f j = true) ∨ ∃ j, j < t ∧ f j = false ∧ ∀ k, k < j → f k = true
  | 0 => .inl fun j h => by omega
  | t + 1 => by
    rcases first_unlisted f t with h | ⟨j, h1, h2, h3⟩
    · cases hf : f t with
      | true =>
        refine .inl fun j hj => ?_
        rcases Nat.lt_or_ge j t with h' | h'
        · exact h j h'
        · obtain rfl : j = t := by omega
          exact hf
      | false => exact .inr ⟨t, by omega, hf, h⟩
    · exact .inr ⟨j, by omega, h2, h3⟩

theorem tmps_put {a : Act} {dst : Option Nat} {v : Value} {d : Nat} (hd : d < a.tmps.size) :
    (a.put dst v).tmps.getD d undef = if dst = some d then v else a.tmps.getD d undef := by
  cases dst with
  | none => simp [Act.put]
  | some x =>
    simp only [Act.put, Option.some.injEq]
    by_cases h : x = d
    · subst h; simp [hd, Array.getD_eq_getD_getElem?]
    · rw [if_neg h]; simp [Array.getD_eq_getD_getElem?, Array.getElem?_setIfInBounds_ne h]

theorem env_put {e : Env} {dst : Option Nat} {v : Value} {d : Nat} : (e.put dst v) d = if dst = some d then v else e d := by
  cases dst with
  | none => simp [Env.put]
  | some x =>
    simp only [Env.put, Env.set, Option.some.injEq]
    by_cases h : d = x
    · rw [if_pos h, if_pos h.symm]
    · rw [if_neg h, if_neg (fun h' => h h'.symm)]

/-! ## What looks at no heap, and what turns nothing -/
theorem light_call {op : AOp} (h : light op = true) : ∀ f xs, op ≠ .call f xs := by
  rintro f xs rfl; cases h

theorem light_any {op : AOp} (hl : light op = true) {m m' : Mode} {H H' : Heap} {H1 : Heap} {v : Value} (h : aop e H m op = some (v, H1)) : H1 = H ∧ aop e H' m' op = some (v, H') := by
  cases op <;> first | (cases hl; done) | skip
  all_goals dsimp only [aop] at h ⊢
  case mv => cases h; exact ⟨rfl, rfl⟩
  case mkf => cases h; exact ⟨rfl, rfl⟩
  case mki => cases h; exact ⟨rfl, rfl⟩
  case build zs ps =>
    obtain ⟨cs, hcs, h⟩ := Option.map_eq_some_iff.1 h
    cases h; rw [hcs]; exact ⟨rfl, rfl⟩
  case bin op x y =>
    obtain ⟨cs, hcs, h⟩ := Option.map_eq_some_iff.1 h
    cases h; rw [hcs]; exact ⟨rfl, rfl⟩
  case x k xs =>
    cases k <;> first | (cases hl; done) | skip
    case eqs =>
      generalize xs.map (oev e) = ys at h ⊢
      unfold xop at h ⊢
      split at h <;> first | (rename_i h1 _; cases h1; done) | (rename_i h1; cases h1; done) | (cases h; done) | skip
      · rename_i h1 h2
        cases h1
        obtain ⟨cs, hcs, h⟩ := Option.map_eq_some_iff.1 h
        cases h; simp only [hcs, Option.map_some]; exact ⟨trivial, trivial⟩
    case sdata =>
      generalize xs.map (oev e) = ys at h ⊢
      unfold xop at h ⊢
      split at h <;> first | (rename_i h1 _; cases h1; done) | (rename_i h1; cases h1; done) | (cases h; done) | skip
      all_goals
        split at h <;> first | (cases h; done) | (rename_i hk; cases h; refine ⟨rfl, ?_⟩; simp only [if_pos hk])
    case idxb =>
      generalize xs.map (oev e) = ys at h ⊢
      unfold xop at h ⊢
      split at h <;> first | (rename_i h1 _; cases h1; done) | (rename_i h1; cases h1; done) | (cases h; done) | (cases h; exact ⟨rfl, rfl⟩)
  case un op x =>
    obtain ⟨cs, hcs, h⟩ := Option.map_eq_some_iff.1 h
    cases h; rw [hcs]; exact ⟨rfl, rfl⟩
  case mm op x y =>
    obtain ⟨cs, hcs, h⟩ := Option.map_eq_some_iff.1 h
    cases h; rw [hcs]; exact ⟨rfl, rfl⟩
  case cut x lo hi =>
    split at h
    · obtain ⟨a1, h1, h⟩ := Option.bind_eq_some_iff.1 h
      obtain ⟨a2, h2, h⟩ := Option.map_eq_some_iff.1 h
      cases h
      simp [h1, h2]
    · cases h
  case fld off n x =>
    split at h
    · split at h
      · obtain ⟨a2, h2, h⟩ := Option.map_eq_some_iff.1 h
        cases h; rw [h2]; exact ⟨rfl, rfl⟩
      · cases h; exact ⟨rfl, rfl⟩
    · cases h
  case ixs x i =>
    split at h
    · split at h
      · rename_i hk
        obtain ⟨a2, h2, h⟩ := Option.map_eq_some_iff.1 h
        cases h; rw [if_pos hk, h2]; exact ⟨rfl, rfl⟩
      · cases h
    · cases h
  case ixa n sz mm x i =>
    split at h
    · split at h
      · rename_i hk
        split at h
        · obtain ⟨a2, h2, h⟩ := Option.map_eq_some_iff.1 h
          cases h; rw [if_pos hk, h2]; exact ⟨rfl, rfl⟩
        · cases h; rw [if_pos hk]; exact ⟨rfl, rfl⟩
      · cases h
    · cases h
  case ext n x =>
    split at h
    · obtain ⟨a2, h2, h⟩ := Option.map_eq_some_iff.1 h
      cases h; rw [h2]; exact ⟨rfl, rfl⟩
    · cases h
  case ia sz x i =>
    split at h
    · split at h
      · rename_i hk; cases h; rw [if_pos hk]; exact ⟨rfl, rfl⟩
      · cases h
    · cases h
  case iaa n sz x i =>
    split at h
    · split at h
      · rename_i hk; cases h; rw [if_pos hk]; exact ⟨rfl, rfl⟩
      · cases h
    · cases h
  case nileq k neg x y =>
    split at h
    · split at h
      · rename_i hk; cases h; rw [if_pos hk]; exact ⟨rfl, rfl⟩
      · rename_i hk
        obtain ⟨c, hc, hv⟩ := Option.map_eq_some_iff.1 h
        cases hv; rw [if_neg hk, hc]; exact ⟨rfl, rfl⟩
    · cases h
  all_goals
    split at h <;> first | (cases h; done) | (cases h; exact ⟨rfl, rfl⟩)

theorem astep_aop {op : AOp} (hn : ∀ f xs, op ≠ .call f xs) : astep C call m e H op = aop e H m op := by
  cases op <;> first | rfl | exact absurd rfl (hn _ _)

theorem soft_any (hC : C.Ok) {op : AOp} (hs : soft C.al op = true) {H1 : Heap} {v : Value} (h : astep C call m e H op = some (v, H1)) :
    astep C call ⟨H.length, H.length⟩ e H op = some (v, H1) ∧ ∃ X : Heap, H1 = H ++ X ∧ X.all ownOr = true := by
  have self : ∃ X : Heap, H = H ++ X ∧ X.all ownOr = true := ⟨[], by simp, rfl⟩
  cases op with
  | call f xs =>
    simp only [soft] at hs
    split at hs
    · rename_i k fa fb
      simp only [astep, oev, acallop] at h ⊢
      rcases hC.alok k hs with ⟨g, hg⟩ | ⟨hX, hp | hp⟩
      · rw [hg] at h ⊢
        simp only at h ⊢
        obtain ⟨a2, h2, h⟩ := Option.map_eq_some_iff.1 h
        cases h; rw [h2]; exact ⟨rfl, self⟩
      · rw [hX, hp] at h ⊢
        simp only at h ⊢
        obtain ⟨⟨v1, H2⟩, h1, h⟩ := Option.bind_eq_some_iff.1 h
        rw [h1]
        simp only [Option.bind_some] at h ⊢
        split at h
        · rename_i ho
          cases h; rw [if_pos ho]; exact ⟨rfl, _, rfl, ho⟩
        · cases h
      · rw [hX, hp] at h ⊢
        simp only at h ⊢
        obtain ⟨⟨v1, H2⟩, h1, h⟩ := Option.bind_eq_some_iff.1 h
        rw [h1]
        simp only [Option.bind_some] at h ⊢
        split at h
        · rename_i ho
          cases h; rw [if_pos ho]; exact ⟨rfl, self⟩
        · cases h
    · cases hs
  | st n x y => cases hs
  | app T n b x y => cases hs
  | x k xs =>
    rw [astep_aop (fun f xs h => by cases h)] at h ⊢
    have hq := light_any (m' := ⟨H.length, H.length⟩) (H' := H) (by exact hs) h
    rw [hq.1]
    exact ⟨hq.2, self⟩
  | new T zs => simp only [astep, aop] at h ⊢; cases h; exact ⟨rfl, _, rfl, rfl⟩
  | box T x =>
    simp only [astep, aop] at h ⊢
    split at h
    · rename_i hk; cases h; rw [if_pos hk]; exact ⟨rfl, _, rfl, rfl⟩
    · cases h
  | lit T zs n sz ps =>
    simp only [astep, aop] at h ⊢
    obtain ⟨a2, h2, h⟩ := Option.map_eq_some_iff.1 h
    cases h; rw [h2]; exact ⟨rfl, _, rfl, rfl⟩
  | s2b T x =>
    simp only [astep, aop] at h ⊢
    split at h
    · cases h; exact ⟨rfl, _, rfl, rfl⟩
    · cases h
  | mks T zs bytes l c =>
    simp only [astep, aop] at h ⊢
    split at h
    · split at h
      · rename_i hk; cases h; rw [if_pos hk]; exact ⟨rfl, _, rfl, rfl⟩
      · cases h
    · cases h
  | ld x =>
    simp only [astep, aop] at h ⊢
    obtain ⟨a2, h2, h⟩ := Option.map_eq_some_iff.1 h
    cases h; rw [h2]; exact ⟨rfl, self⟩
  | ldn n x =>
    simp only [astep, aop] at h ⊢
    obtain ⟨a2, h2, h⟩ := Option.map_eq_some_iff.1 h
    cases h; rw [h2]; exact ⟨rfl, self⟩
  | b2s x =>
    simp only [astep, aop] at h ⊢
    obtain ⟨a1, h1, h⟩ := Option.bind_eq_some_iff.1 h
    obtain ⟨a2, h2, h⟩ := Option.map_eq_some_iff.1 h
    cases h; rw [h1]; simp only [Option.bind_some]; rw [h2]; exact ⟨rfl, self⟩
  | sub sz x lo hi mx =>
    refine ⟨h, ?_⟩
    simp only [astep, aop] at h
    split at h
    · split at h
      · obtain ⟨a1, h1, h⟩ := Option.bind_eq_some_iff.1 h
        obtain ⟨a2, h2, h⟩ := Option.bind_eq_some_iff.1 h
        obtain ⟨a3, h3, h⟩ := Option.map_eq_some_iff.1 h
        cases h; exact self
      · cases h
    · split at h
      · obtain ⟨a1, h1, h⟩ := Option.bind_eq_some_iff.1 h
        obtain ⟨a2, h2, h⟩ := Option.bind_eq_some_iff.1 h
        obtain ⟨a3, h3, h⟩ := Option.map_eq_some_iff.1 h
        cases h; exact self
      · cases h
    · cases h
  | suba k sz x lo hi mx =>
    refine ⟨h, ?_⟩
    simp only [astep, aop] at h
    split at h
    · obtain ⟨a0, h0, h⟩ := Option.bind_eq_some_iff.1 h
      split at h
      · obtain ⟨a1, h1, h⟩ := Option.bind_eq_some_iff.1 h
        obtain ⟨a2, h2, h⟩ := Option.bind_eq_some_iff.1 h
        obtain ⟨a3, h3, h⟩ := Option.map_eq_some_iff.1 h
        cases h; exact self
      · cases h
    · cases h
  | len k x =>
    refine ⟨h, ?_⟩
    simp only [astep, aop] at h
    repeat' split at h
    all_goals first | (cases h; done) | (cases h; exact self)
  | _ =>
    rw [astep_aop (fun f xs h => by cases h)] at h ⊢
    have hq := light_any (m' := ⟨H.length, H.length⟩) (H' := H) (by rfl) h
    rw [hq.1]
    exact ⟨hq.2, self⟩


/-! ## The region -/
theorem range_filter_get {n : Nat} {f : Nat → Bool} {pos pos' i j : Nat} (hi : ((List.range n).filter f)[pos]? = some i) (hj : ((List.range n).filter f)[pos']? = some j) : pos < pos' ↔ i < j := by
  have hp : ((List.range n).filter f).Pairwise (· < ·) := List.pairwise_lt_range.filter _
  obtain ⟨h1, rfl⟩ := List.getElem?_eq_some_iff.1 hi
  obtain ⟨h2, rfl⟩ := List.getElem?_eq_some_iff.1 hj
  rw [List.pairwise_iff_getElem] at hp
  constructor
  · intro h; exact hp _ _ h1 h2 h
  · intro h
    rcases Nat.lt_trichotomy pos pos' with h' | h' | h'
    · exact h'
    · subst h'; omega
    · have := hp _ _ h2 h1 h'; omega

theorem draw_any (hC : C.Ok) (hcall : CallOK C B call) {ops : Array Oper} {as : List AOper} {ip : Nat → Bool} (hal : Al C.P C.G ops N (List.range' 0 ops.size) as) (hok : DrawOk C.al ops as ip)
    {e eF e' : Env} {H' : Heap} {a0 : Act} {w0 : World} (hr0 : Rel C.G B ρ H w0) (hfb : m.fb ≤ H.length) (h1 : adraw C call (((List.range ops.size).filter ip).map (pickA as)) e H = some eF)
    {Q : Exit → Act → World → Prop} (hQ : ∀ a' w' ρ', EnvR ρ' N e' a' → a'.defers = a0.defers → Stp C.G B m ρ H w0 ρ' H' w' → Q .normal a' w') :
    ∀ (fuel : Nat) (listed : Array Bool) (W : Nat → Prop) (rt : List Nat) (E : Env) (Hk : Heap) (ρk : Emb) (a : Act) (w : World), unl ops.size listed ≤ fuel → listed.size = ops.size →
      rt.Pairwise (· < ·) → (∀ i ∈ rt, i < ops.size ∧ ip i = false) → (∀ i, i < ops.size → ip i = false → (listed.getD i false = false ↔ i ∈ rt)) → Closed ops listed →
      a.tmps.size = N → a.defers = a0.defers → Stp C.G B m ρ H w0 ρk Hk w →
      (Stp C.G B m ρ H w0 ρ H w ∨ ∀ j p, j < ops.size → ip j = true → as[j]? = some p → light p.op = false → listed.getD j false = true) →
      aops C call m (rt.map (pickA as)) E Hk = some (e', H') →
      (∀ d, W d → ∃ i p, i < ops.size ∧ ip i = false ∧ listed.getD i false = true ∧ as[i]? = some p ∧ p.dst = some d) →
      (∀ d, ¬ W d → E d = eF d) →
      (∀ d, d < N → ¬ W d → VR ρ (E d) (a.tmps.getD d undef) ∨ (∃ j p, j < ops.size ∧ ip j = true ∧ listed.getD j false = false ∧ as[j]? = some p ∧ p.dst = some d)) →
      (∀ d, d < N → ¬ W d → (∃ j p, j < ops.size ∧ ip j = true ∧ listed.getD j false = false ∧ as[j]? = some p ∧ p.dst = some d) → VR ρ (e d) (a.tmps.getD d undef)) →
      (∀ d, d < N → W d → VR ρk (E d) (a.tmps.getD d undef)) →
      wpAny C.P .any ops Q fuel listed a w := by
  have hlen : as.length = ops.size := by simpa using hal.length.symm
  have hget : ∀ i, i < ops.size → ∃ o ao, ops[i]? = some o ∧ as[i]? = some ao ∧ cOper C.P C.G ops o = some ao ∧ wfOper N ao = true := fun i hi => hal.get i i (by simp [hi])
  have hpl : ∀ {pos : Nat} {p : AOper}, (((List.range ops.size).filter ip).map (pickA as))[pos]? = some p → ∃ i, ((List.range ops.size).filter ip)[pos]? = some i ∧ i < ops.size ∧ ip i = true ∧ as[i]? = some p := by
    intro pos p h
    rw [List.getElem?_map] at h
    obtain ⟨i, hi, rfl⟩ := Option.map_eq_some_iff.1 h
    have hm := List.mem_of_getElem? hi
    simp only [List.mem_filter, List.mem_range] at hm
    obtain ⟨o, ao, _, hao, _⟩ := hget i hm.1
    exact ⟨i, hi, hm.1, hm.2, by simp [pickA, hao]⟩
  have hfin : ∀ (listed : Array Bool) (W : Nat → Prop) (rt : List Nat) (E : Env) (Hk : Heap) (ρk : Emb) (a : Act) (w : World), (∀ j, j < ops.size → listed.getD j false = true) → (∀ i ∈ rt, i < ops.size ∧ ip i = false) →
      (∀ i, i < ops.size → ip i = false → (listed.getD i false = false ↔ i ∈ rt)) → a.tmps.size = N → a.defers = a0.defers → Stp C.G B m ρ H w0 ρk Hk w → aops C call m (rt.map (pickA as)) E Hk = some (e', H') →
      (∀ d, d < N → ¬ W d → VR ρ (E d) (a.tmps.getD d undef) ∨ (∃ j p, j < ops.size ∧ ip j = true ∧ listed.getD j false = false ∧ as[j]? = some p ∧ p.dst = some d)) → (∀ d, d < N → W d → VR ρk (E d) (a.tmps.getD d undef)) → Q .normal a w := by
    intro listed W rt E Hk ρk a w hall hrt hT hN hdf hst h2 v1 v3
    have hnil : rt = [] := by
      cases rt with
      | nil => rfl
      | cons i rt =>
        have h' := hrt i (by simp)
        have := (hT i h'.1 h'.2).2 (by simp)
        rw [hall i h'.1] at this; cases this
    subst hnil
    cases h2
    refine hQ a w ρk ⟨hN, fun d hd => ?_⟩ hdf hst
    by_cases hw : W d
    · exact v3 d hd hw
    · rcases v1 d hd hw with h | ⟨j, p, hj, _, hl, _⟩
      · exact h.mono hst.le
      · rw [hall j hj] at hl; cases hl
  intro fuel
  induction fuel with
  | zero =>
    intro listed W rt E Hk ρk a w hu hs hsr hrt hT hcl hN hdf hst hfr h2 hW hE v1 v2 v3
    have hall : ∀ j, j < ops.size → listed.getD j false = true := by
      intro j hj
      cases hq : listed.getD j false with
      | true => rfl
      | false =>
        have : 0 < unl ops.size listed := by
          unfold unl
          rw [List.countP_pos_iff]
          exact ⟨j, by simpa using hj, by rw [hq]; rfl⟩
        omega
    refine ⟨?_, hfin listed W rt E Hk ρk a w hall hrt hT hN hdf hst h2 v1 v3⟩
    rw [List.eq_nil_iff_forall_not_mem]
    intro i hi
    obtain ⟨q1, q2, _⟩ := ready_spec.1 hi
    rw [getD_listed (by omega), hall i q1] at q2; cases q2
  | succ fuel ih =>
    intro listed W rt E Hk ρk a w hu hs hsr hrt hT hcl hN hdf hst hfr h2 hW hE v1 v2 v3
    refine ⟨fun h0 => ?_, fun i hi => ?_⟩
    · rcases first_unlisted (fun j => listed.getD j false) ops.size with hall | ⟨j0, hj0, hf, hbel⟩
      · exact hfin listed W rt E Hk ρk a w hall hrt hT hN hdf hst h2 v1 v3
      · exfalso
        have : j0 ∈ Region.ready .any ops listed := ready_spec.2 ⟨hj0, by rw [getD_listed (by omega)]; exact hf, ops[j0], by simp [hj0], fun e he hb => hbel _ (hok.d1 j0 _ (by simp [hj0]) e he hb)⟩
        rw [h0] at this; cases this
    · obtain ⟨hin, hli, o, ho, hedges⟩ := ready_spec.1 hi
      rw [getD_listed (by omega)] at hli
      have hbits := bit_listed hcl i o ho hedges
      have hbk : ∀ {j : Nat}, j < ops.size → listed.getD j false = true → bitOf (Region.before ops) j i = true → False := by
        intro j hj hlj hb
        have := bit_listed hcl j ops[j] (by simp [hj]) (fun e he hb => hcl j _ (by simp [hj]) hlj e he hb) i hb
        rw [hli] at this; cases this
      obtain ⟨o', ao, ho', hao, hc, hw⟩ := hget i hin
      rw [ho] at ho'; cases ho'
      obtain ⟨hts, hds, htg⟩ := wf_spec hw
      have hil : i < listed.size := by omega
      have hunl : unl ops.size (listed.setIfInBounds i true) ≤ fuel := by
        have : unl ops.size (listed.setIfInBounds i true) < unl ops.size listed := by
          refine countP_lt (i := i) (by rw [hli]; rfl) (by rw [getD_set hil]; simp) (fun j hj => ?_) _ (by simpa using hin)
          rw [getD_set hil] at hj
          split at hj
          · simp at hj
          · exact hj
        omega
      have hcl' : Closed ops (listed.setIfInBounds i true) := by
        intro j oj hoj hj e he hb
        rw [getD_set hil] at hj ⊢
        split
        · rfl
        · split at hj
          · rename_i h; subst h
            rw [ho] at hoj; cases hoj
            exact hedges e he hb
          · exact hcl j oj hoj hj e he hb
      have hkeep : ∀ j, listed.getD j false = true → (listed.setIfInBounds i true).getD j false = true := by
        intro j hj; rw [getD_set hil]; split
        · rfl
        · exact hj
      unfold wpOp
      rw [ho]
      cases hpi : ip i with
      | true =>
        -- one of the first kind
        obtain ⟨pos, hpos⟩ := List.mem_iff_getElem?.1 (show i ∈ (List.range ops.size).filter ip by simp [hin, hpi])
        obtain ⟨ei, v, hv, f1, f2, f3⟩ := adraw_at (((List.range ops.size).filter ip).map (pickA as)) pos ao (by rw [List.getElem?_map, hpos]; simp [pickA, hao]) h1
        have g1 : ∀ d, (∀ j p, j < i → j < ops.size → ip j = true → as[j]? = some p → p.dst ≠ some d) → ei d = e d := fun d hd => f1 d fun q p hq hp => by
          obtain ⟨j, hj, hjn, hjp, hja⟩ := hpl hp
          exact hd j p ((range_filter_get hj hpos).1 hq) hjn hjp hja
        have g2 : ∀ d, (∀ j p, i ≤ j → j < ops.size → ip j = true → as[j]? = some p → p.dst ≠ some d) → ei d = eF d := fun d hd => f2 d fun q p hq hp => by
          obtain ⟨j, hj, hjn, hjp, hja⟩ := hpl hp
          refine hd j p ?_ hjn hjp hja
          rcases Nat.lt_or_ge j i with h | h
          · have := (range_filter_get hj hpos).2 h; omega
          · exact h
        have g3 : ∀ d, ao.dst = some d → eF d = v := fun d hd => f3 d hd fun q p hq hp => by
          obtain ⟨j, hj, hjn, hjp, hja⟩ := hpl hp
          have := (range_filter_get hpos hj).1 hq
          exact (hok.pre j i p ao hjn hin hjp hpi (by omega) hja hao d hd).1
        have noW : ∀ d, d ∈ tOper ao ∨ ao.dst = some d → ¬ W d := by
          intro d hd hWd
          obtain ⟨t, p, ht, hpt, hlt, hta, htd⟩ := hW d hWd
          rcases hok.mix t i p ao ht hin hpt hpi hta hao with hb | ⟨hcl, _⟩
          · exact hbk ht hlt hb
          · obtain ⟨c1, c2⟩ := clash_spec hcl
            rcases hd with hd | hd
            · exact (c2 d htd).1 hd
            · exact (c1 d hd).2 htd
        have hOn : EnvOn ρ (fun d => d ∈ tOper ao) ei a := by
          refine ⟨fun d hd => ?_⟩
          have hnW := noW d (.inl hd)
          have hdN := htg d hd
          by_cases hwr : ∃ j p, j < ops.size ∧ ip j = true ∧ as[j]? = some p ∧ p.dst = some d
          · obtain ⟨j, p, hj, hjp, hp, hpd⟩ := hwr
            by_cases hji : j = i
            · -- its own variable
              subst hji
              rw [hao] at hp; cases hp
              rw [g1 d fun j' p' hj' hjn' hjp' hp' hpd' => (hok.pre j' j p' ao hjn' hin hjp' hpi (by omega) hp' hao d hpd).1 hpd']
              exact v2 d hdN hnW ⟨j, ao, hin, hpi, hli, hao, hpd⟩
            · obtain ⟨q1, q2⟩ := hok.pre i j ao p hin hj hpi hjp hji hao hp d hpd
              cases hlj : listed.getD j false with
              | true =>
                have hlt' : j < i := by
                  rcases q2 hd with ⟨h, _⟩ | ⟨_, hb⟩
                  · exact h
                  · exact (hbk hj hlj hb).elim
                rw [g2 d fun j' p' hj' hjn' hjp' hp' hpd' => ?_]
                · rw [← hE d hnW]
                  rcases v1 d hdN hnW with h | ⟨j', p', hj', hjp', hlj', hp', hpd'⟩
                  · exact h
                  · exfalso
                    by_cases hjj : j' = j
                    · subst hjj; rw [hlj] at hlj'; cases hlj'
                    · exact (hok.pre j' j p' p hj' hj hjp' hjp (Ne.symm hjj) hp' hp d hpd).1 hpd'
                · exact (hok.pre j' j p' p hjn' hj hjp' hjp (by omega) hp' hp d hpd).1 hpd'
              | false =>
                rw [g1 d fun j' p' hj' hjn' hjp' hp' hpd' => ?_]
                · exact v2 d hdN hnW ⟨j, p, hj, hjp, hlj, hp, hpd⟩
                · by_cases hjj : j' = j
                  · subst hjj
                    rcases q2 hd with ⟨_, hb⟩ | ⟨h, _⟩
                    · have := hbits j' hb; rw [hlj] at this; cases this
                    · omega
                  · exact (hok.pre j' j p' p hjn' hj hjp' hjp (Ne.symm hjj) hp' hp d hpd).1 hpd'
          · rw [g2 d fun j' p' _ hjn' hjp' hp' hpd' => hwr ⟨j', p', hjn', hjp', hp', hpd'⟩, ← hE d hnW]
            rcases v1 d hdN hnW with h | ⟨j', p', hj', hjp', _, hp', hpd'⟩
            · exact h
            · exact (hwr ⟨j', p', hj', hjp', hp', hpd'⟩).elim
        obtain ⟨hwant, hdst, hop⟩ := wanted_eq hc (S := fun d => d ∈ tOper ao) (fun d hd => ⟨hd, by rw [hN]; exact htg d hd⟩) hOn
        have next : ∀ v' w', VR ρ v v' → Stp C.G B m ρ H w0 ρk Hk w' → (Stp C.G B m ρ H w0 ρ H w' ∨ ∀ j p, j < ops.size → ip j = true → as[j]? = some p → light p.op = false → (listed.setIfInBounds i true).getD j false = true) →
            wpAny C.P .any ops Q fuel (listed.setIfInBounds i true) (a.put o.dst v') w' := by
          intro v' w' hvv hst' hfr'
          refine ih (listed.setIfInBounds i true) W rt E Hk ρk _ _ hunl (by simp [hs]) hsr hrt (fun j hj hjp => ?_) hcl' (by rw [put_size]; exact hN) (by rw [put_def]; exact hdf) hst' hfr' h2 (fun d hd => ?_) hE (fun d hd hnW => ?_) (fun d hd hnW hun => ?_) (fun d hd hWd => ?_)
          · rw [getD_set hil]
            have : j ≠ i := by intro h; subst h; rw [hpi] at hjp; cases hjp
            rw [if_neg this]; exact hT j hj hjp
          · obtain ⟨t, p, q1, q2, q3, q4⟩ := hW d hd
            exact ⟨t, p, q1, q2, hkeep t q3, q4⟩
          · rw [tmps_put (by omega), hdst]
            split
            · rename_i hdd
              rw [hE d hnW, g3 d hdd]; exact .inl hvv
            · rename_i hdd
              rcases v1 d hd hnW with h | ⟨j, p, q1, q2, q3, q4, q5⟩
              · exact .inl h
              · refine .inr ⟨j, p, q1, q2, ?_, q4, q5⟩
                rw [getD_set hil, if_neg]
                · exact q3
                · intro h; subst h; rw [hao] at q4; cases q4; exact hdd q5
          · obtain ⟨j, p, q1, q2, q3, q4, q5⟩ := hun
            rw [getD_set hil] at q3
            split at q3
            · cases q3
            · rename_i hji
              rw [tmps_put (by omega), hdst, if_neg]
              · exact v2 d hd hnW ⟨j, p, q1, q2, q3, q4, q5⟩
              · intro hdd
                exact (hok.pre j i p ao q1 hin q2 hpi (Ne.symm hji) q4 hao d hdd).1 q5
          · rw [tmps_put (by omega), hdst, if_neg]
            · exact v3 d hd hWd
            · intro hdd; exact noW d (.inr hdd) hWd
        simp only [hwant]
        split at hv
        · rename_i hyes
          rw [if_pos hyes]
          obtain ⟨H1, hstep, hl1⟩ := hv
          rcases hfr with hfr | hfr
          · refine .inl (astep_sound hC hcall hop (S := fun d => d ∈ tOper ao) (fun d hd => by simp [tOper, hd]) hOn hfr.rel (Nat.le_refl _) hstep fun v' w' ρ' hvv hst' => ?_)
            have hρ := hst'.dom hl1
            subst hρ
            have hro := Stp.ro (m := m) hfr.rel hst'
            have hb : Below w.heap.size w w' := ⟨hst'.kp.os, hst'.kp.tape, hst'.kp.output, hst'.kp.size, fun b hb => hst'.kp.block b hb fun ⟨i, o, l, h1, h2, _⟩ => by
              have := (List.getElem?_eq_some_iff.1 h2).1
              simp only at h1
              omega⟩
            exact next v' w' hvv (hst.trans (.ofBelow hst.rel hb)) (.inl (hfr.trans hro))
          · have hlight : light ao.op = true := by
              cases hq : light ao.op with
              | true => rfl
              | false => have := hfr i ao hin hpi hao hq; rw [hli] at this; cases this
            have hnc := light_call hlight
            rw [astep_aop hnc] at hstep
            obtain ⟨_, hk⟩ := light_any hlight (m' := ⟨Hk.length, Hk.length⟩) (H' := Hk) hstep
            have hOnk : EnvOn ρk (fun d => d ∈ tOper ao) ei a := ⟨fun d hd => (hOn.val d hd).mono hst.le⟩
            obtain ⟨u, wu, ρu, _, hvu, hsu⟩ := aop_sound hop hnc (S := fun d => d ∈ tOper ao) (fun d hd => by simp [tOper, hd]) hOn hr0 hstep
            have hρu := hsu.dom hl1
            subst hρu
            refine .inl (astep_sound hC hcall hop (S := fun d => d ∈ tOper ao) (m := ⟨Hk.length, Hk.length⟩) (fun d hd => by simp [tOper, hd]) hOnk hst.rel (Nat.le_refl _) (by rw [astep_aop hnc]; exact hk) fun v' w' ρ' hvv hst' => ?_)
            have hρ := hst'.dom rfl
            subst hρ
            exact next v' w' (hvu.back hst.le hvv) (hst.trans (Stp.ro hst.rel hst')) (.inr fun j p q1 q2 q3 q4 => hkeep j (hfr j p q1 q2 q3 q4))
        · rename_i hno
          rw [if_neg hno]
          subst hv
          exact next undef w (undef_vr _) hst (hfr.imp id fun hfr j p q1 q2 q3 q4 => hkeep j (hfr j p q1 q2 q3 q4))
      | false =>
        -- the next of the others
        have himem : i ∈ rt := (hT i hin hpi).1 hli
        obtain ⟨rt', hrt'⟩ : ∃ rt', rt = i :: rt' := by
          cases rt with
          | nil => cases himem
          | cons x rt' =>
            rcases Nat.lt_trichotomy x i with h | h | h
            · exfalso
              have hx := hrt x (by simp)
              have hlx := (hT x hx.1 hx.2).2 (by simp)
              have := hbits x (hok.tail i x hin h hpi hx.2)
              rw [hlx] at this; cases this
            · subst h; exact ⟨rt', rfl⟩
            · exfalso
              rcases List.mem_cons.1 himem with h' | h'
              · omega
              · have := (List.pairwise_cons.1 hsr).1 i h'; omega
        subst hrt'
        have hpk : pickA as i = ao := by simp [pickA, hao]
        have hOn : EnvOn ρk (fun d => d ∈ tOper ao) E a := by
          refine ⟨fun d hd => ?_⟩
          have hdN := htg d hd
          by_cases hWd : W d
          · exact v3 d hdN hWd
          · rcases v1 d hdN hWd with h | ⟨j, p, q1, q2, q3, q4, q5⟩
            · exact h.mono hst.le
            · exfalso
              rcases hok.mix i j ao p hin q1 hpi q2 hao q4 with hb | ⟨hcl, _⟩
              · have := hbits j hb; rw [q3] at this; cases this
              · exact ((clash_spec hcl).1 d q5).1 hd
        obtain ⟨hwant, hdst, hop⟩ := wanted_eq hc (S := fun d => d ∈ tOper ao) (fun d hd => ⟨hd, by rw [hN]; exact htg d hd⟩) hOn
        have next : ∀ v v' H1 ρ1 w', VR ρ1 v v' → Stp C.G B m ρk Hk w ρ1 H1 w' → aops C call m (rt'.map (pickA as)) (E.put ao.dst v) H1 = some (e', H') →
            (Stp C.G B m ρ H w0 ρ H w' ∨ ∀ j p, j < ops.size → ip j = true → as[j]? = some p → light p.op = false → (listed.setIfInBounds i true).getD j false = true) →
            wpAny C.P .any ops Q fuel (listed.setIfInBounds i true) (a.put o.dst v') w' := by
          intro v v' H1 ρ1 w' hvv hst' h2' hfr'
          refine ih (listed.setIfInBounds i true) (fun d => W d ∨ ao.dst = some d) rt' (E.put ao.dst v) H1 ρ1 _ _ hunl (by simp [hs]) (List.pairwise_cons.1 hsr).2 (fun j hj => hrt j (by simp [hj])) (fun j hj hjp => ?_) hcl' (by rw [put_size]; exact hN) (by rw [put_def]; exact hdf) (hst.trans hst') hfr' h2' (fun d hd => ?_) (fun d hd => ?_) (fun d hd hnW => ?_) (fun d hd hnW hun => ?_) (fun d hd hWd => ?_)
          · rw [getD_set hil]
            by_cases hji : j = i
            · subst hji
              simp only [if_true]
              constructor
              · intro h; cases h
              · intro h; have := (List.pairwise_cons.1 hsr).1 j h; omega
            · rw [if_neg hji, hT j hj hjp]
              simp [hji]
          · rcases hd with hd | hd
            · obtain ⟨t, p, q1, q2, q3, q4⟩ := hW d hd
              exact ⟨t, p, q1, q2, hkeep t q3, q4⟩
            · exact ⟨i, ao, hin, hpi, by rw [getD_set hil]; simp, hao, hd⟩
          · rw [env_put, if_neg (fun h => hd (.inr h))]
            exact hE d fun h => hd (.inl h)
          · rw [env_put, if_neg (fun h => hnW (.inr h)), tmps_put (by omega), hdst, if_neg (fun h => hnW (.inr h))]
            rcases v1 d hd (fun h => hnW (.inl h)) with h | ⟨j, p, q1, q2, q3, q4, q5⟩
            · exact .inl h
            · refine .inr ⟨j, p, q1, q2, ?_, q4, q5⟩
              rw [getD_set hil, if_neg]
              · exact q3
              · intro h; subst h; rw [hpi] at q2; cases q2
          · obtain ⟨j, p, q1, q2, q3, q4, q5⟩ := hun
            rw [tmps_put (by omega), hdst, if_neg (fun h => hnW (.inr h))]
            refine v2 d hd (fun h => hnW (.inl h)) ⟨j, p, q1, q2, ?_, q4, q5⟩
            rw [getD_set hil] at q3
            split at q3
            · cases q3
            · exact q3
          · rw [env_put, tmps_put (by omega), hdst]
            split
            · exact hvv
            · rename_i hdd
              exact (v3 d hd (hWd.resolve_right hdd)).mono hst'.le
        simp only [List.map_cons, hpk, aops] at h2
        have hfr' : ∀ w', (soft C.al ao.op = true → Below w.heap.size w w') → (Stp C.G B m ρ H w0 ρ H w' ∨ ∀ j p, j < ops.size → ip j = true → as[j]? = some p → light p.op = false → (listed.setIfInBounds i true).getD j false = true) := by
          intro w' hb
          cases hsf : soft C.al ao.op with
          | true =>
            rcases hfr with hfr | hfr
            · exact .inl (hfr.trans (.ofBelow hfr.rel (hb hsf)))
            · exact .inr fun j p q1 q2 q3 q4 => hkeep j (hfr j p q1 q2 q3 q4)
          | false =>
            refine .inr fun j p q1 q2 q3 q4 => hkeep j ?_
            rcases hok.mix i j ao p hin q1 hpi q2 hao q3 with hbb | ⟨_, h | h⟩
            · exact hbits j hbb
            · rw [q4] at h; cases h
            · rw [hsf] at h; cases h
        simp only [hwant]
        split at h2
        · rename_i hyes
          rw [if_pos hyes]
          simp only [Option.bind_eq_some_iff] at h2
          obtain ⟨⟨v, H1⟩, hs1, hs2⟩ := h2
          cases hsf : soft C.al ao.op with
          | true =>
            obtain ⟨hs3, X, hX, hown⟩ := soft_any hC hsf hs1
            refine .inl (astep_sound hC hcall hop (S := fun d => d ∈ tOper ao) (fun d hd => by simp [tOper, hd]) hOn hst.rel (Nat.le_refl _) hs3 fun v' w' ρ' hvv hst' => ?_)
            have hb : Below w.heap.size w w' := ⟨hst'.kp.os, hst'.kp.tape, hst'.kp.output, hst'.kp.size, fun b hb => hst'.kp.block b hb fun ⟨i, o, l, h1, h2, _⟩ => by
              have := (List.getElem?_eq_some_iff.1 h2).1
              simp only at h1
              omega⟩
            have hst'' := Stp.al (m := m) hst.rel hst' (by rw [hX]; simpa using hown)
            have hH : Hk ++ H1.drop Hk.length = H1 := by rw [hX]; simp
            rw [hH] at hst''
            exact next v v' H1 ρ' w' hvv hst'' hs2 (hfr' w' fun _ => hb)
          | false =>
            refine .inl (astep_sound hC hcall hop (S := fun d => d ∈ tOper ao) (fun d hd => by simp [tOper, hd]) hOn hst.rel (Nat.le_trans hfb hst.len) hs1 fun v' w' ρ' hvv hst' => ?_)
            exact next v v' H1 ρ' w' hvv hst' hs2 (hfr' w' fun h => by rw [hsf] at h; cases h)
        · rename_i hno
          rw [if_neg hno]
          exact next undef undef Hk ρk w (undef_vr _) (.refl hst.rel) h2 (hfr' w fun _ => .refl _ _)

theorem draw_sound (hC : C.Ok) (hcall : CallOK C B call) {ops : Array Oper} {as : List AOper} {ac : ACode} {id : Nat} (hal : Al C.P C.G ops N (List.range' 0 ops.size) as) (hd : cDraw C.al ops as = some ac)
    {e e' : Env} {H' : Heap} {K : Nat} {x : AExit} (he : EnvR ρ N e a) (hr : Rel C.G B ρ H w) (hfb : m.fb ≤ H.length) (h : acode C call K m ac e H = some (x, e', H'))
    {Q : Exit → Act → World → Prop} (hQ : ∀ a' w' ρ', EnvR ρ' N e' a' → a'.defers = a.defers → Stp C.G B m ρ H w ρ' H' w' → Q .normal a' w') :
    x = .normal ∧ (Code.region id ops true).wp C.P Q a w := by
  have hlen : as.length = ops.size := by simpa using hal.length.symm
  unfold cDraw at hd
  simp only at hd
  split at hd
  · rename_i hok
    cases hd
    simp only [acode, Option.bind_eq_some_iff, Option.map_eq_some_iff] at h
    obtain ⟨eF, h1, ⟨e2, H2⟩, h2, h3⟩ := h
    cases h3
    refine ⟨rfl, wp_region_any hC.mixed ?_⟩
    have hnone : ∀ i, (Array.replicate ops.size false).getD i false = false := by
      intro i
      simp only [Array.getD_eq_getD_getElem?, Array.getElem?_replicate]
      split <;> rfl
    have hb : Below w.heap.size w { w with drawn := w.drawn + 1 } := ⟨rfl, rfl, rfl, Nat.le_refl _, fun _ _ => rfl⟩
    refine draw_any hC hcall hal (drawOk_spec hlen hok) (e := e) hr hfb h1 (a0 := a) (w0 := w) hQ ops.size _ (fun _ => False) _ eF H ρ a _ ?_ (by simp) (List.pairwise_lt_range.filter _) (fun i hi => by simpa using hi) (fun i hi hp => ⟨fun _ => List.mem_filter.2 ⟨List.mem_range.2 hi, by simp only [hp]; rfl⟩, fun _ => hnone i⟩)
      (fun i o _ h => by rw [hnone] at h; cases h) he.size rfl (.ofBelow hr hb) (.inl (.ofBelow hr hb)) h2 (fun d h => h.elim) (fun d _ => rfl) (fun d hd _ => ?_) (fun d hd _ _ => he.val d hd) (fun d _ h => h.elim)
    · unfold unl
      refine Nat.le_trans List.countP_le_length (by simp)
    · by_cases hwr : ∃ j p, j < ops.size ∧ (firstKind C.al (Region.before ops) as 0 []).getD j false = true ∧ as[j]? = some p ∧ p.dst = some d
      · obtain ⟨j, p, q1, q2, q3, q4⟩ := hwr
        exact .inr ⟨j, p, q1, q2, hnone j, q3, q4⟩
      · refine .inl ?_
        rw [adraw_env _ h1 d fun o ho hod => ?_]
        · exact he.val d hd
        · simp only [List.mem_map, List.mem_filter, List.mem_range] at ho
          obtain ⟨j, ⟨hj, hp⟩, rfl⟩ := ho
          refine hwr ⟨j, pickA as j, hj, hp, ?_, hod⟩
          simp [pickA, hlen, hj]
  · cases hd

end
end Ev
end Go.Proofs.Ytfbelnjchpffeaa
