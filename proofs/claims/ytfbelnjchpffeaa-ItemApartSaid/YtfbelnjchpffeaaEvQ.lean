/-
  Rules for rewriting: what must be shown for a run of the small language to end well.
-/
import Derived.Test.YtfbelnjchpffeaaEvP
import Derived.Laws.BitsLemmas
namespace Go.Proofs.Ytfbelnjchpffeaa
namespace Ev
set_option linter.unusedSimpArgs false
set_option linter.unusedVariables false
open Go.RowKit (Below)
section
variable {C : Cf} {call : CallF} {N : Nat} {m : Mode} {e : Env} {H : Heap}

/-- A mark: what it marks stands in a type, so that rewriting leaves it as it is. -/
inductive Tag {α : Type _} (a : α) : Type where
  | mk
open Tag (mk)

/-- A step that ends, and what must hold behind it. -/
def Run (K : Value → Heap → Prop) (_ : Tag K) (r : Option (Value × Heap)) : Prop :=
  match r with
  | some (v, H) => K v H
  | none => False
theorem Run_some (K : Value → Heap → Prop) (t : Tag K) (v : Value) (H : Heap) : Run K t (some (v, H)) = K v H := (rfl)
/-- A demand, and what comes behind it. -/
def Need (p : Prop) (_ : Tag p) (c : Prop) : Prop := c ∧ p
theorem Need_true (p : Prop) (t : Tag p) : Need p t True = p := by simp [Need]
theorem Need_of {p c : Prop} {t : Tag p} (hc : c) (hp : p) : Need p t c := ⟨hc, hp⟩
theorem Run_ite (c : Prop) [Decidable c] (r : Option (Value × Heap)) (K : Value → Heap → Prop) (t : Tag K) : Run K t (if c then r else none) = Need (Run K mk r) mk c := by
  split <;> simp [*, Run, Need]
theorem Run_ite' (c : Prop) [Decidable c] (r : Option (Value × Heap)) (K : Value → Heap → Prop) (t : Tag K) : Run K t (if c then none else r) = Need (Run K mk r) mk ¬c := by
  split <;> simp [*, Run, Need]
theorem Run_mono {K K' : Value → Heap → Prop} {t : Tag K} {t' : Tag K'} {r : Option (Value × Heap)} (h : Run K t r) (hk : ∀ v H, K v H → K' v H) : Run K' t' r := by
  unfold Run at *
  split at h
  · exact hk _ _ h
  · exact h.elim
theorem Run_ex {v : Value} {t : Tag fun v' (_ : Heap) => v' = v} {r : Option (Value × Heap)} (h : Run (fun v' _ => v' = v) t r) : ∃ H', r = some (v, H') := by
  unfold Run at h
  split at h
  · subst h; exact ⟨_, rfl⟩
  · exact h.elim
theorem map_ite {α β : Type} (c : Prop) [Decidable c] (a : α) (f : α → β) : (if c then some a else none).map f = if c then some (f a) else none := by
  split <;> rfl
theorem map_ite' {α β : Type} (c : Prop) [Decidable c] (a : α) (f : α → β) : (if c then none else some a).map f = if c then none else some (f a) := by
  split <;> rfl
theorem bind_ite {α β : Type} (c : Prop) [Decidable c] (a : α) (f : α → Option β) : (if c then some a else none).bind f = if c then f a else none := by
  split <;> rfl

def CondV (p q : Prop) (_ : Tag p) (_ : Tag q) (v : Value) : Prop :=
  match v with
  | .bool true => p
  | .bool false => q
  | _ => False
theorem CondV_true (p q : Prop) (t : Tag p) (u : Tag q) : CondV p q t u (.bool true) = p := (rfl)
theorem CondV_false (p q : Prop) (t : Tag p) (u : Tag q) : CondV p q t u (.bool false) = q := (rfl)
theorem CondV_split {p q : Prop} {t : Tag p} {u : Tag q} {b : Bool} (hp : b = true → p) (hq : b = false → q) : CondV p q t u (.bool b) := by
  cases b
  · exact hq rfl
  · exact hp rfl
theorem CondV_bool (p q : Prop) (t : Tag p) (u : Tag q) (b : Bool) : CondV p q t u (.bool b) = ((b = true → p) ∧ (b = false → q)) := by cases b <;> simp [CondV]

theorem CondV_dec {p q c : Prop} [Decidable c] {t : Tag p} {u : Tag q} (hp : c → p) (hq : ¬c → q) : CondV p q t u (.bool (decide c)) := by
  by_cases h : c
  · rw [decide_eq_true h]; exact hp h
  · rw [decide_eq_false h]; exact hq h

def GuardV (b : Bool) (p q r : Prop) (_ : Tag (p, q, r)) (v : Value) : Prop :=
  match v with
  | .bool c => if c == b then p else q
  | _ => r
theorem GuardV_tt (p q r : Prop) (t : Tag (p, q, r)) : GuardV true p q r t (.bool true) = p := (rfl)
theorem GuardV_tf (p q r : Prop) (t : Tag (p, q, r)) : GuardV false p q r t (.bool true) = q := (rfl)
theorem GuardV_ft (p q r : Prop) (t : Tag (p, q, r)) : GuardV true p q r t (.bool false) = q := (rfl)
theorem GuardV_ff (p q r : Prop) (t : Tag (p, q, r)) : GuardV false p q r t (.bool false) = p := (rfl)
theorem GuardV_td {p q r c : Prop} [Decidable c] {t : Tag (p, q, r)} (hp : c → p) (hq : ¬c → q) : GuardV true p q r t (.bool (decide c)) := by
  by_cases h : c
  · rw [decide_eq_true h]; exact hp h
  · rw [decide_eq_false h]; exact hq h
theorem GuardV_fd {p q r c : Prop} [Decidable c] {t : Tag (p, q, r)} (hp : c → q) (hq : ¬c → p) : GuardV false p q r t (.bool (decide c)) := by
  by_cases h : c
  · rw [decide_eq_true h]; exact hp h
  · rw [decide_eq_false h]; exact hq h
theorem GuardV_t {p q r : Prop} {t : Tag (p, q, r)} {c : Bool} (hp : c = true → p) (hq : c = false → q) : GuardV true p q r t (.bool c) := by
  cases c
  · exact hq rfl
  · exact hp rfl
theorem GuardV_f {p q r : Prop} {t : Tag (p, q, r)} {c : Bool} (hp : c = true → q) (hq : c = false → p) : GuardV false p q r t (.bool c) := by
  cases c
  · exact hq rfl
  · exact hp rfl
theorem GuardV_undef (b : Bool) (p q r : Prop) (t : Tag (p, q, r)) : GuardV b p q r t undef = r := (rfl)
theorem set_same (e : Env) (g : Nat) (v : Value) (h : e g = v) : e.set g v = e := by
  funext t
  simp only [Env.set]
  split
  · rename_i ht; rw [ht, h]
  · rfl

/-! ## Lists of operations -/
def WpO (C : Cf) (call : CallF) (m : Mode) (l : List AOper) (e : Env) (H : Heap) (K : Env → Heap → Prop) (_ : Tag (C, call, m, l, e, H, K)) : Prop :=
  match aops C call m l e H with
  | some (e', H') => K e' H'
  | none => False
theorem WpO_nil (K : Env → Heap → Prop) (t : Tag (C, call, m, [], e, H, K)) : WpO C call m [] e H K t = K e H := (rfl)
theorem WpO_cons (d : Option Nat) (op : AOp) (l : List AOper) (K : Env → Heap → Prop) (t : Tag (C, call, m, ⟨d, op, none⟩ :: l, e, H, K)) :
    WpO C call m (⟨d, op, none⟩ :: l) e H K t = Run (fun v H' => WpO C call m l (e.put d v) H' K mk) mk (astep C call m e H op) := by
  simp only [WpO, aops, awanted, if_true]
  cases astep C call m e H op <;> rfl
theorem WpO_guard (d : Option Nat) (op : AOp) (g : Nat) (b : Bool) (l : List AOper) (K : Env → Heap → Prop) (t : Tag (C, call, m, ⟨d, op, some (g, b)⟩ :: l, e, H, K)) :
    WpO C call m (⟨d, op, some (g, b)⟩ :: l) e H K t = GuardV b (WpO C call m (⟨d, op, none⟩ :: l) (e.set g (.bool b)) H K mk) (WpO C call m l ((e.set g (.bool !b)).put d undef) H K mk) (WpO C call m l (e.put d undef) H K mk) mk (e g) := by
  unfold GuardV
  split
  · rename_i c hq
    split
    · rename_i hcb
      have hcb : c = b := by simpa using hcb
      subst hcb
      rw [set_same e g _ hq]
      simp [WpO, aops, awanted, hq]
    · rename_i hcb
      have hcb : c = !b := by cases b <;> cases c <;> simp_all
      subst hcb
      rw [set_same e g _ hq]
      simp only [WpO, aops, awanted, hq]
      cases b <;> rfl
  · rename_i hq
    have hw : awanted e (some (g, b)) = false := by
      simp only [awanted]
      try split <;> first | rfl | (rename_i h; exact absurd h (hq _))
    simp only [WpO, aops, hw]
    rfl

/-! ## Drawn lists -/
def WpD (C : Cf) (call : CallF) (l : List AOper) (e : Env) (H : Heap) (K : Env → Prop) (_ : Tag (C, call, l, e, H, K)) : Prop :=
  match adraw C call l e H with
  | some e' => K e'
  | none => False
theorem WpD_nil (K : Env → Prop) (t : Tag (C, call, [], e, H, K)) : WpD C call [] e H K t = K e := (rfl)
theorem runD (r : Option (Value × Heap)) (n : Nat) (f : Value → Option Env) (K : Env → Prop) :
    (match r.bind fun x => if x.2.length = n then f x.1 else none with
      | some e' => K e'
      | none => False) = Run (fun v H' => H'.length = n ∧ (match f v with
      | some e' => K e'
      | none => False)) mk r := by
  cases r with
  | none => rfl
  | some p =>
    obtain ⟨v, H'⟩ := p
    simp only [Option.bind_some, Run]
    by_cases h : H'.length = n
    · subst h; simp
    · simp only [if_neg h]; simp [h]
theorem WpD_cons (d : Option Nat) (op : AOp) (l : List AOper) (K : Env → Prop) (t : Tag (C, call, ⟨d, op, none⟩ :: l, e, H, K)) :
    WpD C call (⟨d, op, none⟩ :: l) e H K t = Run (fun v H' => H'.length = H.length ∧ WpD C call l (e.put d v) H K mk) mk (astep C call ⟨H.length, H.length⟩ e H op) := by
  simp only [WpD, adraw, awanted, if_true]
  exact runD _ _ (fun v => adraw C call l (e.put d v) H) K
theorem WpD_guard (d : Option Nat) (op : AOp) (g : Nat) (b : Bool) (l : List AOper) (K : Env → Prop) (t : Tag (C, call, ⟨d, op, some (g, b)⟩ :: l, e, H, K)) :
    WpD C call (⟨d, op, some (g, b)⟩ :: l) e H K t = GuardV b (WpD C call (⟨d, op, none⟩ :: l) (e.set g (.bool b)) H K mk) (WpD C call l ((e.set g (.bool !b)).put d undef) H K mk) (WpD C call l (e.put d undef) H K mk) mk (e g) := by
  unfold GuardV
  split
  · rename_i c hq
    split
    · rename_i hcb
      have hcb : c = b := by simpa using hcb
      subst hcb
      rw [set_same e g _ hq]
      simp [WpD, adraw, awanted, hq]
    · rename_i hcb
      have hcb : c = !b := by cases b <;> cases c <;> simp_all
      subst hcb
      rw [set_same e g _ hq]
      simp only [WpD, adraw, awanted, hq]
      cases b <;> rfl
  · rename_i hq
    have hw : awanted e (some (g, b)) = false := by
      simp only [awanted]
      try split <;> first | rfl | (rename_i h; exact absurd h (hq _))
    simp only [WpD, adraw, hw]
    rfl

/-! ## Lists where what was read is read again -/
def scal : Value → Bool
  | .bool _ => true
  | .int _ _ => true
  | .string _ => true
  | .pointer _ => true
  | .slice _ _ _ => true
  | .map _ => true
  | .nilFunc => true
  | .nilIface => true
  | _ => false
theorem eqv_refl {v : Value} (h : scal v = true) : eqv v v = true := by
  unfold scal at h
  split at h <;> first | (cases h; done) | simp [eqv]
def WpK (C : Cf) (call : CallF) (l : List AOper) (e : Env) (H : Heap) (p : Prop) (_ : Tag (C, call, l, e, H, p)) : Prop := rechk C call e H l = true ∧ p
theorem WpK_nil (p : Prop) (t : Tag (C, call, [], e, H, p)) : WpK C call [] e H p t = p := by simp [WpK, rechk]
theorem WpK_cons {d : Nat} {op : AOp} {l : List AOper} {p : Prop} {t : Tag (C, call, ⟨some d, op, none⟩ :: l, e, H, p)}
    (h : Run (fun v H' => H'.length = H.length ∧ v = e d ∧ scal v = true) mk (astep C call ⟨H.length, H.length⟩ e H op)) (hp : WpK C call l e H p mk) : WpK C call (⟨some d, op, none⟩ :: l) e H p t := by
  refine ⟨?_, hp.2⟩
  simp only [rechk, awanted, if_true]
  unfold Run at h
  split at h
  · rename_i v H' hs
    obtain ⟨h1, h2, h3⟩ := h
    rw [hs]
    simp only [h1, decide_true, Bool.true_and, hp.1, Bool.and_true]
    rw [← h2]; exact eqv_refl h3
  · exact h.elim
theorem WpK_guard {d : Option Nat} {op : AOp} {g : Nat} {b : Bool} {l : List AOper} {p : Prop} {t : Tag (C, call, ⟨d, op, some (g, b)⟩ :: l, e, H, p)}
    (h : GuardV b (WpK C call (⟨d, op, none⟩ :: l) e H p mk) (WpK C call l e H p mk) (WpK C call l e H p mk) mk (e g)) : WpK C call (⟨d, op, some (g, b)⟩ :: l) e H p t := by
  unfold GuardV at h
  split at h
  · rename_i c hq
    split at h
    · rename_i hcb
      have hcb : c = b := by simpa using hcb
      subst hcb
      refine ⟨?_, h.2⟩
      have := h.1
      simp only [rechk, awanted, if_true] at this
      simp only [rechk, awanted, hq, beq_self_eq_true, if_true]
      exact this
    · rename_i hcb
      refine ⟨?_, h.2⟩
      have : (c == b) = false := by simpa using hcb
      simp only [rechk, awanted, hq, this, Bool.false_eq_true, if_false, Bool.true_and]
      exact h.1
  · rename_i hq
    refine ⟨?_, h.2⟩
    have : awanted e (some (g, b)) = false := by
      simp only [awanted]
      try split <;> first | rfl | (rename_i h; exact absurd h (hq _))
    simp only [rechk, this, Bool.false_eq_true, if_false, Bool.true_and]
    exact h.1
def WpT (C : Cf) (call : CallF) (m : Mode) (l : List (AOper × List AOper)) (e : Env) (H : Heap) (K : Env → Heap → Prop) (_ : Tag (C, call, m, l, e, H, K)) : Prop :=
  match aopsD C call m l e H with
  | some (e', H') => K e' H'
  | none => False
theorem WpT_nil (K : Env → Heap → Prop) (t : Tag (C, call, m, [], e, H, K)) : WpT C call m [] e H K t = K e H := (rfl)
theorem WpT_cons (d : Option Nat) (op : AOp) (ck : List AOper) (l : List (AOper × List AOper)) (K : Env → Heap → Prop) (t : Tag (C, call, m, (⟨d, op, none⟩, ck) :: l, e, H, K)) :
    WpT C call m ((⟨d, op, none⟩, ck) :: l) e H K t = Run (fun v H' => WpK C call ck (e.put d v) H' (WpT C call m l (e.put d v) H' K mk) mk) mk (astep C call m e H op) := by
  simp only [WpT, aopsD, awanted, if_true]
  cases astep C call m e H op with
  | none => rfl
  | some p =>
    obtain ⟨v, H'⟩ := p
    simp only [Option.bind_some, Run, WpK]
    cases h : rechk C call (e.put d v) H' ck with
    | true => simp [WpT]
    | false => simp
theorem WpT_guard (d : Option Nat) (op : AOp) (g : Nat) (b : Bool) (ck : List AOper) (l : List (AOper × List AOper)) (K : Env → Heap → Prop) (t : Tag (C, call, m, (⟨d, op, some (g, b)⟩, ck) :: l, e, H, K)) :
    WpT C call m ((⟨d, op, some (g, b)⟩, ck) :: l) e H K t = GuardV b (WpT C call m ((⟨d, op, none⟩, ck) :: l) (e.set g (.bool b)) H K mk) (WpT C call m l ((e.set g (.bool !b)).put d undef) H K mk) (WpT C call m l (e.put d undef) H K mk) mk (e g) := by
  unfold GuardV
  split
  · rename_i c hq
    split
    · rename_i hcb
      have hcb : c = b := by simpa using hcb
      subst hcb
      rw [set_same e g _ hq]
      simp [WpT, aopsD, awanted, hq]
    · rename_i hcb
      have hcb : c = !b := by cases b <;> cases c <;> simp_all
      subst hcb
      rw [set_same e g _ hq]
      cases b <;> simp [WpT, aopsD, awanted, hq]
  · rename_i hq
    have : awanted e (some (g, b)) = false := by
      simp only [awanted]
      try split <;> first | rfl | (rename_i h; exact absurd h (hq _))
    simp [WpT, aopsD, this]

/-! ## Code -/
abbrev Post := AExit → Env → Heap → Prop
def WpC (C : Cf) (call : CallF) (N : Nat) (m : Mode) (c : ACode) (e : Env) (H : Heap) (Q : Post) (_ : Tag (C, call, N, m, c, e, H, Q)) : Prop :=
  match acode C call N m c e H with
  | some (x, e', H') => Q x e' H'
  | none => False
theorem WpC_mono {c : ACode} {Q Q' : Post} {t : Tag (C, call, N, m, c, e, H, Q)} {t' : Tag (C, call, N, m, c, e, H, Q')} (h : WpC C call N m c e H Q t) (hq : ∀ x e' H', Q x e' H' → Q' x e' H') : WpC C call N m c e H Q' t' := by
  unfold WpC at *
  split at h
  · exact hq _ _ _ h
  · exact h.elim
theorem WpC_skip (Q : Post) (t : Tag (C, call, N, m, ACode.skip, e, H, Q)) : WpC C call N m .skip e H Q t = Q .normal e H := (rfl)
theorem WpC_exit (i : Nat) (Q : Post) (t : Tag (C, call, N, m, ACode.exit i, e, H, Q)) : WpC C call N m (.exit i) e H Q t = Q (.exit i) e H := (rfl)
theorem WpC_ret (Q : Post) (t : Tag (C, call, N, m, ACode.ret, e, H, Q)) : WpC C call N m .ret e H Q t = Q .ret e H := (rfl)
theorem WpC_reg (l : List AOper) (Q : Post) (t : Tag (C, call, N, m, ACode.reg l, e, H, Q)) : WpC C call N m (.reg l) e H Q t = WpO C call m l e H (fun e' H' => Q .normal e' H') mk := by
  simp only [WpC, acode, WpO]
  cases aops C call m l e H <;> rfl
theorem WpC_draw (l r : List AOper) (Q : Post) (t : Tag (C, call, N, m, ACode.draw l r, e, H, Q)) : WpC C call N m (.draw l r) e H Q t = WpD C call l e H (fun e' => WpO C call m r e' H (fun e' H' => Q .normal e' H') mk) mk := by
  simp only [WpC, acode, WpO, WpD]
  cases adraw C call l e H with
  | none => rfl
  | some e' => simp only [Option.bind_some]; cases aops C call m r e' H <;> rfl
theorem WpC_drawD (l : List AOper) (r : List (AOper × List AOper)) (Q : Post) (t : Tag (C, call, N, m, ACode.drawD l r, e, H, Q)) : WpC C call N m (.drawD l r) e H Q t = WpD C call l e H (fun e' => WpT C call m r e' H (fun e' H' => Q .normal e' H') mk) mk := by
  simp only [WpC, acode, WpD, WpT]
  cases adraw C call l e H with
  | none => rfl
  | some e' =>
    simp only [Option.bind_some]
    cases aopsD C call m r e' H with
    | none => rfl
    | some p => rfl
def SeqK (p q : Prop) (_ : Tag p) (_ : Tag q) (x : AExit) : Prop :=
  match x with
  | .normal => p
  | _ => q
theorem SeqK_normal (p q : Prop) (t : Tag p) (u : Tag q) : SeqK p q t u .normal = p := (rfl)
theorem SeqK_exit (i : Nat) (p q : Prop) (t : Tag p) (u : Tag q) : SeqK p q t u (.exit i) = q := (rfl)
theorem SeqK_ret (p q : Prop) (t : Tag p) (u : Tag q) : SeqK p q t u .ret = q := (rfl)
theorem WpC_seq (a b : ACode) (Q : Post) (t : Tag (C, call, N, m, ACode.seq a b, e, H, Q)) :
    WpC C call N m (.seq a b) e H Q t = WpC C call N m a e H (fun x e' H' => SeqK (WpC C call N m b e' H' Q mk) (Q x e' H') mk mk x) mk := by
  simp only [WpC, acode]
  cases acode C call N m a e H with
  | none => rfl
  | some p => obtain ⟨x, e', H'⟩ := p; cases x <;> rfl
theorem WpC_cond (c : Opnd) (a b : ACode) (Q : Post) (t : Tag (C, call, N, m, ACode.cond c a b, e, H, Q)) :
    WpC C call N m (.cond c a b) e H Q t = CondV (WpC C call N m a e H Q mk) (WpC C call N m b e H Q mk) mk mk (oev e c) := by
  simp only [WpC, acode, CondV]
  cases hq : oev e c <;> try rfl
  rename_i t; cases t <;> rfl
def blkX (id : Nat) : AExit → AExit
  | .exit i => if i = id then .normal else .exit i
  | x => x
theorem blkX_exit (id i : Nat) : blkX id (.exit i) = if i = id then .normal else .exit i := (rfl)
theorem blkX_normal (id : Nat) : blkX id .normal = .normal := (rfl)
theorem blkX_ret (id : Nat) : blkX id .ret = .ret := (rfl)
theorem WpC_block (id : Nat) (a : ACode) (Q : Post) (t : Tag (C, call, N, m, ACode.block id a, e, H, Q)) :
    WpC C call N m (.block id a) e H Q t = WpC C call N m a e H (fun x e' H' => Q (blkX id x) e' H') mk := by
  simp only [WpC, acode]
  cases acode C call N m a e H with
  | none => rfl
  | some p =>
    obtain ⟨x, e', H'⟩ := p
    cases x with
    | exit i =>
      simp only [Option.bind_some, blkX]
      by_cases h : i = id
      · simp only [if_pos h]
      · simp only [if_neg h]
    | _ => rfl

/-- A loop: with what holds ahead of each round, and how many rounds are left. -/
theorem WpC_loop {a : ACode} {Q : Post} {t : Tag (C, call, N, m, ACode.loop a, e, H, Q)} (I : Nat → Env → Heap → Prop)
    (h : ∀ n e H, I n e H → WpC C call N m a e H (fun x e' H' => SeqK (∃ n', n' < n ∧ I n' e' H') (Q x e' H') mk mk x) mk) {n : Nat} (hn : n < N) (hi : I n e H) :
    WpC C call N m (.loop a) e H Q t := by
  have key : ∀ (k n : Nat) (e : Env) (H : Heap), n < k → I n e H → match aiter (acode C call N m a) k e H with
      | some (x, e', H') => Q x e' H'
      | none => False := by
    intro k
    induction k with
    | zero => intro n e H hn; omega
    | succ k ih =>
      intro n e H hn hi
      have := h n e H hi
      unfold WpC at this
      unfold aiter
      split at this
      · rename_i x e' H' heq
        rw [heq]
        cases x with
        | normal => obtain ⟨n', hn', hi'⟩ := this; exact ih n' e' H' (by omega) hi'
        | exit i => exact this
        | ret => exact this
      · exact this.elim
  exact key N n e H hn hi

/-! ## Calls -/
def ResK (H : Heap) (R : Value → Heap → Prop) (_ : Tag (H, R)) (o : Option (List Value)) : Prop :=
  match o with
  | some l => R (aPack l) H
  | none => False
theorem ResK_some (l : List Value) (H : Heap) (R : Value → Heap → Prop) (t : Tag (H, R)) : ResK H R t (some l) = R (aPack l) H := (rfl)
def EndK (p : Prop) (_ : Tag p) (x : AExit) : Prop :=
  match x with
  | .exit _ => False
  | _ => p
theorem EndK_ret (p : Prop) (t : Tag p) : EndK p t .ret = p := (rfl)
theorem EndK_normal (p : Prop) (t : Tag p) : EndK p t .normal = p := (rfl)

theorem Run_call {F : AFn} {k f : Nat} {args : List Value} {R : Value → Heap → Prop} {t : Tag R} (hf : C.fn f = some F) (ha : args.length ≤ F.n)
    (h : WpC C (acall C k) k m F.body (env0 args) H (fun x e' H' => EndK (ResK H' R mk (aresults e' H' F.res)) mk x) mk) : Run R t (acall C (k + 1) f args H m) := by
  unfold WpC at h
  simp only [acall, hf, Option.bind_some, if_pos ha]
  split at h
  · rename_i x e' H' heq
    rw [heq]
    cases x with
    | exit i => exact h.elim
    | normal =>
      simp only [EndK, ResK] at h
      split at h
      · rename_i l hl; simp only [Option.bind_some, hl, Option.map_some, Run]; exact h
      · exact h.elim
    | ret =>
      simp only [EndK, ResK] at h
      split at h
      · rename_i l hl; simp only [Option.bind_some, hl, Option.map_some, Run]; exact h
      · exact h.elim
  · exact h.elim

/-! ## Variables -/
theorem Env_put_some (e : Env) (d : Nat) (v : Value) : e.put (some d) v = e.set d v := (rfl)
theorem Env_put_none (e : Env) (v : Value) : e.put none v = e := (rfl)
theorem Env_set_at (e : Env) (d : Nat) (v : Value) (t : Nat) : e.set d v t = if t = d then v else e t := (rfl)
theorem oev_t (e : Env) (n : Nat) : oev e (.t n) = e n := (rfl)
theorem oev_c (e : Env) (v : Value) : oev e (.c v) = v := (rfl)

/-! ## Numbers and truths -/
theorem int_beq (a b : Int) : (a == b) = decide (a = b) := by
  by_cases h : a = b <;> simp [h]
theorem int_bne (a b : Int) : (a != b) = decide (¬a = b) := by
  by_cases h : a = b <;> simp [h]
theorem not_dec (c : Prop) [Decidable c] : (!decide c) = decide (¬c) := by
  by_cases h : c <;> simp [h]
theorem wrap_i64 (n : Int) (h1 : -9223372036854775808 ≤ n) (h2 : n ≤ 9223372036854775807) : IntKind.i64.wrap n = n := by
  rw [IntKind.wrap_i64]; omega
theorem wrap_u64 (n : Int) (h1 : 0 ≤ n) (h2 : n ≤ 18446744073709551615) : IntKind.u64.wrap n = n := by
  simp [IntKind.wrap, IntKind.bits, IntKind.signed]; omega
theorem wrap_u8 (n : Int) (h1 : 0 ≤ n) (h2 : n ≤ 255) : IntKind.u8.wrap n = n := by
  rw [IntKind.wrap_u8]; omega
theorem wrap_u16 (n : Int) (h1 : 0 ≤ n) (h2 : n ≤ 65535) : IntKind.u16.wrap n = n := by
  simp [IntKind.wrap, IntKind.bits, IntKind.signed]; omega
theorem wrap_u32 (n : Int) (h1 : 0 ≤ n) (h2 : n ≤ 4294967295) : IntKind.u32.wrap n = n := by
  rw [IntKind.wrap_u32]; omega

theorem ofInt_nn (k : Nat) (a : Int) (h : 0 ≤ a) (h' : a < 2 ^ k) : (BitVec.ofInt k a).toNat = a.toNat := by
  rw [BitVec.toNat_ofInt]
  rw [Int.emod_eq_of_lt h (by exact_mod_cast h')]
theorem or_lt (k x y : Nat) (hx : x < 2 ^ k) (hy : y < 2 ^ k) : x ||| y < 2 ^ k := Nat.or_lt_two_pow hx hy
theorem wrap_or (a b : Int) (ha : 0 ≤ a) (ha' : a ≤ 18446744073709551615) (hb : 0 ≤ b) (hb' : b ≤ 18446744073709551615) :
    IntKind.u64.wrap ((BitVec.ofInt IntKind.u64.bits a ||| BitVec.ofInt IntKind.u64.bits b).toNat : Int) = ((a.toNat ||| b.toNat : Nat) : Int) := by
  rw [BitVec.toNat_or, ofInt_nn _ a ha (by simp [IntKind.bits]; omega), ofInt_nn _ b hb (by simp [IntKind.bits]; omega)]
  have := or_lt 64 a.toNat b.toNat (by omega) (by omega)
  rw [wrap_u64 _ (by omega) (by omega)]
theorem tmod_nn (a b : Int) (ha : 0 ≤ a) : a.tmod b = a % b := Int.tmod_eq_emod_of_nonneg ha
theorem tdiv_nn (a b : Int) (ha : 0 ≤ a) : a.tdiv b = a / b := Int.tdiv_eq_ediv_of_nonneg ha
theorem min_bits (b : Int) (h : b ≤ 64) : min b.toNat IntKind.u64.bits = b.toNat := by
  have : IntKind.u64.bits = 64 := (rfl)
  omega

/-! ## Bytes -/
def bAt (s : ByteArray) (k : Nat) : Nat := (s.data.toList.getD k 0).toNat
theorem bAt_lt (s : ByteArray) (k : Nat) : bAt s k < 256 := (s.data.toList.getD k 0).toNat_lt
theorem get_data (s : ByteArray) (k : Nat) : s.data.toList[k]? = if k < s.size then some (s.data.toList.getD k 0) else none := by
  have : s.data.toList.length = s.size := Array.length_toList
  by_cases h : k < s.size
  · rw [if_pos h, List.getElem?_eq_getElem (by omega), List.getD_eq_getElem?_getD, List.getElem?_eq_getElem (by omega)]; rfl
  · rw [if_neg h, List.getElem?_eq_none (by omega)]
theorem ixs_get (s : ByteArray) (k : Nat) (H : Heap) : (s.data.toList[k]?).map (fun b => (Value.int .u8 (b.toNat : Int), H)) = if k < s.size then some (.int .u8 (bAt s k : Int), H) else none := by
  rw [get_data, map_ite]; rfl
theorem bytesL_get (s : ByteArray) (k : Nat) : (bytesL s)[k]? = if k < s.size then some (.int .u8 (bAt s k : Int)) else none := by
  rw [bytesL, List.getElem?_map, get_data, map_ite]; rfl
theorem bytesL_length (s : ByteArray) : (bytesL s).length = s.size := by rw [bytesL, List.length_map]; exact Array.length_toList

/-- A string's bytes, as numbers. -/
def bl (s : ByteArray) : List Nat := s.data.toList.map (·.toNat)
theorem bl_length (s : ByteArray) : (bl s).length = s.size := by rw [bl, List.length_map]; exact Array.length_toList
theorem bl_get (s : ByteArray) (k : Nat) : (bl s)[k]? = if k < s.size then some (bAt s k) else none := by
  rw [bl, List.getElem?_map, get_data, map_ite]; rfl
theorem bl_drop (s : ByteArray) (k : Nat) (h : k < s.size) : (bl s).drop k = bAt s k :: (bl s).drop (k + 1) := by
  rw [List.drop_eq_getElem_cons (by rw [bl_length]; exact h)]
  have := bl_get s k
  rw [if_pos h, List.getElem?_eq_getElem (by rw [bl_length]; exact h)] at this
  rw [Option.some.inj this]
theorem bl_drop_all (s : ByteArray) (k : Nat) (h : s.size ≤ k) : (bl s).drop k = [] := List.drop_eq_nil_of_le (by rw [bl_length]; exact h)

/-- The word of a function that goes into a table. -/
theorem Cf.Ok.spec (hC : C.Ok) (hG : C.G = 0) {k f : Nat} {args : List Value} {lim : Nat} {v : Value} (h : Run (fun v' _ => v' = v) Tag.mk (acall C k f args [] ⟨lim, 0⟩)) (hv : flat v = true) (ha : args.all flat = true) (w : World) :
    Calls C.P f args.toArray w fun e w' => e = .returned v ∧ Below w.heap.size w w' := by
  unfold Run at h
  split at h
  · rename_i v' H' heq
    subst h
    exact top hC hG heq rfl hv ha w
  · exact h.elim

end
attribute [irreducible] Need CondV GuardV Run WpO WpD WpC SeqK EndK ResK WpT WpK
end Ev
end Go.Proofs.Ytfbelnjchpffeaa
