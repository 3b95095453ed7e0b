/-
  Values and heaps without addresses: what a run may do, said of a heap of numbered things, and how such a heap stands in a world.
-/
import Derived.WalkKit
import Derived.Orders
import Derived.OrdersHeld
namespace Go.Proofs.Ytfbelnjchpffeaa
namespace Ev

/-! ## Values that lead nowhere -/
def flatN : Nat → Value → Bool
  | _, .bool _ => true
  | _, .int _ _ => true
  | _, .string _ => true
  | _, .nilFunc => true
  | _, .nilIface => true
  | _, .pointer none => true
  | _, .map none => true
  | _, .slice none n c => n == 0 && c == 0
  | n + 1, .iface _ v => flatN n v
  | n + 1, .agg cs => cs.toList.all (flatN n)
  | n + 1, .tuple vs => vs.toList.all (flatN n)
  | n + 1, .func _ f c => f.toList.all (flatN n) && c.toList.all (flatN n)
  | _, _ => false
def flat (v : Value) : Bool := flatN 5 v

/-- Where a thing lies: the block, the first cell, the end of the block. -/
structure Loc where
  blk : Nat
  base : Nat
  top : Nat

abbrev Emb := Nat → Option Loc

/-- A value with numbered things, and the value as a world has it. A slice's third number is here the cells of an element. -/
inductive VR (ρ : Emb) : Value → Value → Prop where
  | bool (b : Bool) : VR ρ (.bool b) (.bool b)
  | int (k : IntKind) (n : Int) : VR ρ (.int k n) (.int k n)
  | string (s : ByteArray) : VR ρ (.string s) (.string s)
  | nilFunc : VR ρ .nilFunc .nilFunc
  | nilIface : VR ρ .nilIface .nilIface
  | ptrNone : VR ρ (.pointer none) (.pointer none)
  | mapNone : VR ρ (.map none) (.map none)
  | sliceNone : VR ρ (.slice none 0 0) (.slice none 0 0)
  | ptr (i off : Nat) (l : Loc) (h : ρ i = some l) : VR ρ (.pointer (some ⟨i, off, none⟩)) (.pointer (some ⟨l.blk, l.base + off, none⟩))
  | slice (i off n c : Nat) (o' c' : Nat) (l : Loc) (h : ρ i = some l) (ho : 0 < n → o' = l.base + off) (hn : n ≤ c') (ht : o' + c' * c ≤ l.top) :
      VR ρ (.slice (some ⟨i, off, none⟩) n c) (.slice (some ⟨l.blk, o', none⟩) n c')
  | slice0 (i off c : Nat) (a : Addr) (l : Loc) (h : ρ i = some l) : VR ρ (.slice (some ⟨i, off, none⟩) 0 c) (.slice (some a) 0 0)
  | map (r : Nat) (l : Loc) (h : ρ r = some l) : VR ρ (.map (some r)) (.map (some l.blk))
  | iface (t : TypeId) (v v' : Value) (h : VR ρ v v') : VR ρ (.iface t v) (.iface t v')
  | agg (a b : Array Value) (hs : a.size = b.size) (h : ∀ i (h : i < a.size) (h' : i < b.size), VR ρ a[i] b[i]) : VR ρ (.agg a) (.agg b)
  | tuple (a b : Array Value) (hs : a.size = b.size) (h : ∀ i (h : i < a.size) (h' : i < b.size), VR ρ a[i] b[i]) : VR ρ (.tuple a) (.tuple b)
  | func (fn : Fn) (a b c d : Array Value) (hs : a.size = b.size) (h : ∀ i (h : i < a.size) (h' : i < b.size), VR ρ a[i] b[i])
      (hs' : c.size = d.size) (h' : ∀ i (h : i < c.size) (h' : i < d.size), VR ρ c[i] d[i]) : VR ρ (.func fn a c) (.func fn b d)

/-- Lists, value by value. -/
inductive VRs (ρ : Emb) : List Value → List Value → Prop where
  | nil : VRs ρ [] []
  | cons {v v' : Value} {l l' : List Value} (h : VR ρ v v') (t : VRs ρ l l') : VRs ρ (v :: l) (v' :: l')

theorem VRs.length {ρ : Emb} {l l' : List Value} (h : VRs ρ l l') : l.length = l'.length := by
  induction h with
  | nil => rfl
  | cons _ _ ih => simp [ih]

theorem VRs.get {ρ : Emb} {l l' : List Value} (h : VRs ρ l l') : ∀ {i : Nat} {v : Value}, l[i]? = some v → ∃ v', l'[i]? = some v' ∧ VR ρ v v' := by
  induction h with
  | nil => intro i v h; simp at h
  | cons h _ ih =>
    intro i v hi
    cases i with
    | zero => simp at hi; subst hi; exact ⟨_, by simp, h⟩
    | succ i => simpa using ih (by simpa using hi)

theorem VRs.of_get {ρ : Emb} : ∀ {l l' : List Value}, l.length = l'.length → (∀ (i : Nat) (v : Value), l[i]? = some v → ∃ v', l'[i]? = some v' ∧ VR ρ v v') → VRs ρ l l'
  | [], [], _, _ => .nil
  | [], _ :: _, h, _ => by simp at h
  | _ :: _, [], h, _ => by simp at h
  | v :: l, v' :: l', h, g => by
    obtain ⟨u, hu, r⟩ := g 0 v (by simp)
    simp at hu; subst hu
    exact .cons r (VRs.of_get (by simpa using h) fun i w hw => by simpa using g (i + 1) w (by simpa using hw))

theorem VRs.append {ρ : Emb} {a a' b b' : List Value} (h : VRs ρ a a') (k : VRs ρ b b') : VRs ρ (a ++ b) (a' ++ b') := by
  induction h with
  | nil => exact k
  | cons h _ ih => exact .cons h ih

theorem VRs.take {ρ : Emb} {a a' : List Value} (h : VRs ρ a a') (n : Nat) : VRs ρ (a.take n) (a'.take n) := by
  induction h generalizing n with
  | nil => simp; exact .nil
  | cons h _ ih => cases n with
    | zero => exact .nil
    | succ n => exact .cons h (ih n)

theorem VRs.drop {ρ : Emb} {a a' : List Value} (h : VRs ρ a a') (n : Nat) : VRs ρ (a.drop n) (a'.drop n) := by
  induction h generalizing n with
  | nil => simp; exact .nil
  | cons h t ih => cases n with
    | zero => exact .cons h t
    | succ n => exact ih n

theorem VRs.set {ρ : Emb} {a a' : List Value} (h : VRs ρ a a') (n : Nat) {v v' : Value} (r : VR ρ v v') : VRs ρ (a.set n v) (a'.set n v') := by
  induction h generalizing n with
  | nil => simp; exact .nil
  | cons h t ih => cases n with
    | zero => exact .cons r t
    | succ n => exact .cons h (ih n)

theorem VRs.toArr {ρ : Emb} {a b : Array Value} (h : VRs ρ a.toList b.toList) : a.size = b.size ∧ ∀ i (h : i < a.size) (h' : i < b.size), VR ρ a[i] b[i] := by
  refine ⟨by simpa using h.length, fun i hi hi' => ?_⟩
  obtain ⟨v', hv, r⟩ := h.get (i := i) (v := a[i]) (by simp [hi])
  simp [hi'] at hv
  exact hv ▸ r

theorem VRs.ofArr {ρ : Emb} {a b : Array Value} (hs : a.size = b.size) (h : ∀ i (h : i < a.size) (h' : i < b.size), VR ρ a[i] b[i]) : VRs ρ a.toList b.toList :=
  .of_get (by simpa using hs) fun i v hv => by
    simp only [Array.getElem?_toList, Array.getElem?_eq_some_iff] at hv
    obtain ⟨hi, rfl⟩ := hv
    exact ⟨b[i]'(hs ▸ hi), by simp [hs ▸ hi], h i hi (hs ▸ hi)⟩

theorem VR.mkAgg {ρ : Emb} {a b : Array Value} (h : VRs ρ a.toList b.toList) : VR ρ (.agg a) (.agg b) := .agg _ _ h.toArr.1 h.toArr.2
theorem VR.mkTuple {ρ : Emb} {a b : Array Value} (h : VRs ρ a.toList b.toList) : VR ρ (.tuple a) (.tuple b) := .tuple _ _ h.toArr.1 h.toArr.2
theorem VR.mkFunc {ρ : Emb} {fn : Fn} {a b c d : Array Value} (h : VRs ρ a.toList b.toList) (k : VRs ρ c.toList d.toList) : VR ρ (.func fn a c) (.func fn b d) :=
  .func _ _ _ _ _ h.toArr.1 h.toArr.2 k.toArr.1 k.toArr.2

/-- A thing's number says more than before. -/
def Emb.le (ρ ρ' : Emb) : Prop := ∀ i l, ρ i = some l → ρ' i = some l
theorem Emb.le_refl (ρ : Emb) : ρ.le ρ := fun _ _ h => h
theorem Emb.le_trans {a b c : Emb} (h : a.le b) (k : b.le c) : a.le c := fun i l e => k i l (h i l e)

theorem VR.mono {ρ ρ' : Emb} (hl : ρ.le ρ') {v v' : Value} (h : VR ρ v v') : VR ρ' v v' := by
  induction h with
  | bool b => exact .bool b
  | int k n => exact .int k n
  | string s => exact .string s
  | nilFunc => exact .nilFunc
  | nilIface => exact .nilIface
  | ptrNone => exact .ptrNone
  | mapNone => exact .mapNone
  | sliceNone => exact .sliceNone
  | ptr i off l h => exact .ptr i off l (hl _ _ h)
  | slice i off n c o' c' l h ho hn ht => exact .slice i off n c o' c' l (hl _ _ h) ho hn ht
  | slice0 i off c a l h => exact .slice0 i off c a l (hl _ _ h)
  | map r l h => exact .map r l (hl _ _ h)
  | iface t v v' _ ih => exact .iface t v v' ih
  | agg a b hs _ ih => exact .agg a b hs ih
  | tuple a b hs _ ih => exact .tuple a b hs ih
  | func fn a b c d hs _ hs' _ ih ih' => exact .func fn a b c d hs ih hs' ih'

theorem VRs.mono {ρ ρ' : Emb} (hl : ρ.le ρ') {v v' : List Value} (h : VRs ρ v v') : VRs ρ' v v' := by
  induction h with
  | nil => exact .nil
  | cons h _ ih => exact .cons (h.mono hl) ih

theorem flatN_eq {ρ : Emb} : ∀ (n : Nat) (v v' : Value), flatN n v = true → VR ρ v v' → v' = v := by
  intro n
  induction n with
  | zero =>
    intro v v' hf h
    cases h <;> simp [flatN] at hf ⊢
  | succ n ih =>
    have arr : ∀ (a b : Array Value), a.size = b.size → (∀ i (h : i < a.size) (h' : i < b.size), VR ρ a[i] b[i]) → a.toList.all (flatN n) = true → b = a := by
      intro a b hs h hf
      apply Array.ext hs.symm
      intro i h1 h2
      refine ih _ _ ?_ (h i h2 h1)
      simp only [List.all_eq_true] at hf
      exact hf _ (by simp)
    intro v v' hf h
    cases h with
    | iface t v v' h => simp only [flatN] at hf; rw [ih _ _ hf h]
    | agg a b hs h => simp only [flatN] at hf; rw [arr a b hs h hf]
    | tuple a b hs h => simp only [flatN] at hf; rw [arr a b hs h hf]
    | func fn a b c d hs h hs' h' =>
      simp only [flatN, Bool.and_eq_true] at hf
      rw [arr a b hs h hf.1, arr c d hs' h' hf.2]
    | ptr i off l h => simp [flatN] at hf
    | slice i off n c o' c' l h ho hn ht => simp [flatN] at hf
    | slice0 i off c a l h => simp [flatN] at hf
    | map r l h => simp [flatN] at hf
    | _ => rfl

theorem flatN_refl {ρ : Emb} : ∀ (n : Nat) (v : Value), flatN n v = true → VR ρ v v := by
  intro n
  induction n with
  | zero =>
    intro v hf
    cases v with
    | bool b => exact .bool b
    | int k n => exact .int k n
    | string s => exact .string s
    | nilFunc => exact .nilFunc
    | nilIface => exact .nilIface
    | pointer a => cases a with
      | none => exact .ptrNone
      | some a => simp [flatN] at hf
    | map a => cases a with
      | none => exact .mapNone
      | some a => simp [flatN] at hf
    | slice a n c => cases a with
      | none => simp [flatN] at hf; obtain ⟨rfl, rfl⟩ := hf; exact .sliceNone
      | some a => simp [flatN] at hf
    | _ => simp [flatN] at hf
  | succ n ih =>
    have arr : ∀ (a : Array Value), a.toList.all (flatN n) = true → ∀ i (h : i < a.size) (_ : i < a.size), VR ρ a[i] a[i] := by
      intro a hf i h _
      simp only [List.all_eq_true] at hf
      exact ih _ (hf _ (by simp))
    intro v hf
    cases v with
    | bool b => exact .bool b
    | int k n => exact .int k n
    | string s => exact .string s
    | nilFunc => exact .nilFunc
    | nilIface => exact .nilIface
    | pointer a => cases a with
      | none => exact .ptrNone
      | some a => simp [flatN] at hf
    | map a => cases a with
      | none => exact .mapNone
      | some a => simp [flatN] at hf
    | slice a n c => cases a with
      | none => simp [flatN] at hf; obtain ⟨rfl, rfl⟩ := hf; exact .sliceNone
      | some a => simp [flatN] at hf
    | iface t v => exact .iface t v v (ih v (by simpa [flatN] using hf))
    | agg a => exact .agg a a rfl (arr a (by simpa only [flatN] using hf))
    | tuple a => exact .tuple a a rfl (arr a (by simpa only [flatN] using hf))
    | func fn a c =>
      simp only [flatN, Bool.and_eq_true] at hf
      exact .func fn a a c c rfl (arr a hf.1) rfl (arr c hf.2)
    | _ => simp [flatN] at hf

theorem flat_eq {ρ : Emb} {v v' : Value} (h : flat v = true) (r : VR ρ v v') : v' = v := flatN_eq 5 v v' h r
theorem flat_refl {ρ : Emb} {v : Value} (h : flat v = true) : VR ρ v v := flatN_refl 5 v h

/-! ## Heaps of numbered things -/
inductive AObj where
  | dead
  | cells (cs : List Value) (T : TypeId) (own : Bool)
  | map (es : List (Value × Value)) (own : Bool)

def AObj.own : AObj → Bool
  | .dead => false
  | .cells _ _ o => o
  | .map _ o => o
def AObj.live : AObj → Bool
  | .dead => false
  | _ => true

abbrev Heap := List AObj

inductive ER (ρ : Emb) : List (Value × Value) → List MapEntry → Prop where
  | nil : ER ρ [] []
  | cons {k v v' : Value} {n : Nat} {l : List (Value × Value)} {l' : List MapEntry} (hk : flat k = true) (h : VR ρ v v') (t : ER ρ l l') :
      ER ρ ((k, v) :: l) ({ key := k, val := v', born := n } :: l')

theorem ER.mono {ρ ρ' : Emb} (hl : ρ.le ρ') {a : List (Value × Value)} {b : List MapEntry} (h : ER ρ a b) : ER ρ' a b := by
  induction h with
  | nil => exact .nil
  | cons hk h _ ih => exact .cons hk (h.mono hl) ih

/-- Types from here on mark things that are whole: their first cell is the first of their block. -/
def BIG : Nat := 1000000
/-- The type that a world has for it. -/
def wT (T : TypeId) : TypeId := if T < BIG then T else T - BIG
def uT (T : TypeId) : TypeId := if T < BIG then T else T + BIG
theorem wT_lt {T : TypeId} (h : T < BIG) : wT T = T := if_pos h
theorem wT_big (T : TypeId) : wT (T + BIG) = T := by
  unfold wT; rw [if_neg (Nat.not_lt.2 (Nat.le_add_left BIG T))]; exact Nat.add_sub_cancel T BIG
theorem wT_uT (T : TypeId) : wT (uT T) = T := by
  unfold uT; split
  · rename_i h; exact wT_lt h
  · exact wT_big T

/-- How a thing stands in a world. -/
def ObjR (B : Nat) (ρ : Emb) (o : AObj) (l : Option Loc) (w : World) : Prop :=
  match o with
  | .dead => True
  | .cells cs T own => ∃ loc cur fr, l = some loc ∧ w.heap[loc.blk]? = some (.cells cur (wT T) fr) ∧ loc.base + cs.length ≤ loc.top ∧ loc.top ≤ cur.size ∧
      VRs ρ cs ((cur.toList.drop loc.base).take cs.length) ∧ (own = true → B ≤ loc.blk ∧ (∀ k, k < cur.size → (fr.1 ≤ k && k < fr.2) = false) ∧ (BIG ≤ T → loc.base = 0))
  | .map es own => ∃ loc ents clock, l = some loc ∧ w.heap[loc.blk]? = some (.map ents clock) ∧ ER ρ es ents.toList ∧ (own = true → B ≤ loc.blk)

structure Rel (G B : Nat) (ρ : Emb) (H : Heap) (w : World) : Prop where
  dom : ∀ i, H.length ≤ i → ρ i = none
  obj : ∀ i o, H[i]? = some o → ObjR B ρ o (ρ i) w
  inj : ∀ i j o o' l l', i ≠ j → H[i]? = some o → H[j]? = some o' → o.own = true → o'.live = true → ρ i = some l → ρ j = some l' → l.blk ≠ l'.blk
  big : B ≤ w.heap.size
  glob : ∀ g, g < G → ∃ l, ρ g = some l ∧ l.blk = g ∧ l.base = 0

theorem ObjR.mono {B : Nat} {ρ ρ' : Emb} (hl : ρ.le ρ') {o : AObj} {l : Option Loc} {w : World} (h : ObjR B ρ o l w) : ObjR B ρ' o l w := by
  cases o with
  | dead => trivial
  | cells cs T own =>
    obtain ⟨loc, cur, fr, h1, h2, h3, h4, h5, h6⟩ := h
    exact ⟨loc, cur, fr, h1, h2, h3, h4, h5.mono hl, h6⟩
  | map es own =>
    obtain ⟨loc, ents, clock, h1, h2, h3, h4⟩ := h
    exact ⟨loc, ents, clock, h1, h2, h3.mono hl, h4⟩

theorem ObjR.loc {B : Nat} {ρ : Emb} {o : AObj} {l : Option Loc} {w : World} (h : ObjR B ρ o l w) (hl : o.live = true) : ∃ loc, l = some loc ∧ loc.blk < w.heap.size := by
  cases o with
  | dead => simp [AObj.live] at hl
  | cells cs T own =>
    obtain ⟨loc, cur, fr, h1, h2, _⟩ := h
    exact ⟨loc, h1, (Array.getElem?_eq_some_iff.1 h2).1⟩
  | map es own =>
    obtain ⟨loc, ents, clock, h1, h2, _⟩ := h
    exact ⟨loc, h1, (Array.getElem?_eq_some_iff.1 h2).1⟩

/-- The block of a thing is as it was. -/
theorem ObjR.same {B : Nat} {ρ : Emb} {o : AObj} {l : Option Loc} {w w' : World} (h : ObjR B ρ o l w) (hs : ∀ loc, l = some loc → w'.heap[loc.blk]? = w.heap[loc.blk]?) : ObjR B ρ o l w' := by
  cases o with
  | dead => trivial
  | cells cs T own =>
    obtain ⟨loc, cur, fr, h1, h2, r⟩ := h
    exact ⟨loc, cur, fr, h1, (hs loc h1).trans h2, r⟩
  | map es own =>
    obtain ⟨loc, ents, clock, h1, h2, r⟩ := h
    exact ⟨loc, ents, clock, h1, (hs loc h1).trans h2, r⟩

/-- What a run may have turned: the blocks of the things from 'lim' on that are its own. -/
def May (lim : Nat) (ρ : Emb) (H : Heap) (b : Nat) : Prop := ∃ i o l, lim ≤ i ∧ H[i]? = some o ∧ o.own = true ∧ ρ i = some l ∧ l.blk = b

structure Kp (S : Nat → Prop) (w w' : World) : Prop where
  os : w'.os = w.os
  tape : w'.tape = w.tape
  output : w'.output = w.output
  size : w.heap.size ≤ w'.heap.size
  block : ∀ b, b < w.heap.size → ¬ S b → w'.heap[b]? = w.heap[b]?

theorem Kp.refl (S : Nat → Prop) (w : World) : Kp S w w := ⟨rfl, rfl, rfl, Nat.le_refl _, fun _ _ _ => rfl⟩
theorem Kp.trans {S : Nat → Prop} {a b c : World} (h : Kp S a b) (k : Kp S b c) : Kp S a c :=
  ⟨k.os.trans h.os, k.tape.trans h.tape, k.output.trans h.output, Nat.le_trans h.size k.size, fun i hi hs => (k.block i (Nat.lt_of_lt_of_le hi h.size) hs).trans (h.block i hi hs)⟩
theorem Kp.weaken {S S' : Nat → Prop} {a b : World} (h : Kp S a b) (hs : ∀ i, i < a.heap.size → S i → S' i) : Kp S' a b :=
  ⟨h.os, h.tape, h.output, h.size, fun i hi hn => h.block i hi fun k => hn (hs i hi k)⟩
theorem Kp.trans2 {S S' : Nat → Prop} {a b c : World} (h : Kp S a b) (k : Kp S' b c) (hS : ∀ i, i < a.heap.size → S' i → S i) : Kp S a c :=
  ⟨k.os.trans h.os, k.tape.trans h.tape, k.output.trans h.output, Nat.le_trans h.size k.size, fun i hi hs => (k.block i (Nat.lt_of_lt_of_le hi h.size) fun s => hs (hS i hi s)).trans (h.block i hi hs)⟩
theorem Kp.drew (S : Nat → Prop) (w : World) : Kp S w { w with drawn := w.drawn + 1 } := ⟨rfl, rfl, rfl, Nat.le_refl _, fun _ _ _ => rfl⟩
theorem Kp.below {B : Nat} {S : Nat → Prop} {a b : World} (h : Kp S a b) (hS : ∀ i, S i → B ≤ i) (hB : B ≤ a.heap.size) : Go.RowKit.Below B a b :=
  ⟨h.os, h.tape, h.output, h.size, fun k hk => h.block k (by omega) fun s => by have := hS k s; omega⟩

theorem Rel.weaken_obj {G B : Nat} {ρ : Emb} {H H' : Heap} {w : World} (h : Rel G B ρ H w) (hlen : H'.length = H.length)
    (hh : ∀ (i : Nat) (o : AObj), H'[i]? = some o → o = .dead ∨ H[i]? = some o) : Rel G B ρ H' w where
  dom i hi := h.dom i (by omega)
  obj i o ho := by
    rcases hh i o ho with rfl | h1
    · trivial
    · exact h.obj i o h1
  inj i j o o' l l' hne ho ho' own live := by
    rcases hh i o ho with rfl | h1
    · simp [AObj.own] at own
    · rcases hh j o' ho' with rfl | h2
      · simp [AObj.live] at live
      · exact h.inj i j o o' l l' hne h1 h2 own live
  big := h.big
  glob := h.glob

end Ev
end Go.Proofs.Ytfbelnjchpffeaa
