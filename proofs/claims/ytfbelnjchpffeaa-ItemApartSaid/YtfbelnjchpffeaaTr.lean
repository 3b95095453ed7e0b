/-
  Trees of texts and lists: how they stand in a heap of numbered things, and what is told of them.
-/
import Derived.Test.YtfbelnjchpffeaaEvV
namespace Go.Proofs.Ytfbelnjchpffeaa
namespace Ev
open Tag (mk)
set_option linter.unusedSimpArgs false
set_option linter.unusedVariables false

inductive Tr where
  | mk (text : ByteArray) (list : Bool) (sub : List Tr)
namespace Tr
def text : Tr → ByteArray
  | .mk t _ _ => t
def list : Tr → Bool
  | .mk _ b _ => b
def sub : Tr → List Tr
  | .mk _ _ l => l
end Tr

/-! ## How it stands -/
mutual
/-- The cells of a tree whose rows are things of S. -/
def ItemAt (H : Heap) (S : Nat → Prop) : Tr → List Value → Prop
  | .mk t b l, cs => ∃ a c, cs = [.string t, .bool b, .slice a l.length c] ∧ (l ≠ [] → ∃ i T own cells, a = some ⟨i, 0, none⟩ ∧ c = 3 ∧ S i ∧ H[i]? = some (.cells cells T own) ∧ ItemsAt H S l cells)
def ItemsAt (H : Heap) (S : Nat → Prop) : List Tr → List Value → Prop
  | [], cs => cs = []
  | t :: l, cs => ∃ a b, cs = a ++ b ∧ ItemAt H S t a ∧ ItemsAt H S l b
end

mutual
theorem ItemAt.mono {H H' : Heap} {S S' : Nat → Prop} (h : ∀ i o, S i → H[i]? = some o → S' i ∧ H'[i]? = some o) : ∀ (t : Tr) (cs : List Value), ItemAt H S t cs → ItemAt H' S' t cs
  | .mk t b l, cs, hi => by
    unfold ItemAt at hi ⊢
    obtain ⟨a, c, rfl, hl⟩ := hi
    refine ⟨a, c, rfl, fun hne => ?_⟩
    obtain ⟨i, T, own, cells, h1, h2, h3, h4, h5⟩ := hl hne
    obtain ⟨g1, g2⟩ := h i _ h3 h4
    exact ⟨i, T, own, cells, h1, h2, g1, g2, ItemsAt.mono h l cells h5⟩
theorem ItemsAt.mono {H H' : Heap} {S S' : Nat → Prop} (h : ∀ i o, S i → H[i]? = some o → S' i ∧ H'[i]? = some o) : ∀ (l : List Tr) (cs : List Value), ItemsAt H S l cs → ItemsAt H' S' l cs
  | [], cs, hi => by unfold ItemsAt at hi ⊢; exact hi
  | t :: l, cs, hi => by
    unfold ItemsAt at hi ⊢
    obtain ⟨a, b, rfl, h1, h2⟩ := hi
    exact ⟨a, b, rfl, ItemAt.mono h t a h1, ItemsAt.mono h l b h2⟩
end
theorem ItemAt.app {H : Heap} {S : Nat → Prop} {t : Tr} {cs : List Value} (L : Heap) (h : ItemAt H S t cs) : ItemAt (H ++ L) S t cs :=
  ItemAt.mono (fun i o hs ho => ⟨hs, get_app ho L⟩) t cs h
theorem ItemsAt.app {H : Heap} {S : Nat → Prop} {l : List Tr} {cs : List Value} (L : Heap) (h : ItemsAt H S l cs) : ItemsAt (H ++ L) S l cs :=
  ItemsAt.mono (fun i o hs ho => ⟨hs, get_app ho L⟩) l cs h
theorem ItemAt.cells {H : Heap} {S : Nat → Prop} {t : Tr} {cs : List Value} (h : ItemAt H S t cs) : ∃ a c, cs = [.string t.text, .bool t.list, .slice a t.sub.length c] ∧
    (t.sub ≠ [] → ∃ i T own cells, a = some ⟨i, 0, none⟩ ∧ c = 3 ∧ S i ∧ H[i]? = some (.cells cells T own) ∧ ItemsAt H S t.sub cells) := by
  cases t; unfold ItemAt at h; exact h
theorem ItemAt.of {H : Heap} {S : Nat → Prop} {t : ByteArray} {b : Bool} {l : List Tr} {a : Option Addr} {c : Nat}
    (h : l ≠ [] → ∃ i T own cells, a = some ⟨i, 0, none⟩ ∧ c = 3 ∧ S i ∧ H[i]? = some (.cells cells T own) ∧ ItemsAt H S l cells) : ItemAt H S (.mk t b l) [.string t, .bool b, .slice a l.length c] := by
  unfold ItemAt; exact ⟨a, c, rfl, h⟩
theorem ItemAt.length {H : Heap} {S : Nat → Prop} {t : Tr} {cs : List Value} (h : ItemAt H S t cs) : cs.length = 3 := by
  obtain ⟨a, c, rfl, _⟩ := h.cells; rfl
theorem ItemsAt.length {H : Heap} {S : Nat → Prop} : ∀ {l : List Tr} {cs : List Value}, ItemsAt H S l cs → cs.length = l.length * 3
  | [], cs, h => by unfold ItemsAt at h; subst h; rfl
  | t :: l, cs, h => by
    unfold ItemsAt at h
    obtain ⟨a, b, rfl, h1, h2⟩ := h
    rw [List.length_append, h1.length, ItemsAt.length h2, List.length_cons, Nat.add_mul]; omega
theorem ItemsAt.get {H : Heap} {S : Nat → Prop} : ∀ {l : List Tr} {cs : List Value}, ItemsAt H S l cs → ∀ (k : Nat) (t : Tr), l[k]? = some t → ItemAt H S t ((cs.drop (k * 3)).take 3)
  | [], cs, h, k, t, hk => by simp at hk
  | x :: l, cs, h, k, t, hk => by
    unfold ItemsAt at h
    obtain ⟨a, b, rfl, h1, h2⟩ := h
    have ha := h1.length
    cases k with
    | zero =>
      simp only [List.getElem?_cons_zero, Option.some.injEq] at hk
      subst hk
      rw [Nat.zero_mul, List.drop_zero, List.take_append_of_le_length (by omega), List.take_of_length_le (by omega)]
      exact h1
    | succ k =>
      have : (a ++ b).drop ((k + 1) * 3) = b.drop (k * 3) := by
        rw [List.drop_append, List.drop_of_length_le (by omega), List.nil_append]; congr 1; omega
      rw [this]
      exact ItemsAt.get h2 k t (by simpa using hk)
theorem ItemsAt.snoc {H : Heap} {S : Nat → Prop} : ∀ {l : List Tr} {cs : List Value} {t : Tr} {c : List Value}, ItemsAt H S l cs → ItemAt H S t c → ItemsAt H S (l ++ [t]) (cs ++ c)
  | [], cs, t, c, h, ht => by
    unfold ItemsAt at h; subst h
    simp only [List.nil_append]
    unfold ItemsAt
    exact ⟨c, [], by simp, ht, by unfold ItemsAt; rfl⟩
  | x :: l, cs, t, c, h, ht => by
    unfold ItemsAt at h
    obtain ⟨a, b, rfl, h1, h2⟩ := h
    rw [List.cons_append]
    unfold ItemsAt
    exact ⟨a, b ++ c, by rw [List.append_assoc], h1, ItemsAt.snoc h2 ht⟩
theorem ItemsAt.nil {H : Heap} {S : Nat → Prop} : ItemsAt H S [] [] := by unfold ItemsAt; rfl

/-- A value that is such a tree. -/
def ItemV (H : Heap) (S : Nat → Prop) (t : Tr) (v : Value) : Prop := ∃ cs, v = .agg cs.toArray ∧ ItemAt H S t cs
theorem ItemV.app {H : Heap} {S : Nat → Prop} {t : Tr} {v : Value} (L : Heap) (h : ItemV H S t v) : ItemV (H ++ L) S t v := by
  obtain ⟨cs, rfl, h⟩ := h
  exact ⟨cs, rfl, h.app L⟩
theorem ItemV.mono {H H' : Heap} {S S' : Nat → Prop} {t : Tr} {v : Value} (h : ItemV H S t v) (hm : ∀ i o, S i → H[i]? = some o → S' i ∧ H'[i]? = some o) : ItemV H' S' t v := by
  obtain ⟨cs, rfl, h⟩ := h
  exact ⟨cs, rfl, h.mono hm _ _⟩

/-! ## Trees as arguments -/
section
variable {P : Program} {H : Heap} {tI tS tT tB : TypeId} {fs : Array Field}
def SubAt (H : Heap) (cs : List Value) : Prop := ∃ (l : List Tr) (a : Option Addr) (c : Nat), cs = [.slice a l.length c] ∧
  (l ≠ [] → ∃ i T own cells, a = some ⟨i, 0, none⟩ ∧ c = 3 ∧ i < H.length ∧ H[i]? = some (.cells cells T own) ∧ ItemsAt H (fun i => i < H.length) l cells)
theorem items_of_all : ∀ (n : Nat) (rows : List (List Value)), rows.length = n → (∀ (k : Nat) (cs : List Value), rows[k]? = some cs → ∃ x, ItemAt H (fun i => i < H.length) x cs) → ∃ l : List Tr, l.length = n ∧ ItemsAt H (fun i => i < H.length) l rows.flatten
  | 0, [], _, _ => ⟨[], rfl, ItemsAt.nil⟩
  | n + 1, cs :: rows, hl, h => by
    obtain ⟨x, hx⟩ := h 0 cs rfl
    obtain ⟨l, h1, h2⟩ := items_of_all n rows (by simpa using hl) fun k cs hk => h (k + 1) cs (by simpa using hk)
    refine ⟨x :: l, by simp [h1], ?_⟩
    unfold ItemsAt
    exact ⟨_, _, rfl, hx, h2⟩
theorem tr_of_is (hI : P.underlying tI = some (.struct fs)) (hf : fs.toList.map (·.type) = [tT, tB, tS]) (hT : P.underlying tT = some .string)
    (hB : P.underlying tB = some .bool) (hS : P.underlying tS = some (.slice tI)) (hc : P.cellsOf tI = 3) {t : TypeId} {cs : List Value} (h : Is P H t cs) :
    (t = tI → ∃ x, ItemAt H (fun i => i < H.length) x cs) ∧ (t = tS → SubAt H cs) := by
  refine Is.rec (P := P) (H := H) (motive_1 := fun t cs _ => (t = tI → ∃ x, ItemAt H (fun i => i < H.length) x cs) ∧ (t = tS → SubAt H cs))
    (motive_2 := fun ts rows _ => ts.length = rows.length ∧ ∀ (k : Nat) (t : TypeId) (cs : List Value), ts[k]? = some t → rows[k]? = some cs → Is P H t cs ∧ (t = tI → ∃ x, ItemAt H (fun i => i < H.length) x cs) ∧ (t = tS → SubAt H cs)) ?_ ?_ ?_ ?_ ?_ ?_ ?_ ?_ h
  · intro t ht b; exact ⟨fun e => (by subst e; rw [hI] at ht; cases ht), fun e => (by subst e; rw [hS] at ht; cases ht)⟩
  · intro t k ht n hn; exact ⟨fun e => (by subst e; rw [hI] at ht; cases ht), fun e => (by subst e; rw [hS] at ht; cases ht)⟩
  · intro t ht s hs; exact ⟨fun e => (by subst e; rw [hI] at ht; cases ht), fun e => (by subst e; rw [hS] at ht; cases ht)⟩
  · intro t e ht
    exact ⟨fun e => (by subst e; rw [hI] at ht; cases ht), fun e => ⟨[], none, 0, rfl, fun h => absurd rfl h⟩⟩
  · intro t e ht i n rows hr hn hcell hi ih
    refine ⟨fun e => (by subst e; rw [hI] at ht; cases ht), fun q => ?_⟩
    subst q
    rw [hS] at ht; cases ht
    obtain ⟨h1, h2⟩ := ih
    rw [List.length_replicate] at h1
    obtain ⟨l, hl, hat⟩ := items_of_all n rows h1.symm fun k cs hk => by
      have hkn : k < n := by have := (List.getElem?_eq_some_iff.1 hk).1; omega
      exact (h2 k tI cs (by simp [hkn]) hk).2.1 rfl
    subst hl
    refine ⟨l, some ⟨i, 0, none⟩, P.cellsOf tI, rfl, fun hne => ?_⟩
    obtain ⟨T, hT⟩ := hcell (by cases l with
      | nil => exact absurd rfl hne
      | cons a b => simp)
    exact ⟨i, T, false, rows.flatten, rfl, hc, hi, hT, hat⟩
  · intro t fs' ht parts hp ih
    refine ⟨fun e => ?_, fun e => (by subst e; rw [hS] at ht; cases ht)⟩
    subst e
    rw [hI] at ht; cases ht
    obtain ⟨h1, h2⟩ := ih
    rw [hf] at h1 h2
    match parts, h1 with
    | [c0, c1, c2], _ =>
      obtain ⟨s, rfl, _⟩ := is_string hT (h2 0 tT c0 rfl rfl).1
      obtain ⟨b, rfl⟩ := is_bool hB (h2 1 tB c1 rfl rfl).1
      obtain ⟨l, a, c, rfl, hl⟩ := (h2 2 tS c2 rfl rfl).2.2 rfl
      exact ⟨.mk s b l, by simpa using ItemAt.of (t := s) (b := b) hl⟩
  · exact ⟨rfl, fun k t cs h => by simp at h⟩
  · intro t ts cs l h r ih1 ih2
    refine ⟨by simp [ih2.1], fun k t' cs' h1 h2 => ?_⟩
    cases k with
    | zero => simp at h1 h2; subst h1; subst h2; exact ⟨h, ih1⟩
    | succ k => exact ih2.2 k t' cs' (by simpa using h1) (by simpa using h2)
theorem isv_tr (hI : P.underlying tI = some (.struct fs)) (hf : fs.toList.map (·.type) = [tT, tB, tS]) (hT : P.underlying tT = some .string)
    (hB : P.underlying tB = some .bool) (hS : P.underlying tS = some (.slice tI)) (hc : P.cellsOf tI = 3) {v : Value} (h : IsV P H tI v) : ∃ x, ItemV H (fun i => i < H.length) x v := by
  cases h with
  | agg hs h => obtain ⟨x, hx⟩ := (tr_of_is hI hf hT hB hS hc h).1 rfl; exact ⟨x, _, rfl, hx⟩
  | one hs h => simp [isStruct, hI] at hs
end

/-! ## What is told of them -/
mutual
def sz : Tr → Nat
  | .mk _ _ l => 1 + szs l
def szs : List Tr → Nat
  | [] => 0
  | t :: l => sz t + szs l
end
mutual
def dp : Tr → Nat
  | .mk _ _ l => dps l + 1
def dps : List Tr → Nat
  | [] => 0
  | t :: l => max (dp t) (dps l)
end
mutual
def rt : Tr → Bool
  | .mk t b l => !(b && decide (t.size ≠ 0) || !b && decide (l.length ≠ 0)) && rts l
def rts : List Tr → Bool
  | [] => true
  | t :: l => rt t && rts l
end
/-- May it be? -/
def may (t : Tr) : Bool := rt t && decide (dp t ≤ 16) && decide (sz t ≤ 1024)
mutual
def room : Tr → Int → Int
  | .mk _ _ l, n => max (rooms l (n - 1)) 0
def rooms : List Tr → Int → Int
  | [], n => n
  | t :: l, n => if n > 0 then rooms l (room t n) else n
end
mutual
def tsz : Tr → Int
  | .mk t _ l => tszs l (min (t.size : Int) 10000)
def tszs : List Tr → Int → Int
  | [], n => n
  | t :: l, n => tszs l (min (n + tsz t) 10000)
end
def great (t : Tr) : Bool := decide (room t 1200 = 0) || decide (tsz t > 6000)
mutual
def byt : Tr → Nat
  | .mk t _ l => t.size + byts l
def byts : List Tr → Nat
  | [] => 0
  | t :: l => byt t + byts l
end
mutual
def same : Tr → Tr → Bool
  | .mk t b l, .mk t' b' l' => decide (b = b') && decide (t = t') && sames l l'
def sames : List Tr → List Tr → Bool
  | [], [] => true
  | t :: l, t' :: l' => same t t' && sames l l'
  | _, _ => false
end
mutual
theorem same_eq : ∀ (a b : Tr), same a b = true ↔ a = b
  | .mk t b l, .mk t' b' l' => by
    unfold same
    have := sames_eq l l'
    simp only [Bool.and_eq_true, decide_eq_true_eq, Tr.mk.injEq, this]
    grind
theorem sames_eq : ∀ (a b : List Tr), sames a b = true ↔ a = b
  | [], [] => by simp [sames]
  | t :: l, t' :: l' => by
    unfold sames
    simp only [Bool.and_eq_true, List.cons.injEq, same_eq t t', sames_eq l l']
  | [], _ :: _ => by simp [sames]
  | _ :: _, [] => by simp [sames]
end
mutual
theorem room_pos : ∀ (t : Tr) (n : Int), 0 < room t n → room t n = n - sz t
  | .mk t b l, n, h => by
    unfold room sz at *
    have := rooms_pos l (n - 1)
    omega
theorem rooms_pos : ∀ (l : List Tr) (n : Int), 0 < rooms l n → rooms l n = n - szs l
  | [], n, h => by simp [rooms, szs]
  | t :: l, n, h => by
    unfold rooms szs at *
    split at h
    · rename_i hn
      rw [if_pos hn]
      have h1 := rooms_pos l _ h
      have h2 := rooms_le l (room t n)
      have h3 := room_pos t n (by omega)
      omega
    · omega
theorem room_le : ∀ (t : Tr) (n : Int), 0 ≤ room t n ∧ (0 ≤ n → room t n ≤ n)
  | .mk t b l, n => by
    unfold room
    have := rooms_le l (n - 1)
    refine ⟨by omega, fun h => by omega⟩
theorem rooms_le : ∀ (l : List Tr) (n : Int), rooms l n ≤ n
  | [], n => by simp [rooms]
  | t :: l, n => by
    unfold rooms
    split
    · have h1 := rooms_le l (room t n)
      have h2 := room_le t n
      omega
    · omega
end
mutual
theorem tsz_le : ∀ (t : Tr), 0 ≤ tsz t ∧ tsz t ≤ 10000 ∧ (tsz t < 10000 → tsz t = byt t)
  | .mk t b l => by
    unfold tsz byt
    have := tszs_le l (min (t.size : Int) 10000) (by omega) (by omega)
    omega
theorem tszs_le : ∀ (l : List Tr) (n : Int), 0 ≤ n → n ≤ 10000 → 0 ≤ tszs l n ∧ n ≤ tszs l n ∧ tszs l n ≤ 10000 ∧ (tszs l n < 10000 → tszs l n = n + byts l)
  | [], n, h, h' => by simp [tszs, byts]; omega
  | t :: l, n, h, h' => by
    unfold tszs byts
    have h1 := tsz_le t
    have := tszs_le l (min (n + tsz t) 10000) (by omega) (by omega)
    omega
end
theorem great_no {t : Tr} (h : great t = false) : sz t < 1200 ∧ byt t ≤ 6000 := by
  unfold great at h
  simp only [Bool.or_eq_false_iff, decide_eq_false_iff_not] at h
  have h1 := room_le t 1200
  have h2 := room_pos t 1200 (by omega)
  have h3 := tsz_le t
  omega
theorem sz_pos (t : Tr) : 0 < sz t := by cases t; unfold sz; omega
end Ev
end Go.Proofs.Ytfbelnjchpffeaa
