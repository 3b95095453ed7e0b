/-
  Arguments of any simple type (numbers, truths, strings, structs and slices of these): how they stand in a heap of numbered things.
-/
import Derived.Test.YtfbelnjchpffeaaEvT
import Derived.ChangeArms
import Derived.ChangeShapes
import Derived.WideShapes
import Derived.Carry
namespace Go.Proofs.Ytfbelnjchpffeaa
namespace Ev
open Tag (mk)
open Go.RowKit (Below)

/-! ## What a value of a type is -/
mutual
inductive Is (P : Program) (H : Heap) : TypeId → List Value → Prop
  | bool {t : TypeId} (ht : P.underlying t = some .bool) (b : Bool) : Is P H t [.bool b]
  | int {t : TypeId} {k : IntKind} (ht : P.underlying t = some (.int k)) (n : Int) (hn : (Lit.int k n).wf = true) : Is P H t [.int k n]
  | string {t : TypeId} (ht : P.underlying t = some .string) (s : ByteArray) (hs : s.size ≤ maxLen) : Is P H t [.string s]
  | nil {t e : TypeId} (ht : P.underlying t = some (.slice e)) : Is P H t [.slice none 0 0]
  | row {t e : TypeId} (ht : P.underlying t = some (.slice e)) (i n : Nat) (rows : List (List Value)) (hr : IsAll P H (List.replicate n e) rows) (hn : n ≤ maxLen)
      (hc : 0 < n → ∃ T, H[i]? = some (.cells rows.flatten T false)) (hi : i < H.length) : Is P H t [.slice (some ⟨i, 0, none⟩) n (P.cellsOf e)]
  | struct {t : TypeId} {fs : Array Field} (ht : P.underlying t = some (.struct fs)) (parts : List (List Value)) (hp : IsAll P H (fs.toList.map (·.type)) parts) : Is P H t parts.flatten
inductive IsAll (P : Program) (H : Heap) : List TypeId → List (List Value) → Prop
  | nil : IsAll P H [] []
  | cons {t : TypeId} {ts : List TypeId} {cs : List Value} {l : List (List Value)} (h : Is P H t cs) (r : IsAll P H ts l) : IsAll P H (t :: ts) (cs :: l)
end

mutual
theorem Is.mono {P : Program} {H : Heap} (L : Heap) : ∀ {t : TypeId} {cs : List Value}, Is P H t cs → Is P (H ++ L) t cs
  | _, _, .bool ht b => .bool ht b
  | _, _, .int ht n hn => .int ht n hn
  | _, _, .string ht s hs => .string ht s hs
  | _, _, .nil ht => .nil ht
  | _, _, .row ht i n rows hr hn hc hi => .row ht i n rows (hr.mono L) hn (fun h => by
      obtain ⟨T, h⟩ := hc h
      exact ⟨T, by rw [happ_l hi]; exact h⟩) (by simp; omega)
  | _, _, .struct ht parts hp => .struct ht parts (hp.mono L)
theorem IsAll.mono {P : Program} {H : Heap} (L : Heap) : ∀ {ts : List TypeId} {l : List (List Value)}, IsAll P H ts l → IsAll P (H ++ L) ts l
  | _, _, .nil => .nil
  | _, _, .cons h r => .cons (h.mono L) (r.mono L)
end

/-! ## Laying them -/
def locsE (locs : List Loc) : Emb := fun i => locs[i]?
theorem locsE_le (a b : List Loc) : (locsE a).le (locsE (a ++ b)) := fun i l h => by
  unfold locsE at *
  rw [List.getElem?_append_left (List.getElem?_eq_some_iff.1 h).1]; exact h

structure Opn (G : Nat) (w : World) (ls : List Loc) (H : Heap) : Prop where
  rel : Rel G 0 (locsE ls) H w
  len : ls.length = H.length
  own : ∀ o ∈ H, o.own = false

theorem Opn.push {G : Nat} {w : World} {ls : List Loc} {H : Heap} (h : Opn G w ls H) {o : AObj} {l : Loc} (ho : o.own = false) (hO : ObjR 0 (locsE ls) o (some l) w) : Opn G w (ls ++ [l]) (H ++ [o]) where
  len := by simp [h.len]
  own := fun x hx => by
    rcases List.mem_append.1 hx with hx | hx
    · exact h.own x hx
    · simp at hx; subst hx; exact ho
  rel := by
    have hlen := h.len
    refine ⟨fun i hi => ?_, fun i x hx => ?_, fun i j x x' l l' _ h1 _ own => ?_, Nat.zero_le _, fun g hg => ?_⟩
    · unfold locsE; rw [List.getElem?_eq_none]; simp at hi ⊢; omega
    · rw [List.getElem?_append] at hx
      split at hx
      · rename_i hi
        have := h.rel.obj i x hx
        have e : locsE (ls ++ [l]) i = locsE ls i := by unfold locsE; rw [List.getElem?_append_left (by omega)]
        rw [e]
        exact this.mono (locsE_le _ _)
      · rename_i hi
        have hi0 : i - H.length = 0 := by
          rcases Nat.eq_zero_or_pos (i - H.length) with h' | h'
          · exact h'
          · rw [List.getElem?_eq_none (by simp; omega)] at hx; cases hx
        rw [hi0] at hx
        simp only [List.getElem?_cons_zero, Option.some.injEq] at hx
        subst hx
        have e : locsE (ls ++ [l]) i = some l := by
          unfold locsE; rw [List.getElem?_append_right (by omega), show i - ls.length = 0 by omega]; rfl
        rw [e]
        exact hO.mono (locsE_le _ _)
    · have := List.mem_of_getElem? h1
      rcases List.mem_append.1 this with hx | hx
      · rw [h.own x hx] at own; cases own
      · simp at hx; subst hx; rw [ho] at own; cases own
    · obtain ⟨l0, h1, h2, h3⟩ := h.rel.glob g hg
      exact ⟨l0, locsE_le _ _ _ _ h1, h2, h3⟩

/-- It can be laid behind whatever lies there. -/
def Opens (P : Program) (G : Nat) (w : World) (t : TypeId) (cs : List Value) : Prop :=
  ∀ ls H, Opn G w ls H → ∃ ls2 H2 cs', Opn G w (ls ++ ls2) (H ++ H2) ∧ VRs (locsE (ls ++ ls2)) cs' cs ∧ Is P (H ++ H2) t cs'

theorem VRs.append' {ρ : Emb} {a a' b b' : List Value} (h : VRs ρ a a') (k : VRs ρ b b') : VRs ρ (a ++ b) (a' ++ b') := h.append k

theorem opens_list {P : Program} {G : Nat} {w : World} : ∀ (L : List (TypeId × List Value)), (∀ p ∈ L, Opens P G w p.1 p.2) → ∀ ls H, Opn G w ls H →
    ∃ ls2 H2 parts, Opn G w (ls ++ ls2) (H ++ H2) ∧ VRs (locsE (ls ++ ls2)) parts.flatten (L.map (·.2)).flatten ∧ IsAll P (H ++ H2) (L.map (·.1)) parts
  | [], _, ls, H, h => ⟨[], [], [], by simpa using h, by simpa using VRs.nil, .nil⟩
  | p :: L, hp, ls, H, h => by
    obtain ⟨ls1, H1, cs', a1, a2, a3⟩ := hp p (List.mem_cons_self ..) ls H h
    obtain ⟨ls2, H2, parts, b1, b2, b3⟩ := opens_list L (fun q hq => hp q (List.mem_cons_of_mem _ hq)) _ _ a1
    refine ⟨ls1 ++ ls2, H1 ++ H2, cs' :: parts, by simpa [List.append_assoc] using b1, ?_, ?_⟩
    · simp only [List.flatten_cons, List.map_cons]
      rw [← List.append_assoc]
      exact (a2.mono (locsE_le _ _)).append b2
    · rw [← List.append_assoc]
      exact .cons (a3.mono _) b3

/-! ## The types that are simple -/
def fieldsAt (P : Program) : Nat → List Field → Nat → Bool
  | o, [], n => o == n
  | o, f :: l, n => f.offset == o && fieldsAt P (o + P.cellsOf f.type) l n
def simpleRow (P : Program) (S : List TypeId) (t : TypeId) : Bool :=
  match P.underlying t with
  | some .bool => true
  | some (.int _) => true
  | some .string => true
  | some (.slice e) => S.contains e && decide (0 < P.cellsOf e)
  | some (.struct fs) => fs.toList.all (fun f => S.contains f.type) && fieldsAt P 0 fs.toList (P.cellsOf t)
  | _ => false

theorem fieldsAt_cut (P : Program) (cs : List Value) : ∀ (fs : List Field) (o n : Nat), fieldsAt P o fs n = true → cs.length = n →
    (fs.map fun f => (cs.drop f.offset).take (P.cellsOf f.type)).flatten = cs.drop o
  | [], o, n, h, hl => by
    have : o = n := by simpa [fieldsAt] using h
    subst this; simp [← hl]
  | f :: fs, o, n, h, hl => by
    simp only [fieldsAt, Bool.and_eq_true, beq_iff_eq] at h
    obtain ⟨rfl, h⟩ := h
    have := fieldsAt_cut P cs fs _ n h hl
    simp only [List.map_cons, List.flatten_cons, this]
    rw [← List.drop_drop, List.take_append_drop]

section
variable {HH : Type} {enc : TypeId × Value → HH} {P : Program} {w : World} {G : Nat} {held : Bool}

theorem cells_row {a : Addr} {n : Nat} {cs : List Value} (h : w.cells? 0 a n = some cs) : cs.length = n ∧ ∀ i v, cs[i]? = some v → w.cell? (a.add i) = some v := by
  unfold World.cells? at h
  rw [if_pos (Nat.zero_le _)] at h
  exact ⟨by simpa using mapM_some_length h, fun i v hv => by
    have hi : i < n := by
      have := (List.getElem?_eq_some_iff.1 hv).1
      have := mapM_some_length h
      simp at this; omega
    have := mapM_some_get h i i (by simp [hi])
    rw [this]; exact hv⟩

theorem open_row (S : List TypeId) (hS : S.all (simpleRow P S) = true) : ∀ (fuel : Nat) (t : TypeId) (cs : List Value) (x : DataW HH × List MemPlace), S.contains t = true →
    DataW.trod enc P w 0 (fun _ => true) held fuel t cs = some x → Opens P G w t cs := by
  intro fuel
  induction fuel with
  | zero => intro t cs x _ h; simp [DataW.trod] at h
  | succ fuel ih =>
    intro t cs x htS h ls H hO
    have hrow := List.all_eq_true.1 hS t (by simpa using htS)
    unfold simpleRow at hrow
    split at hrow
    · rename_i ht
      obtain ⟨b, rfl, _⟩ := DataW.trod_bool ht h
      exact ⟨[], [], [.bool b], by simpa using hO, .cons (.bool b) .nil, .bool ht b⟩
    · rename_i k ht
      obtain ⟨n, rfl, _, hn⟩ := DataW.trod_int ht h
      exact ⟨[], [], [.int k n], by simpa using hO, .cons (.int k n) .nil, .int ht n hn⟩
    · rename_i ht
      obtain ⟨s, rfl, _, hs⟩ := DataW.trod_string ht h
      exact ⟨[], [], [.string s], by simpa using hO, .cons (.string s) .nil, .string ht s hs⟩
    · rename_i e ht
      simp only [Bool.and_eq_true, decide_eq_true_eq] at hrow
      obtain ⟨heS, hpos⟩ := hrow
      rcases DataW.trod_slice ht h with ⟨rfl, _⟩ | ⟨a, len, cap, elems, rest, n, hf, rfl, _, _, hlc, hcap, helen, hel, hre, _⟩
      · exact ⟨[], [], [.slice none 0 0], by simpa using hO, .cons .sliceNone .nil, .nil ht⟩
      · cases hf
        obtain ⟨hrl, hre⟩ := hre rfl
        obtain ⟨sz, hsz⟩ : ∃ sz, sz = P.cellsOf e := ⟨_, rfl⟩
        rw [← hsz] at hpos hel hre
        -- the rows
        have hrows : ∃ raw : List (List Value), raw.length = len ∧ ∀ i r, raw[i]? = some r → r.length = sz ∧ Opens P G w e r ∧ ∀ j v, r[j]? = some v → w.cell? ((a.add (i * sz)).add j) = some v := by
          have : ∀ m, m ≤ len → ∃ raw : List (List Value), raw.length = m ∧ ∀ i r, raw[i]? = some r → r.length = sz ∧ Opens P G w e r ∧ ∀ j v, r[j]? = some v → w.cell? ((a.add (i * sz)).add j) = some v := by
            intro m
            induction m with
            | zero => intro _; exact ⟨[], rfl, fun i r hr => by simp at hr⟩
            | succ m ihm =>
              intro hm
              obtain ⟨raw, r1, r2⟩ := ihm (by omega)
              have hx := hel m (by omega)
              rw [List.getElem?_eq_getElem (by omega)] at hx
              obtain ⟨r, hr, hrx⟩ := Option.bind_eq_some_iff.1 hx
              obtain ⟨q1, q2⟩ := cells_row hr
              refine ⟨raw ++ [r], by simp [r1], fun i r' hr' => ?_⟩
              rw [List.getElem?_append] at hr'
              split at hr'
              · exact r2 i r' hr'
              · rename_i hi
                have hi0 : i - raw.length = 0 := by
                  rcases Nat.eq_zero_or_pos (i - raw.length) with h' | h'
                  · exact h'
                  · rw [List.getElem?_eq_none (by simp; omega)] at hr'; cases hr'
                rw [hi0] at hr'
                simp only [List.getElem?_cons_zero, Option.some.injEq] at hr'
                subst hr'
                obtain rfl : i = m := by omega
                exact ⟨q1, ih e r _ heS hrx, q2⟩
          exact this len (Nat.le_refl _)
        obtain ⟨raw, hraw, hr⟩ := hrows
        rcases Nat.eq_zero_or_pos cap with hc0 | hcpos
        · have hl0 : len = 0 := by omega
          subst hl0; subst hc0
          refine ⟨[⟨0, 0, 0⟩], [.dead], [.slice (some ⟨H.length, 0, none⟩) 0 (P.cellsOf e)], hO.push rfl trivial, ?_, ?_⟩
          · exact .cons (.slice0 H.length 0 _ a ⟨0, 0, 0⟩ (by unfold locsE; rw [← hO.len]; simp)) .nil
          · exact .row ht H.length 0 [] .nil (Nat.zero_le _) (fun h => by omega) (by simp)
        · -- all cells of the room
          have hroom : ∀ i, i < cap → ∃ r, w.cells? 0 (a.add (i * sz)) sz = some r := by
            intro i hi
            rcases Nat.lt_or_ge i len with h' | h'
            · have hx := hel i h'
              rw [List.getElem?_eq_getElem (by omega)] at hx
              obtain ⟨r, hr, _⟩ := Option.bind_eq_some_iff.1 hx
              exact ⟨r, hr⟩
            · have hx := hre (i - len) (by omega)
              rw [List.getElem?_eq_getElem (by omega), show len + (i - len) = i by omega] at hx
              obtain ⟨r, hr, _⟩ := Option.bind_eq_some_iff.1 hx
              exact ⟨r, hr⟩
          have hspot : a.spot = none := by
            obtain ⟨r, hr⟩ := hroom 0 hcpos
            obtain ⟨q1, q2⟩ := cells_row hr
            have := q2 0 (r[0]'(by omega)) (List.getElem?_eq_getElem (by omega))
            simp only [Nat.zero_mul, Addr.add, if_true] at this
            unfold World.cell? at this
            split at this
            · split at this
              · cases this
              · rename_i h; simpa using h
            · cases this
          obtain ⟨b, off, spot⟩ := a
          simp only at hspot
          subst hspot
          have hblk : ∃ cur T fr, w.heap[b]? = some (.cells cur T fr) := by
            obtain ⟨r, hr⟩ := hroom 0 hcpos
            obtain ⟨q1, q2⟩ := cells_row hr
            have := q2 0 (r[0]'(by omega)) (List.getElem?_eq_getElem (by omega))
            simp only [Nat.zero_mul, Addr.add, if_true] at this
            unfold World.cell? at this
            split at this
            · rename_i c T fr hq; exact ⟨c, T, fr, hq⟩
            · cases this
          obtain ⟨cur, T, fr, hq⟩ := hblk
          have hend : off + cap * sz ≤ cur.size := by
            obtain ⟨r, hr⟩ := hroom (cap - 1) (by omega)
            obtain ⟨q1, q2⟩ := cells_row hr
            have := q2 (sz - 1) (r[sz - 1]'(by omega)) (List.getElem?_eq_getElem (by omega))
            rw [Addr_add, Addr_add, World_cell w _ _ cur T fr hq] at this
            have := (Array.getElem?_eq_some_iff.1 this).1
            have e1 : cap * sz = (cap - 1) * sz + sz := by rw [← Nat.succ_mul]; congr 1; omega
            omega
          obtain ⟨ls2, H2, parts, b1, b2, b3⟩ := opens_list (P := P) (G := G) (w := w) (raw.map fun r => (e, r)) (fun p hp => by
            obtain ⟨r, hr', rfl⟩ := List.mem_map.1 hp
            obtain ⟨i, hi, rfl⟩ := List.getElem_of_mem hr'
            exact (hr i _ (List.getElem?_eq_getElem hi)).2.1) ls H hO
          simp only [List.map_map, Function.comp_def, List.map_id'] at b2
          have hts : (raw.map fun r => (e, r)).map (·.1) = List.replicate len e := by
            rw [List.map_map]
            apply List.ext_getElem
            · simp [hraw]
            · intro i h1 h2; simp
          rw [hts] at b3
          -- the raw cells stand in the block
          have hflen : ∀ (l : List (List Value)), (∀ r ∈ l, r.length = sz) → l.flatten.length = l.length * sz := by
            intro l
            induction l with
            | nil => intro _; simp
            | cons r l ih => intro hh; simp only [List.flatten_cons, List.length_append, List.length_cons, ih fun r h => hh r (List.mem_cons_of_mem _ h), hh r (List.mem_cons_self ..)]; rw [Nat.add_mul]; omega
          have hall : ∀ r ∈ raw, r.length = sz := fun r hr' => by
            obtain ⟨i, hi, rfl⟩ := List.getElem_of_mem hr'
            exact (hr i _ (List.getElem?_eq_getElem hi)).1
          have hrl : raw.flatten.length = len * sz := by rw [hflen raw hall, hraw]
          have hstand : raw.flatten = (cur.toList.drop off).take (len * sz) := by
            have hcl : len * sz ≤ cap * sz := Nat.mul_le_mul_right _ hlc
            apply List.ext_getElem?
            intro j
            rcases Nat.lt_or_ge j (len * sz) with hj | hj
            · have hij : j / sz < len := Nat.div_lt_of_lt_mul (by rw [Nat.mul_comm]; exact hj)
              have hmj : j % sz < sz := Nat.mod_lt _ hpos
              have hget : ∀ (l : List (List Value)), (∀ r ∈ l, r.length = sz) → ∀ j, l.flatten[j]? = (l[j / sz]?).bind fun r => r[j % sz]? := by
                intro l
                induction l with
                | nil => intro _ j; simp
                | cons r l ihl =>
                  intro hh j
                  have hr0 := hh r (List.mem_cons_self ..)
                  simp only [List.flatten_cons, List.getElem?_append, hr0]
                  by_cases h' : j < sz
                  · rw [if_pos h', Nat.div_eq_of_lt h', Nat.mod_eq_of_lt h']; rfl
                  · rw [if_neg h', ihl (fun r h => hh r (List.mem_cons_of_mem _ h))]
                    have e2 : j / sz = (j - sz) / sz + 1 := by rw [Nat.div_eq_sub_div hpos (by omega)]
                    have e3 : j % sz = (j - sz) % sz := by rw [Nat.mod_eq_sub_mod (by omega)]
                    rw [e2, e3]; rfl
              rw [hget raw hall, List.getElem?_eq_getElem (by omega), Option.bind_some]
              have q := hr (j / sz) _ (List.getElem?_eq_getElem (by omega))
              have hlt : j % sz < (raw[j / sz]'(by omega)).length := by rw [q.1]; exact hmj
              have := q.2.2 (j % sz) _ (List.getElem?_eq_getElem hlt)
              rw [Addr_add, Addr_add, World_cell w _ _ cur T fr hq, Nat.add_assoc, Nat.mul_comm, Nat.div_add_mod] at this
              have e4 : cur.toList[off + j]? = cur[off + j]? := by simp
              rw [List.getElem?_take, if_pos hj, List.getElem?_drop, e4, this, List.getElem?_eq_getElem hlt]
            · rw [List.getElem?_eq_none (by omega), List.getElem?_eq_none (by simp; omega)]
          have hplen : parts.flatten.length = len * sz := by rw [b2.length, hrl]
          have hbig := hO.len
          have hcl : len * sz ≤ cap * sz := Nat.mul_le_mul_right _ hlc
          have hpush := b1.push (o := .cells parts.flatten (uT T) false) (l := ⟨b, off, off + cap * sz⟩) rfl ⟨_, cur, fr, rfl, by rw [wT_uT]; exact hq, by simp only [hplen]; omega, hend, by rw [hplen, ← hstand]; exact b2, fun h => by cases h⟩
          have hidx : (ls ++ ls2).length = (H ++ H2).length := b1.len
          refine ⟨ls2 ++ [⟨b, off, off + cap * sz⟩], H2 ++ [.cells parts.flatten (uT T) false], [.slice (some ⟨(H ++ H2).length, 0, none⟩) len (P.cellsOf e)], by rw [← List.append_assoc, ← List.append_assoc]; exact hpush, ?_, ?_⟩
          · refine .cons (.slice _ _ _ _ off cap ⟨b, off, off + cap * sz⟩ ?_ (fun _ => rfl) hlc (by rw [← hsz]; exact Nat.le_refl _)) .nil
            unfold locsE; rw [← List.append_assoc, ← hidx]; simp
          · rw [← List.append_assoc]
            exact .row ht _ len parts (b3.mono _) (by omega) (fun _ => ⟨uT T, get_last _ _⟩) (by simp)
    · rename_i fs ht
      simp only [Bool.and_eq_true] at hrow
      obtain ⟨hfS, hfa⟩ := hrow
      obtain ⟨xs, n, hf, _, hlen, hxl, hx⟩ := DataW.trod_struct ht h
      cases hf
      obtain ⟨ls2, H2, parts, b1, b2, b3⟩ := opens_list (P := P) (G := G) (w := w) (fs.toList.map fun f => (f.type, (cs.drop f.offset).take (P.cellsOf f.type))) (fun p hp => by
        obtain ⟨f, hf', rfl⟩ := List.mem_map.1 hp
        obtain ⟨i, hi, rfl⟩ := List.getElem_of_mem hf'
        have hi' : i < fs.size := by simpa using hi
        have := hx i fs[i] (Array.getElem?_eq_getElem hi')
        rw [List.getElem?_eq_getElem (by omega)] at this
        exact ih _ _ _ (by simpa using List.all_eq_true.1 hfS _ hf') this) ls H hO
      simp only [List.map_map, Function.comp_def] at b2 b3
      rw [fieldsAt_cut P cs fs.toList 0 _ hfa hlen, List.drop_zero] at b2
      exact ⟨ls2, H2, parts.flatten, b1, b2, .struct ht parts b3⟩
    · cases hrow

/-! ## Arguments -/
def isStruct (P : Program) (t : TypeId) : Bool := match P.underlying t with
  | some (.struct _) => true
  | _ => false
/-- A value by its cells. -/
inductive IsV (P : Program) (H : Heap) : TypeId → Value → Prop
  | agg {t : TypeId} {cs : List Value} (hs : isStruct P t = true) (h : Is P H t cs) : IsV P H t (.agg cs.toArray)
  | one {t : TypeId} {v : Value} (hs : isStruct P t = false) (h : Is P H t [v]) : IsV P H t v
inductive IsVs (P : Program) (H : Heap) : List TypeId → List Value → Prop
  | nil : IsVs P H [] []
  | cons {t : TypeId} {ts : List TypeId} {v : Value} {vs : List Value} (h : IsV P H t v) (r : IsVs P H ts vs) : IsVs P H (t :: ts) (v :: vs)
theorem IsV.mono {H : Heap} (L : Heap) {t : TypeId} {v : Value} (h : IsV P H t v) : IsV P (H ++ L) t v := by
  cases h with
  | agg hs h => exact .agg hs (h.mono L)
  | one hs h => exact .one hs (h.mono L)

open Go.ChangeShapes Go.WideShapes in
theorem open_args (S : List TypeId) (hS : S.all (simpleRow P S) = true) {base : Nat} : ∀ (ts : List TypeId) (vs : List Value) (ds : List (DataW HH)) (ps : List MemPlace), ts.all (fun t => S.contains t) = true →
    (∀ (j : Nat) t v, ts[j]? = some t → vs[j]? = some v → Value.okWide P w .any base t v) → DataW.TrodAll enc P w 0 (fun _ => true) true ts vs ds ps → ∀ ls H, Opn G w ls H →
    ∃ ls2 H2 vs', Opn G w (ls ++ ls2) (H ++ H2) ∧ VRs (locsE (ls ++ ls2)) vs' vs ∧ IsVs P (H ++ H2) ts vs'
  | [], vs, ds, ps, _, _, h, ls, H, hO => by
    obtain ⟨rfl, rfl, rfl⟩ := trodAll_nil h
    exact ⟨[], [], [], by simpa using hO, .nil, .nil⟩
  | t :: ts, vs, ds, ps, hts, hval, h, ls, H, hO => by
    obtain ⟨v, vs, d, ds, p, q, rfl, rfl, rfl, h0, h1⟩ := trodAll_cons h
    simp only [List.all_cons, Bool.and_eq_true] at hts
    obtain ⟨fuel, hf⟩ := h0
    obtain ⟨ls1, H1, cs', a1, a2, a3⟩ := open_row S hS fuel t _ _ hts.1 hf ls H hO
    have hv := hval 0 t v rfl rfl
    have hone : ∃ v', VR (locsE (ls ++ ls1)) v' v ∧ IsV P (H ++ H1) t v' := by
      have hrow := List.all_eq_true.1 hS t (by simpa using hts.1)
      unfold simpleRow at hrow
      have single : isStruct P t = false → v.cells.toList = [v] → ∃ v', VR (locsE (ls ++ ls1)) v' v ∧ IsV P (H ++ H1) t v' := fun hs e => by
        rw [e] at a2
        cases a2 with
        | cons hh tt => cases tt; exact ⟨_, hh, .one hs a3⟩
      split at hrow
      · rename_i ht
        obtain ⟨b, rfl⟩ := okWide_bool ht hv
        exact single (by simp [isStruct, ht]) rfl
      · rename_i k ht
        obtain ⟨b, rfl⟩ := okWide_int ht hv
        exact single (by simp [isStruct, ht]) rfl
      · rename_i ht
        obtain ⟨b, rfl⟩ := okWide_string ht hv
        exact single (by simp [isStruct, ht]) rfl
      · rename_i e ht
        obtain ⟨a, len, cap, rfl⟩ := okWide_slice ht hv
        exact single (by simp [isStruct, ht]) rfl
      · rename_i fs ht
        have : ∃ cs, v = .agg cs := by
          simp only [Value.okWide, ht] at hv
          obtain ⟨cs, rfl, _⟩ := hv
          exact ⟨cs, rfl⟩
        obtain ⟨cs, rfl⟩ := this
        refine ⟨.agg cs'.toArray, .mkAgg (by simpa [Value.cells] using a2), .agg (by simp [isStruct, ht]) a3⟩
      · cases hrow
    obtain ⟨v', c1, c2⟩ := hone
    obtain ⟨ls2, H2, vs', b1, b2, b3⟩ := open_args S hS ts vs ds q hts.2 (fun j t v ht hv => hval (j + 1) t v ht hv) h1 _ _ a1
    refine ⟨ls1 ++ ls2, H1 ++ H2, v' :: vs', by simpa [List.append_assoc] using b1, ?_, ?_⟩
    · rw [← List.append_assoc]; exact .cons (c1.mono (locsE_le _ _)) b2
    · rw [← List.append_assoc]; exact .cons (c2.mono _) b3
end

/-- What a call over such arguments answers, it answers in every world that has them. -/
theorem topOpn {C : Cf} (hC : C.Ok) {ls : List Loc} {H : Heap} {w : World} (hO : Opn C.G w ls H) {k f : Nat} {args args' : List Value} {v : Value} (ha : VRs (locsE ls) args args')
    (h : Run (fun v' _ => v' = v) Tag.mk (acall C k f args H ⟨H.length, 0⟩)) (hv : flat v = true) :
    Calls C.P f args'.toArray w fun e w' => e = .returned v ∧ Below w.heap.size w w' := by
  obtain ⟨H', h⟩ := Run_ex h
  obtain ⟨_, hc⟩ := acall_sound (B := 0) hC k f args H _ v H' h (Nat.zero_le _)
  refine (hc (locsE ls) w args' hO.rel ha).mono ?_
  rintro e w' ⟨v', ρ', rfl, r, hst⟩
  refine ⟨by rw [flat_eq hv r], ⟨hst.kp.os, hst.kp.tape, hst.kp.output, hst.kp.size, fun b hb => hst.kp.block b hb fun ⟨i, o, l, h1, h2, _⟩ => ?_⟩⟩
  have := (List.getElem?_eq_some_iff.1 h2).1
  simp at h1
  omega
theorem Opn.nil (w : World) : Opn 0 w [] [] where
  rel := ⟨fun i _ => by simp [locsE], fun i o h => by simp at h, fun i j o o' l l' _ h => by simp at h, Nat.zero_le _, fun g hg => by omega⟩
  len := rfl
  own := fun o h => by cases h

theorem trodAll_below {HH : Type} {enc : TypeId × Value → HH} {P : Program} (hl : laidOutB P = true) {W W' : World} (hb : Below W.heap.size W W') : ∀ (ts : List TypeId) (vs : List Value) (ds : List (DataW HH)) (ps : List MemPlace),
    ts.all (fun t => P.readableRec t && decide (t < P.types.size)) = true → DataW.TrodAll enc P W 0 (fun _ => true) true ts vs ds ps → (∀ x ∈ ps, x.block < W.heap.size) →
    DataW.TrodAll enc P W' 0 (fun b => decide (b < W.heap.size)) true ts vs ds ps
  | [], [], [], ps, _, h, _ => h
  | t :: ts, v :: vs, d :: ds, ps, ht, h, hlt => by
    simp only [List.all_cons, Bool.and_eq_true, decide_eq_true_eq] at ht
    obtain ⟨p, q, h1, h2, rfl⟩ := h
    exact ⟨p, q, Go.RowKit.Below.trod hl ht.1.1 ht.1.2 h1 hb (fun x hx => hlt x (List.mem_append_left _ hx)), trodAll_below hl hb ts vs ds q ht.2 h2 (fun x hx => hlt x (List.mem_append_right _ hx)), rfl⟩
  | [], _ :: _, _, _, _, h, _ => by cases h
  | [], [], _ :: _, _, _, h, _ => by cases h
  | _ :: _, [], _, _, _, h, _ => by cases h
  | _ :: _, _ :: _, [], _, _, h, _ => by cases h

theorem trodAll_dlen {HH : Type} {enc : TypeId × Value → HH} {P : Program} {w : World} {base : Nat} {sp : Nat → Bool} {held : Bool} : ∀ (ts : List TypeId) (vs : List Value) (ds : List (DataW HH)) (ps : List MemPlace), DataW.TrodAll enc P w base sp held ts vs ds ps → ds.length = ts.length
  | [], [], [], ps, h => rfl
  | t :: ts, v :: vs, d :: ds, ps, h => by
    obtain ⟨p, q, h1, h2, rfl⟩ := h
    simp [trodAll_dlen ts vs ds q h2]
  | [], _ :: _, _, _, h => by cases h
  | [], [], _ :: _, _, h => by cases h
  | _ :: _, [], _, _, h => by cases h
  | _ :: _, _ :: _, [], _, h => by cases h
theorem ds_cons {α : Type} {l : List α} {n : Nat} (h : l.length = n + 1) : ∃ d r, l = d :: r ∧ r.length = n := by
  cases l with
  | nil => cases h
  | cons d r => exact ⟨d, r, rfl, by simpa using h⟩
theorem ds_nil {α : Type} {l : List α} (h : l.length = 0) : l = [] := List.eq_nil_of_length_eq_zero h

/-- The call of a law, for its row. -/
theorem law_calls {HH : Type} {enc : TypeId × Value → HH} {C : Cf} (hC : C.Ok) (hG : C.G = 0) (hl : laidOutB C.P = true) {f : Nat} {ts : List TypeId} (S : List TypeId) (hS : S.all (simpleRow C.P S) = true) (hts : ts.all (fun t => S.contains t) = true)
    (hrd : ts.all (fun t => C.P.readableRec t && decide (t < C.P.types.size)) = true)
    (main : ∀ (H : Heap) (args : List Value), IsVs C.P H ts args → ∃ k, Run (fun v' _ => v' = .bool true) Tag.mk (acall C k f args H ⟨H.length, 0⟩))
    {W : World} {base : Nat} {args : Array Value} {ds : List (DataW HH)} {p : List MemPlace} (hval : ∀ (j : Nat) t v, ts[j]? = some t → args.toList[j]? = some v → Value.okWide C.P W .any base t v)
    (hA : DataW.TrodAll enc C.P W 0 (fun _ => true) true ts args.toList ds p) (hlt : ∀ x ∈ p, x.block < W.heap.size) :
    Calls C.P f args W fun e W' => e = .returned (.bool true) ∧ Below W.heap.size W W' ∧ DataW.TrodAll enc C.P W' 0 (fun b => decide (b < W.heap.size)) true ts args.toList ds p := by
  obtain ⟨ls2, H2, vs', b1, b2, b3⟩ := open_args (G := 0) S hS ts args.toList ds p hts hval hA [] [] (Opn.nil W)
  simp only [List.nil_append] at b1 b2 b3
  obtain ⟨k, hk⟩ := main H2 vs' b3
  have := topOpn hC (by rw [hG]; exact b1) b2 hk rfl
  rw [Array.toArray_toList] at this
  exact this.mono fun e W' ⟨h1, h2⟩ => ⟨h1, h2, trodAll_below hl h2 ts _ ds p hrd hA hlt⟩

/-! ## Arguments, read -/
section
variable {P : Program} {H : Heap}
theorem is_bool {t : TypeId} {cs : List Value} (ht : P.underlying t = some .bool) (h : Is P H t cs) : ∃ b, cs = [.bool b] := by
  cases h <;> rename_i h' <;> first | exact ⟨_, rfl⟩ | (rw [ht] at h'; cases h') | (exfalso; simp_all)
theorem is_int {t : TypeId} {k : IntKind} {cs : List Value} (ht : P.underlying t = some (.int k)) (h : Is P H t cs) : ∃ n, cs = [.int k n] ∧ (Lit.int k n).wf = true := by
  cases h with
  | int h' n hn => rw [ht] at h'; cases h'; exact ⟨n, rfl, hn⟩
  | _ => simp_all
theorem is_string {t : TypeId} {cs : List Value} (ht : P.underlying t = some .string) (h : Is P H t cs) : ∃ s, cs = [.string s] ∧ s.size ≤ maxLen := by
  cases h with
  | string h' s hs => exact ⟨s, rfl, hs⟩
  | _ => simp_all
theorem is_slice {t e : TypeId} {cs : List Value} (ht : P.underlying t = some (.slice e)) (h : Is P H t cs) : ∃ a n c rows, cs = [.slice a n c] ∧ n ≤ maxLen ∧ IsAll P H (List.replicate n e) rows ∧
    (a = none ∧ n = 0 ∧ c = 0 ∧ rows = [] ∨ ∃ i, a = some ⟨i, 0, none⟩ ∧ i < H.length ∧ c = P.cellsOf e ∧ (0 < n → ∃ T, H[i]? = some (.cells rows.flatten T false))) := by
  cases h with
  | nil h' => exact ⟨_, _, _, [], rfl, Nat.zero_le _, .nil, .inl ⟨rfl, rfl, rfl, rfl⟩⟩
  | row h' i n rows hr hn hc hi => rw [ht] at h'; cases h'; exact ⟨_, _, _, rows, rfl, hn, hr, .inr ⟨i, rfl, hi, rfl, hc⟩⟩
  | _ => simp_all
theorem is_struct {t : TypeId} {fs : Array Field} {cs : List Value} (ht : P.underlying t = some (.struct fs)) (h : Is P H t cs) : ∃ parts, cs = parts.flatten ∧ IsAll P H (fs.toList.map (·.type)) parts := by
  cases h with
  | struct h' parts hp => rw [ht] at h'; cases h'; exact ⟨parts, rfl, hp⟩
  | _ => simp_all
theorem all_cons' {t : TypeId} {ts : List TypeId} {l : List (List Value)} (h : IsAll P H (t :: ts) l) : ∃ cs r, l = cs :: r ∧ Is P H t cs ∧ IsAll P H ts r := by
  cases h with
  | cons h r => exact ⟨_, _, rfl, h, r⟩
theorem all_nil' {l : List (List Value)} (h : IsAll P H [] l) : l = [] := by cases h; rfl
theorem all_rows {α : Type} {e : TypeId} (enc : α → List Value) (p : α → Prop) (h : ∀ cs, Is P H e cs → ∃ x, cs = enc x ∧ p x) : ∀ (n : Nat) (rows : List (List Value)), IsAll P H (List.replicate n e) rows →
    ∃ xs : List α, xs.length = n ∧ rows = xs.map enc ∧ ∀ x ∈ xs, p x
  | 0, rows, hr => by rw [List.replicate_zero] at hr; rw [all_nil' hr]; exact ⟨[], rfl, rfl, fun x h => by cases h⟩
  | n + 1, rows, hr => by
    rw [List.replicate_succ] at hr
    obtain ⟨cs, r, rfl, h1, h2⟩ := all_cons' hr
    obtain ⟨x, rfl, hx⟩ := h cs h1
    obtain ⟨xs, q1, rfl, q3⟩ := all_rows enc p h n r h2
    exact ⟨x :: xs, by simp [q1], rfl, fun y hy => by
      rcases List.mem_cons.1 hy with rfl | hy
      · exact hx
      · exact q3 y hy⟩

theorem isv_one {t : TypeId} {v : Value} (hs : isStruct P t = false) (h : IsV P H t v) : Is P H t [v] := by
  cases h with
  | agg h' => rw [hs] at h'; cases h'
  | one _ h => exact h
theorem isv_bool {t : TypeId} {v : Value} (ht : P.underlying t = some .bool) (h : IsV P H t v) : ∃ b, v = .bool b := by
  obtain ⟨b, h⟩ := is_bool ht (isv_one (by simp [isStruct, ht]) h)
  exact ⟨b, by simpa using h⟩
theorem isv_int {t : TypeId} {k : IntKind} {v : Value} (ht : P.underlying t = some (.int k)) (h : IsV P H t v) : ∃ n, v = .int k n ∧ (Lit.int k n).wf = true := by
  obtain ⟨b, h, w⟩ := is_int ht (isv_one (by simp [isStruct, ht]) h)
  exact ⟨b, by simpa using h, w⟩
theorem isv_string {t : TypeId} {v : Value} (ht : P.underlying t = some .string) (h : IsV P H t v) : ∃ s, v = .string s ∧ s.size ≤ maxLen := by
  obtain ⟨b, h, w⟩ := is_string ht (isv_one (by simp [isStruct, ht]) h)
  exact ⟨b, by simpa using h, w⟩
theorem isv_struct {t : TypeId} {fs : Array Field} {v : Value} (ht : P.underlying t = some (.struct fs)) (h : IsV P H t v) : ∃ parts, v = .agg parts.flatten.toArray ∧ IsAll P H (fs.toList.map (·.type)) parts := by
  cases h with
  | agg _ h => obtain ⟨parts, rfl, hp⟩ := is_struct ht h; exact ⟨parts, rfl, hp⟩
  | one hs h => simp [isStruct, ht] at hs
/-- A slice of records: where they lie. -/
structure RowV (H : Heap) (v : Value) (n sz : Nat) (cells : List Value) : Prop where
  ex : ∃ a c, v = .slice a n c ∧ (0 < n → ∃ i T, a = some ⟨i, 0, none⟩ ∧ c = sz ∧ i < H.length ∧ H[i]? = some (.cells cells T false))
theorem isv_slice {α : Type} {t e : TypeId} {v : Value} (ht : P.underlying t = some (.slice e)) (enc : α → List Value) (p : α → Prop) (he : ∀ cs, Is P H e cs → ∃ x, cs = enc x ∧ p x) (h : IsV P H t v) :
    ∃ xs : List α, RowV H v xs.length (P.cellsOf e) (xs.map enc).flatten ∧ xs.length ≤ maxLen ∧ ∀ x ∈ xs, p x := by
  obtain ⟨a, n, c, rows, h1, h2, h3, h4⟩ := is_slice ht (isv_one (by simp [isStruct, ht]) h)
  obtain ⟨xs, q1, rfl, q3⟩ := all_rows enc p he n rows h3
  refine ⟨xs, ⟨a, c, ?_, fun hp => ?_⟩, by omega, q3⟩
  · rw [q1]; simpa using h1
  · rcases h4 with ⟨_, h0, _⟩ | ⟨i, rfl, hi, rfl, hh⟩
    · omega
    · obtain ⟨T, hT⟩ := hh (by omega)
      exact ⟨i, T, rfl, rfl, hi, hT⟩
theorem args_cons {t : TypeId} {ts : List TypeId} {vs : List Value} (h : IsVs P H (t :: ts) vs) : ∃ v r, vs = v :: r ∧ IsV P H t v ∧ IsVs P H ts r := by
  cases h with
  | cons h r => exact ⟨_, _, rfl, h, r⟩
theorem args_nil {vs : List Value} (h : IsVs P H [] vs) : vs = [] := by cases h; rfl
end
/-- A cell of a list of records. -/
theorem rec_get {α : Type} {enc : α → List Value} {sz : Nat} (hz : ∀ x, (enc x).length = sz) : ∀ (xs : List α) (k j : Nat), j < sz → (xs.map enc).flatten[k * sz + j]? = (xs[k]?).bind fun x => (enc x)[j]?
  | [], k, j, hj => by simp
  | x :: xs, 0, j, hj => by
    simp only [List.map_cons, List.flatten_cons, Nat.zero_mul, Nat.zero_add]
    rw [List.getElem?_append_left (by rw [hz]; exact hj)]; rfl
  | x :: xs, k + 1, j, hj => by
    simp only [List.map_cons, List.flatten_cons]
    rw [List.getElem?_append_right (by rw [hz, Nat.add_mul]; omega), hz, show (k + 1) * sz + j - sz = k * sz + j by rw [Nat.add_mul]; omega, rec_get hz xs k j hj]; rfl
theorem rec_len {α : Type} {enc : α → List Value} {sz : Nat} (hz : ∀ x, (enc x).length = sz) : ∀ (xs : List α), (xs.map enc).flatten.length = xs.length * sz
  | [] => by simp
  | x :: xs => by simp only [List.map_cons, List.flatten_cons, List.length_append, hz, rec_len hz xs, List.length_cons]; rw [Nat.add_mul]; omega
/-- A record, cut out of a list of records. -/
theorem rec_cut {α : Type} {enc : α → List Value} {sz : Nat} (hz : ∀ x, (enc x).length = sz) (xs : List α) (k : Nat) (hk : k < xs.length) : (((xs.map enc).flatten).drop (k * sz)).take sz = enc xs[k] := by
  apply List.ext_getElem?
  intro j
  rw [List.getElem?_take]
  split
  · rename_i hj
    rw [List.getElem?_drop, rec_get hz xs k j hj, List.getElem?_eq_getElem hk]; rfl
  · rename_i hj
    rw [List.getElem?_eq_none (by rw [hz]; omega)]
/-! ## Arguments that are plain -/
def scalar (P : Program) (t : TypeId) : Bool := match P.underlying t with
  | some .bool => true
  | some (.int _) => true
  | some .string => true
  | _ => false
theorem isv_scalar {P : Program} {H : Heap} {t : TypeId} {v : Value} (hs : scalar P t = true) (h : IsV P H t v) : IsV P [] t v ∧ flat v = true := by
  unfold scalar at hs
  split at hs
  · rename_i ht
    obtain ⟨b, rfl⟩ := isv_bool ht h
    exact ⟨.one (by simp [isStruct, ht]) (.bool ht b), rfl⟩
  · rename_i k ht
    obtain ⟨n, rfl, hn⟩ := isv_int ht h
    exact ⟨.one (by simp [isStruct, ht]) (.int ht n hn), rfl⟩
  · rename_i ht
    obtain ⟨s, rfl, hn⟩ := isv_string ht h
    exact ⟨.one (by simp [isStruct, ht]) (.string ht s hn), rfl⟩
  · cases hs
theorem isvs_scalar {P : Program} {H : Heap} : ∀ {ts : List TypeId} {vs : List Value}, ts.all (scalar P) = true → IsVs P H ts vs → IsVs P [] ts vs ∧ vs.all flat = true
  | [], vs, _, h => by rw [args_nil h]; exact ⟨.nil, rfl⟩
  | t :: ts, vs, hs, h => by
    obtain ⟨v, r, rfl, h1, h2⟩ := args_cons h
    simp only [List.all_cons, Bool.and_eq_true] at hs
    obtain ⟨a1, a2⟩ := isv_scalar hs.1 h1
    obtain ⟨b1, b2⟩ := isvs_scalar hs.2 h2
    exact ⟨.cons a1 b1, by simp [a2, b2]⟩
theorem law_flat {HH : Type} {enc : TypeId × Value → HH} {C : Cf} (hC : C.Ok) (hG : C.G = 0) (hl : laidOutB C.P = true) {f : Nat} {ts : List TypeId} (S : List TypeId) (hS : S.all (simpleRow C.P S) = true) (hts : ts.all (fun t => S.contains t) = true)
    (hrd : ts.all (fun t => C.P.readableRec t && decide (t < C.P.types.size)) = true) (hsc : ts.all (scalar C.P) = true)
    (main : ∀ (args : List Value), IsVs C.P [] ts args → ∃ k, Run (fun v' _ => v' = .bool true) Tag.mk (acall C k f args [] ⟨0, 0⟩))
    {W : World} {base : Nat} {args : Array Value} {ds : List (DataW HH)} {p : List MemPlace} (hval : ∀ (j : Nat) t v, ts[j]? = some t → args.toList[j]? = some v → Value.okWide C.P W .any base t v)
    (hA : DataW.TrodAll enc C.P W 0 (fun _ => true) true ts args.toList ds p) (hlt : ∀ x ∈ p, x.block < W.heap.size) :
    Calls C.P f args W fun e W' => e = .returned (.bool true) ∧ Below W.heap.size W W' ∧ DataW.TrodAll enc C.P W' 0 (fun b => decide (b < W.heap.size)) true ts args.toList ds p := by
  obtain ⟨ls2, H2, vs', b1, b2, b3⟩ := open_args (G := 0) S hS ts args.toList ds p hts hval hA [] [] (Opn.nil W)
  obtain ⟨c1, c2⟩ := isvs_scalar hsc b3
  have hvs : args.toList = vs' := b2.flat_eq c2
  obtain ⟨k, hk⟩ := main vs' c1
  have := Cf.Ok.spec hC hG hk rfl c2 W
  rw [← hvs, Array.toArray_toList] at this
  exact this.mono fun e W' ⟨h1, h2⟩ => ⟨h1, h2, trodAll_below hl h2 ts _ ds p hrd hA hlt⟩
end Ev
end Go.Proofs.Ytfbelnjchpffeaa
