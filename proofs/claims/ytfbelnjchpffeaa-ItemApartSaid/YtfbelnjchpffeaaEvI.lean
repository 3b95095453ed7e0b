/-
  Conversions, lengths, greatest and least, and append.
-/
import Derived.Test.YtfbelnjchpffeaaEvH
namespace Go.Proofs.Ytfbelnjchpffeaa
namespace Ev
section
variable {P : Program} {G B : Nat} {m : Mode} {ρ : Emb} {H : Heap} {w : World}

theorem s_s2b {s d e : TypeId} {b : ByteArray} {x' : Value} (hr : Rel G B ρ H w) (hs : P.underlying s = some .string) (hd : P.underlying d = some (.slice e)) (he : P.underlying e = some (.int .u8)) (hbe : e < BIG)
    (hx : VR ρ (.string b) x') : DoesV P G B m ρ H w (convert s d x') (.slice (some ⟨H.length, 0, none⟩) b.size 1) (H ++ [.cells (bytesL b) e true]) := by
  cases hx
  have hsz : (Lib.bytesCells w e b).size = b.size + (grownCap w b.size 0 e - b.size) := by simp [Lib.bytesCells]
  have hge : b.size ≤ grownCap w b.size 0 e := grownCap_ge w b.size 0 e
  refine ⟨_, Lib.bytesWorld w e b, ρ.put H.length ⟨w.heap.size, 0, (Lib.bytesCells w e b).size⟩, Lib.run_convert_string_bytes w s d e b hs hd he, ?_, ?_⟩
  · refine .slice _ _ _ _ _ _ ⟨w.heap.size, 0, (Lib.bytesCells w e b).size⟩ (by simp [Emb.put]) (fun _ => rfl) hge ?_
    simp; omega
  · refine .row (T' := e) (cur := Lib.bytesCells w e b) (fr := ((Lib.bytesCells w e b).size, (Lib.bytesCells w e b).size + 1)) hr ?_ rfl rfl rfl ?_ ?_ ?_ ?_
    · apply Array.ext_getElem?
      intro j
      rw [Array.getElem?_push]
      by_cases h : j < w.heap.size
      · rw [Lib.bytesWorld_at_old w e b j h, if_neg (by omega)]
      · by_cases h2 : j = w.heap.size
        · subst h2; rw [Lib.bytesWorld_at_new, if_pos rfl]
        · rw [if_neg h2, Array.getElem?_eq_none (by rw [Lib.bytesWorld_size]; omega), Array.getElem?_eq_none (by omega)]
    · have : (Lib.bytesCells w e b).toList.take (bytesL b).length = bytesL b := by
        simp [Lib.bytesCells, bytesL]
      rw [this]
      refine .flat_refl ?_
      simp only [bytesL, List.all_map, List.all_eq_true]
      intro b _
      rfl
    · rw [hsz]; simp [bytesL]
    · intro k hk; simp; omega
    · exact wT_lt hbe

theorem allBytes_spec : ∀ {l : List Value} {bs : List UInt8}, allBytes l = some bs → ∃ ns : List Int, l = ns.map (Value.int .u8) ∧ bs = ns.map fun n => UInt8.ofNat n.toNat
  | [], _, h => by cases h; exact ⟨[], rfl, rfl⟩
  | v :: l, bs, h => by
    simp only [allBytes, Option.bind_eq_some_iff, Option.map_eq_some_iff] at h
    obtain ⟨b, hb, t, ht, rfl⟩ := h
    obtain ⟨ns, rfl, rfl⟩ := allBytes_spec ht
    unfold byteOf at hb
    split at hb
    · rename_i n
      cases hb
      exact ⟨n :: ns, rfl, rfl⟩
    · cases hb

/-- A slice's cells. -/
theorem row_run {sz : Nat} {y y' : Value} {news : List Value} {a : Option Addr} {k c : Nat} (hr : Rel G B ρ H w) (hy : VR ρ y y') (h : rowOf sz H y = some news) (he : y' = .slice a k c) :
    ∃ vs, VRs ρ news vs ∧ vs.length = k * sz ∧ (a = none → k = 0 ∧ vs = []) ∧ (∀ b, a = some b → ∀ j v, vs[j]? = some v → w.cell? (b.add j) = some v) := by
  subst he
  cases hy with
  | sliceNone =>
    simp [rowOf] at h; subst h
    exact ⟨[], .nil, by simp, fun _ => ⟨rfl, rfl⟩, fun b hb => by cases hb⟩
  | slice i off n cc o' c' l hl ho hn ht =>
    simp only [rowOf, Option.bind_eq_some_iff] at h
    obtain ⟨cs, hc, h⟩ := h
    split at h
    · rename_i hle
      cases h
      obtain ⟨vs, h1, h2, h3⟩ := hr.row hc hle hl
      refine ⟨vs, h1, h2, (fun e => by cases e), fun b hb j v hv => ?_⟩
      cases hb
      rw [Addr_add]
      have hpos : 0 < k := by
        rcases Nat.eq_zero_or_pos k with h | h
        · have : vs = [] := List.eq_nil_of_length_eq_zero (by rw [h2, h]; simp)
          rw [this] at hv; simp at hv
        · exact h
      rw [ho hpos]
      exact h3 j v hv
    · cases h
  | slice0 i off cc b l hl =>
    simp only [rowOf, Option.bind_eq_some_iff] at h
    obtain ⟨cs, hc, h⟩ := h
    split at h
    · cases h
      exact ⟨[], by simpa using VRs.nil, by simp, (fun e => by cases e), fun b hb j v hv => by simp at hv⟩
    · cases h

theorem s_b2s {s d e : TypeId} {x x' : Value} {l : List Value} {bs : List UInt8} (hr : Rel G B ρ H w) (hs : P.underlying s = some (.slice e)) (hd : P.underlying d = some .string) (he : P.underlying e = some (.int .u8))
    (hx : VR ρ x x') (h : rowOf 1 H x = some l) (hb : allBytes l = some bs) : DoesV P G B m ρ H w (convert s d x') (.string ⟨bs.toArray⟩) H := by
  obtain ⟨ns, rfl, rfl⟩ := allBytes_spec hb
  have hsl : ∃ a k c, x' = .slice a k c := by cases hx <;> first | exact ⟨_, _, _, rfl⟩ | (simp [rowOf] at h)
  obtain ⟨a, k, c, rfl⟩ := hsl
  obtain ⟨vs, h1, h2, h3, h4⟩ := row_run hr hx h rfl
  have hv : vs = ns.map (Value.int .u8) := h1.flat_eq (by simp [flat, flatN])
  subst hv
  have key : ((convert s d (.slice a k c)).run P w) = .ok (.string ⟨(ns.map fun n => UInt8.ofNat n.toNat).toArray⟩) w := by
    cases a with
    | none =>
      obtain ⟨rfl, hn⟩ := h3 rfl
      have : ns = [] := by simpa using hn
      subst this
      simp [convert, run_underlying hs, run_underlying hd, run_underlying he, Conv.bytesToString]
      rfl
    | some b =>
      have hk : k = ns.length := by simpa using h2.symm
      subst hk
      have hload : (loadCells b ns.length).run P w = .ok (ns.map (Value.int .u8)).toArray w := by
        have := run_loadCells_list (P := P) w b (ns.map (Value.int .u8)) (fun j v hv => h4 b rfl j v hv)
        simpa using this
      have := run_bytesToString (P := P) w b ns.length c ns hload
      have hfold : ∀ (l : List Int) (acc : ByteArray), List.foldl (fun r n => r.push (UInt8.ofNat n.toNat)) acc l = ⟨acc.data ++ (l.map fun n => UInt8.ofNat n.toNat).toArray⟩ := by
        intro l
        induction l with
        | nil => intro acc; simp
        | cons n l ih => intro acc; simp only [List.foldl_cons, ih]; congr 1; apply Array.ext'; simp [ByteArray.push]
      rw [hfold] at this
      simp [convert, run_underlying hs, run_underlying hd, run_underlying he, this]
  exact .pure hr key (.string _)

theorem s_len0 {ts : Array TypeId} {t ty : TypeId} {s : ByteArray} {x' : Value} (hr : Rel G B ρ H w) (h0 : ts[0]? = some t) (ht : P.underlying t = some .string) (hx : VR ρ (.string s) x') :
    DoesV P G B m ρ H w (Builtin.len_ ts ty #[x']) (.int .i64 (s.size : Int)) H := by
  cases hx
  exact .pure hr (by simp [Builtin.len_, h0, run_underlying ht, goInt]) (.int _ _)
theorem s_len1 {ts : Array TypeId} {t ty e : TypeId} {a : Option Addr} {n c : Nat} {x' : Value} (hr : Rel G B ρ H w) (h0 : ts[0]? = some t) (ht : P.underlying t = some (.slice e)) (hx : VR ρ (.slice a n c) x') :
    DoesV P G B m ρ H w (Builtin.len_ ts ty #[x']) (.int .i64 (n : Int)) H := by
  cases hx <;> exact .pure hr (by simp [Builtin.len_, h0, run_underlying ht, goInt]) (.int _ _)
theorem s_len2n {ts : Array TypeId} {t ty k e : TypeId} {x' : Value} (hr : Rel G B ρ H w) (h0 : ts[0]? = some t) (ht : P.underlying t = some (.map k e)) (hx : VR ρ (.map none) x') :
    DoesV P G B m ρ H w (Builtin.len_ ts ty #[x']) (.int .i64 0) H := by
  cases hx
  exact .pure hr (by simp [Builtin.len_, h0, run_underlying ht, goInt]) (.int _ _)
theorem ER.length {a : List (Value × Value)} {b : List MapEntry} (h : ER ρ a b) : a.length = b.length := by
  induction h with
  | nil => rfl
  | cons _ _ _ ih => simp [ih]
theorem run_getMap {r : Nat} {ents : Array MapEntry} {clock : Nat} (h : w.heap[r]? = some (.map ents clock)) : (getObj r).run P w = .ok (.map ents clock) w := by
  simp [getObj, Sem.run, h]
theorem s_len2 {ts : Array TypeId} {t ty k e : TypeId} {i : Nat} {es : List (Value × Value)} {own : Bool} {x' : Value} (hr : Rel G B ρ H w) (h0 : ts[0]? = some t) (ht : P.underlying t = some (.map k e))
    (hx : VR ρ (.map (some i)) x') (hi : H[i]? = some (.map es own)) :
    DoesV P G B m ρ H w (Builtin.len_ ts ty #[x']) (.int .i64 (es.length : Int)) H := by
  cases hx with
  | map _ l hl =>
    obtain ⟨loc, ents, clock, e1, h2, h3, _⟩ := hr.obj i _ hi
    rw [hl] at e1; cases e1
    have hlen := h3.length
    simp at hlen
    exact .pure hr (v' := .int .i64 (es.length : Int)) (by simp [Builtin.len_, h0, run_underlying ht, goInt, run_getMap h2, hlen]) (.int _ _)

theorem mm_run {mx : Bool} {xs xs' : List Value} (ht : VRs ρ xs xs') : ∀ {x x' v : Value}, VR ρ x x' → aMax mx x xs = some v →
    ∃ v', ((xs'.foldlM (if mx then Builtin.max2 else Builtin.min2) x' : Sem Value).run P w) = .ok v' w ∧ VR ρ v v' := by
  induction ht with
  | nil => intro x x' v hx h; simp [aMax] at h; subst h; exact ⟨x', by simp, hx⟩
  | cons hy _ ih =>
    intro x x' v hx h
    unfold aMax at h
    split at h
    · rename_i heq; cases heq
    · rename_i k a k' b l heq
      cases heq
      cases hx; cases hy
      obtain ⟨v', h1, h2⟩ := ih (.int k (if mx then (if a < b then b else a) else (if b < a then b else a))) h
      refine ⟨v', ?_, h2⟩
      cases mx <;> simp [Builtin.max2, Builtin.min2] at h1 ⊢ <;> exact h1
    · cases h

end
end Ev
end Go.Proofs.Ytfbelnjchpffeaa
