/-
  Laws whose program reads package variables: these lie ahead of all else in the heap of numbered things.
-/
import Derived.Test.YtlcfanmmpfmnaaaDoorEvV
import Derived.LaidLaws
namespace Go.Proofs.YtlcfanmmpfmnaaaDoor
namespace Ev
open Tag (mk)
open Go.RowKit (Below)
def gobj : Option (List Value × TypeId) → AObj
  | some (cs, T) => .cells cs (uT T) false
  | none => .dead
def gloc (g : Nat) (x : Option (List Value × TypeId)) : Loc := ⟨g, 0, match x with | some (cs, _) => cs.length | none => 0⟩
theorem opn_globals {w : World} (gs : List (Option (List Value × TypeId)))
    (h : ∀ (g : Nat) (cs : List Value) (T : TypeId), gs[g]? = some (some (cs, T)) → cs.all flat = true ∧ ∃ fr, w.heap[g]? = some (.cells cs.toArray T fr)) :
    Opn gs.length w (gs.mapIdx gloc) (gs.map gobj) where
  len := by simp
  own := fun o ho => by
    obtain ⟨x, _, rfl⟩ := List.mem_map.1 ho
    cases x <;> rfl
  rel := by
    refine ⟨fun i hi => ?_, fun i x hx => ?_, fun i j x x' l l' _ h1 _ own => ?_, Nat.zero_le _, fun g hg => ?_⟩
    · unfold locsE; rw [List.getElem?_eq_none]; simpa using hi
    · rw [List.getElem?_map] at hx
      obtain ⟨y, hy, rfl⟩ := Option.map_eq_some_iff.1 hx
      cases y with
      | none => trivial
      | some p =>
        obtain ⟨cs, T⟩ := p
        obtain ⟨hf, fr, hw⟩ := h i cs T hy
        refine ⟨⟨i, 0, cs.length⟩, cs.toArray, fr, ?_, by rw [wT_uT]; exact hw, by simp, by simp, ?_, fun e => by cases e⟩
        · unfold locsE; rw [List.getElem?_mapIdx, hy]; rfl
        · simp only [List.drop_zero, List.take_length]; exact VRs.flat_refl hf
    · rw [List.getElem?_map] at h1
      obtain ⟨y, hy, rfl⟩ := Option.map_eq_some_iff.1 h1
      cases y <;> cases own
    · refine ⟨gloc g (gs[g]'hg), ?_, rfl, rfl⟩
      unfold locsE; rw [List.getElem?_mapIdx, List.getElem?_eq_getElem hg]; rfl

/-- The call of a law with plain arguments, its package variables as listed. -/
theorem law_flat_g {HH : Type} {enc : TypeId × Value → HH} {C : Cf} (hC : C.Ok) (gs : List (Option (List Value × TypeId))) (hG : C.G = gs.length) (hl : laidOutB C.P = true) {f : Nat} {ts : List TypeId} (S : List TypeId) (hS : S.all (simpleRow C.P S) = true) (hts : ts.all (fun t => S.contains t) = true)
    (hrd : ts.all (fun t => C.P.readableRec t && decide (t < C.P.types.size)) = true) (hsc : ts.all (scalar C.P) = true)
    (main : ∀ (args : List Value), IsVs C.P [] ts args → ∃ k, Run (fun v' _ => v' = .bool true) Tag.mk (acall C k f args (gs.map gobj) ⟨gs.length, 0⟩))
    {W : World} {base : Nat} {args : Array Value} {ds : List (DataW HH)} {p : List MemPlace}
    (hg : ∀ (g : Nat) (cs : List Value) (T : TypeId), gs[g]? = some (some (cs, T)) → cs.all flat = true ∧ ∃ fr, W.heap[g]? = some (.cells cs.toArray T fr))
    (hval : ∀ (j : Nat) t v, ts[j]? = some t → args.toList[j]? = some v → Value.okWide C.P W .any base t v)
    (hA : DataW.TrodAll enc C.P W 0 (fun _ => true) true ts args.toList ds p) (hlt : ∀ x ∈ p, x.block < W.heap.size) :
    Calls C.P f args W fun e W' => e = .returned (.bool true) ∧ Below W.heap.size W W' ∧ DataW.TrodAll enc C.P W' 0 (fun b => decide (b < W.heap.size)) true ts args.toList ds p := by
  obtain ⟨ls2, H2, vs', b1, b2, b3⟩ := open_args (G := 0) S hS ts args.toList ds p hts hval hA [] [] (Opn.nil W)
  obtain ⟨c1, c2⟩ := isvs_scalar hsc b3
  have hvs : args.toList = vs' := b2.flat_eq c2
  obtain ⟨k, hk⟩ := main vs' c1
  have hO := opn_globals gs hg
  rw [← hG] at hO
  have := topOpn hC hO (args := vs') (args' := vs') (VRs.flat_refl c2) (k := k) (f := f) (by simpa using hk) rfl
  rw [← hvs, Array.toArray_toList] at this
  exact this.mono fun e W' ⟨h1, h2⟩ => ⟨h1, h2, trodAll_below hl h2 ts _ ds p hrd hA hlt⟩

end Ev
end Go.Proofs.YtlcfanmmpfmnaaaDoor
