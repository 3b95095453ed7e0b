/-
  The row of the law CompactPuts, and its card: it returns true at every input. No conditions.
-/
import Derived.Test.YtlcfanmmpfmnaaaDoorW3
import Derived.Test.YtlcfanmmpfmnaaaDoorRows
import Derived.Test.YtlcfanmmpfmnaaaDoorCards
import Derived.Test.YtlcfanmmpfmnaaaDoorTie
import Derived.WalkKit
import Derived.ProofKit
import Derived.OpenShut
import Derived.ShutString
import Derived.ChangeOld
import Derived.Below
import Derived.SizedLaws
import Derived.LaidLaws
import Derived.Handed
import Derived.SevenTiedAt
namespace Go.Proofs.YtlcfanmmpfmnaaaDoor
set_option linter.unusedVariables false
namespace compactPuts
open Go.ChangeShapes Go.WideShapes Go.ChangeAt Go.RowKit
theorem own : ownKnob Tryd.prog.godebug = none := by kernel_rfl
theorem glob0 : Tryd.prog.globalNamed "hatchway/compact.sizes" = some 0 := by kernel_rfl
/-- From 'laid' to the walk's fact: the variable's three cells. -/
theorem cells_of_laid {W : World} (h : laidMet Tryd.prog Go.Proofs.YtlcfanmmpfmnaaaDoor.Rows.compactPutsRow.laid W) : ∃ T fr, W.heap[0]? = some (.cells Ev.Cg.szs.toArray T fr) := by
  obtain ⟨ps, ⟨g, t, cs, fuel, p, q, hg, ht, hvar, hd, _, _⟩, _⟩ := h
  obtain rfl := Option.some.inj (glob0.symm.trans hg)
  obtain rfl : 52 = t := Option.some.inj ((show (Tryd.prog.globals[0]?).map (·.type) = some 52 by kernel_rfl).symm.trans ht)
  obtain ⟨xs, m, _, hx, hl, hn, hf⟩ := DataW.trod_array (n := 3) (e := 3) (show Tryd.prog.underlying 52 = _ by kernel_rfl) hd
  rw [show Tryd.prog.cellsOf 3 = 1 by kernel_rfl] at hf
  rw [show Tryd.prog.cellsOf 52 = 3 by kernel_rfl] at hl
  obtain ⟨x0, r0, rfl, hn0⟩ := Ev.ds_cons hn
  obtain ⟨x1, r1, rfl, hn1⟩ := Ev.ds_cons hn0
  obtain ⟨x2, r2, rfl, hn2⟩ := Ev.ds_cons hn1
  obtain rfl := Ev.ds_nil hn2
  obtain ⟨c0, k0, hcs, hl0⟩ := Ev.ds_cons hl
  obtain ⟨c1, k1, rfl, hl1⟩ := Ev.ds_cons hl0
  obtain ⟨c2, k2, rfl, hl2⟩ := Ev.ds_cons hl1
  obtain rfl := Ev.ds_nil hl2
  have f0 := hf 0 (by decide)
  have f1 := hf 1 (by decide)
  have f2 := hf 2 (by decide)
  rw [hcs] at f0 f1 f2
  obtain ⟨n0, e0, g0, _⟩ := DataW.trod_int (show Tryd.prog.underlying 3 = some (.int .i64) by kernel_rfl) f0
  obtain ⟨n1, e1, g1, _⟩ := DataW.trod_int (show Tryd.prog.underlying 3 = some (.int .i64) by kernel_rfl) f1
  obtain ⟨n2, e2, g2, _⟩ := DataW.trod_int (show Tryd.prog.underlying 3 = some (.int .i64) by kernel_rfl) f2
  have hx1 := (Prod.mk.inj hx).1
  simp [Go.Proofs.YtlcfanmmpfmnaaaDoor.Rows.laid_hatchway_compact_sizes, g0, g1, g2] at hx1 e0 e1 e2
  obtain ⟨rfl, rfl, rfl⟩ := hx1
  subst e0 e1 e2
  have hcs' : cs = Ev.Cg.szs.toArray := by
    obtain ⟨l⟩ := cs
    simp only at hcs
    rw [hcs]; rfl
  subst hcs'
  simp only [World.var?, glob0, Option.bind_some] at hvar
  split at hvar
  · rename_i c T fr hw
    cases hvar
    exact ⟨_, _, hw⟩
  · cases hvar
/-- A world in which the variable holds its cells. -/
noncomputable def laidWorld (os : Os) : World :=
  let w0 := World.holding Tryd.prog os ⟨#[], #[], []⟩
  { w0 with heap := w0.heap.modify 0 fun
      | .cells _ t frozen => .cells Ev.Cg.szs.toArray t frozen
      | o => o }
theorem laid_met (os : Os) (args : Array Value) : laidMet Tryd.prog Go.Proofs.YtlcfanmmpfmnaaaDoor.Rows.compactPutsRow.laid ((laidWorld os).forCall (fun _ _ => 0) ⟨#[], args, []⟩).memory :=
  laidMet_of_run (ps := [.cell 0 0, .cell 0 1, .cell 0 2]) 8 (by kernel_rfl) (by kernel_rfl) (by kernel_rfl)
theorem lifted (os : Os) (started : os.Started) (H : Type) (enc : TypeId × Value → H) :
    ReturnsInHanded {} Tryd.checked os 5 .any (fun w args => (Go.Proofs.YtlcfanmmpfmnaaaDoor.Rows.compactPutsSpec.pre enc Tryd.prog Tryd.f5 Go.Proofs.YtlcfanmmpfmnaaaDoor.Rows.compactPutsRow.domain false w args ∧ laidMet Tryd.prog Go.Proofs.YtlcfanmmpfmnaaaDoor.Rows.compactPutsRow.laid w) ∧ sizedMet enc Tryd.prog Tryd.f5 (OpenSpec.ofChange Go.Proofs.YtlcfanmmpfmnaaaDoor.Rows.compactPutsSpec) false w args)
      (Go.Proofs.YtlcfanmmpfmnaaaDoor.Rows.compactPutsSpec.post enc Tryd.prog Tryd.f5 false true false false) := by
  refine returnsInHanded_of_change_and (C := Tryd.checked) (X := fun w _ => laidMet Tryd.prog Go.Proofs.YtlcfanmmpfmnaaaDoor.Rows.compactPutsRow.laid w) (fun _ _ _ hh h => h.of_heap hh) own started (by kernel_rfl) Tryd.func5
    (ChangeSpec.witness_at (enc := enc) (C := Tryd.checked) (os := os) (X := fun w _ => laidMet Tryd.prog Go.Proofs.YtlcfanmmpfmnaaaDoor.Rows.compactPutsRow.laid w) false (laidWorld os) #[.int .u64 0, .string ByteArray.empty] 8 rfl (by kernel_rfl) (by kernel_rfl) (by kernel_rfl) (by kernel_rfl) (by kernel_rfl) (laid_met os _)) ?_
  intro W base args ds gs before hval0 hW hcnd0 _ hL _
  have hW' := hW
  obtain ⟨p, q, hA0, hV, rfl, hfz, hnd⟩ := hW
  have hA : DataW.TrodAll enc Tryd.prog W 0 (fun _ => true) true Tryd.f5.params.toList args.toList ds p := hA0
  have hlt : ∀ x ∈ p, x.block < W.heap.size := fun x hx => hW'.lt x (List.mem_append_left _ hx)
  obtain ⟨rfl, rfl⟩ := trodVars_none hV
  obtain ⟨T, fr, hw⟩ := cells_of_laid hL
  have hg : ∀ (g : Nat) (cs : List Value) (T' : TypeId), ([some (Ev.Cg.szs, T)] : List (Option (List Value × TypeId)))[g]? = some (some (cs, T')) → cs.all Ev.flat = true ∧ ∃ fr, W.heap[g]? = some (.cells cs.toArray T' fr) := fun g cs T' h => by
    cases g with
    | zero =>
      simp only [List.getElem?_cons_zero, Option.some.injEq, Prod.mk.injEq] at h
      obtain ⟨rfl, rfl⟩ := h
      exact ⟨rfl, fr, hw⟩
    | succ g => simp at h
  have key := Ev.law_flat_g (C := Ev.Cg.D1) (f := 5) Ev.Cg.D1_ok [some (Ev.Cg.szs, T)] rfl (by kernel_rfl) [37, 9] (by kernel_rfl) (by kernel_rfl) (by kernel_rfl) (by kernel_rfl) (Ev.Cg.main_CompactPuts T) hg (fun j t v ht hv => hval0 j t v (by simpa using ht) (by simpa using hv)) hA hlt
  have hd0 := Ev.trodAll_dlen _ _ _ _ hA
  obtain ⟨d0, e0, rfl, hd1⟩ := Ev.ds_cons hd0
  obtain ⟨d1, e1, rfl, hd2⟩ := Ev.ds_cons hd1
  obtain rfl := Ev.ds_nil hd2
  refine key.mono fun e W' ⟨he, bel, hback⟩ => ?_
  subst he
  exact ⟨_, rfl, _, _, _, [], _, [], hW', trodAll_mk1 (shut_bool Tryd.underlying4 _), hback, rfl, bel.frame _, fun h => by cases h⟩
theorem over : Go.Proofs.YtlcfanmmpfmnaaaDoor.Rows.CompactPutsSaid :=
  OpenClaim.holds_of_wide 5 Tryd.f5 rfl rfl rfl rfl rfl rfl rfl ⟨rfl, rfl, rfl, rfl, rfl⟩ rfl rfl rfl rfl rfl (by kernel_rfl) Tryd.func5 (by kernel_rfl)
    (of_decide_eq_true (by kernel_rfl)) (by unfold Func.isWrapper; first | (rw [if_pos (by decide +kernel)]; kernel_rfl) | (rw [if_neg (by decide +kernel)]; exact ⟨rfl, rfl⟩))
    (fun os started H enc _ => lifted os started H enc)
end compactPuts
/-- The card. -/
theorem compactPutsCard_holds : Go.Proofs.YtlcfanmmpfmnaaaDoor.Rows.CompactPutsCardSaid :=
  Claim7.holds_tied_plain_at .later [] [.data] true (true, "2155fee73b12f18672eb4c8d2e233629b8c73fbcac08639ab1babfa384ccd3a5") false
    compactPuts.over (fun _ h => by cases h) (by kernel_rfl) (fun _ h => by cases h) Go.Proofs.YtlcfanmmpfmnaaaDoor.compactPuts_row_tie rfl ⟨rfl, rfl⟩ (by kernel_rfl) rfl
    (fun f fn hf hfn => by
      obtain rfl : f = 5 := Option.some.inj ((show Tryd.prog.funcNamed "hatchway/hatchwaylaw04.CompactPuts" = some 5 by kernel_rfl).symm.trans hf) |>.symm
      obtain rfl : fn = Tryd.f5 := (Option.some.inj (Tryd.func5.symm.trans hfn)).symm
      exact ⟨by kernel_rfl, fun j t ht => by
        rw [Tryd.params5] at ht
        match j, ht with
        | 0, ht =>
          obtain rfl : t = 37 := by simpa using ht.symm
          exact (show Tryd.prog.wantsStandIn 37 = false by kernel_rfl)
        | 1, ht =>
          obtain rfl : t = 9 := by simpa using ht.symm
          exact (show Tryd.prog.wantsStandIn 9 = false by kernel_rfl)
        | j + 2, ht => simp at ht⟩)
    (by kernel_rfl)
end Go.Proofs.YtlcfanmmpfmnaaaDoor
