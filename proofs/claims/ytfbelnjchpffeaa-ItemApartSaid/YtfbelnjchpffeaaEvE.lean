/-
  The operations that leave the heap as it is.
-/
import Derived.Test.YtfbelnjchpffeaaEvD
namespace Go.Proofs.Ytfbelnjchpffeaa
namespace Ev
section
variable {P : Program} {G B : Nat} {m : Mode} {ρ : Emb} {H : Heap} {w : World}

theorem ba_inj {a b : ByteArray} (h : a.data.toList = b.data.toList) : a = b := by
  obtain ⟨⟨x⟩⟩ := a
  obtain ⟨⟨y⟩⟩ := b
  simp at h
  rw [h]

theorem toList_beq {a b : ByteArray} : (a.toList == b.toList) = decide (a = b) := by
  by_cases h : a = b
  · simp [h]
  · have : a.toList ≠ b.toList := fun e => h (by
      rw [ByteArray.toList_eq, ByteArray.toList_eq] at e
      exact ba_inj e)
    simp [h, this]

theorem s_str {op : BinOp} {a b : ByteArray} {v : Value} (h : aStr op a b = some v) (w : World) : (Op.stringOp op a b).run P w = .ok v w ∧ VR ρ v v := by
  cases op <;> simp only [aStr] at h
  case add =>
    split at h
    · rename_i hle
      cases h
      have : ¬ (((a.size + b.size : Nat) : Int) > IntKind.i64.max) := by
        have hm : IntKind.i64.max = 9223372036854775807 := rfl
        rw [hm]; omega
      refine ⟨?_, .string _⟩
      simp only [Op.stringOp]
      rw [if_neg this]; rfl
    · cases h
  all_goals first
    | (cases h; done)
    | (cases h; refine ⟨?_, .bool _⟩; simp only [Op.stringOp, toList_beq]; rfl)

theorem s_int {op : BinOp} {t : TypeId} {X Y : Operand} {k : IntKind} {a b : Int} {v : Value} (h : aInt op k a b = some v) (w : World) :
    (do eqGuard op t X Y (.int k a) (.int k b); binOp op t (.int k a) (.int k b) : Sem Value).run P w = .ok v w ∧ VR ρ v v := by
  cases op <;> simp only [aInt] at h
  case quo =>
    split at h
    · cases h
    · rename_i h0; cases h; exact ⟨by simp [eqGuard, binOp, Op.intDiv, h0], .int _ _⟩
  case rem =>
    split at h
    · cases h
    · rename_i h0; cases h; exact ⟨by simp [eqGuard, binOp, Op.intDiv, h0], .int _ _⟩
  all_goals first
    | (cases h; refine ⟨?_, by first | exact .int _ _ | exact .bool _⟩; simp [eqGuard, binOp, Op.intArith, Op.intBits, Op.intCmp]; done)
    | cases h

theorem s_bin {op : BinOp} {t : TypeId} {X Y : Operand} {x y x' y' v : Value} (hr : Rel G B ρ H w) (hx : VR ρ x x') (hy : VR ρ y y') (h : aBin op x y = some v) :
    DoesV P G B m ρ H w (do eqGuard op t X Y x' y'; binOp op t x' y') v H := by
  unfold aBin at h
  split at h
  · rename_i k a k' b
    cases hx; cases hy
    split at h
    · split at h
      · cases h
      · rename_i h0; cases h; exact .pure hr (by simp [eqGuard, binOp, Op.shift, h0]) (.int _ _)
    · split at h
      · cases h
      · rename_i h0; cases h; exact .pure hr (by simp [eqGuard, binOp, Op.shift, h0]) (.int _ _)
    · split at h
      · rename_i hk
        subst hk
        have := s_int (P := P) (ρ := ρ) (t := t) (X := X) (Y := Y) h w
        exact .pure hr this.1 this.2
      · cases h
  · rename_i a b
    cases hx; cases hy
    have := s_str (P := P) (ρ := ρ) h w
    refine .pure hr ?_ this.2
    have hg : (eqGuard op t X Y (.string a) (.string b)).run P w = .ok () w := by
      unfold eqGuard
      cases op <;> simp
    simp only [Sem.run_bind, hg, Result.andThen_ok]
    cases op <;> simpa [binOp] using this.1
  · cases h

theorem eqIn_bool {t : TypeId} (ht : P.underlying t = some .bool) (d : Nat) (a b : Bool) (w : World) : (Op.equalIn (d + 1) t (.bool a) (.bool b)).run P w = .ok (a == b) w := by
  simp [Op.equalIn, run_underlying ht]

theorem s_booleq {neg : Bool} {t : TypeId} {X Y : Operand} {a b : Bool} {x' y' : Value} (hr : Rel G B ρ H w) (ht : P.underlying t = some .bool)
    (hx : VR ρ (.bool a) x') (hy : VR ρ (.bool b) y') :
    DoesV P G B m ρ H w (do eqGuard (if neg then .neq else .eql) t X Y x' y'; binOp (if neg then .neq else .eql) t x' y') (.bool (if neg then !(a == b) else a == b)) H := by
  cases hx; cases hy
  have he : (Op.equal t (.bool a) (.bool b)).run P w = .ok (a == b) w := eqIn_bool ht 9999 a b w
  cases neg
  · exact .pure hr (by simp [eqGuard, binOp, he]) (.bool _)
  · exact .pure hr (by simp [eqGuard, binOp, he]) (.bool _)

/-- The type of a comparison with nil. -/
def nilKind (P : Program) (t : TypeId) : Nat → Prop
  | 0 => ∃ e, P.underlying t = some (.pointer e) ∧ (szOf P e).isSome = true
  | 1 => ∃ e, P.underlying t = some (.slice e)
  | 2 => ∃ k e, P.underlying t = some (.map k e)
  | 3 => ∃ a b c, P.underlying t = some (.func a b c)
  | 4 => ∃ ms, P.underlying t = some (.interface ms)
  | _ => False

theorem nil_key0 {t : TypeId} {X Y : Operand} {x y x' y' : Value} {a b : Bool} (ht : nilKind P t 0)
    (hx : VR ρ x x') (hy : VR ρ y y') (ha : aNil 0 x = some a) (hb : aNil 0 y = some b) (hab : (a || b) = true) :
    (∀ d, (Op.equalIn (d + 1) t x' y').run P w = .ok (a && b) w) ∧ (∀ op, (eqGuard op t X Y x' y').run P w = .ok () w) ∧
      binOp .eql t x' y' = (do pure (.bool (← Op.equal t x' y'))) ∧ binOp .neq t x' y' = (do pure (.bool (!(← Op.equal t x' y')))) := by
  obtain ⟨e, hu, _⟩ := ht
  cases hx <;> simp only [aNil, Option.some.injEq, reduceCtorEq] at ha <;> cases hy <;> simp only [aNil, Option.some.injEq, reduceCtorEq] at hb <;> subst ha <;> subst hb <;> first | (exact absurd hab (by decide)) | skip
  all_goals refine ⟨fun d => ?_, fun op => ?_, rfl, rfl⟩
  all_goals first
    | (unfold Op.equalIn; simp only [Sem.run_bind, run_underlying hu, Result.andThen_ok]; rfl)
    | (cases op <;> rfl)

theorem nil_key1 {t : TypeId} {X Y : Operand} {x y x' y' : Value} {a b : Bool} (ht : nilKind P t 1)
    (hx : VR ρ x x') (hy : VR ρ y y') (ha : aNil 1 x = some a) (hb : aNil 1 y = some b) (hab : (a || b) = true) :
    (∀ d, (Op.equalIn (d + 1) t x' y').run P w = .ok (a && b) w) ∧ (∀ op, (eqGuard op t X Y x' y').run P w = .ok () w) ∧
      binOp .eql t x' y' = (do pure (.bool (← Op.equal t x' y'))) ∧ binOp .neq t x' y' = (do pure (.bool (!(← Op.equal t x' y')))) := by
  obtain ⟨e, hu⟩ := ht
  cases hx <;> simp only [aNil, Option.some.injEq, reduceCtorEq] at ha <;> cases hy <;> simp only [aNil, Option.some.injEq, reduceCtorEq] at hb <;> subst ha <;> subst hb <;> first | (exact absurd hab (by decide)) | skip
  all_goals refine ⟨fun d => ?_, fun op => ?_, rfl, rfl⟩
  all_goals first
    | (unfold Op.equalIn; simp only [Sem.run_bind, run_underlying hu, Result.andThen_ok]; rfl)
    | (cases op <;> rfl)

theorem nil_key2 {t : TypeId} {X Y : Operand} {x y x' y' : Value} {a b : Bool} (ht : nilKind P t 2)
    (hx : VR ρ x x') (hy : VR ρ y y') (ha : aNil 2 x = some a) (hb : aNil 2 y = some b) (hab : (a || b) = true) :
    (∀ d, (Op.equalIn (d + 1) t x' y').run P w = .ok (a && b) w) ∧ (∀ op, (eqGuard op t X Y x' y').run P w = .ok () w) ∧
      binOp .eql t x' y' = (do pure (.bool (← Op.equal t x' y'))) ∧ binOp .neq t x' y' = (do pure (.bool (!(← Op.equal t x' y')))) := by
  obtain ⟨k, e, hu⟩ := ht
  cases hx <;> simp only [aNil, Option.some.injEq, reduceCtorEq] at ha <;> cases hy <;> simp only [aNil, Option.some.injEq, reduceCtorEq] at hb <;> subst ha <;> subst hb <;> first | (exact absurd hab (by decide)) | skip
  all_goals refine ⟨fun d => ?_, fun op => ?_, rfl, rfl⟩
  all_goals first
    | (unfold Op.equalIn; simp only [Sem.run_bind, run_underlying hu, Result.andThen_ok]; rfl)
    | (cases op <;> rfl)

theorem nil_key3 {t : TypeId} {X Y : Operand} {x y x' y' : Value} {a b : Bool} (ht : nilKind P t 3)
    (hx : VR ρ x x') (hy : VR ρ y y') (ha : aNil 3 x = some a) (hb : aNil 3 y = some b) (hab : (a || b) = true) :
    (∀ d, (Op.equalIn (d + 1) t x' y').run P w = .ok (a && b) w) ∧ (∀ op, (eqGuard op t X Y x' y').run P w = .ok () w) ∧
      binOp .eql t x' y' = (do pure (.bool (← Op.equal t x' y'))) ∧ binOp .neq t x' y' = (do pure (.bool (!(← Op.equal t x' y')))) := by
  obtain ⟨p, q, r, hu⟩ := ht
  cases hx <;> simp only [aNil, Option.some.injEq, reduceCtorEq] at ha <;> cases hy <;> simp only [aNil, Option.some.injEq, reduceCtorEq] at hb <;> subst ha <;> subst hb <;> first | (exact absurd hab (by decide)) | skip
  all_goals refine ⟨fun d => ?_, fun op => ?_, rfl, rfl⟩
  all_goals first
    | (unfold Op.equalIn; simp only [Sem.run_bind, run_underlying hu, Result.andThen_ok]; rfl)
    | (cases op <;> rfl)

theorem nil_key4 {t : TypeId} {X Y : Operand} {x y x' y' : Value} {a b : Bool} (ht : nilKind P t 4) (hc : (cstOpnd X || cstOpnd Y) = true)
    (hx : VR ρ x x') (hy : VR ρ y y') (ha : aNil 4 x = some a) (hb : aNil 4 y = some b) (hab : (a || b) = true) :
    (∀ d, (Op.equalIn (d + 1) t x' y').run P w = .ok (a && b) w) ∧ (∀ op, (eqGuard op t X Y x' y').run P w = .ok () w) ∧
      binOp .eql t x' y' = (do pure (.bool (← Op.equal t x' y'))) ∧ binOp .neq t x' y' = (do pure (.bool (!(← Op.equal t x' y')))) := by
  obtain ⟨ms, hu⟩ := ht
  cases hx <;> simp only [aNil, Option.some.injEq, reduceCtorEq] at ha <;> cases hy <;> simp only [aNil, Option.some.injEq, reduceCtorEq] at hb <;> subst ha <;> subst hb <;> first | (exact absurd hab (by decide)) | skip
  all_goals refine ⟨fun d => ?_, fun op => ?_, rfl, rfl⟩
  all_goals first
    | (unfold Op.equalIn; simp only [Sem.run_bind, run_underlying hu, Result.andThen_ok]; rfl)
    | (cases op <;> rfl)
    | (cases X <;> cases Y <;> simp [cstOpnd] at hc <;> cases op <;> rfl)

theorem s_nileq {k : Nat} {neg : Bool} {t : TypeId} {X Y : Operand} {x y x' y' : Value} {a b : Bool} (hr : Rel G B ρ H w) (ht : nilKind P t k)
    (hc : k = 4 → (cstOpnd X || cstOpnd Y) = true)
    (hx : VR ρ x x') (hy : VR ρ y y') (ha : aNil k x = some a) (hb : aNil k y = some b) (hab : (a || b) = true) :
    DoesV P G B m ρ H w (do eqGuard (if neg then .neq else .eql) t X Y x' y'; binOp (if neg then .neq else .eql) t x' y') (.bool (if neg then !(a && b) else a && b)) H := by
  have key : (∀ d, (Op.equalIn (d + 1) t x' y').run P w = .ok (a && b) w) ∧ (∀ op, (eqGuard op t X Y x' y').run P w = .ok () w) ∧
      binOp .eql t x' y' = (do pure (.bool (← Op.equal t x' y'))) ∧ binOp .neq t x' y' = (do pure (.bool (!(← Op.equal t x' y')))) := by
    match k, ht with
    | 0, ht => exact nil_key0 ht hx hy ha hb hab
    | 1, ht => exact nil_key1 ht hx hy ha hb hab
    | 2, ht => exact nil_key2 ht hx hy ha hb hab
    | 3, ht => exact nil_key3 ht hx hy ha hb hab
    | 4, ht => exact nil_key4 ht (hc rfl) hx hy ha hb hab
  obtain ⟨k1, k2, k3, k4⟩ := key
  have k1 : (Op.equal t x' y').run P w = .ok (a && b) w := k1 9999
  cases neg
  · exact .pure hr (by simp only [Bool.false_eq_true, if_false, Sem.run_bind, k2, k3, k1, Result.andThen_ok]; rfl) (.bool _)
  · exact .pure hr (by simp only [if_true, Sem.run_bind, k2, k4, k1, Result.andThen_ok]; rfl) (.bool _)

theorem s_sameptr {neg : Bool} {t e : TypeId} {X Y : Operand} {x y x' y' : Value} {c : Bool} (hr : Rel G B ρ H w) (ht : P.underlying t = some (.pointer e)) (hz : (szOf P e).isSome = true)
    (hx : VR ρ x x') (hy : VR ρ y y') (h : aSamePtr 0 x y = some c) :
    DoesV P G B m ρ H w (do eqGuard (if neg then .neq else .eql) t X Y x' y'; binOp (if neg then .neq else .eql) t x' y') (.bool (if neg then !c else c)) H := by
  unfold aSamePtr at h
  split at h
  · rename_i i o j q _
    split at h
    · rename_i hij
      obtain ⟨rfl, rfl⟩ := hij
      cases h
      cases hx with
      | ptr _ _ l hl =>
        cases hy with
        | ptr _ _ l' hl' =>
          rw [hl] at hl'; cases hl'
          obtain ⟨n, hn⟩ := Option.isSome_iff_exists.1 hz
          have key : (Op.equal t (.pointer (some ⟨l.blk, l.base + o, none⟩)) (.pointer (some ⟨l.blk, l.base + o, none⟩))).run P w = .ok true w := by
            show (Op.equalIn (9999 + 1) t _ _).run P w = _
            unfold Op.equalIn
            simp only [Sem.run_bind, run_underlying ht, Result.andThen_ok, run_sizeOf hn]
            split
            · simp [sameAddr]
            · simp
          have k2 : ∀ op, (eqGuard op t X Y (.pointer (some ⟨l.blk, l.base + o, none⟩)) (.pointer (some ⟨l.blk, l.base + o, none⟩))).run P w = .ok () w := fun op => by cases op <;> rfl
          cases neg
          · exact .pure hr (by simp only [Bool.false_eq_true, if_false, Sem.run_bind, k2, binOp, key, Result.andThen_ok]; rfl) (.bool _)
          · exact .pure hr (by simp only [if_true, Sem.run_bind, k2, binOp, key, Result.andThen_ok]; rfl) (.bool _)
    · cases h
  · cases h

theorem s_un {op : UnOp} {x x' v : Value} (hr : Rel G B ρ H w) (hx : VR ρ x x') (h : aUn op x = some v) : DoesV P G B m ρ H w (Op.unary op x') v H := by
  unfold aUn at h
  split at h
  · cases hx; cases h; exact .pure hr (by simp [Op.unary, Op.intArith]) (.int _ _)
  · cases hx; cases h; exact .pure hr (by simp [Op.unary, Op.intBits]) (.int _ _)
  · cases hx; cases h; exact .pure hr (by simp [Op.unary]) (.bool _)
  · cases h

theorem s_conv {s d : TypeId} {k k0 k1 : IntKind} {n : Int} {x' : Value} (hr : Rel G B ρ H w) (hs : P.underlying s = some (.int k0)) (hd : P.underlying d = some (.int k)) (hx : VR ρ (.int k1 n) x') :
    DoesV P G B m ρ H w (convert s d x') (.int k (k.wrap n)) H := by
  cases hx
  exact .pure hr (by simp [convert, run_underlying hs, run_underlying hd, Conv.intToInt]) (.int _ _)

theorem s_s2s {s d : TypeId} {b : ByteArray} {x' : Value} (hr : Rel G B ρ H w) (hs : P.underlying s = some .string) (hd : P.underlying d = some .string) (hx : VR ρ (.string b) x') :
    DoesV P G B m ρ H w (convert s d x') (.string b) H := by
  cases hx
  exact .pure hr (by simp [convert, run_underlying hs, run_underlying hd]) (.string _)

theorem s_mki {t : TypeId} {x x' : Value} {d : TypeDesc} (hr : Rel G B ρ H w) (ht : P.underlying t = some d) (hn : ∀ ms, d ≠ .interface ms) (hx : VR ρ x x') :
    DoesV P G B m ρ H w (Instr.makeInterface t x') (.iface t x) H := by
  refine .pure hr (v' := .iface t x') ?_ (.iface _ _ _ hx)
  unfold Instr.makeInterface
  simp only [Sem.run_bind, run_underlying ht, Result.andThen_ok]
  cases d <;> first | rfl | exact absurd rfl (hn _)

theorem s_fa {s : TypeId} {fs : Array Field} {f n : Nat} {fd : Field} {i o : Nat} {x' : Value} (hr : Rel G B ρ H w) (hs : P.underlying s = some (.struct fs)) (hf : fs[f]? = some fd)
    (hn : szOf P fd.type = some n) (h0 : n ≠ 0) (hx : VR ρ (.pointer (some ⟨i, o, none⟩)) x') :
    DoesV P G B m ρ H w (Instr.fieldAt s x' f) (.pointer (some ⟨i, o + fd.offset, none⟩)) H := by
  cases hx with
  | ptr _ _ l hl =>
    refine .pure hr (v' := .pointer (some ⟨l.blk, l.base + (o + fd.offset), none⟩)) ?_ (.ptr _ _ l hl)
    simp [Instr.fieldAt, run_underlying hs, hf, Instr.sureAddr, fieldPlace, run_sizeOf hn, h0, Addr_add, Nat.add_assoc]

theorem run_part {t : TypeId} {cs : Array Value} {off : Nat} {v : Value} (hg : aggOf P t = some false) (hv : cs[off]? = some v) : (part t cs off).run P w = .ok v w := by
  simp [part, run_isAgg hg, hv]
theorem run_partN {t : TypeId} {cs : Array Value} {off n : Nat} (hg : aggOf P t = some true) (hn : szOf P t = some n) : (part t cs off).run P w = .ok (.agg (cs.extract off (off + n))) w := by
  simp [part, run_isAgg hg, run_sizeOf hn]

theorem VRs.extract {ρ : Emb} {a b : Array Value} (h : VRs ρ a.toList b.toList) (o n : Nat) : VRs ρ ((a.toList.drop o).take n) (b.extract o (o + n)).toList := by
  have := (h.drop o).take n
  simpa [Array.toList_extract, List.extract] using this

theorem s_fld {s : TypeId} {fs : Array Field} {f : Nat} {fd : Field} {cs : Array Value} {x' v : Value} (hr : Rel G B ρ H w) (hs : P.underlying s = some (.struct fs)) (hf : fs[f]? = some fd)
    (hg : aggOf P fd.type = some false) (hx : VR ρ (.agg cs) x') (h : cs.toList[fd.offset]? = some v) :
    DoesV P G B m ρ H w (Instr.field s x' f) v H := by
  cases hx with
  | agg _ b hsz hh =>
    obtain ⟨v', hv', r⟩ := (VRs.ofArr hsz hh).get h
    refine .pure hr (v' := v') ?_ r
    have := run_part (P := P) (w := w) (cs := b) (off := fd.offset) (v := v') hg (by simpa using hv')
    simp [Instr.field, run_underlying hs, hf, asAgg, this]

theorem s_fldn {s : TypeId} {fs : Array Field} {f n : Nat} {fd : Field} {cs : Array Value} {x' : Value} (hr : Rel G B ρ H w) (hs : P.underlying s = some (.struct fs)) (hf : fs[f]? = some fd)
    (hg : aggOf P fd.type = some true) (hn : szOf P fd.type = some n) (hx : VR ρ (.agg cs) x') :
    DoesV P G B m ρ H w (Instr.field s x' f) (.agg ((cs.toList.drop fd.offset).take n).toArray) H := by
  cases hx with
  | agg _ b hsz hh =>
    refine .pure hr (v' := .agg (b.extract fd.offset (fd.offset + n))) ?_ (.mkAgg (by simpa using (VRs.ofArr hsz hh).extract fd.offset n))
    have := run_partN (P := P) (w := w) (cs := b) (off := fd.offset) hg hn
    simp [Instr.field, run_underlying hs, hf, asAgg, this]

theorem s_ia {t e : TypeId} {sz j off n c : Nat} {kk : IntKind} {k : Int} {x' i' : Value} (hr : Rel G B ρ H w) (ht : P.underlying t = some (.slice e)) (hs : szOf P e = some sz)
    (hx : VR ρ (.slice (some ⟨j, off, none⟩) n c) x') (hi : VR ρ (.int kk k) i') (h0 : 0 ≤ k) (h1 : k < (n : Int)) :
    DoesV P G B m ρ H w (Instr.indexAt t x' i') (.pointer (some ⟨j, off + k.toNat * sz, none⟩)) H := by
  cases hi
  cases hx with
  | slice _ _ _ _ o' c' l hl ho hn hT =>
    have := ho (by omega)
    subst this
    refine .pure hr (v' := .pointer (some ⟨l.blk, l.base + (off + k.toNat * sz), none⟩)) ?_ (.ptr _ _ l hl)
    have hc : (decide (n ≤ 1) && false) = false := by simp
    simp [Instr.indexAt, asIntOf, run_underlying ht, h0, h1, run_sizeOf hs, Addr_add, Nat.add_assoc]
  | slice0 => exfalso; simp at h1; omega

theorem s_iaa {t e : TypeId} {sz j off n : Nat} {kk : IntKind} {k : Int} {x' i' : Value} (hr : Rel G B ρ H w) (ht : P.underlying t = some (.array n e)) (hs : szOf P e = some sz)
    (hx : VR ρ (.pointer (some ⟨j, off, none⟩)) x') (hi : VR ρ (.int kk k) i') (h0 : 0 ≤ k) (h1 : k < (n : Int)) :
    DoesV P G B m ρ H w (Instr.indexAt t x' i') (.pointer (some ⟨j, off + k.toNat * sz, none⟩)) H := by
  cases hi
  cases hx with
  | ptr _ _ l hl =>
    refine .pure hr (v' := .pointer (some ⟨l.blk, l.base + (off + k.toNat * sz), none⟩)) ?_ (.ptr _ _ l hl)
    simp [Instr.indexAt, asIntOf, run_underlying ht, Instr.sureAddr, h0, h1, run_sizeOf hs, Addr_add, Nat.add_assoc]

theorem s_ixs {t : TypeId} {s : ByteArray} {kk : IntKind} {k : Int} {b : UInt8} {x' i' : Value} (hr : Rel G B ρ H w) (ht : P.underlying t = some .string)
    (hx : VR ρ (.string s) x') (hi : VR ρ (.int kk k) i') (h0 : 0 ≤ k) (hb : s.data.toList[k.toNat]? = some b) :
    DoesV P G B m ρ H w (Instr.index t x' i') (.int .u8 (b.toNat : Int)) H := by
  cases hi; cases hx
  refine .pure hr (v' := .int .u8 (b.toNat : Int)) ?_ (.int _ _)
  have hlt : k.toNat < s.data.toList.length := (List.getElem?_eq_some_iff.1 hb).1
  have hlt' : k.toNat < s.size := by simpa using hlt
  have hb' : s[k.toNat]? = some b := by
    rw [getElem?_pos s k.toNat hlt']
    have := (List.getElem?_eq_some_iff.1 hb).2
    rw [← this]
    simp only [Array.getElem_toList]
    rfl
  simp [Instr.index, asIntOf, run_underlying ht, h0, hb']

theorem s_ixa {t e : TypeId} {n sz : Nat} {cs : Array Value} {kk : IntKind} {k : Int} {v x' i' : Value} (hr : Rel G B ρ H w) (ht : P.underlying t = some (.array n e)) (hs : szOf P e = some sz)
    (hg : aggOf P e = some false) (hx : VR ρ (.agg cs) x') (hi : VR ρ (.int kk k) i') (h0 : 0 ≤ k) (h1 : k < (n : Int)) (hv : cs.toList[k.toNat * sz]? = some v) :
    DoesV P G B m ρ H w (Instr.index t x' i') v H := by
  cases hi
  cases hx with
  | agg _ b hsz hh =>
    obtain ⟨v', hv', r⟩ := (VRs.ofArr hsz hh).get hv
    refine .pure hr (v' := v') ?_ r
    have := run_part (P := P) (w := w) (cs := b) (off := k.toNat * sz) (v := v') hg (by simpa using hv')
    simp [Instr.index, asIntOf, run_underlying ht, h0, h1, run_sizeOf hs, this]

theorem s_ixan {t e : TypeId} {n sz : Nat} {cs : Array Value} {kk : IntKind} {k : Int} {x' i' : Value} (hr : Rel G B ρ H w) (ht : P.underlying t = some (.array n e)) (hs : szOf P e = some sz)
    (hg : aggOf P e = some true) (hx : VR ρ (.agg cs) x') (hi : VR ρ (.int kk k) i') (h0 : 0 ≤ k) (h1 : k < (n : Int)) :
    DoesV P G B m ρ H w (Instr.index t x' i') (.agg ((cs.toList.drop (k.toNat * sz)).take sz).toArray) H := by
  cases hi
  cases hx with
  | agg _ b hsz hh =>
    refine .pure hr (v' := .agg (b.extract (k.toNat * sz) (k.toNat * sz + sz))) ?_ (.mkAgg (by simpa using (VRs.ofArr hsz hh).extract (k.toNat * sz) sz))
    have := run_partN (P := P) (w := w) (cs := b) (off := k.toNat * sz) hg hs
    simp [Instr.index, asIntOf, run_underlying ht, h0, h1, run_sizeOf hs, this]

theorem s_ext {n : Nat} {vs : Array Value} {v x' : Value} (hr : Rel G B ρ H w) (hx : VR ρ (.tuple vs) x') (hv : vs.toList[n]? = some v) :
    DoesV P G B m ρ H w (Instr.extract x' n) v H := by
  cases hx with
  | tuple _ b hsz hh =>
    obtain ⟨v', hv', r⟩ := (VRs.ofArr hsz hh).get hv
    exact .pure hr (v' := v') (by simp only [Array.getElem?_toList] at hv'; simp [Instr.extract, hv']) r

end
end Ev
end Go.Proofs.Ytfbelnjchpffeaa
