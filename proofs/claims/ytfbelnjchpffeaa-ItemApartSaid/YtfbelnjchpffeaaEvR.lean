/-
  Bytes and heaps: small facts for the walks.
-/
import Derived.Test.YtfbelnjchpffeaaEvQ
namespace Go.Proofs.Ytfbelnjchpffeaa
namespace Ev

theorem cells_int (k : IntKind) (n : Int) : (Value.int k n).cells = #[.int k n] := rfl
theorem cells_bool (b : Bool) : (Value.bool b).cells = #[.bool b] := rfl
theorem cells_string (b : ByteArray) : (Value.string b).cells = #[.string b] := rfl
theorem cells_pointer (b : Option Addr) : (Value.pointer b).cells = #[.pointer b] := rfl
theorem cells_slice (b : Option Addr) (n c : Nat) : (Value.slice b n c).cells = #[.slice b n c] := rfl
theorem cells_map (b : Option Nat) : (Value.map b).cells = #[.map b] := rfl
theorem cells_func (f : Fn) (a b : Array Value) : (Value.func f a b).cells = #[.func f a b] := rfl
theorem cells_nilFunc : (Value.nilFunc).cells = #[.nilFunc] := rfl
theorem cells_iface (t : TypeId) (v : Value) : (Value.iface t v).cells = #[.iface t v] := rfl
theorem cells_nilIface : (Value.nilIface).cells = #[.nilIface] := rfl
theorem cells_agg (a : Array Value) : (Value.agg a).cells = a := rfl
theorem arr1_size (v : Value) : (#[v] : Array Value).size = 1 := rfl
theorem arr1_list (v : Value) : (#[v] : Array Value).toList = [v] := rfl

/-- Bytes as cells. -/
def bv (l : List Nat) : List Value := l.map fun (b : Nat) => .int .u8 (b : Int)
/-- Bytes as a string. -/
def bs (l : List Nat) : ByteArray := ⟨(l.map UInt8.ofNat).toArray⟩
theorem bv_length (l : List Nat) : (bv l).length = l.length := by simp [bv]
theorem bv_take (l : List Nat) : (bv l).take l.length = bv l := by rw [← bv_length l]; exact List.take_length
theorem bv_take_le (l : List Nat) (k : Nat) (h : l.length ≤ k) : (bv l).take k = bv l := List.take_of_length_le (by rw [bv_length]; exact h)
theorem bv_append (a b : List Nat) : bv (a ++ b) = bv a ++ bv b := by simp [bv]
theorem bv_get (l : List Nat) (k : Nat) : (bv l)[k]? = if k < l.length then some (.int .u8 (l.getD k 0 : Int)) else none := by
  rw [bv, List.getElem?_map]
  by_cases h : k < l.length
  · rw [if_pos h, List.getElem?_eq_getElem h, List.getD_eq_getElem?_getD, List.getElem?_eq_getElem h]; rfl
  · rw [if_neg h, List.getElem?_eq_none (by omega)]; rfl
theorem bytesL_bv (s : ByteArray) : bytesL s = bv (bl s) := by simp [bytesL, bv, bl]
theorem allBytes_bv (l : List Nat) : allBytes (bv l) = some (l.map UInt8.ofNat) := by
  induction l with
  | nil => rfl
  | cons b l ih => simp only [bv, List.map_cons, allBytes, byteOf, Option.bind_some] at ih ⊢; rw [ih]; rfl
theorem bv_oneC (l : List Nat) : (bv l).all oneC = true := by
  simp [bv, List.all_eq_true, oneC]
theorem bv_flat (l : List Nat) : (bv l).all flat = true := by
  simp [bv, List.all_eq_true, flat, flatN]
theorem rowOf_bv (l : List Nat) : (bv l).take (l.length * 1) = bv l := by rw [Nat.mul_one]; exact bv_take l
theorem allBytes_snoc (l : List Nat) (b : Nat) : allBytes (bv l ++ [.int .u8 (b : Int)]) = some ((l ++ [b]).map UInt8.ofNat) := by
  rw [← allBytes_bv (l ++ [b]), bv_append]; rfl
theorem allBytes_one (b : Nat) : allBytes [.int .u8 (b : Int)] = some ([b].map UInt8.ofNat) := by
  rw [← allBytes_bv]; rfl
theorem bv_snoc (l : List Nat) (b : Nat) : bv l ++ [.int .u8 (b : Int)] = bv (l ++ [b]) := by rw [bv_append]; rfl
theorem bl_bs (l : List Nat) (h : ∀ b ∈ l, b < 256) : bl (bs l) = l := by
  simp only [bl, bs, List.toList_toArray, List.map_map]
  conv => rhs; rw [← List.map_id l]
  apply List.map_congr_left
  intro b hb
  have := h b hb
  simp; omega
theorem bs_bl (s : ByteArray) : bs (bl s) = s := by
  cases s with
  | mk d =>
    simp [bs, bl, List.map_map]
    conv => lhs; rw [show (UInt8.ofNat ∘ fun x => x.toNat) = (id : UInt8 → UInt8) from by funext x; simp]
    simp
theorem bs_size (l : List Nat) : (bs l).size = l.length := by
  show (l.map UInt8.ofNat).toArray.size = _
  simp
theorem bl_lt (s : ByteArray) : ∀ b ∈ bl s, b < 256 := by
  intro b hb
  simp only [bl, List.mem_map] at hb
  obtain ⟨u, _, rfl⟩ := hb
  exact u.toNat_lt
theorem bl_inj {s t : ByteArray} (h : bl s = bl t) : s = t := by rw [← bs_bl s, h, bs_bl]
theorem bAt_bl (s : ByteArray) (k : Nat) : bAt s k = (bl s).getD k 0 := by
  rw [List.getD_eq_getElem?_getD, bl_get]
  by_cases h : k < s.size
  · rw [if_pos h]; rfl
  · rw [if_neg h]
    have : s.data.toList.length = s.size := Array.length_toList
    rw [bAt, List.getD_eq_getElem?_getD, List.getElem?_eq_none (by omega)]; rfl
theorem bl_append (s t : ByteArray) : bl (s ++ t) = bl s ++ bl t := by
  simp [bl]
theorem bl_extract (s : ByteArray) (l h : Nat) : bl (s.extract l h) = ((bl s).take h).drop l := by
  simp [bl, ByteArray.data_extract, List.map_take, List.map_drop, List.drop_take]

theorem get_app {H : Heap} {j : Nat} {o : AObj} (h : H[j]? = some o) (l : Heap) : (H ++ l)[j]? = some o := by
  rw [List.getElem?_append_left (List.getElem?_eq_some_iff.1 h).1]; exact h
theorem get_last (H : Heap) (o : AObj) : (H ++ [o])[H.length]? = some o := by simp
theorem get_at {H : Heap} {o : AObj} {k : Nat} (h : H.length = k) : (H ++ [o])[k]? = some o := by subst h; simp
theorem lt_of_get {H : Heap} {j : Nat} {o : AObj} (h : H[j]? = some o) : j < H.length := (List.getElem?_eq_some_iff.1 h).1

/-! ## Tables of words -/
def XOk (P : Program) (f : FuncId) (g : List Value → Option Value) : Prop :=
  (∃ fn c, P.funcs[f]? = some fn ∧ fn.body = some c ∧ (fn.name == "runtime.NumGoroutine") = false) ∧
    ∀ args v, g args = some v → flat v = true ∧ args.all flat = true ∧ ∀ w, Calls P f args.toArray w fun e w' => e = .returned v ∧ Go.RowKit.Below w.heap.size w w'
def FOk (al : FuncId → Bool) (P : Program) (G : Nat) (f : FuncId) (F : AFn) : Prop := ∃ fn, P.funcs[f]? = some fn ∧ cFn al P G fn = some F ∧ (fn.name == "runtime.NumGoroutine") = false
theorem FOk.x {al : FuncId → Bool} {P : Program} {G : Nat} {f : FuncId} {F : AFn} (h : FOk al P G f F) : ∃ fn c, P.funcs[f]? = some fn ∧ fn.body = some c ∧ (fn.name == "runtime.NumGoroutine") = false := by
  obtain ⟨fn, h1, h2, h3⟩ := h
  simp only [cFn, Option.bind_eq_some_iff] at h2
  obtain ⟨c, hc, _⟩ := h2
  exact ⟨fn, c, h1, hc, h3⟩
theorem XOk.of {C : Cf} (hC : C.Ok) (hG : C.G = 0) {f : FuncId} {F : AFn} (hf : FOk C.al C.P C.G f F) {g : List Value → Option Value}
    (h : ∀ args v, g args = some v → flat v = true ∧ args.all flat = true ∧ ∃ k lim, Run (fun v' _ => v' = v) Tag.mk (acall C k f args [] ⟨lim, 0⟩)) : XOk C.P f g :=
  ⟨hf.x, fun args v hv => by
    obtain ⟨h1, h2, k, lim, h3⟩ := h args v hv
    exact ⟨h1, h2, fun w => Cf.Ok.spec hC hG h3 h1 h2 w⟩⟩

def tab (l : List (Nat × AFn)) : FuncId → Option AFn := fun f => (l.find? (fun p => p.1 == f)).map (·.2)
def xtab (l : List (Nat × (List Value → Option Value))) : FuncId → Option (List Value → Option Value) := fun f => (l.find? (fun p => p.1 == f)).map (·.2)
theorem tab_ok {al : FuncId → Bool} {P : Program} {G : Nat} {l : List (Nat × AFn)} (h : ∀ p ∈ l, FOk al P G p.1 p.2) : ∀ f F, tab l f = some F → FOk al P G f F := by
  intro f F hf
  obtain ⟨p, hp, rfl⟩ := Option.map_eq_some_iff.1 hf
  have h1 := List.find?_some hp
  have h2 := h p (List.mem_of_find?_eq_some hp)
  simp only [beq_iff_eq] at h1
  rw [← h1]; exact h2
theorem xtab_ok {P : Program} {l : List (Nat × (List Value → Option Value))} (h : ∀ p ∈ l, XOk P p.1 p.2) : ∀ f g, xtab l f = some g → XOk P f g := by
  intro f F hf
  obtain ⟨p, hp, rfl⟩ := Option.map_eq_some_iff.1 hf
  have h1 := List.find?_some hp
  have h2 := h p (List.mem_of_find?_eq_some hp)
  simp only [beq_iff_eq] at h1
  rw [← h1]; exact h2
theorem all_nil {α : Type _} {p : α → Prop} : ∀ x ∈ ([] : List α), p x := fun x h => by cases h
theorem all_cons {α : Type _} {p : α → Prop} {a : α} {l : List α} (h : p a) (t : ∀ x ∈ l, p x) : ∀ x ∈ a :: l, p x := fun x hx => by
  rcases List.mem_cons.1 hx with rfl | hx
  · exact h
  · exact t x hx
theorem Cf.Ok.mk' {P : Program} {l : List (Nat × AFn)} {x : List (Nat × (List Value → Option Value))} {pol : FuncId → Pol} (hm : P.follows .mixedOrders = true) (hl : ∀ p ∈ l, FOk (fun _ => false) P 0 p.1 p.2) (hx : ∀ p ∈ x, XOk P p.1 p.2) :
    Cf.Ok { P := P, G := 0, fn := tab l, pol := pol, al := fun _ => false, X := xtab x } where
  mixed := hm
  alok k h := by cases h
  fn := tab_ok hl
  X := xtab_ok hx
end Ev
end Go.Proofs.Ytfbelnjchpffeaa
