/-
  A small language of operations without types, what it does to a heap of numbered things, and how a translated function is turned into it.
-/
import Derived.Test.YtfbelnjchpffeaaEvA
import Derived.Laws.Externs
namespace Go.Proofs.Ytfbelnjchpffeaa
namespace Ev

inductive Opnd where
  | t (n : Nat)
  | c (v : Value)
  | g (n : Nat)

/-- More operations: on the values of their operands. -/
inductive XOp where
  | bad
  | up
  | down (u : Nat)
  | sdata
  | ustr (u : Nat)
  | idxb
  | apps (T sz bytes : Nat)
  | eqs (neg : Bool) (ks : List Nat)

inductive AOp where
  | mv (x : Opnd)
  | pick (c a b : Opnd)
  | new (T : TypeId) (zs : List Value)
  | box (T : TypeId) (x : Opnd)
  | build (zs : List Value) (parts : List (Nat × Nat × Opnd))
  | lit (T : TypeId) (zs : List Value) (n sz : Nat) (parts : List (Nat × Nat × Opnd))
  | ld (a : Opnd)
  | ldn (n : Nat) (a : Opnd)
  | st (n : Nat) (a x : Opnd)
  | nilchk (x : Opnd)
  | bin (op : BinOp) (x y : Opnd)
  | booleq (neg : Bool) (x y : Opnd)
  | nileq (k : Nat) (neg : Bool) (x y : Opnd)
  | un (op : UnOp) (x : Opnd)
  | conv (k : IntKind) (x : Opnd)
  | s2s (x : Opnd)
  | s2b (T : TypeId) (x : Opnd)
  | b2s (x : Opnd)
  | mkf (fn : Fn) (first cap : List Opnd)
  | mki (T : TypeId) (x : Opnd)
  | mks (T : TypeId) (zs : List Value) (bytes : Nat) (l c : Opnd)
  | cut (x : Opnd) (lo hi : Option Opnd)
  | sub (sz : Nat) (x : Opnd) (lo hi mx : Option Opnd)
  | suba (n sz : Nat) (x : Opnd) (lo hi mx : Option Opnd)
  | fa (off : Nat) (x : Opnd)
  | fld (off : Nat) (n : Option Nat) (x : Opnd)
  | ia (sz : Nat) (x i : Opnd)
  | iaa (n sz : Nat) (x i : Opnd)
  | ixs (x i : Opnd)
  | ixa (n sz : Nat) (m : Option Nat) (x i : Opnd)
  | ext (n : Nat) (x : Opnd)
  | len (k : Nat) (x : Opnd)
  | mm (mx : Bool) (x : Opnd) (xs : List Opnd)
  | app (T sz bytes : Nat) (x y : Opnd)
  | call (f : Opnd) (xs : List Opnd)
  | x (k : XOp) (xs : List Opnd)

structure AOper where
  dst : Option Nat
  op : AOp
  g : Option (Nat × Bool)

inductive ACode where
  | skip
  | reg (ops : List AOper)
  | draw (ops tail : List AOper)
  | drawD (ops : List AOper) (tail : List (AOper × List AOper))
  | seq (a b : ACode)
  | cond (c : Opnd) (a b : ACode)
  | block (id : Nat) (a : ACode)
  | loop (a : ACode)
  | exit (id : Nat)
  | ret

inductive ARes where
  | t (n : Nat)
  | cell (a : Nat) (n : Option Nat)

structure AFn where
  n : Nat
  res : List ARes
  body : ACode

inductive AExit where
  | normal
  | exit (id : Nat)
  | ret

/-! ## Running it -/
abbrev Env := Nat → Value
def Env.set (e : Env) (d : Nat) (v : Value) : Env := fun t => if t = d then v else e t
def Env.put (e : Env) (d : Option Nat) (v : Value) : Env :=
  match d with
  | some d => e.set d v
  | none => e

/-- From 'lim' on things may be written; below 'fb' only what leads nowhere is written. -/
structure Mode where
  lim : Nat
  fb : Nat

def oev (e : Env) : Opnd → Value
  | .t n => e n
  | .c v => v
  | .g n => .pointer (some ⟨n, 0, none⟩)

def setL {α : Type} (cs : List α) : Nat → List α → List α
  | _, [] => cs
  | o, v :: l => setL (cs.set o v) (o + 1) l

def oneC : Value → Bool
  | .agg _ => false
  | .tuple _ => false
  | _ => true

def cellsOf (H : Heap) (i : Nat) : Option (List Value) :=
  match H[i]? with
  | some (.cells cs _ _) => some cs
  | _ => none

def aLoad (H : Heap) : Value → Option Value
  | .pointer (some ⟨i, off, none⟩) => (cellsOf H i).bind fun cs => cs[off]?
  | _ => none

def aLoadN (n : Nat) (H : Heap) : Value → Option Value
  | .pointer (some ⟨i, off, none⟩) => (cellsOf H i).bind fun cs => if off + n ≤ cs.length then some (.agg ((cs.drop off).take n).toArray) else none
  | _ => none

def aStore (m : Mode) (n : Nat) (H : Heap) (x : Value) : Value → Option Heap
  | .pointer (some ⟨i, off, none⟩) =>
    match H[i]? with
    | some (.cells cs T true) =>
      if m.lim ≤ i ∧ x.cells.size = n ∧ off + n ≤ cs.length ∧ x.cells.toList.all oneC = true ∧ (i < m.fb → x.cells.toList.all flat = true) then
        some (H.set i (.cells (setL cs off x.cells.toList) T true))
      else none
    | _ => none
  | _ => none

def aInt (op : BinOp) (k : IntKind) (a b : Int) : Option Value :=
  match op with
  | .add => some (.int k (k.wrap (a + b)))
  | .sub => some (.int k (k.wrap (a - b)))
  | .mul => some (.int k (k.wrap (a * b)))
  | .quo => if b = 0 then none else some (.int k (k.wrap (a.tdiv b)))
  | .rem => if b = 0 then none else some (.int k (a.tmod b))
  | .and => some (.int k (k.wrap (BitVec.ofInt k.bits a &&& BitVec.ofInt k.bits b).toNat))
  | .or => some (.int k (k.wrap (BitVec.ofInt k.bits a ||| BitVec.ofInt k.bits b).toNat))
  | .xor => some (.int k (k.wrap (BitVec.ofInt k.bits a ^^^ BitVec.ofInt k.bits b).toNat))
  | .andNot => some (.int k (k.wrap (BitVec.ofInt k.bits a &&& ~~~ (BitVec.ofInt k.bits b)).toNat))
  | .eql => some (.bool (a == b))
  | .neq => some (.bool (a != b))
  | .lss => some (.bool (decide (a < b)))
  | .leq => some (.bool (decide (a ≤ b)))
  | .gtr => some (.bool (decide (b < a)))
  | .geq => some (.bool (decide (b ≤ a)))
  | _ => none

def aStr (op : BinOp) (a b : ByteArray) : Option Value :=
  match op with
  | .add => if a.size + b.size ≤ 9223372036854775807 then some (.string (a ++ b)) else none
  | .eql => some (.bool (decide (a = b)))
  | .neq => some (.bool (!decide (a = b)))
  | .lss => some (.bool (Op.bytesLess a.toList b.toList))
  | .leq => some (.bool (Op.bytesLess a.toList b.toList || decide (a = b)))
  | .gtr => some (.bool !(Op.bytesLess a.toList b.toList || decide (a = b)))
  | .geq => some (.bool !(Op.bytesLess a.toList b.toList))
  | _ => none

def aBin (op : BinOp) (x y : Value) : Option Value :=
  match x, y with
  | .int k a, .int k' b =>
    match op with
    | .shl => if b < 0 then none else some (.int k (k.wrap (a * 2 ^ (min b.toNat k.bits))))
    | .shr => if b < 0 then none else some (.int k (a.fdiv (2 ^ (min b.toNat k.bits))))
    | op => if k = k' then aInt op k a b else none
  | .string a, .string b => aStr op a b
  | _, _ => none

/-- Is it nil? 0: a pointer, 1: a slice, 2: a map, 3: a function, 4: an interface value. -/
def aNil : Nat → Value → Option Bool
  | 0, .pointer none => some true
  | 0, .pointer (some _) => some false
  | 1, .slice none _ _ => some true
  | 1, .slice (some _) _ _ => some false
  | 2, .map none => some true
  | 2, .map (some _) => some false
  | 3, .nilFunc => some true
  | 3, .func _ _ _ => some false
  | 4, .nilIface => some true
  | 4, .iface _ _ => some false
  | _, _ => none

/-- Two pointers to one thing: are they one? -/
def aSamePtr : Nat → Value → Value → Option Bool
  | 0, .pointer (some ⟨i, o, none⟩), .pointer (some ⟨j, q, none⟩) => if i = j ∧ o = q then some true else none
  | _, _, _ => none

def aUn (op : UnOp) (x : Value) : Option Value :=
  match op, x with
  | .neg, .int k n => some (.int k (k.wrap (0 - n)))
  | .xor, .int k n => aInt .xor k (if k.signed then -1 else k.max) n
  | .not, .bool b => some (.bool !b)
  | _, _ => none

def aIntOf : Value → Option Int
  | .int _ n => some n
  | _ => none
/-- A bound of a cut: a number from 0 to 'm'. -/
def aBound (e : Env) (d m : Nat) : Option Opnd → Option Nat
  | none => some d
  | some x => (aIntOf (oev e x)).bind fun n => if 0 ≤ n ∧ n ≤ (m : Int) then some n.toNat else none

def bytesL (s : ByteArray) : List Value := s.data.toList.map fun b => .int .u8 (b.toNat : Int)
def byteOf : Value → Option UInt8
  | .int .u8 n => some (UInt8.ofNat n.toNat)
  | _ => none
def allBytes : List Value → Option (List UInt8)
  | [] => some []
  | v :: l => (byteOf v).bind fun b => (allBytes l).map (b :: ·)

/-- The cells of a slice. -/
def rowOf (sz : Nat) (H : Heap) : Value → Option (List Value)
  | .slice none n _ => if n = 0 then some [] else none
  | .slice (some ⟨i, off, none⟩) n _ => (cellsOf H i).bind fun cs => if off + n * sz ≤ cs.length then some ((cs.drop off).take (n * sz)) else none
  | _ => none

def aAppC (T sz bytes : Nat) (m : Mode) (H : Heap) (x : Value) (k : Nat) (news : List Value) : Option (Value × Heap) :=
  match x with
  | .slice none n _ =>
    if n = 0 ∧ k * bytes ≤ 140737488355328 ∧ k ≤ 4611686018427387904 ∧ 0 < sz ∧ news.all oneC = true then
      if k = 0 then some (.slice none 0 0, H) else some (.slice (some ⟨H.length, 0, none⟩) k sz, H ++ [.cells news T true])
    else none
  | .slice (some ⟨i, off, none⟩) n c =>
    match H[i]? with
    | some (.cells cs T' true) =>
      if T' = T ∧ c = sz ∧ m.lim ≤ i ∧ off + n * sz ≤ cs.length ∧ (n + k) * bytes ≤ 140737488355328 ∧ n + k ≤ 4611686018427387904 ∧ 0 < sz ∧ news.all oneC = true then
        if k = 0 then some (.slice (some ⟨i, off, none⟩) n c, H)
        else some (.slice (some ⟨H.length, 0, none⟩) (n + k) sz, H.set i .dead ++ [.cells ((cs.drop off).take (n * sz) ++ news) T true])
      else none
    | _ => none
  | _ => none
def aApp (T sz bytes : Nat) (m : Mode) (H : Heap) (x y : Value) : Option (Value × Heap) :=
  match y with
  | .slice _ k _ => (rowOf sz H y).bind fun news => aAppC T sz bytes m H x k news
  | _ => none

/-- Two cells of one plain kind (0 a truth, 1 a number, 2 a string): are they alike? -/
def eqCell : Nat → Value → Value → Option Bool
  | 0, .bool a, .bool b => some (a == b)
  | 1, .int k a, .int k' b => if k = k' then some (a == b) else none
  | 2, .string a, .string b => some (decide (a = b))
  | _, _, _ => none
def eqCells : List Nat → List Value → List Value → Option Bool
  | [], [], [] => some true
  | k :: ks, a :: l, b :: r => (eqCell k a b).bind fun x => (eqCells ks l r).map fun y => x && y
  | _, _, _ => none

def xop (m : Mode) (H : Heap) : XOp → List Value → Option (Value × Heap)
  | .apps T sz bytes, [x, .string s] => if sz = 1 then aAppC T sz bytes m H x s.size (bytesL s) else none
  | .up, [.pointer none] => some (.pointer none, H)
  | .up, [.pointer (some ⟨i, off, none⟩)] => (cellsOf H i).bind fun cs => if off < cs.length then some (.pointer (some ⟨i, off, none⟩), H) else none
  | .down u, [.pointer (some ⟨i, off, none⟩)] =>
    match H[i]? with
    | some (.cells cs T true) => if off = 0 ∧ T = u + BIG ∧ 1 < cs.length then some (.pointer (some ⟨i, 0, none⟩), H) else none
    | _ => none
  | .sdata, [.slice none n _] => if n = 0 then some (.pointer none, H) else none
  | .sdata, [.slice (some ⟨i, off, none⟩) n _] => if 0 < n then some (.pointer (some ⟨i, off, none⟩), H) else none
  | .ustr _, [.pointer none, .int .i64 n] => if n = 0 then some (.string ⟨#[]⟩, H) else none
  | .ustr u, [.pointer (some ⟨i, off, none⟩), .int .i64 n] =>
    match H[i]? with
    | some (.cells cs T true) => if T = u ∧ m.lim ≤ i ∧ 0 < n ∧ (off : Int) + n ≤ cs.length ∧ n ≤ 9223372036854775807 then (allBytes ((cs.drop off).take n.toNat)).map fun bs => (.string ⟨bs.toArray⟩, H.set i .dead) else none
    | _ => none
  | .idxb, [.string s, .int .u8 c] => some (.int .i64 (firstIdx s c.toNat.toUInt8), H)
  | .eqs neg ks, [.agg a, .agg b] => (eqCells ks a.toList b.toList).map fun c => (.bool (if neg then !c else c), H)
  | _, _ => none

def aMax (mx : Bool) : Value → List Value → Option Value
  | x, [] => some x
  | .int k a, .int _ b :: l => aMax mx (.int k (if mx then (if a < b then b else a) else (if b < a then b else a))) l
  | _, _ => none

def aop (e : Env) (H : Heap) (m : Mode) : AOp → Option (Value × Heap)
  | .mv x => some (oev e x, H)
  | .pick c a b =>
    match oev e c with
    | .bool t => some (if t then oev e a else oev e b, H)
    | _ => none
  | .new T zs => some (.pointer (some ⟨H.length, 0, none⟩), H ++ [.cells zs T true])
  | .box T x => if (oev e x).cells.toList.all oneC = true then some (.pointer (some ⟨H.length, 0, none⟩), H ++ [.cells (oev e x).cells.toList T true]) else none
  | .build zs parts => (fillL e zs parts).map fun cs => (.agg cs.toArray, H)
  | .lit T zs n sz parts => (fillL e zs parts).map fun cs => (.slice (some ⟨H.length, 0, none⟩) n sz, H ++ [.cells cs T true])
  | .ld a => (aLoad H (oev e a)).map (·, H)
  | .ldn n a => (aLoadN n H (oev e a)).map (·, H)
  | .st n a x => (aStore m n H (oev e x) (oev e a)).map (undef, ·)
  | .nilchk x =>
    match oev e x with
    | .pointer (some a) => some (.pointer (some a), H)
    | .func (.func f) a b => some (.func (.func f) a b, H)
    | _ => none
  | .bin op x y => (aBin op (oev e x) (oev e y)).map (·, H)
  | .booleq neg x y =>
    match oev e x, oev e y with
    | .bool a, .bool b => some (.bool (if neg then !(a == b) else a == b), H)
    | _, _ => none
  | .nileq k neg x y =>
    match aNil k (oev e x), aNil k (oev e y) with
    | some a, some b => if a || b then some (.bool (if neg then !(a && b) else a && b), H) else (aSamePtr k (oev e x) (oev e y)).map fun c => (.bool (if neg then !c else c), H)
    | _, _ => none
  | .un op x => (aUn op (oev e x)).map (·, H)
  | .conv k x =>
    match oev e x with
    | .int _ n => some (.int k (k.wrap n), H)
    | _ => none
  | .s2s x =>
    match oev e x with
    | .string s => some (.string s, H)
    | _ => none
  | .s2b T x =>
    match oev e x with
    | .string s => some (.slice (some ⟨H.length, 0, none⟩) s.size 1, H ++ [.cells (bytesL s) T true])
    | _ => none
  | .b2s x => (rowOf 1 H (oev e x)).bind fun l => (allBytes l).map fun bs => (.string ⟨bs.toArray⟩, H)
  | .mkf fn a b => some (.func fn (a.map (oev e)).toArray (b.map (oev e)).toArray, H)
  | .mki T x => some (.iface T (oev e x), H)
  | .mks T zs bytes l c =>
    match oev e l, oev e c with
    | .int _ n, .int _ n' => if n = n' ∧ 0 ≤ n ∧ n * bytes ≤ 140737488355328 ∧ n ≤ 4611686018427387904 ∧ 0 < zs.length then
        some (.slice (some ⟨H.length, 0, none⟩) n.toNat zs.length, H ++ [.cells (List.replicate n.toNat zs).flatten T true]) else none
    | _, _ => none
  | .cut x lo hi =>
    match oev e x with
    | .string s => (aBound e s.size s.size hi).bind fun h => (aBound e 0 h lo).map fun l => (.string (s.extract l h), H)
    | _ => none
  | .sub sz x lo hi mx =>
    match oev e x with
    | .slice none n _ => if n = 0 then (aBound e 0 0 mx).bind fun _ => (aBound e 0 0 hi).bind fun h => (aBound e 0 h lo).map fun _ => (.slice none 0 0, H) else none
    | .slice (some ⟨i, off, none⟩) n c =>
      if c = sz then (aBound e n n mx).bind fun k => (aBound e n k hi).bind fun h => (aBound e 0 h lo).map fun l =>
        (.slice (some ⟨i, if h - l = 0 then 0 else off + l * sz, none⟩) (h - l) sz, H) else none
    | _ => none
  | .suba n sz x lo hi mx =>
    match oev e x with
    | .pointer (some ⟨i, off, none⟩) =>
      (cellsOf H i).bind fun cs => if off + n * sz ≤ cs.length then
      (aBound e n n mx).bind fun k => (aBound e n k hi).bind fun h => (aBound e 0 h lo).map fun l =>
        (.slice (some ⟨i, if h - l = 0 then 0 else off + l * sz, none⟩) (h - l) sz, H) else none
    | _ => none
  | .fa off x =>
    match oev e x with
    | .pointer (some ⟨i, o, none⟩) => some (.pointer (some ⟨i, o + off, none⟩), H)
    | _ => none
  | .fld off n x =>
    match oev e x with
    | .agg cs =>
      match n with
      | none => (cs.toList[off]?).map (·, H)
      | some k => some (.agg ((cs.toList.drop off).take k).toArray, H)
    | _ => none
  | .ia sz x i =>
    match oev e x, oev e i with
    | .slice (some ⟨j, off, none⟩) n _, .int _ k => if 0 ≤ k ∧ k < (n : Int) then some (.pointer (some ⟨j, off + k.toNat * sz, none⟩), H) else none
    | _, _ => none
  | .iaa n sz x i =>
    match oev e x, oev e i with
    | .pointer (some ⟨j, off, none⟩), .int _ k => if 0 ≤ k ∧ k < (n : Int) then some (.pointer (some ⟨j, off + k.toNat * sz, none⟩), H) else none
    | _, _ => none
  | .ixs x i =>
    match oev e x, oev e i with
    | .string s, .int _ k => if 0 ≤ k then (s.data.toList[k.toNat]?).map fun b => (.int .u8 (b.toNat : Int), H) else none
    | _, _ => none
  | .ixa n sz m x i =>
    match oev e x, oev e i with
    | .agg cs, .int _ k => if 0 ≤ k ∧ k < (n : Int) then
        match m with
        | none => (cs.toList[k.toNat * sz]?).map (·, H)
        | some w => some (.agg ((cs.toList.drop (k.toNat * sz)).take w).toArray, H)
      else none
    | _, _ => none
  | .ext n x =>
    match oev e x with
    | .tuple vs => (vs.toList[n]?).map (·, H)
    | _ => none
  | .len k x =>
    match k, oev e x with
    | 0, .string s => some (.int .i64 (s.size : Int), H)
    | 1, .slice _ n _ => some (.int .i64 (n : Int), H)
    | 2, .map none => some (.int .i64 0, H)
    | 2, .map (some i) =>
      match H[i]? with
      | some (.map es _) => some (.int .i64 (es.length : Int), H)
      | _ => none
    | _, _ => none
  | .mm mx x xs => (aMax mx (oev e x) (xs.map (oev e))).map (·, H)
  | .app T sz bytes x y => aApp T sz bytes m H (oev e x) (oev e y)
  | .call _ _ => none
  | .x k xs => xop m H k (xs.map (oev e))
where
  fillL (e : Env) (zs : List Value) : List (Nat × Nat × Opnd) → Option (List Value)
    | [] => some zs
    | (off, n, x) :: l =>
      if (oev e x).cells.size = n ∧ off + n ≤ zs.length ∧ (oev e x).cells.toList.all oneC = true then fillL e (setL zs off (oev e x).cells.toList) l else none

inductive Pol where
  | gen | ro | fw | al

structure Cf where
  P : Program
  G : Nat
  fn : FuncId → Option AFn
  pol : FuncId → Pol
  al : FuncId → Bool
  X : FuncId → Option (List Value → Option Value)

abbrev CallF := FuncId → List Value → Heap → Mode → Option (Value × Heap)

def ownOr : AObj → Bool
  | .dead => true
  | .cells _ _ o => o
  | .map _ o => o

/-- A call: what a contract says, or the function's own text. -/
def acallop (C : Cf) (call : CallF) (m : Mode) (H : Heap) (f : Value) (xs : List Value) : Option (Value × Heap) :=
  match f with
  | .func (.func k) a b =>
    match C.X k with
    | some g => (g (a.toList ++ xs ++ b.toList)).map (·, H)
    | none =>
      match C.pol k with
      | .gen => call k (a.toList ++ xs ++ b.toList) H m
      | .ro => (call k (a.toList ++ xs ++ b.toList) H ⟨H.length, H.length⟩).bind fun (v, _) => if flat v then some (v, H) else none
      | .fw => (call k (a.toList ++ xs ++ b.toList) H ⟨m.lim, H.length⟩).bind fun (v, H') => if flat v then some (v, H'.take H.length) else none
      | .al => (call k (a.toList ++ xs ++ b.toList) H ⟨H.length, H.length⟩).bind fun (v, H') => if (H'.drop H.length).all ownOr then some (v, H ++ H'.drop H.length) else none
  | _ => none

def astep (C : Cf) (call : CallF) (m : Mode) (e : Env) (H : Heap) : AOp → Option (Value × Heap)
  | .call f xs => acallop C call m H (oev e f) (xs.map (oev e))
  | op => aop e H m op

def awanted (e : Env) : Option (Nat × Bool) → Bool
  | none => true
  | some (d, b) =>
    match e d with
    | .bool c => c == b
    | _ => false

def aops (C : Cf) (call : CallF) (m : Mode) : List AOper → Env → Heap → Option (Env × Heap)
  | [], e, H => some (e, H)
  | o :: l, e, H =>
    if awanted e o.g then (astep C call m e H o.op).bind fun (v, H') => aops C call m l (e.put o.dst v) H'
    else aops C call m l (e.put o.dst undef) H

/-- Operations whose order is open: each leaves the heap as it is. -/
def adraw (C : Cf) (call : CallF) : List AOper → Env → Heap → Option Env
  | [], e, _ => some e
  | o :: l, e, H =>
    if awanted e o.g then (astep C call ⟨H.length, H.length⟩ e H o.op).bind fun (v, H') => if H'.length = H.length then adraw C call l (e.put o.dst v) H else none
    else adraw C call l (e.put o.dst undef) H

/-- Two values that are no rows: are they one? -/
def eqv : Value → Value → Bool
  | .bool a, .bool b => a == b
  | .int k a, .int k' b => decide (k = k') && decide (a = b)
  | .string a, .string b => decide (a = b)
  | .pointer a, .pointer b => decide (a = b)
  | .slice a n c, .slice a' n' c' => decide (a = a') && decide (n = n') && decide (c = c')
  | .map a, .map b => decide (a = b)
  | .nilFunc, .nilFunc => true
  | .nilIface, .nilIface => true
  | _, _ => false

/-- What was read before is read now. -/
def rechk (C : Cf) (call : CallF) (e : Env) (H : Heap) : List AOper → Bool
  | [] => true
  | o :: l => (if awanted e o.g then
      match o.dst, astep C call ⟨H.length, H.length⟩ e H o.op with
      | some d, some (v, H') => decide (H'.length = H.length) && eqv v (e d)
      | _, _ => false
    else true) && rechk C call e H l

def aopsD (C : Cf) (call : CallF) (m : Mode) : List (AOper × List AOper) → Env → Heap → Option (Env × Heap)
  | [], e, H => some (e, H)
  | (o, ck) :: l, e, H =>
    if awanted e o.g then (astep C call m e H o.op).bind fun (v, H') => if rechk C call (e.put o.dst v) H' ck then aopsD C call m l (e.put o.dst v) H' else none
    else aopsD C call m l (e.put o.dst undef) H

def aiter (body : Env → Heap → Option (AExit × Env × Heap)) : Nat → Env → Heap → Option (AExit × Env × Heap)
  | 0, _, _ => none
  | n + 1, e, H => (body e H).bind fun
    | (.normal, e', H') => aiter body n e' H'
    | r => some r

def acode (C : Cf) (call : CallF) (N : Nat) (m : Mode) : ACode → Env → Heap → Option (AExit × Env × Heap)
  | .skip, e, H => some (.normal, e, H)
  | .reg ops, e, H => (aops C call m ops e H).map fun (e', H') => (.normal, e', H')
  | .draw ops tail, e, H => (adraw C call ops e H).bind fun e' => (aops C call m tail e' H).map fun (e'', H'') => (.normal, e'', H'')
  | .drawD ops tail, e, H => (adraw C call ops e H).bind fun e' => (aopsD C call m tail e' H).map fun (e'', H'') => (.normal, e'', H'')
  | .seq a b, e, H => (acode C call N m a e H).bind fun
    | (.normal, e', H') => acode C call N m b e' H'
    | r => some r
  | .cond c a b, e, H =>
    match oev e c with
    | .bool t => if t then acode C call N m a e H else acode C call N m b e H
    | _ => none
  | .block id a, e, H => (acode C call N m a e H).bind fun
    | (.exit id', e', H') => if id' = id then some (.normal, e', H') else some (.exit id', e', H')
    | r => some r
  | .loop a, e, H => aiter (acode C call N m a) N e H
  | .exit id, e, H => some (.exit id, e, H)
  | .ret, e, H => some (.ret, e, H)

def ares (e : Env) (H : Heap) : ARes → Option Value
  | .t n => some (e n)
  | .cell a none => aLoad H (e a)
  | .cell a (some n) => aLoadN n H (e a)

def aresults (e : Env) (H : Heap) : List ARes → Option (List Value)
  | [] => some []
  | r :: l => (ares e H r).bind fun v => (aresults e H l).map (v :: ·)

def aPack : List Value → Value
  | [v] => v
  | l => .tuple l.toArray

def env0 (args : List Value) : Env := fun t => (args[t]?).getD undef

def acall (C : Cf) : Nat → CallF
  | 0, _, _, _, _ => none
  | k + 1, f, args, H, m => (C.fn f).bind fun F =>
    if args.length ≤ F.n then
      (acode C (acall C k) k m F.body (env0 args) H).bind fun
        | (.exit _, _, _) => none
        | (_, e', H') => (aresults e' H' F.res).map fun l => (aPack l, H')
    else none

end Ev
end Go.Proofs.Ytfbelnjchpffeaa
