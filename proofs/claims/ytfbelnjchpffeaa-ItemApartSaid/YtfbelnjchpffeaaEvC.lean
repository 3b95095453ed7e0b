/-
  How a translated function is turned into the small language.
-/
import Derived.Test.YtfbelnjchpffeaaEvB
namespace Go.Proofs.Ytfbelnjchpffeaa
namespace Ev

def cOpnd (G : Nat) : Operand → Option Opnd
  | .tmp t => some (.t t)
  | .const v => if flat v then some (.c v) else none
  | .global g => if g < G then some (.g g) else none
  | .func f => some (.c (.func (.func f) #[] #[]))

def cOpnds (G : Nat) : List Operand → Option (List Opnd)
  | [] => some []
  | x :: l => (cOpnd G x).bind fun y => (cOpnds G l).map (y :: ·)

def cOpt (G : Nat) : Option Operand → Option (Option Opnd)
  | none => some none
  | some x => (cOpnd G x).map some

def szOf (P : Program) (t : TypeId) : Option Nat := (P.info? t).map (·.size)
def aggOf (P : Program) (t : TypeId) : Option Bool := (P.underlying t).map fun d => match d with
  | .struct _ => true
  | .array _ _ => true
  | _ => false
/-- A type's zero value, as cells that lead nowhere. -/
def zeroOf (P : Program) (t : TypeId) : Option (List Value) :=
  (P.info? t).bind fun i => i.zero.bind fun z =>
    if z.cells.toList.all flat && z.cells.toList.all oneC && z.cells.size == i.size && decide (t < BIG) then some z.cells.toList else none

def cParts (G : Nat) (place : Nat → Option (Nat × Nat)) : List (Nat × Operand) → Option (List (Nat × Nat × Opnd))
  | [] => some []
  | (i, x) :: l => (place i).bind fun p => (cOpnd G x).bind fun y => (cParts G place l).map ((p.1, p.2, y) :: ·)

def cPlaces (P : Program) : List Field → Option (List (Nat × Nat))
  | [] => some []
  | f :: l => (szOf P f.type).bind fun n => (cPlaces P l).map ((f.offset, n) :: ·)

def isU8 (P : Program) (t : TypeId) : Bool :=
  decide (t < BIG) && match P.underlying t with
  | some (.int .u8) => true
  | _ => false

/-- A struct whose first field points to its like: kept whole. -/
def special (P : Program) (T : TypeId) : Bool :=
  match P.underlying T with
  | some (.struct fs) => match fs[0]? with
    | some f => (match P.underlying f.type with
      | some (.pointer e) => e == T
      | _ => false)
    | none => false
  | _ => false
def mT (P : Program) (T : TypeId) : TypeId := if special P T then T + BIG else T
theorem wT_mT {P : Program} {T : TypeId} (h : T < BIG) : wT (mT P T) = T := by
  unfold mT; split
  · exact wT_big T
  · exact wT_lt h

/-- Functions of the machine's own. -/
def extOf (P : Program) : Operand → Option Nat
  | .func k =>
    match P.funcs[k]? with
    | some fn => if fn.body.isSome then none else if fn.name == "internal/abi.NoEscape" && (Extern.allNextRows.lookup fn.origin).isNone then some 0 else if fn.name == "internal/bytealg.IndexByteString" && (Extern.allNextRows.lookup fn.origin).isNone then some 1 else none
    | none => none
  | _ => none

def cstOpnd : Operand → Bool
  | .const _ => true
  | _ => false

def cBin (P : Program) (G : Nat) (op : BinOp) (t : TypeId) (x y : Operand) : Option AOp :=
  (cOpnd G x).bind fun a => (cOpnd G y).bind fun b =>
  match P.underlying t, op with
  | some (.int _), _ => some (.bin op a b)
  | some .string, _ => some (.bin op a b)
  | some .bool, .eql => some (.booleq false a b)
  | some .bool, .neq => some (.booleq true a b)
  | some (.pointer e), .eql => if (szOf P e).isSome then some (.nileq 0 false a b) else none
  | some (.pointer e), .neq => if (szOf P e).isSome then some (.nileq 0 true a b) else none
  | some (.slice _), .eql => some (.nileq 1 false a b)
  | some (.slice _), .neq => some (.nileq 1 true a b)
  | some (.map _ _), .eql => some (.nileq 2 false a b)
  | some (.map _ _), .neq => some (.nileq 2 true a b)
  | some (.func _ _ _), .eql => some (.nileq 3 false a b)
  | some (.func _ _ _), .neq => some (.nileq 3 true a b)
  | some (.interface _), .eql => if cstOpnd x || cstOpnd y then some (.nileq 4 false a b) else none
  | some (.interface _), .neq => if cstOpnd x || cstOpnd y then some (.nileq 4 true a b) else none
  | _, _ => none

def cConv (P : Program) (G : Nat) (s d : TypeId) (x : Operand) : Option AOp :=
  (cOpnd G x).bind fun a =>
  match P.underlying s, P.underlying d with
  | some (.int _), some (.int k) => some (.conv k a)
  | some .string, some .string => some (.s2s a)
  | some .string, some (.slice e) => if isU8 P e then some (.s2b e a) else none
  | some (.slice e), some .string => if isU8 P e then some (.b2s a) else none
  | _, _ => none

def cSlice (P : Program) (G : Nat) (t : TypeId) (x : Operand) (lo hi mx : Option Operand) : Option AOp :=
  (cOpnd G x).bind fun a => (cOpt G lo).bind fun l => (cOpt G hi).bind fun h => (cOpt G mx).bind fun m =>
  match P.underlying t with
  | some .string => if m.isNone then some (.cut a l h) else none
  | some (.slice e) => if m.isSome && h.isNone then none else (szOf P e).map fun n => .sub n a l h m
  | some (.array k e) => if m.isSome && h.isNone then none else (szOf P e).map fun n => .suba k n a l h m
  | _ => none

def cCall (P : Program) (G : Nat) (c : Call) (_T : TypeId) : Option AOp :=
  (cOpnds G c.args.toList).bind fun xs =>
  match c.callee with
  | .value f => if (extOf P f).isSome then none else (cOpnd G f).map fun a => .call a xs
  | .builtin .len =>
    match (c.argTypes[0]?).bind P.underlying, xs with
    | some .string, [a] => some (.len 0 a)
    | some (.slice _), [a] => some (.len 1 a)
    | some (.map _ _), [a] => some (.len 2 a)
    | _, _ => none
  | .builtin .min => match xs with
    | a :: l => some (.mm false a l)
    | [] => none
  | .builtin .max => match xs with
    | a :: l => some (.mm true a l)
    | [] => none
  | .builtin .append =>
    match (c.argTypes[0]?).bind P.underlying, (c.argTypes[1]?).bind P.underlying, xs with
    | some (.slice e), some (.slice _), [a, b] => (P.info? e).bind fun i => (zeroOf P e).map fun _ => .app e i.size i.bytes a b
    | _, _, _ => none
  | _ => none

/-- A struct of plain cells, one behind the other. -/
def plainK (P : Program) (t : TypeId) : Option Nat := match P.underlying t with
  | some .bool => some 0
  | some (.int _) => some 1
  | some .string => some 2
  | _ => none
def plainFields (P : Program) : Nat → List Field → Option (List Nat)
  | _, [] => some []
  | o, f :: l => (plainK P f.type).bind fun k => if f.name ≠ "_" ∧ f.offset = o then (plainFields P (o + 1) l).map (k :: ·) else none
def eqsOf (P : Program) (t : TypeId) : Option (List Nat) := match P.underlying t with
  | some (.struct fs) => (plainFields P 0 fs.toList).bind fun ks => if P.stoodInHeld t = false ∧ P.eqGuardType P.depth t = false then some ks else none
  | _ => none
def cX (P : Program) (G : Nat) (o : Oper) : Option AOp :=
  match o.op with
  | .binOp op t x y _ => (cOpnd G x).bind fun a => (cOpnd G y).bind fun b =>
    match op with
    | .eql => (eqsOf P t).map fun ks => .x (.eqs false ks) [a, b]
    | .neq => (eqsOf P t).map fun ks => .x (.eqs true ks) [a, b]
    | _ => none
  | .call c => (cOpnds G c.args.toList).bind fun xs =>
    match c.callee, xs with
    | .builtin .append, [a, b] =>
      match (c.argTypes[0]?).bind P.underlying, (c.argTypes[1]?).bind P.underlying with
      | some (.slice e), some .string => (P.info? e).bind fun i => (zeroOf P e).map fun _ => .x (.apps e i.size i.bytes) [a, b]
      | _, _ => none
    | .value f, xs =>
      match extOf P f, xs with
      | some 0, [a] => some (.mv a)
      | some 1, [a, b] => some (.x .idxb [a, b])
      | _, _ => none
    | .builtin .unsafeSliceData, [a] => some (.x .sdata [a])
    | .builtin .unsafeString, [a, b] =>
      match (c.argTypes[0]?).bind P.underlying, c.argTypes.size with
      | some (.pointer u), 2 => if P.cellsOf u = 1 ∧ u < BIG then some (.x (.ustr u) [a, b]) else none
      | _, _ => none
    | _, _ => none
  | .convert s d x => (cOpnd G x).bind fun a =>
    match P.underlying s, P.underlying d with
    | some (.pointer t), some .unsafePointer => (szOf P t).bind fun n => if n = 0 then none else some (.x .up [a])
    | some .unsafePointer, some (.pointer u) => (szOf P u).bind fun n => if n = 0 ∨ special P u = false ∨ P.cellsOf u ≠ 2 ∨ BIG ≤ u then none else some (.x (.down u) [a])
    | _, _ => none
  | _ => none

def cOp0 (P : Program) (G : Nat) (o : Oper) : Option AOp :=
  match o.op with
  | .move x => (cOpnd G x).map .mv
  | .assign x => (cOpnd G x).map .mv
  | .pick a b c => (cOpnd G a).bind fun a => (cOpnd G b).bind fun b => (cOpnd G c).map fun c => .pick a b c
  | .alloc T => (zeroOf P T).map fun z => .new (mT P T) z
  | .box T x => (cOpnd G x).bind fun a => if T < BIG then some (.box (mT P T) a) else none
  | .build t parts => (zeroOf P t).bind fun z =>
    match P.underlying t with
    | some (.struct fs) => (cPlaces P fs.toList).bind fun ps => (cParts G (ps[·]?) parts.toList).map fun l => .build z l
    | some (.array _ e) => (szOf P e).bind fun n => (cParts G (fun i => some (i * n, n)) parts.toList).map fun l => .build z l
    | _ => none
  | .buildSlice t len parts =>
    match P.underlying t with
    | some (.slice e) => (zeroOf P e).bind fun z =>
      if len * z.length ≤ 1000 then (cParts G (fun i => some (i * z.length, z.length)) parts.toList).map fun l => .lit e (List.replicate len z).flatten len z.length l else none
    | _ => none
  | .load t a => (cOpnd G a).bind fun a => (aggOf P t).bind fun g => if g then (szOf P t).map fun n => .ldn n a else some (.ld a)
  | .store t a x => (cOpnd G a).bind fun a => (cOpnd G x).bind fun x => (szOf P t).map fun n => .st n a x
  | .nilCheck x => (cOpnd G x).map .nilchk
  | .binOp op t x y _ => cBin P G op t x y
  | .unOp op _ x => (cOpnd G x).map fun a => .un op a
  | .convert s d x => cConv P G s d x
  | .makeFunc fn a b => (cOpnds G a.toList).bind fun a => (cOpnds G b.toList).map fun b => .mkf fn a b
  | .makeInterface t x => (cOpnd G x).bind fun a =>
    match P.underlying t with
    | some (.interface _) => none
    | some _ => some (.mki t a)
    | none => none
  | .makeSlice t l c => (cOpnd G l).bind fun l => (cOpnd G c).bind fun c =>
    match P.underlying t with
    | some (.slice e) => (P.info? e).bind fun i => (zeroOf P e).map fun z => .mks e z i.bytes l c
    | _ => none
  | .slice t x lo hi mx => cSlice P G t x lo hi mx
  | .fieldAddr s x f => (cOpnd G x).bind fun a =>
    match P.underlying s with
    | some (.struct fs) => (fs[f]?).bind fun fd => (szOf P fd.type).bind fun n => if n = 0 then none else some (.fa fd.offset a)
    | _ => none
  | .field s x f => (cOpnd G x).bind fun a =>
    match P.underlying s with
    | some (.struct fs) => (fs[f]?).bind fun fd => (aggOf P fd.type).bind fun g => if g then (szOf P fd.type).map fun n => .fld fd.offset (some n) a else some (.fld fd.offset none a)
    | _ => none
  | .indexAddr t x i => (cOpnd G x).bind fun a => (cOpnd G i).bind fun b =>
    match P.underlying t with
    | some (.slice e) => (szOf P e).map fun n => .ia n a b
    | some (.array k e) => (szOf P e).map fun n => .iaa k n a b
    | _ => none
  | .index t x i => (cOpnd G x).bind fun a => (cOpnd G i).bind fun b =>
    match P.underlying t with
    | some .string => some (.ixs a b)
    | some (.array k e) => (szOf P e).bind fun n => (aggOf P e).map fun g => .ixa k n (if g then some n else none) a b
    | _ => none
  | .extract x n => (cOpnd G x).map fun a => .ext n a
  | .call c => cCall P G c o.type
  | _ => none

def cOp (P : Program) (G : Nat) (o : Oper) : Option AOp :=
  match cOp0 P G o with
  | some a => some a
  | none => match cX P G o with
    | some a => some a
    | none => some (.x .bad [])

def cOper (P : Program) (G : Nat) (ops : Array Oper) (o : Oper) : Option AOper :=
  (cOp P G o).bind fun op =>
  match o.guard with
  | none => some ⟨o.dst, op, none⟩
  | some (j, b) => ((ops[j]?).bind (·.dst)).map fun d => ⟨o.dst, op, some (d, b)⟩

def cOpers (P : Program) (G : Nat) (ops : Array Oper) : List Oper → Option (List AOper)
  | [] => some []
  | o :: l => (cOper P G ops o).bind fun a => (cOpers P G ops l).map (a :: ·)

/-! ## The variables of an operation -/
def tOpnd : Opnd → List Nat
  | .t n => [n]
  | _ => []
def tOpt : Option Opnd → List Nat
  | some x => tOpnd x
  | none => []
def tOp : AOp → List Nat
  | .mv x => tOpnd x
  | .pick a b c => tOpnd a ++ tOpnd b ++ tOpnd c
  | .new _ _ => []
  | .box _ x => tOpnd x
  | .build _ ps => ps.flatMap fun p => tOpnd p.2.2
  | .lit _ _ _ _ ps => ps.flatMap fun p => tOpnd p.2.2
  | .ld a => tOpnd a
  | .ldn _ a => tOpnd a
  | .st _ a x => tOpnd a ++ tOpnd x
  | .nilchk x => tOpnd x
  | .bin _ x y => tOpnd x ++ tOpnd y
  | .booleq _ x y => tOpnd x ++ tOpnd y
  | .nileq _ _ x y => tOpnd x ++ tOpnd y
  | .un _ x => tOpnd x
  | .conv _ x => tOpnd x
  | .s2s x => tOpnd x
  | .s2b _ x => tOpnd x
  | .b2s x => tOpnd x
  | .mkf _ a b => a.flatMap tOpnd ++ b.flatMap tOpnd
  | .mki _ x => tOpnd x
  | .mks _ _ _ l c => tOpnd l ++ tOpnd c
  | .cut x l h => tOpnd x ++ tOpt l ++ tOpt h
  | .sub _ x l h m => tOpnd x ++ tOpt l ++ tOpt h ++ tOpt m
  | .suba _ _ x l h m => tOpnd x ++ tOpt l ++ tOpt h ++ tOpt m
  | .fa _ x => tOpnd x
  | .fld _ _ x => tOpnd x
  | .ia _ x i => tOpnd x ++ tOpnd i
  | .iaa _ _ x i => tOpnd x ++ tOpnd i
  | .ixs x i => tOpnd x ++ tOpnd i
  | .ixa _ _ _ x i => tOpnd x ++ tOpnd i
  | .ext _ x => tOpnd x
  | .len _ x => tOpnd x
  | .mm _ x xs => tOpnd x ++ xs.flatMap tOpnd
  | .app _ _ _ x y => tOpnd x ++ tOpnd y
  | .call f xs => tOpnd f ++ xs.flatMap tOpnd
  | .x _ xs => xs.flatMap tOpnd
def tOper (o : AOper) : List Nat :=
  tOp o.op ++ (match o.g with
    | some (d, _) => [d]
    | none => [])

def XOp.light : XOp → Bool
  | .eqs _ _ => true
  | .sdata => true
  | .idxb => true
  | _ => false
def XOp.quiet : XOp → Bool
  | .eqs _ _ => true
  | .sdata => true
  | .idxb => true
  | .up => true
  | .down _ => true
  | _ => false
/-- Does it leave the heap as it is? -/
def quiet : AOp → Bool
  | .x k _ => k.quiet
  | .new _ _ => false
  | .box _ _ => false
  | .lit _ _ _ _ _ => false
  | .st _ _ _ => false
  | .s2b _ _ => false
  | .mks _ _ _ _ _ => false
  | .app _ _ _ _ _ => false
  | _ => true

def bitOf (m : Array Nat) (i j : Nat) : Bool := (m.getD i 0).testBit j

/-- Does it look at no heap? -/
def light : AOp → Bool
  | .x k _ => k.light
  | .mv _ => true
  | .pick _ _ _ => true
  | .build _ _ => true
  | .nilchk _ => true
  | .bin _ _ _ => true
  | .booleq _ _ _ => true
  | .nileq _ _ _ _ => true
  | .un _ _ => true
  | .conv _ _ => true
  | .s2s _ => true
  | .mkf _ _ _ => true
  | .mki _ _ => true
  | .cut _ _ _ => true
  | .fa _ _ => true
  | .fld _ _ _ => true
  | .ia _ _ _ => true
  | .iaa _ _ _ _ => true
  | .ixs _ _ => true
  | .ixa _ _ _ _ _ => true
  | .ext _ _ => true
  | .mm _ _ _ => true
  | _ => false

/-- Do the two operations touch one variable, one of them writing it? -/
def clash (o p : AOper) : Bool :=
  (match o.dst with
    | some d => (tOper p).contains d || p.dst == some d
    | none => false) ||
  (match p.dst with
    | some d => (tOper o).contains d
    | none => false)

/-- Does it leave all things as they are, and make new ones at most? 'al': the functions that are so. -/
def soft (al : FuncId → Bool) : AOp → Bool
  | .call f _ =>
    match f with
    | .c (.func (.func k) _ _) => al k
    | _ => false
  | .st _ _ _ => false
  | .app _ _ _ _ _ => false
  | .x k _ => k.light
  | _ => true

/-- The operations that 'ip' tells may be done in any order that their edges allow: none sees another's variable too early or too late. The others come in their order, behind all of the first that look at the heap, if they themselves turn it; else, and beside those that don't look at it, all is free, but that no two touch one variable. -/
def drawOk (al : FuncId → Bool) (ops : Array Oper) (as : List AOper) (ip : Nat → Bool) : Bool :=
  let b := Region.before ops
  (List.range ops.size).all (fun i => (match ops[i]? with
    | some o => o.after.all fun e => !Region.binds .any e || decide (e.on < i)
    | none => false)) &&
  (List.range ops.size).all (fun i => match as[i]? with
    | some o => (List.range ops.size).all fun j => match as[j]? with
      | some p =>
        if ip i && ip j then j == i || (match p.dst with
          | some d => !(o.dst == some d) && (!(tOper o).contains d || (decide (j < i) && bitOf b i j) || (decide (i < j) && bitOf b j i))
          | none => true)
        else if ip j then bitOf b i j || (!clash p o && (light p.op || soft al o.op))
        else if ip i then true
        else decide (i ≤ j) || bitOf b i j
      | none => false
    | none => false)

/-- Which operations are of the first kind: they are quiet, and touch no variable of one of the second kind ahead of them, and no heap that such a one has turned. -/
def firstKind (al : FuncId → Bool) (b : Array Nat) : List AOper → Nat → List (Nat × AOper) → List Bool
  | [], _, _ => []
  | o :: l, i, tail =>
    if quiet o.op && tail.all (fun (j, p) => !clash p o && (!bitOf b i j || light o.op || soft al p.op)) then true :: firstKind al b l (i + 1) tail
    else false :: firstKind al b l (i + 1) ((i, o) :: tail)

def pickA (as : List AOper) (i : Nat) : AOper := (as[i]?).getD ⟨none, .mv (.t 0), none⟩

def cDraw (al : FuncId → Bool) (ops : Array Oper) (as : List AOper) : Option ACode :=
  let fk := firstKind al (Region.before ops) as 0 []
  let ip := fun i => fk.getD i false
  if drawOk al ops as ip then
    some (.draw (((List.range ops.size).filter ip).map (pickA as)) (((List.range ops.size).filter fun i => !ip i).map (pickA as)))
  else none

/-! ## Regions where reading and writing are not ordered: what was read is read again -/
def isCall : AOp → Bool
  | .call _ _ => true
  | _ => false
/-- What may be read again. -/
def rereads : AOp → Bool
  | .ld _ => true
  | .ldn _ _ => true
  | .len _ _ => true
  | _ => false
/-- The operations of the first kind: as before, but no calls. -/
def firstKindD (b : Array Nat) : List AOper → Nat → List (Nat × AOper) → List Bool
  | [], _, _ => []
  | o :: l, i, tail =>
    if quiet o.op && !isCall o.op && tail.all (fun (j, p) => !clash p o && (!bitOf b i j || light o.op)) then true :: firstKindD b l (i + 1) tail
    else false :: firstKindD b l (i + 1) ((i, o) :: tail)
/-- May it be read again behind the whole region's first part? Nobody of the first kind writes what it reads, but ahead of it. -/
def ckOk (b : Array Nat) (as : List AOper) (ip : Nat → Bool) (n : Nat) (j : Nat) (p : AOper) : Bool :=
  rereads p.op && p.dst.isSome && (List.range n).all fun k => !ip k || (match as[k]? with
    | some q => (match q.dst with
      | some d => !(tOper p).contains d || (decide (k < j) && bitOf b j k)
      | none => true)
    | none => false)
def drawOkD (ops : Array Oper) (as : List AOper) (ip : Nat → Bool) : Bool :=
  let b := Region.before ops
  (List.range ops.size).all (fun i => match ops[i]? with
    | some o => o.after.all fun e => !Region.binds .any e || decide (e.on < i)
    | none => false) &&
  (List.range ops.size).all (fun i => match as[i]? with
    | some o => (List.range ops.size).all fun j => match as[j]? with
      | some p =>
        if ip i && ip j then j == i || (match p.dst with
          | some d => !(o.dst == some d) && (!(tOper o).contains d || (decide (j < i) && bitOf b i j) || (decide (i < j) && bitOf b j i))
          | none => true)
        else if ip j then bitOf b i j || (!clash p o && (light p.op || ckOk b as ip ops.size j p))
        else if ip i then true
        else decide (i ≤ j) || bitOf b i j
      | none => false
    | none => false)
/-- What is read again behind an operation of the second kind. -/
def ckOf (b : Array Nat) (as : List AOper) (ip : Nat → Bool) (n i : Nat) : List AOper :=
  if light (pickA as i).op then [] else (((List.range n).filter ip).filter fun j => !bitOf b i j && !light (pickA as j).op).map (pickA as)
def cDrawD (ops : Array Oper) (as : List AOper) : Option ACode :=
  let b := Region.before ops
  let fk := firstKindD b as 0 []
  let ip := fun i => fk.getD i false
  if as.any (fun o => isCall o.op) && drawOkD ops as ip then
    some (.drawD (((List.range ops.size).filter ip).map (pickA as)) (((List.range ops.size).filter fun i => !ip i).map fun i => (pickA as i, ckOf b as ip ops.size i)))
  else none

/-- What is not covered: no run comes past it. -/
def badC : ACode := .reg [⟨none, .x .bad [], none⟩]
def cCode (al : FuncId → Bool) (P : Program) (G : Nat) : Code → Option ACode
  | .skip => some .skip
  | .region _ ops d => (cOpers P G ops ops.toList).bind fun as =>
    if d then (match cDrawD ops as with
      | some c => some c
      | none => match cDraw al ops as with
        | some c => some c
        | none => some badC) else some (.reg as)
  | .seq a b => (cCode al P G a).bind fun a => (cCode al P G b).map fun b => .seq a b
  | .cond c a b => (cOpnd G c).bind fun c => (cCode al P G a).bind fun a => (cCode al P G b).map fun b => .cond c a b
  | .block id a => (cCode al P G a).map fun a => .block id a
  | .loop a => (cCode al P G a).map fun a => .loop a
  | .exit id => some (.exit id)
  | .ret => some .ret
  | _ => some badC

def cRes (P : Program) : List ResultVar → Option (List ARes)
  | [] => some []
  | .tmp t :: l => (cRes P l).map (.t t :: ·)
  | .cell a T :: l => (aggOf P T).bind fun g => (szOf P T).bind fun n => (cRes P l).map (.cell a (if g then some n else none) :: ·)

/-! ## All variables lie in the frame -/
def wfOper (N : Nat) (o : AOper) : Bool := (tOper o).all (· < N) && (match o.dst with
  | some d => decide (d < N)
  | none => true)
def wfCode (N : Nat) : ACode → Bool
  | .skip => true
  | .reg ops => ops.all (wfOper N)
  | .draw ops tail => ops.all (wfOper N) && tail.all (wfOper N)
  | .drawD ops tail => ops.all (wfOper N) && tail.all fun p => wfOper N p.1
  | .seq a b => wfCode N a && wfCode N b
  | .cond c a b => (tOpnd c).all (· < N) && wfCode N a && wfCode N b
  | .block _ a => wfCode N a
  | .loop a => wfCode N a
  | .exit _ => true
  | .ret => true
def wfRes (N : Nat) : ARes → Bool
  | .t n => decide (n < N)
  | .cell a _ => decide (a < N)

def cFn (al : FuncId → Bool) (P : Program) (G : Nat) (fn : Func) : Option AFn :=
  fn.body.bind fun c => (cCode al P G c).bind fun a => (cRes P fn.results.toList).bind fun r =>
    if wfCode fn.ntmps a && r.all (wfRes fn.ntmps) then some ⟨fn.ntmps, r, a⟩ else none

end Ev
end Go.Proofs.Ytfbelnjchpffeaa
