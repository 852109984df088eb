/- From the model's code to the pure evaluator's: types are looked up once, here. -/
import Derived.Test.YthkehbdljckbdaaCore
import Derived.Calls
import Derived.Laws.Append
set_option linter.unusedVariables false
namespace Go.Pev
open Go

structure Ann where
  kill : Nat → List Nat
  killH : Nat → List Nat
  own : Nat → Nat → Bool

def constC : Value → Option V
  | .bool b => some (.t (.b b))
  | .int k n => some (.t (.i k n))
  | .string s => some (.t (.s s.data.toList))
  | .slice none 0 0 => some .nl
  | .pointer none => some (.t .np)
  | .nilIface => some (.t .ni)
  | _ => none
def constCs : List Value → Option (List V)
  | [] => some []
  | c :: r => match constC c, constCs r with
    | some v, some vs => some (v :: vs)
    | _, _ => none
def constV : Value → Option V
  | .agg cs => (constCs cs.toList).map .ag
  | v => constC v
def toTc : V → Option T
  | .t x => some x
  | .nl => some (.l [])
  | _ => none
def toTcs : List V → Option (List T)
  | [] => some []
  | c :: r => match toTc c, toTcs r with
    | some v, some vs => some (v :: vs)
    | _, _ => none

def compOpd : Operand → Option Opd
  | .tmp t => some (.tmp t)
  | .const v => (constV v).map .c
  | .func f => some (.c (.fn f []))
  | .global _ => none
def compOpds : List Operand → Option (List Opd)
  | [] => some []
  | x :: r => match compOpd x, compOpds r with
    | some y, some ys => some (y :: ys)
    | _, _ => none
def compOpt : Option Operand → Option (Option Opd)
  | none => some none
  | some x => (compOpd x).map some

def aggD : TypeDesc → Bool
  | .struct _ | .array _ _ => true
  | _ => false
def szOf (P : Program) (t : TypeId) : Option Nat := (P.info? t).map (·.size)
def aggOf (P : Program) (t : TypeId) : Option Bool := (P.underlying t).map aggD
def bytesOf (P : Program) (t : TypeId) : Option Nat := (P.info? t).map (·.bytes)
def zeroOf (P : Program) (t : TypeId) : Option Value := (P.info? t).bind (·.zero)
/-- 1: nil of an interface type; 2: of a pointer type; 3: of a slice type. -/
def nilKind (d : TypeDesc) (y : Operand) : Nat :=
  match d, y with
  | .interface _, .const .nilIface => 1
  | .pointer _, .const (.pointer none) => 2
  | .slice _, .const (.slice none 0 0) => 3
  | _, _ => 0

def placesOf (P : Program) : List (Nat × Nat × Operand) → Option (List (Nat × Nat × Opd))
  | [] => some []
  | (o, n, x) :: r => match compOpd x, placesOf P r with
    | some y, some ys => some ((o, n, y) :: ys)
    | _, _ => none
def fieldsOf (P : Program) (fs : Array Field) : Option (List (Nat × Nat)) := fs.toList.mapM fun f => (P.info? f.type).map fun i => (f.offset, i.size)
def placeS (pls : List (Nat × Nat)) : List (Nat × Operand) → Option (List (Nat × Nat × Operand))
  | [] => some []
  | (i, x) :: r => match pls[i]?, placeS pls r with
    | some p, some ys => some ((p.1, p.2, x) :: ys)
    | _, _ => none
def placeA (n : Nat) : List (Nat × Operand) → List (Nat × Nat × Operand)
  | [] => []
  | (i, x) :: r => (i * n, n, x) :: placeA n r

def goodFn (P : Program) (f : FuncId) : Bool :=
  match P.funcs[f]? with
  | some fn => fn.body.isSome && !(fn.name == "runtime.NumGoroutine")
  | none => false

def compPo (P : Program) (A : Ann) (rid i : Nat) (draw : Bool) (o : Oper) : Option Po :=
  match o.op with
  | .move x => (compOpd x).map .mv
  | .assign x => match x with
    | .const (.slice none 0 0) => match P.underlying o.type with
      | some (.slice e) => (szOf P e).map (.nilv e ·)
      | _ => none
    | x => (compOpd x).map .mv
  | .pick c a b => match compOpd c, compOpd a, compOpd b with
    | some c, some a, some b => some (.pick c a b)
    | _, _, _ => none
  | .alloc e => match zeroOf P e with
    | some z => (constCs z.cells.toList).map (.alloc e ·)
    | none => none
  | .box e x => match szOf P e, compOpd x with
    | some n, some x => some (.box e n x)
    | _, _ => none
  | .build t ps => match zeroOf P t, P.underlying t with
    | some z, some (.struct fs) => match constCs z.cells.toList, fieldsOf P fs with
      | some zs, some fo => match placeS fo ps.toList with
        | some pl => (placesOf P pl).map (.build zs ·)
        | none => none
      | _, _ => none
    | some z, some (.array _ e) => match constCs z.cells.toList, szOf P e with
      | some zs, some n => (placesOf P (placeA n ps.toList)).map (.build zs ·)
      | _, _ => none
    | _, _ => none
  | .buildSlice t len ps => match P.underlying t with
    | some (.slice e) => match szOf P e, zeroOf P e, compOpds (ps.toList.map (·.2)) with
      | some n, some z, some xs => if ps.toList.map (·.1) = List.range len ∧ len * n ≤ 16777216 ∧ 0 < n ∧ z.cells.size = n then
          (if A.own rid i then some (.bslO e n xs) else some (.bslT n xs)) else none
      | _, _, _ => none
    | _ => none
  | .load t x => match aggOf P t, szOf P t, compOpd x with
    | some a, some n, some x => some (.load a n x)
    | _, _, _ => none
  | .store t x y => match szOf P t, compOpd x, compOpd y with
    | some n, some x, some y => some (.store n x y)
    | _, _, _ => none
  | .nilCheck x => (compOpd x).map .nchk
  | .binOp op t x y _ => match P.underlying t, compOpd x, compOpd y with
    | some d, some x', some y' =>
      match op, nilKind d y with
      | .eql, 1 => some (.isnilI false x')
      | .neq, 1 => some (.isnilI true x')
      | .eql, 2 => some (.isnilP false x')
      | .neq, 2 => some (.isnilP true x')
      | .eql, 3 => some (.isnilS false x')
      | .neq, 3 => some (.isnilS true x')
      | _, _ => match d with
        | .int _ => some (.bin op x' y')
        | .string => some (.bin op x' y')
        | .bool => match op with
          | .eql => some (.beq false x' y')
          | .neq => some (.beq true x' y')
          | _ => none
        | _ => none
    | _, _, _ => none
  | .unOp op _ x => (compOpd x).map (.un op ·)
  | .convert s d x => match P.underlying s, P.underlying d, compOpd x with
    | some (.int _), some (.int k), some x => some (.cvi k x)
    | some .string, some .string, some x => some (.cvs x)
    | some .string, some (.slice e), some x => match P.underlying e with
      | some (.int .u8) => some (.sbs e x)
      | _ => none
    | some (.slice e), some .string, some x => match P.underlying e with
      | some (.int .u8) => some (.cvbs x)
      | _ => none
    | _, _, _ => none
  | .makeFunc (.func f) first caps => if first.size = 0 then (compOpds caps.toList).map (.mkfn f ·) else none
  | .makeSlice t l c => match P.underlying t with
    | some (.slice e) => match szOf P e, bytesOf P e, zeroOf P e, compOpd l, compOpd c with
      | some n, some by_, some z, some l, some c => match constCs z.cells.toList with
        | some zs => match toTcs zs with
          | some ts => if 0 < n then some (.mks e n by_ ts l c) else none
          | none => none
        | none => none
      | _, _, _, _, _ => none
    | _ => none
  | .slice t x lo hi none => match P.underlying t, compOpd x, compOpt lo, compOpt hi with
    | some .string, some x, some lo, some hi => some (.slS x lo hi)
    | some (.slice e), some x, some lo, some hi => match szOf P e with
      | some n => if 0 < n then some (.sls n x lo hi) else none
      | none => none
    | _, _, _, _ => none
  | .fieldAddr t x f => match P.underlying t, compOpd x with
    | some (.struct fs), some x => match fs[f]? with
      | some fd => match szOf P fd.type with
        | some n => if 0 < n then some (.fad fd.offset x) else none
        | none => none
      | none => none
    | _, _ => none
  | .field t x f => match P.underlying t, compOpd x with
    | some (.struct fs), some x => match fs[f]? with
      | some fd => match aggOf P fd.type, szOf P fd.type with
        | some a, some n => some (.fld a fd.offset n x)
        | _, _ => none
      | none => none
    | _, _ => none
  | .indexAddr t x j => match P.underlying t, compOpd x, compOpd j with
    | some (.slice e), some x, some j => match szOf P e with
      | some n => if 0 < n then some (.ixS n x j) else none
      | none => none
    | some (.array len e), some x, some j => match szOf P e with
      | some n => if 0 < n then some (.ixA len n x j) else none
      | none => none
    | _, _, _ => none
  | .index t x j => match P.underlying t, compOpd x, compOpd j with
    | some .string, some x, some j => some (.ixs x j)
    | some (.array len e), some x, some j => match aggOf P e, szOf P e with
      | some a, some n => some (.ixV a len n x j)
      | _, _ => none
    | _, _, _ => none
  | .extract x n => (compOpd x).map (.ext n ·)
  | .call { callee := .builtin .len, args := as, argTypes := ts } => match as.toList, ts.toList with
    | [x], [t] => match P.underlying t, compOpd x with
      | some .string, some x => some (.lenS x)
      | some (.slice _), some x => some (.lenL x)
      | some (.array n _), some _ => some (.lenc n)
      | _, _ => none
    | _, _ => none
  | .call { callee := .builtin .append, args := as, argTypes := ts } => match as.toList, ts.toList with
    | [x, y], [t, u] => match P.underlying t, compOpd x, compOpd y with
      | some (.slice e), some x, some y => match szOf P e, bytesOf P e, zeroOf P e with
        | some n, some by_, some z => if t = u ∧ 0 < n ∧ z.cells.size = n ∧ z.cells.all (·.oneCell') then some (.app e n by_ x y) else none
        | _, _, _ => none
      | _, _, _ => none
    | _, _ => none
  | .call { callee := .builtin .clear, args := as, argTypes := ts } => match as.toList, ts.toList with
    | [x], [t] => match P.underlying t, compOpd x with
      | some (.slice e), some x => match szOf P e, zeroOf P e with
        | some n, some z => if 0 < n ∧ z.cells.size = n ∧ z.cells.all (·.oneCell') then some (.clr n x) else none
        | _, _ => none
      | _, _ => none
    | _, _ => none
  | .call { callee := .builtin .min, args := as, .. } => (compOpds as.toList).map (.mm false ·)
  | .call { callee := .builtin .max, args := as, .. } => (compOpds as.toList).map (.mm true ·)
  | .call { callee := .value f, args := as, .. } => match f, compOpds as.toList with
    | .func f, some xs => if goodFn P f then (if draw then some (.callq f xs) else some (.call f xs)) else none
    | .tmp t, some xs => if draw then none else some (.callv (.tmp t) xs)
    | _, _ => none
  | _ => none

def compGuard (ops : Array Oper) : Option (Nat × Bool) → Option (Option (Nat × Bool))
  | none => some none
  | some (j, want) => match (ops[j]?).bind (·.dst) with
    | some t => some (some (t, want))
    | none => none
def dstOk (nt : Nat) : Option Tmp → Bool
  | none => true
  | some d => d < nt

/-- The loads that no edge sets before or behind the i-th operation: what they read through. -/
def loadTmp (o : Oper) : Option Nat := match o.op with
  | .load _ (.tmp t) => some t
  | _ => none
def looseLoads (ops : Array Oper) (bef : Array Nat) (i : Nat) : List Nat := (List.range ops.size).filterMap fun j => match ops[j]? with
  | some o => match loadTmp o with
    | some t => if j == i || (bef.getD i 0).testBit j || (bef.getD j 0).testBit i then none else some t
    | none => none
  | none => none
def wrapD (A : Ann) (rid : Nat) (ops : Array Oper) (i : Nat) (draw : Bool) (p : Po) : Po := if draw then (match p with
  | .store n a x => match looseLoads ops (Region.before ops) i with
    | [] => .store n a x
    | zs => if A.own rid i then .storeR n a x else .storeD n a x zs
  | .load ag n x => if A.own rid i then .loadB ag n x else .load ag n x
  | .call f xs => if A.own rid i then .callo f xs else .callR f xs
  | .bslT n xs => match looseLoads ops (Region.before ops) i with
    | [] => .bslT n xs
    | _ => .bslF n xs
  | p => p) else p
def compPop (P : Program) (A : Ann) (nt rid : Nat) (draw : Bool) (ops : Array Oper) (i : Nat) (o : Oper) : Option Pop :=
  match compPo P A rid i (draw && !A.own rid i && !A.own rid (i + 1000)) o, compGuard ops o.guard with
  | some p, some g => if dstOk nt o.dst then some ⟨o.dst, wrapD A rid ops i draw p, g⟩ else none
  | _, _ => none
def compOps (P : Program) (A : Ann) (nt rid : Nat) (draw : Bool) (ops : Array Oper) : Nat → List Oper → Option (List (Nat × Pop))
  | _, [] => some []
  | i, o :: r => match compPop P A nt rid draw ops i o, compOps P A nt rid draw ops (i + 1) r with
    | some p, some ps => some ((i, p) :: ps)
    | _, _ => none

/-! ### a region whose order is open -/
def Opd.rd : Opd → List Nat
  | .tmp t => [t]
  | .c _ => []
def Opd.rdo : Option Opd → List Nat
  | some x => x.rd
  | none => []
def Po.rd : Po → List Nat
  | .mv x | .box _ _ x | .load _ _ x | .loadB _ _ x | .nchk x | .isnilI _ x | .isnilP _ x | .isnilS _ x | .un _ x | .cvi _ x | .cvs x | .cvbs x | .fad _ x | .fld _ _ _ x | .ext _ x | .lenL x | .lenS x | .clr _ x | .sbs _ x => x.rd
  | .nilv _ _ | .alloc _ _ | .lenc _ => []
  | .pick c a b => c.rd ++ a.rd ++ b.rd
  | .build _ ps => ps.flatMap fun p => p.2.2.rd
  | .bslT _ xs | .bslF _ xs | .bslO _ _ xs | .mkfn _ xs | .mm _ xs | .call _ xs | .callq _ xs | .callo _ xs | .callR _ xs => xs.flatMap (·.rd)
  | .store _ x y | .storeR _ x y | .bin _ x y | .beq _ x y | .mks _ _ _ _ x y | .ixS _ x y | .ixA _ _ x y | .ixV _ _ _ x y | .ixs x y | .app _ _ _ x y => x.rd ++ y.rd
  | .slS x lo hi | .sls _ x lo hi => x.rd ++ Opd.rdo lo ++ Opd.rdo hi
  | .callv x xs => x.rd ++ xs.flatMap (·.rd)
  | .storeD _ x y zs => x.rd ++ y.rd ++ zs
/-- 0: nothing of the heap; 1, 4: reads it; 2: a new variable; 3: whatever else. -/
def Po.cls : Po → Nat
  | .mv _ | .pick _ _ _ | .build _ _ | .nchk _ | .bin _ _ _ | .beq _ _ _ | .isnilI _ _ | .isnilP _ _ | .isnilS _ _ | .un _ _ | .cvi _ _ | .cvs _ | .mkfn _ _ | .slS _ _ _ | .sls _ _ _ _ | .fad _ _ | .fld _ _ _ _ | .ixS _ _ _ | .ixA _ _ _ _ | .ixV _ _ _ _ _ | .ixs _ _ | .ext _ _ | .lenL _ | .lenS _ | .lenc _ | .mm _ _ => 0
  | .load _ _ _ | .loadB _ _ _ => 1
  | .callq _ _ | .cvbs _ | .bslF _ _ => 4
  | .alloc _ _ | .mks _ _ _ _ _ _ => 2
  | .callo _ _ => 8
  | .storeD _ _ _ _ | .storeR _ _ _ => 5
  | .store _ _ _ => 6
  | _ => 3
def Pop.rd (p : Pop) : List Nat := (match p.g with | some (t, _) => [t] | none => []) ++ p.op.rd
def meets (a b : List Nat) : Bool := a.any b.contains
def rdr (c : Nat) : Bool := c == 1 || c == 4
/-- The one reads through what the other has looked at. -/
def seen : Po → Po → Bool
  | .load _ _ (.tmp t), .storeD _ _ _ zs => zs.contains t
  | .loadB _ _ _, .storeR _ _ _ => true
  | _, _ => false
def kept : Po → Po → Bool
  | .loadB _ _ _, .callR _ _ => true
  | _, _ => false
def heapMay (lo : Bool) (p q : Po) : Bool := p.cls == 0 || q.cls == 0 || (rdr p.cls && rdr q.cls) || (rdr p.cls && (q.cls == 2 || q.cls == 8)) || (lo && ((p.cls == 2 || p.cls == 8) && q.cls == 2)) || seen p q || seen q p || kept p q
/-- What may stand in a region where variables are made in any order. -/
def okL (p : Po) : Bool := p.cls != 3
/-- May the i-th operation, which the text has first, stand behind the j-th one? -/
def free2 (lo : Bool) (p q : Pop) : Bool :=
  !(meets p.dst.toList (q.rd ++ q.dst.toList)) && !(meets q.dst.toList p.rd) && heapMay lo p.op q.op
def freeAll (lo : Bool) (bef : Array Nat) : List (Nat × Pop) → Bool
  | [] => true
  | (i, p) :: r => (r.all fun x => (bef.getD x.1 0).testBit i || free2 lo p x.2) && freeAll lo bef r
def edgesOk (ops : Array Oper) : Bool := (List.range ops.size).all fun i => match ops[i]? with
  | some o => o.after.all fun e => !(Region.binds .any e) || decide (e.on < i)
  | none => true
/-- Who stands before whom, by the edges alone. -/
def befOk (ops : Array Oper) (bef : Array Nat) : Bool := (List.range ops.size).all fun i => match ops[i]? with
  | some o => (List.range ops.size).all fun j => !((bef.getD i 0).testBit j) || o.after.any fun e => Region.binds .any e && (e.on == j || (bef.getD e.on 0).testBit j)
  | none => true
def smallOk (ops : Array Oper) (bef : Array Nat) : Bool := bef.all fun b => decide (b < 2 ^ ops.size)
def drawOkB (ops : Array Oper) (ps : List (Nat × Pop)) (bef : Array Nat) : Bool := edgesOk ops && befOk ops bef && smallOk ops bef && (freeAll false bef ps || (freeAll true bef ps && ps.all fun q => okL q.2.op))
def drawOk (ops : Array Oper) (ps : List (Nat × Pop)) : Bool := drawOkB ops ps (Region.before ops)

def compC (P : Program) (A : Ann) (nt : Nat) : Code → Option Pc
  | .skip => some .skip
  | .region id ops draw => match compOps P A nt id draw ops 0 ops.toList with
    | some ps => if !draw || drawOk ops ps then some (.reg ps (A.kill id) (A.killH id)) else none
    | none => none
  | .seq a b => match compC P A nt a, compC P A nt b with
    | some x, some y => some (.seq x y)
    | _, _ => none
  | .cond c a b => match compOpd c, compC P A nt a, compC P A nt b with
    | some c, some x, some y => some (.cond c x y)
    | _, _, _ => none
  | .block id c => (compC P A nt c).map (.block id ·)
  | .loop c => (compC P A nt c).map .loop
  | .exit id => some (.exit id)
  | .ret => some .ret
  | _ => none

def compRes (P : Program) : List ResultVar → Option (List Pres)
  | [] => some []
  | .tmp t :: r => (compRes P r).map (.tmp t :: ·)
  | .cell x t :: r => match aggOf P t, szOf P t, compRes P r with
    | some a, some n, some rs => some (.cell x a n :: rs)
    | _, _, _ => none

def compF (P : Program) (A : Ann) (f : FuncId) : Option Pfn :=
  match P.funcs[f]? with
  | some fn => match fn.body with
    | some c => match compC P A fn.ntmps c, compRes P fn.results.toList with
      | some b, some rs => if fn.params.size + fn.nfree ≤ fn.ntmps then some ⟨fn.params.size + fn.nfree, fn.ntmps, rs, b⟩ else none
      | _, _ => none
    | none => none
  | none => none

end Go.Pev
