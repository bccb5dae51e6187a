/- The D-machine (2): from the model's code to ours, types looked up once. -/
import Derived.Test.YtjhednolknlpiaaDmA
namespace Go.Dm
set_option linter.unusedSimpArgs false
set_option linter.unusedVariables false
set_option linter.unnecessarySimpa false

def ofVal1 : Value → Option DV
  | .bool b => some (.bool b)
  | .int k n => some (.int k n)
  | .string s => some (.str s.data.toList)
  | .pointer none => some .nilp
  | .slice none 0 0 => some (.lst 0 0 [])
  | .nilFunc => some .nilfn
  | _ => none
def ofVals : List Value → Option (List DV)
  | [] => some []
  | v :: r => match ofVal1 v, ofVals r with
    | some d, some ds => some (d :: ds)
    | _, _ => none
def ofVal : Value → Option DV
  | .agg cs => (ofVals cs.toList).map .agg
  | v => ofVal1 v
def opd : Operand → Option Opd
  | .tmp t => some (.t t)
  | .const v => (ofVal v).map .c
  | .global g => some (.g g)
  | .func f => some (.f f)
def opds : List Operand → Option (List Opd)
  | [] => some []
  | x :: r => match opd x, opds r with
    | some y, some ys => some (y :: ys)
    | _, _ => none
def opdO : Option Operand → Option (Option Opd)
  | none => some none
  | some x => (opd x).map some

structure Cfg where
  mutTy : TypeId → Bool
  mutFn : FuncId → Bool

def shapeOf (P : Program) (t : TypeId) : Option Shape :=
  match P.info? t, P.underlying t with
  | some i, some (.struct _) => if i.size = 0 then none else some (some i.size)
  | some i, some (.array _ _) => if i.size = 0 then none else some (some i.size)
  | some i, some _ => if i.size = 1 then some none else none
  | _, _ => none
def zeroOf (P : Program) (t : TypeId) : Option DV := ((P.info? t).bind (·.zero)).bind ofVal
def sizeOfT (P : Program) (t : TypeId) : Option Nat := (P.info? t).map (·.size)

def partsS (P : Program) (fs : Array Field) : List (Nat × Operand) → Option (List (Nat × Nat × Opd))
  | [] => some []
  | (i, x) :: r => match fs[i]?, opd x, partsS P fs r with
    | some f, some y, some ys => (sizeOfT P f.type).map fun n => (f.offset, n, y) :: ys
    | _, _, _ => none
def partsL : List (Nat × Operand) → Option (List (Nat × Opd))
  | [] => some []
  | (i, x) :: r => match opd x, partsL r with
    | some y, some ys => some ((i, y) :: ys)
    | _, _ => none
def scalarK (P : Program) (t : TypeId) : Option SK :=
  match P.underlying t with
  | some .bool => some .bool
  | some (.int _) => some .int
  | some .string => some .str
  | _ => none
def fieldKs (P : Program) : Nat → List Field → Option (List SK)
  | _, [] => some []
  | off, f :: r => if f.name != "_" && f.offset == off then
      match scalarK P f.type, shapeOf P f.type, fieldKs P (off + 1) r with
      | some k, some none, some ks => some (k :: ks)
      | _, _, _ => none
    else none
/-- How '==' goes at a type. -/
def eqKind (P : Program) (t : TypeId) : Option EqK :=
  match P.underlying t with
  | some .bool => some .bool
  | some (.int _) | some .string => some .any
  | some (.func _ _ _) => some .fn
  | some (.pointer _) => some .ptr
  | some (.slice _) => some .sl
  | some (.struct fs) => if P.eqGuardType P.depth t = false ∧ P.stoodInHeld t = false then (fieldKs P 0 fs.toList).map .st else none
  | _ => none

def compCall (P : Program) (cfg : Cfg) (mf : Bool) (c : Call) : Option DOp :=
  match c.callee with
  | .value f => match opd f, opds c.args.toList with
    | some g, some as => some (.call g as (match f with | .func k => cfg.mutFn k && !mf | _ => false))
    | _, _ => none
  | .invoke _ _ => none
  | .builtin b => match b, c.args.toList, c.argTypes.toList with
    | .len, [x], [t] => match P.underlying t with
      | some .string => (opd x).map (.len false)
      | some (.slice _) => (opd x).map (.len true)
      | some (.array n _) => some (.mv (.c (.int .i64 n)))
      | _ => none
    | .append, [x, y], [t, u] => match P.underlying t, opd x, opd y with
      | some (.slice e), some x, some y => match shapeOf P e, P.info? e, zeroOf P e, P.underlying u with
        | some sh, some i, some z, some (.slice e') => if e' = e ∧ z.cells.length = sh.size then some (.append (mf || cfg.mutTy e) sh i.bytes x y) else none
        | some none, some i, some z, some .string => if z.cells.length = 1 then some (.append (mf || cfg.mutTy e) none i.bytes x y) else none
        | _, _, _, _ => none
      | _, _, _ => none
    | .copy, [x, y], [t, u] => match P.underlying t, opd x, opd y with
      | some (.slice e), some x, some y => match shapeOf P e, P.underlying u with
        | some sh, some (.slice e') => if e' = e then some (.copy sh x y) else none
        | _, _ => none
      | _, _, _ => none
    | .min, [x, y], _ => match opd x, opd y with
      | some x, some y => some (.minmax false x y)
      | _, _ => none
    | .max, [x, y], _ => match opd x, opd y with
      | some x, some y => some (.minmax true x y)
      | _, _ => none
    | .clear, [x], [t] => match P.underlying t, opd x with
      | some (.slice e), some x => match shapeOf P e, zeroOf P e with
        | some sh, some z => if z.cells.length = sh.size ∧ z.okv = true then some (.clear z.cells x) else none
        | _, _ => none
      | _, _ => none
    | _, _, _ => none

def compOp (P : Program) (cfg : Cfg) (mf : Bool) (op : Op) : Option DOp :=
  match op with
  | .move x => (opd x).map .mv
  | .assign x => (opd x).map .mv
  | .pick c a b => match opd c, opd a, opd b with
    | some c, some a, some b => some (.pick c a b)
    | _, _, _ => none
  | .alloc t => (zeroOf P t).bind fun z => if z.okv then some (.alloc z.cells none) else none
  | .box t x => match opd x, sizeOfT P t with
    | some x, some n => some (.box x n)
    | _, _ => none
  | .build t parts => match P.underlying t, zeroOf P t with
    | some (.struct fs), some z => match z, partsS P fs parts.toList with
      | .agg cs, some ps => if fs.all (fun f => (P.info? f.type).isSome) then some (.build cs ps) else none
      | _, _ => none
    | _, _ => none
  | .buildSlice t len parts => match P.underlying t with
    | some (.slice e) => match shapeOf P e, zeroOf P e, partsL parts.toList with
      | some sh, some z, some ps => if z.cells.length = sh.size ∧ z.okv = true then some (.mks (mf || cfg.mutTy e) sh z len ps) else none
      | _, _, _ => none
    | _ => none
  | .load t a => match shapeOf P t, opd a with
    | some sh, some a => some (.load sh a)
    | _, _ => none
  | .store t a x => match shapeOf P t, opd a, opd x with
    | some sh, some a, some x => some (.store sh.size a x)
    | _, _, _ => none
  | .nilCheck x => (opd x).map .nilc
  | .binOp op t x y _ => match opd x, opd y with
    | some x, some y => if (op matches .eql | .neq) then (eqKind P t).map fun k => .bin op k x y else some (.bin op .any x y)
    | _, _ => none
  | .unOp op _ x => (opd x).map (.un op)
  | .convert s d x => match P.underlying s, P.underlying d, opd x with
    | some (.int _), some (.int k), some x => some (.conv (.int k) false x)
    | some .string, some .string, some x => some (.conv .same false x)
    | some .string, some (.slice e), some x => match P.underlying e, P.info? e with
      | some (.int .u8), some _ => some (.conv .strBytes (mf || cfg.mutTy e) x)
      | _, _ => none
    | some (.slice e), some .string, some x => match P.underlying e with
      | some (.int .u8) => some (.conv .bytesStr (mf || cfg.mutTy e) x)
      | some (.int .i32) => some (.conv .runesStr false x)
      | _ => none
    | some (.int _), some .string, some x => some (.conv .intStr false x)
    | some (.slice e), some (.slice _), some x => match P.underlying e with
      | some (.int .u8) => if s = d then some (.conv .sameB false x) else none
      | _ => none
    | _, _, _ => none
  | .makeFunc fn first caps => match fn, opds first.toList, opds caps.toList with
    | .func f, some a, some b => some (.mkfn (.func f) a b)
    | _, _, _ => none
  | .makeSlice t len cap => match P.underlying t, opd len, opd cap with
    | some (.slice e), some len, some cap => match shapeOf P e, zeroOf P e, P.info? e with
      | some sh, some z, some i => if z.cells.length = sh.size ∧ z.okv = true then some (.mkslice (mf || cfg.mutTy e) sh z i.bytes len cap) else none
      | _, _, _ => none
    | _, _, _ => none
  | .slice t x lo hi mx => match P.underlying t, opd x, opdO lo, opdO hi, opdO mx with
    | some .string, some x, some lo, some hi, some none => some (.sliceStr x lo hi)
    | some (.slice e), some x, some lo, some hi, some mx => (sizeOfT P e).map fun n => .slice n x lo hi mx
    | _, _, _, _, _ => none
  | .fieldAddr s x f => match P.underlying s, opd x with
    | some (.struct fs), some x => match fs[f]? with
      | some fd => match sizeOfT P fd.type with
        | some (_ + 1) => some (.faddr fd.offset x)
        | _ => none
      | none => none
    | _, _ => none
  | .field s x f => match P.underlying s, opd x with
    | some (.struct fs), some x => match fs[f]? with
      | some fd => (shapeOf P fd.type).map fun sh => .field fd.offset sh x
      | none => none
    | _, _ => none
  | .indexAddr t x i => match P.underlying t, opd x, opd i with
    | some (.slice e), some x, some i => (sizeOfT P e).map fun n => .iaddr n x i
    | some (.array len e), some x, some i => (sizeOfT P e).map fun n => .iaddrArr n len x i
    | _, _, _ => none
  | .index t x i => match P.underlying t, opd x, opd i with
    | some .string, some x, some i => some (.idxStr x i)
    | some (.array len e), some x, some i => (shapeOf P e).map fun sh => .idxArr sh len x i
    | _, _, _ => none
  | .extract x i => (opd x).map fun x => .extract x i
  | .range t x => match P.underlying t, opd x with
    | some .string, some x => some (.range x)
    | _, _ => none
  | .next x true => (opd x).map .next
  | .call c => compCall P cfg mf c
  | .defer c => match c.callee with
    | .value f => match opd f, opds c.args.toList with
      | some g, some as => some (.defr g as)
      | _, _ => none
    | _ => none
  | _ => none

def compRop (P : Program) (cfg : Cfg) (mf : Bool) (ops : Array Oper) (o : Oper) : Option ROp :=
  match compOp P cfg mf o.op with
  | some op => match o.guard with
    | none => some { dst := o.dst, op, guard := none, chk := [] }
    | some (j, b) => match (ops[j]?).bind (·.dst) with
      | some d => some { dst := o.dst, op, guard := some (d, b), chk := [] }
      | none => none
  | none => none
def compRops (P : Program) (cfg : Cfg) (mf : Bool) (ops : Array Oper) : List Oper → Option (List ROp)
  | [] => some []
  | o :: r => match compRop P cfg mf ops o, compRops P cfg mf ops r with
    | some x, some xs => some (x :: xs)
    | _, _ => none

/-- An order in which nothing that turns the heap comes ahead of what may come ahead of it. -/
def canonGo (ops : Array Oper) (eff : Nat → Bool) : Nat → List Nat → List Nat
  | 0, acc => acc.reverse
  | k + 1, acc =>
    let rs := (List.range ops.size).filter fun i => !acc.contains i && ((ops[i]?).map (·.after.all fun e => !Region.binds .any e || acc.contains e.on)).getD false
    match rs.find? (fun i => !eff i) with
    | some i => canonGo ops eff k (i :: acc)
    | none => match rs with
      | i :: _ => canonGo ops eff k (i :: acc)
      | [] => acc.reverse

def Opd.slot? : Opd → Option Nat
  | .t n => some n
  | _ => none
/-- What an operation looks at. -/
def DOp.opds : DOp → List Opd
  | .mv x => [x]
  | .pick c a b => [c, a, b]
  | .alloc _ _ => []
  | .box x _ => [x]
  | .build _ ps => ps.map (·.2.2)
  | .mks _ _ _ _ ps => ps.map (·.2)
  | .load _ a => [a]
  | .store _ a x => [a, x]
  | .nilc x => [x]
  | .bin _ _ x y => [x, y]
  | .un _ x => [x]
  | .conv _ _ x => [x]
  | .mkfn _ a b => a ++ b
  | .mkslice _ _ _ _ x y => [x, y]
  | .sliceStr x lo hi => x :: lo.toList ++ hi.toList
  | .slice _ x lo hi mx => x :: lo.toList ++ hi.toList ++ mx.toList
  | .faddr _ x => [x]
  | .field _ _ x => [x]
  | .iaddr _ x i => [x, i]
  | .iaddrArr _ _ x i => [x, i]
  | .idxStr x i => [x, i]
  | .idxArr _ _ x i => [x, i]
  | .extract x _ => [x]
  | .range x => [x]
  | .next x => [x]
  | .call f args _ => f :: args
  | .len _ x => [x]
  | .append _ _ _ x y => [x, y]
  | .copy _ x y => [x, y]
  | .minmax _ x y => [x, y]
  | .clear _ x => [x]
  | .defr f args => f :: args
def ROp.slots (r : ROp) : List Nat := r.dst.toList ++ r.op.opds.filterMap Opd.slot? ++ (r.guard.map (·.1)).toList
def ROp.load? (r : ROp) : Option (Opd × Shape × Nat × Option (Nat × Bool)) :=
  match r.op, r.dst with
  | .load sh a, some d => some (a, sh, d, r.guard)
  | _, _ => none
/-- A load that may be looked at again. -/
def loadOk (r : ROp) : Bool := match r.op with
  | .load _ a => match r.dst with
    | some d => decide (a.slot? ≠ some d) && decide (r.guard.map (·.1) ≠ some d)
    | none => false
  | _ => true
def isDefr (r : ROp) : Bool := match r.op with | .defr .. => true | _ => false
def writesIn (d : Option Nat) (l : List Nat) : Bool := match d with
  | some t => l.contains t
  | none => false
section
variable (rs : Array ROp) (bef : Array Nat)
/-- i ahead of j, by the program's order. -/
def ordered (i j : Nat) : Bool := (bef.getD j 0).testBit i
def slotConf (a b : ROp) : Bool := writesIn a.dst b.slots || writesIn b.dst a.slots
/-- Of the operation at i and a later one at j, in our order. -/
def pairOk (i j : Nat) : Bool :=
  !ordered bef j i && match rs[i]?, rs[j]? with
    | some a, some b => !(a.op.effect || slotConf a b) || ordered bef i j
    | _, _ => false
def pairsOk : List Nat → Bool
  | [] => true
  | i :: r => r.all (pairOk rs bef i) && pairsOk r
/-- The loads ahead of j that may as well come behind it; 'ws': what is written between. -/
def chkOf (j : Nat) : List Nat → List Nat → Option (List (Opd × Shape × Nat × Option (Nat × Bool)))
  | _, [] => some []
  | ws, i :: r => match rs[i]? with
    | some a => match chkOf j (a.dst.toList ++ ws) r with
      | some l => match a.load? with
        | some e => if ordered bef i j then some l else if ws.any (fun t => a.slots.contains t) then none else some (e :: l)
        | none => some l
      | none => none
    | none => none
/-- The operations in our order, each with the loads that must be looked at again behind it; 'done': those that are laid, the last first. -/
def lay : List Nat → List Nat → Option (List ROp)
  | _, [] => some []
  | done, j :: r => match rs[j]? with
    | some o => match (if o.op.effect then chkOf rs bef j o.dst.toList done else some []), lay (j :: done) r with
      | some k, some os => some ({ o with chk := k } :: os)
      | _, _ => none
    | none => none
end
def edgesOk (ops : Array Oper) : Bool := ops.toList.zipIdx.all fun (o, i) => o.after.all fun e => !Region.binds .any e || decide (e.on < i)
def effAt (rs : Array ROp) (i : Nat) : Bool := ((rs[i]?).map (·.op.effect)).getD true
def compRegion (P : Program) (cfg : Cfg) (mf : Bool) (ops : Array Oper) (draw : Bool) : Option (List ROp) :=
  match compRops P cfg mf ops ops.toList with
  | some rs =>
    if draw = false then some rs else
    let ra := rs.toArray
    let κ := canonGo ops (effAt ra) ops.size []
    let bef := Region.before ops
    if κ.length = ops.size ∧ κ.all (fun i => decide (i < ops.size)) = true ∧ (List.range ops.size).all (fun i => κ.contains i) = true ∧ κ.Nodup ∧ pairsOk ra bef κ = true ∧ edgesOk ops = true ∧ (rs.all fun r => !isDefr r && loadOk r) = true then lay ra bef [] κ else none
  | none => none

def compC (P : Program) (cfg : Cfg) (mf : Bool) : Code → Option DC
  | .skip => some .skip
  | .region _ ops draw => (compRegion P cfg mf ops draw).map .region
  | .seq a b => match compC P cfg mf a, compC P cfg mf b with
    | some x, some y => some (.seq x y)
    | _, _ => none
  | .cond c a b => match opd c, compC P cfg mf a, compC P cfg mf b with
    | some c, some x, some y => some (.cond c x y)
    | _, _, _ => none
  | .block id b => (compC P cfg mf b).map (.block id)
  | .loop b => (compC P cfg mf b).map .loop
  | .rangeFunc f ps a b => match opd f, compC P cfg mf a, compC P cfg mf b with
    | some f, some x, some y => some (.range f ps.toList x y)
    | _, _, _ => none
  | .exit id => some (.exit id)
  | .ret => some .ret
  | _ => none
def compRes (P : Program) : List ResultVar → Option (List DRes)
  | [] => some []
  | .tmp t :: r => (compRes P r).map (.tmp t :: ·)
  | .cell t ty :: r => match shapeOf P ty, compRes P r with
    | some sh, some xs => some (.cell t sh :: xs)
    | _, _ => none
def compF (P : Program) (cfg : Cfg) (f : FuncId) : Option DFunc :=
  match P.funcs[f]? with
  | some fn => if fn.name == "runtime.NumGoroutine" then none else match fn.body with
    | some c => match compC P cfg (cfg.mutFn f) c, compRes P fn.results.toList with
      | some b, some rs => some { nt := fn.ntmps, body := b, res := rs }
      | _, _ => none
    | none => none
  | none => none
def dprog (P : Program) (cfg : Cfg) (glob : Nat → Option (List DV)) (prim : Nat → Option (List DV → Heap → Option (DV × Heap))) : DProg :=
  { fn := compF P cfg, glob, prim }
end Go.Dm
