/- SerReads returns true for every input: part 3 of the proof (several texts joined). -/
import Derived.Laws.BitsLemmas
import Derived.Test.YticnenofiibpgaaDoorChecked
import Derived.KernelRfl
import Derived.Test.YticnenofiibpgaaDoorJ2
/- The D-machine (32): the rules of symbolic runs. -/
namespace Go.Dm
set_option linter.unusedSimpArgs false
set_option linter.unusedVariables false
set_option linter.unnecessarySimpa false

/-- A post that is opened by hand. -/
def Hold (p : Prop) : Prop := p
inductive It where
  | code (c : DC)
  | ops (os : List ROp)
  | chk (l : List (Opd × Shape × Nat × Option (Nat × Bool)))
  | blk (id : Nat)
  | lp (b : DC)
/-- Where an exit leads. -/
def unw : List It → Nat → Option (List It)
  | [], _ => none
  | .blk j :: k, i => match Nat.beq i j with
    | true => some k
    | false => unw k i
  | .code _ :: k, i => unw k i
  | .ops _ :: k, i => unw k i
  | .chk _ :: k, i => unw k i
  | .lp _ :: k, i => unw k i

/-- What is left to do, from an outcome on. -/
def WpK (D : DProg) : List It → DX → Fr → Heap → (DX → Fr → Heap → Prop) → Prop
  | [], x, fr, h, Q => Q x fr h
  | .code c :: k, .normal, fr, h, Q => Wp D c fr h fun x fr' h' => WpK D k x fr' h' Q
  | .code _ :: k, x, fr, h, Q => WpK D k x fr h Q
  | .ops os :: k, .normal, fr, h, Q => WpOps D os fr h fun fr' h' => WpK D k .normal fr' h' Q
  | .ops _ :: k, x, fr, h, Q => WpK D k x fr h Q
  | .chk l :: k, .normal, fr, h, Q => chkOk D fr h l = true ∧ WpK D k .normal fr h Q
  | .chk _ :: k, x, fr, h, Q => WpK D k x fr h Q
  | .blk j :: k, .exit i, fr, h, Q => if i = j then WpK D k .normal fr h Q else WpK D k (.exit i) fr h Q
  | .blk _ :: k, x, fr, h, Q => WpK D k x fr h Q
  | .lp b :: k, .normal, fr, h, Q => Wp D (.loop b) fr h fun x fr' h' => WpK D k x fr' h' Q
  | .lp _ :: k, x, fr, h, Q => WpK D k x fr h Q
/-- What a symbolic run means. -/
def RS (D : DProg) (k : List It) (st : St) (cs : List Ck) (Q : DX → St → List Ck → Prop) : Prop :=
  ∀ fr h, AgS fr st → Sat h cs → WpK D k .normal fr h fun x fr' h' => ∃ st' cs', AgS fr' st' ∧ Sat h' cs' ∧ Q x st' cs'

section
variable (D : DProg)
/-- What a function does. -/
def F (f : Nat) (args : List DV) (cs : List Ck) (P : DV → List Ck → Prop) : Prop := ∀ h, Sat h cs → ∃ v h' cs', Runs D f args h v h' ∧ Sat h' cs' ∧ P v cs'
/-- What a loop's body does that is called. -/
def Y (l : Nat) (args : List DV) (cs : List Ck) (P : Bool → List Ck → Prop) : Prop := ∀ h, Sat h cs → ∃ n b h' cs', yieldD (exec D n) l args h = some (.bool b, h') ∧ Sat h' cs' ∧ P b cs'
def FC (x : DV) (args : List DV) (cs : List Ck) (P : DV → List Ck → Prop) : Prop :=
  match x with
  | .fn (.func g) first caps => F D g (first ++ args ++ caps) cs P
  | .fn (.yield l) [] [] => Y D l args cs fun b => P (.bool b)
  | _ => False
/-- The same where what comes out is written into no more. -/
def FZ1 (g : Nat) (args : List DV) (cs : List Ck) (P : DV → List Ck → Prop) : Prop := ∀ h, Sat h cs → ∃ v h' v2 h2 cs', Runs D g args h v h' ∧ frzV h' v = some (v2, h2) ∧ Sat h2 cs' ∧ P v2 cs'
def FZ (x : DV) (args : List DV) (cs : List Ck) (P : DV → List Ck → Prop) : Prop :=
  match x with
  | .fn (.func g) first caps => FZ1 D g (first ++ args ++ caps) cs P
  | _ => False

def lo (es : List En) (A : List (Nat × Bool)) : Opd → Option DV
  | .t n => lk A [] es n
  | .c v => some v
  | .g n => match D.glob n with
    | some cs => some (.elt cs)
    | none => none
  | .f n => some (.fn (.func n) [] [])
/-- The values of operands, in their order. -/
inductive LoS (es : List En) (A : List (Nat × Bool)) : List Opd → List DV → Prop where
  | nil : LoS es A [] []
  | cons {x : Opd} {v : DV} {xs : List Opd} {vs : List DV} : lo D es A x = some v → LoS es A xs vs → LoS es A (x :: xs) (v :: vs)
inductive LoO (es : List En) (A : List (Nat × Bool)) : Option Opd → Option DV → Prop where
  | none : LoO es A none none
  | some {x : Opd} {v : DV} : lo D es A x = some v → LoO es A (some x) (some v)

def wid : IntKind → Int
  | .i8 => 8 | .u8 => 8 | .i16 => 16 | .u16 => 16 | .i32 => 32 | .u32 => 32 | .i64 => 64 | .u64 => 64
def top : IntKind → Int
  | .i8 => -1 | .u8 => 255 | .i16 => -1 | .u16 => 65535 | .i32 => 2147483647 | .u32 => 4294967295 | .i64 => 9223372036854775807 | .u64 => 18446744073709551615
inductive BI (p : Bool) : BinOp → EqK → DV → DV → DV → Prop where
  | addL {k : EqK} {a b : Int} : Arith (p = true → -9223372036854775808 ≤ a + b ∧ a + b ≤ 9223372036854775807) → BI p .add k (.int .i64 a) (.int .i64 b) (.int .i64 (a + b))
  | subL {k : EqK} {a b : Int} : Arith (p = true → -9223372036854775808 ≤ a - b ∧ a - b ≤ 9223372036854775807) → BI p .sub k (.int .i64 a) (.int .i64 b) (.int .i64 (a - b))
  | mulL {k : EqK} {a b : Int} : Arith (p = true → -9223372036854775808 ≤ a * b ∧ a * b ≤ 9223372036854775807) → BI p .mul k (.int .i64 a) (.int .i64 b) (.int .i64 (a * b))
  | addI {k : EqK} {a b : Int} : Arith (p = true → -2147483648 ≤ a + b ∧ a + b ≤ 2147483647) → BI p .add k (.int .i32 a) (.int .i32 b) (.int .i32 (a + b))
  | subI {k : EqK} {a b : Int} : Arith (p = true → -2147483648 ≤ a - b ∧ a - b ≤ 2147483647) → BI p .sub k (.int .i32 a) (.int .i32 b) (.int .i32 (a - b))
  | addS {k : EqK} {a b : List UInt8} : Arith (p = true → a.length + b.length ≤ 9223372036854775807) → BI p .add k (.str a) (.str b) (.str (a ++ b))
  | and {q : EqK} {k : IntKind} {a b : Int} : Arith (p = true → (0 ≤ a ∧ a ≤ top k) ∧ (0 ≤ b ∧ b ≤ top k)) → BI p .and q (.int k a) (.int k b) (.int k ((a.toNat &&& b.toNat : Nat) : Int))
  | or {q : EqK} {k : IntKind} {a b : Int} : Arith (p = true → (0 ≤ a ∧ a ≤ top k) ∧ (0 ≤ b ∧ b ≤ top k)) → BI p .or q (.int k a) (.int k b) (.int k ((a.toNat ||| b.toNat : Nat) : Int))
  | shl {q : EqK} {k k' : IntKind} {a b : Int} : Arith (p = true → 0 ≤ b ∧ b ≤ wid k ∧ 0 ≤ a ∧ a * 2 ^ b.toNat ≤ top k) → BI p .shl q (.int k a) (.int k' b) (.int k (a * 2 ^ b.toNat))
  | shr {q : EqK} {k k' : IntKind} {a b : Int} : Arith (p = true → 0 ≤ b ∧ b ≤ wid k ∧ 0 ≤ a) → BI p .shr q (.int k a) (.int k' b) (.int k (a / 2 ^ b.toNat))
  | offL {op : BinOp} {k : EqK} {b : DV} : Arith (p = true → False) → BI p op k .undef b (.bool false)
  | offR {op : BinOp} {k : EqK} {a : DV} : Arith (p = true → False) → BI p op k a .undef (.bool false)
  | gen {op : BinOp} {k : EqK} {a b v : DV} : binD op k a b = some v → BI p op k a b v

inductive UN (p : Bool) : UnOp → DV → DV → Prop where
  | off {op : UnOp} : Arith (p = true → False) → UN p op .undef (.bool false)
  | gen {op : UnOp} {a v : DV} : unD op a = some v → UN p op a v
/-- A list of bytes az what it holds. -/
inductive BL : List DV → List UInt8 → Prop where
  | bytes {s : List UInt8} : BL (bytesV s) s
  | map {s : List UInt8} : BL (s.map ofByte) s
  | nil : BL [] []
  | app {a b : List DV} {s t : List UInt8} : BL a s → BL b t → BL (a ++ b) (s ++ t)
  | drop {a : List DV} {s : List UInt8} {n : Nat} : BL a s → BL (a.drop n) (s.drop n)
  | take {a : List DV} {s : List UInt8} {n : Nat} : BL a s → BL (a.take n) (s.take n)
  | cons {b : UInt8} {a : List DV} {s : List UInt8} : BL a s → BL (.int .u8 (b.toNat : Int) :: a) (b :: s)
  | lit {n : Int} {a : List DV} {s : List UInt8} : Arith (0 ≤ n ∧ n < 256) → BL a s → BL (.int .u8 n :: a) (UInt8.ofNat n.toNat :: s)
abbrev I32 (n : Int) : DV := .int .i32 n
def runeBytes (rs : List Int) : List UInt8 := rs.flatMap fun r => (Utf8.encode r).data.toList
inductive CV (p : Bool) : ConvK → Bool → DV → DV → Prop where
  | iBb {mu : Bool} {b : UInt8} : CV p (.int .i32) mu (.int .u8 (b.toNat : Int)) (.int .i32 (b.toNat : Int))
  | lBb {mu : Bool} {b : UInt8} : CV p (.int .i64) mu (.int .u8 (b.toNat : Int)) (.int .i64 (b.toNat : Int))
  | lI {mu : Bool} {n : Int} : Arith (p = true → -9223372036854775808 ≤ n ∧ n ≤ 9223372036854775807) → CV p (.int .i64) mu (.int .i32 n) (.int .i64 n)
  | lB {mu : Bool} {n : Int} : Arith (p = true → -9223372036854775808 ≤ n ∧ n ≤ 9223372036854775807) → CV p (.int .i64) mu (.int .u8 n) (.int .i64 n)
  | lU {mu : Bool} {n : Int} : Arith (p = true → -9223372036854775808 ≤ n ∧ n ≤ 9223372036854775807) → CV p (.int .i64) mu (.int .u32 n) (.int .i64 n)
  | iB {mu : Bool} {n : Int} : Arith (p = true → -2147483648 ≤ n ∧ n ≤ 2147483647) → CV p (.int .i32) mu (.int .u8 n) (.int .i32 n)
  | ii {mu : Bool} {n : Int} : Arith (p = true → -2147483648 ≤ n ∧ n ≤ 2147483647) → CV p (.int .i32) mu (.int .i32 n) (.int .i32 n)
  | ll {mu : Bool} {n : Int} : Arith (p = true → -9223372036854775808 ≤ n ∧ n ≤ 9223372036854775807) → CV p (.int .i64) mu (.int .i64 n) (.int .i64 n)
  | wrap {k k' : IntKind} {mu : Bool} {n : Int} : CV p (.int k) mu (.int k' n) (.int k (k.wrap n))
  | same {mu : Bool} {s : List UInt8} : CV p .same mu (.str s) (.str s)
  | bytesStr {t z : Nat} {xs : List DV} {s : List UInt8} : BL xs s → CV p .bytesStr false (.lst t z xs) (.str s)
  | runesStr {mu : Bool} {t z : Nat} {rs : List Int} : CV p .runesStr mu (.lst t z (rs.map I32)) (.str (runeBytes rs))

inductive Cut : List DV → Nat → Nat → List DV → Prop where
  | zero {cs : List DV} : Cut cs 0 0 []
  | take {c : DV} {cs : List DV} {n : Nat} {r : List DV} : Cut cs 0 n r → Cut (c :: cs) 0 (n + 1) (c :: r)
  | skip {c : DV} {cs : List DV} {o n : Nat} {r : List DV} : Cut cs o n r → Cut (c :: cs) (o + 1) n r
inductive LDv (cs : List DV) (off : Nat) : Shape → DV → Prop where
  | one {v : DV} : cs[off]? = some v → LDv cs off none v
  | agg {n : Nat} {r : List DV} : Cut cs off n r → LDv cs off (some n) (.agg r)
inductive LD (cs : List Ck) (sh : Shape) : DV → DV → Prop where
  | ptr {id off : Nat} {c : List DV} {s : Shape} {v : DV} : Me (.obj id (.cells c s)) cs → LDv c off sh v → LD cs sh (.ptr id off) v
  | elt {c : List DV} {v : DV} : LDv c 0 sh v → LD cs sh (.elt c) v
  | sem {a v : DV} : (∀ h, Sat h cs → loadD h sh a = some v) → LD cs sh a v
/-- A store into a piece that is taken az a whole. -/
structure StS (cs : List Ck) (n id off : Nat) (v : DV) (cs' : List Ck) : Prop where
  ok : ∀ h, Sat h cs → ∃ h', storeD h n (.ptr id off) v = some h' ∧ Sat h' cs'
inductive ZK : Nat → Nat → Nat → Prop where
  | zof {t sz : Nat} : ZK t (zOf t sz) sz
  | lit {t sz : Nat} : ZK t sz sz
inductive IA (cs : List Ck) (p : Bool) (sz : Nat) : DV → DV → DV → Prop where
  | map {α : Type} [Inhabited α] {t z : Nat} {f : α → DV} {ys : List α} {k : IntKind} {n : Int} : ZK t z sz → Arith (p = true → 0 ≤ n ∧ n < ys.length) → IA cs p sz (.lst t z (ys.map f)) (.int k n) (.elt (f (ys.getD n.toNat default)).cells)
  | gen {t z : Nat} {xs : List DV} {k : IntKind} {n : Int} {w : DV} : ZK t z sz → Arith (p = true → 0 ≤ n ∧ xs[n.toNat]? = some w) → IA cs p sz (.lst t z xs) (.int k n) (.elt w.cells)
  | arr {id o len : Nat} {k : IntKind} {n : Int} : Arith (p = true → 0 ≤ n ∧ n < len) → IA cs p sz (.arr id sz o len) (.int k n) (.ptr id (o + n.toNat * sz))
inductive SL (cs : List Ck) (p : Bool) (sz : Nat) : DV → Option DV → Option DV → DV → Prop where
  | loM {α : Type} {t z : Nat} {f : α → DV} {xs : List α} {k : IntKind} {l : Int} : ZK t z sz → Arith (p = true → 0 ≤ l ∧ l ≤ xs.length) → SL cs p sz (.lst t z (xs.map f)) (some (.int k l)) none (.lst t (zOf t sz) ((xs.drop l.toNat).map f))
  | hiM {α : Type} {t z : Nat} {f : α → DV} {xs : List α} {k : IntKind} {r : Int} : ZK t z sz → Arith (p = true → 0 ≤ r ∧ r ≤ xs.length) → SL cs p sz (.lst t z (xs.map f)) none (some (.int k r)) (.lst (cutT t r.toNat xs.length) (zOf (cutT t r.toNat xs.length) sz) ((xs.take r.toNat).map f))
  | bothM {α : Type} {t z : Nat} {f : α → DV} {xs : List α} {k k' : IntKind} {l r : Int} : ZK t z sz → Arith (p = true → 0 ≤ l ∧ l ≤ r ∧ r ≤ xs.length) → SL cs p sz (.lst t z (xs.map f)) (some (.int k l)) (some (.int k' r)) (.lst (cutT t r.toNat xs.length) (zOf (cutT t r.toNat xs.length) sz) (((xs.drop l.toNat).take (r.toNat - l.toNat)).map f))
  | lo {t z : Nat} {xs : List DV} {k : IntKind} {l : Int} : ZK t z sz → Arith (p = true → 0 ≤ l ∧ l ≤ xs.length) → SL cs p sz (.lst t z xs) (some (.int k l)) none (.lst t (zOf t sz) (xs.drop l.toNat))
  | hi {t z : Nat} {xs : List DV} {k : IntKind} {r : Int} : ZK t z sz → Arith (p = true → 0 ≤ r ∧ r ≤ xs.length) → SL cs p sz (.lst t z xs) none (some (.int k r)) (.lst (cutT t r.toNat xs.length) (zOf (cutT t r.toNat xs.length) sz) (xs.take r.toNat))
  | both {t z : Nat} {xs : List DV} {k k' : IntKind} {l r : Int} : ZK t z sz → Arith (p = true → 0 ≤ l ∧ l ≤ r ∧ r ≤ xs.length) → SL cs p sz (.lst t z xs) (some (.int k l)) (some (.int k' r)) (.lst (cutT t r.toNat xs.length) (zOf (cutT t r.toNat xs.length) sz) ((xs.drop l.toNat).take (r.toNat - l.toNat)))
  | arrLo {i o n : Nat} {k : IntKind} {l : Int} : Arith (p = true → 0 ≤ l ∧ l ≤ n) → SL cs p sz (.arr i sz o n) (some (.int k l)) none (.arr i sz (o + l.toNat * sz) (n - l.toNat))
  | arrHi {i o n : Nat} {k : IntKind} {r : Int} : Arith (p = true → 0 ≤ r ∧ r ≤ n) → SL cs p sz (.arr i sz o n) none (some (.int k r)) (.arr i sz o r.toNat)
  | arrBoth {i o n : Nat} {k k' : IntKind} {l r : Int} : Arith (p = true → 0 ≤ l ∧ l ≤ r ∧ r ≤ n) → SL cs p sz (.arr i sz o n) (some (.int k l)) (some (.int k' r)) (.arr i sz (o + l.toNat * sz) (r.toNat - l.toNat))
inductive SS (p : Bool) : List UInt8 → Option DV → Option DV → List UInt8 → Prop where
  | all {s : List UInt8} : SS p s none none s
  | lo {s : List UInt8} {k : IntKind} {l : Int} : Arith (p = true → 0 ≤ l ∧ l ≤ s.length) → SS p s (some (.int k l)) none (s.drop l.toNat)
  | hi {s : List UInt8} {k : IntKind} {r : Int} : Arith (p = true → 0 ≤ r ∧ r ≤ s.length) → SS p s none (some (.int k r)) (s.take r.toNat)
  | both {s : List UInt8} {k k' : IntKind} {l r : Int} : Arith (p = true → 0 ≤ l ∧ l ≤ r ∧ r ≤ s.length) → SS p s (some (.int k l)) (some (.int k' r)) ((s.drop l.toNat).take (r.toNat - l.toNat))
inductive FA (off : Nat) : DV → DV → Prop where
  | z {i : Nat} : FA off (.ptr i 0) (.ptr i off)
  | ptr {i o : Nat} : FA off (.ptr i o) (.ptr i (o + off))
  | elt {cs : List DV} : FA off (.elt cs) (.elt (cs.drop off))
inductive NC : DV → Prop where
  | ptr {i o : Nat} : NC (.ptr i o)
  | elt {cs : List DV} : NC (.elt cs)
inductive LN : Bool → DV → Int → Prop where
  | str {s : List UInt8} : LN false (.str s) s.length
  | map {α : Type} {t z : Nat} {f : α → DV} {xs : List α} : LN true (.lst t z (xs.map f)) xs.length
  | lst {t z : Nat} {xs : List DV} : LN true (.lst t z xs) xs.length
  | arr {i z o n : Nat} : LN true (.arr i z o n) n
/-- Parts of a struct that all lie in their order, or not all. -/
inductive BP (es : List En) (A : List (Nat × Bool)) : List (Nat × Nat × Opd) → List (Nat × Nat × DV) → Prop where
  | nil : BP es A [] []
  | cons {o n : Nat} {x : Opd} {v : DV} {r : List (Nat × Nat × Opd)} {vs : List (Nat × Nat × DV)} : lo D es A x = some v → BP es A r vs → BP es A ((o, n, x) :: r) ((o, n, v) :: vs)
/-- A value's cells, its number of cells given. -/
inductive CL : Nat → DV → List DV → Prop where
  | int {k : IntKind} {n : Int} : CL 1 (.int k n) [.int k n]
  | bool {b : Bool} : CL 1 (.bool b) [.bool b]
  | str {s : List UInt8} : CL 1 (.str s) [.str s]
  | lst {t z : Nat} {xs : List DV} : CL 1 (.lst t z xs) [.lst t z xs]
  | nilp : CL 1 .nilp [.nilp]
  | ptr {i o : Nat} : CL 1 (.ptr i o) [.ptr i o]
  | elt {cs : List DV} : CL 1 (.elt cs) [.elt cs]
  | arr {i z o n : Nat} : CL 1 (.arr i z o n) [.arr i z o n]
  | fn {f : Fn} {a b : List DV} : CL 1 (.fn f a b) [.fn f a b]
  | nilfn : CL 1 .nilfn [.nilfn]
  | agg {n : Nat} {cs : List DV} : cs.length = n → CL n (.agg cs) cs
  | gen {n : Nat} {v : DV} : v.cells.length = n → v.okv = true → CL n v v.cells
inductive Ow : List DV → Nat → List DV → List DV → Prop where
  | nil {cs : List DV} : Ow cs 0 [] cs
  | put {c x : DV} {cs xs r : List DV} : Ow cs 0 xs r → Ow (c :: cs) 0 (x :: xs) (x :: r)
  | skip {c : DV} {cs xs r : List DV} {o : Nat} : Ow cs o xs r → Ow (c :: cs) (o + 1) xs (c :: r)
inductive BLd : List DV → List (Nat × Nat × DV) → List DV → Prop where
  | nil {cs : List DV} : BLd cs [] cs
  | cons {cs c cs' out : List DV} {o n : Nat} {v : DV} {r : List (Nat × Nat × DV)} : CL n v c → Ow cs o c cs' → BLd cs' r out → BLd cs ((o, n, v) :: r) out

/-- The second side of an 'or', an 'and': it may be that nobody asked for it. -/
inductive LO2 (p q w : Bool) : DV → Bool → Prop where
  | val {b : Bool} : LO2 p q w (.bool b) b
  | off : Arith (p = true → q = w) → LO2 p q w .undef false
/-- A choice, its first operand's value given. -/
inductive PK (es : List En) (A : List (Nat × Bool)) (p : Bool) (t : Nat) : DV → Opd → Opd → DV → Prop where
  | or {y : Opd} {q b : Bool} {A1 : List (Nat × Bool)} {q1 : Bool} {z : DV} : gate es 12 (some (t, false)) = some (A1, q1) → lo D es (A1 ++ A) y = some z → LO2 p q true z b → PK es A p t (.bool q) (.c (.bool true)) y (.bool (q || b))
  | and {y : Opd} {q b : Bool} {A1 : List (Nat × Bool)} {q1 : Bool} {z : DV} : gate es 12 (some (t, true)) = some (A1, q1) → lo D es (A1 ++ A) y = some z → LO2 p q false z b → PK es A p t (.bool q) y (.c (.bool false)) (.bool (q && b))
  | pick {x y : Opd} {q : Bool} {a b : DV} : lo D es A x = some a → lo D es A y = some b → PK es A p t (.bool q) x y (bif q then a else b)
  | off {x y : Opd} : Arith (p = true → False) → PK es A p t .undef x y (.bool false)
/-- What an operation gives that turns nothing, if 'p'. -/
inductive VO (es : List En) (cs : List Ck) (A : List (Nat × Bool)) (p : Bool) : DOp → DV → Prop where
  | mv {x : Opd} {v : DV} : lo D es A x = some v → VO es cs A p (.mv x) v
  | load {sh : Shape} {x : Opd} {a v : DV} : lo D es A x = some a → LD cs sh a v → VO es cs A p (.load sh x) v
  | nilc {x : Opd} {v : DV} : lo D es A x = some v → NC v → VO es cs A p (.nilc x) v
  | faddr {off : Nat} {x : Opd} {v w : DV} : lo D es A x = some v → FA off v w → VO es cs A p (.faddr off x) w
  | bin {op : BinOp} {k : EqK} {x y : Opd} {a b v : DV} : lo D es A x = some a → lo D es A y = some b → BI p op k a b v → VO es cs A p (.bin op k x y) v
  | pickk {t : Nat} {x y : Opd} {w v : DV} : lo D es A (.t t) = some w → PK D es A p t w x y v → VO es cs A p (.pick (.t t) x y) v
  | un {op : UnOp} {x : Opd} {a v : DV} : lo D es A x = some a → UN p op a v → VO es cs A p (.un op x) v
  | iaddr {sz : Nat} {x i : Opd} {a b v : DV} : lo D es A x = some a → lo D es A i = some b → IA cs p sz a b v → VO es cs A p (.iaddr sz x i) v
  | len {sl : Bool} {x : Opd} {a : DV} {n : Int} : lo D es A x = some a → LN sl a n → VO es cs A p (.len sl x) (.int .i64 n)
  | extract {x : Opd} {i : Nat} {vs : List DV} {v : DV} : lo D es A x = some (.tup vs) → vs[i]? = some v → VO es cs A p (.extract x i) v
  | field {off : Nat} {sh : Shape} {x : Opd} {c : List DV} {v : DV} : lo D es A x = some (.agg c) → LDv c off sh v → VO es cs A p (.field off sh x) v
  | conv {k : ConvK} {mu : Bool} {x : Opd} {a v : DV} : lo D es A x = some a → CV p k mu a v → VO es cs A p (.conv k mu x) v
  | idxStr {x i : Opd} {s : List UInt8} {k : IntKind} {n : Int} : lo D es A x = some (.str s) → lo D es A i = some (.int k n) → Arith (p = true → 0 ≤ n ∧ n < s.length) → VO es cs A p (.idxStr x i) (.int .u8 ((s.getD n.toNat 0).toNat : Int))
  | sliceStr {x : Opd} {lo1 hi1 : Option Opd} {a b : Option DV} {s r : List UInt8} : lo D es A x = some (.str s) → LoO D es A lo1 a → LoO D es A hi1 b → SS p s a b r → VO es cs A p (.sliceStr x lo1 hi1) (.str r)
  | slice {sz : Nat} {x : Opd} {lo1 hi1 : Option Opd} {a b : Option DV} {s v : DV} : lo D es A x = some s → LoO D es A lo1 a → LoO D es A hi1 b → SL cs p sz s a b v → VO es cs A p (.slice sz x lo1 hi1 none) v
  | build {zero : List DV} {parts : List (Nat × Nat × Opd)} {vs : List (Nat × Nat × DV)} {c : List DV} : BP D es A parts vs → BLd zero vs c → VO es cs A p (.build zero parts) (.agg c)
  | mkfn {f : Fn} {first caps : List Opd} {a b : List DV} : LoS D es A first a → LoS D es A caps b → VO es cs A p (.mkfn f first caps) (.fn f a b)
  | iaddrArrE {sz len : Nat} {x i : Opd} {c : List DV} {k : IntKind} {n : Int} : lo D es A x = some (.elt c) → lo D es A i = some (.int k n) → Arith (p = true → 0 ≤ n ∧ n < len) → VO es cs A p (.iaddrArr sz len x i) (.elt (c.drop (n.toNat * sz)))
  | idxArr {sh : Shape} {len : Nat} {x i : Opd} {c : List DV} {k : IntKind} {n : Int} {v : DV} : lo D es A x = some (.agg c) → lo D es A i = some (.int k n) → Arith (p = true → 0 ≤ n ∧ n < len ∧ LDv c (n.toNat * sh.size) sh v) → VO es cs A p (.idxArr sh len x i) v
  | min {x y : Opd} {k k' : IntKind} {a b : Int} : lo D es A x = some (.int k a) → lo D es A y = some (.int k' b) → VO es cs A p (.minmax false x y) (.int k (min a b))
  | max {x y : Opd} {k k' : IntKind} {a b : Int} : lo D es A x = some (.int k a) → lo D es A y = some (.int k' b) → VO es cs A p (.minmax true x y) (.int k (max a b))

/-- A list by a function on another one's elements. -/
inductive MapL {α : Type} (f : α → DV) : List DV → List α → Prop where
  | nil : MapL f [] []
  | cons {y : α} {r : List DV} {r' : List α} : MapL f r r' → MapL f (f y :: r) (y :: r')
  | map {ys : List α} : MapL f (ys.map f) ys
inductive JO : List DV → List DV → List DV → Prop where
  | nil {ys : List DV} : JO [] ys ys
  | bytes {s t : List UInt8} {ys : List DV} : BL ys t → JO (bytesV s) ys (bytesV (s ++ t))
  | map {α : Type} {f : α → DV} {xs ys' : List α} {ys : List DV} : MapL f ys ys' → JO (xs.map f) ys ((xs ++ ys').map f)
  | gen {xs ys : List DV} : JO xs ys (xs ++ ys)
/-- The elements of a slice or string. -/
inductive EL (cs : List Ck) (sh : Shape) : DV → List DV → Prop where
  | str {s : List UInt8} : sh.size = 1 → EL cs sh (.str s) (bytesV s)
  | lst {t z : Nat} {xs : List DV} : ZK t z sh.size → EL cs sh (.lst t z xs) xs
/-- A literal slice, all its elements in their order. -/
inductive Sq (es : List En) (A : List (Nat × Bool)) (sz : Nat) : Nat → List (Nat × Opd) → List DV → Prop where
  | nil {i : Nat} : Sq es A sz i [] []
  | cons {i : Nat} {x : Opd} {v : DV} {c : List DV} {r : List (Nat × Opd)} {vs : List DV} : lo D es A x = some v → CL sz v c → Sq es A sz (i + 1) r vs → Sq es A sz i ((i, x) :: r) (v :: vs)
/-- What was loaded ahead reads so still. -/
inductive CKs (nt : Nat) (es : List En) (cs : List Ck) : List (Opd × Shape × Nat × Option (Nat × Bool)) → Prop where
  | nil : CKs nt es cs []
  | cons {a : Opd} {sh : Shape} {t : Nat} {g : Option (Nat × Bool)} {r : List (Opd × Shape × Nat × Option (Nat × Bool))} {A : List (Nat × Bool)} {p : Bool} {av v : DV} : gate es 12 g = some (A, p) → lo D es A a = some av → LD cs sh av v → lk A [] es t = some v → Nat.blt t nt = true → CKs nt es cs r → CKs nt es cs ((a, sh, t, g) :: r)
def untag (A : List (Nat × Bool)) : List Nat → List En → List En
  | _, [] => []
  | seen, ⟨s, g, v⟩ :: r => match g with
    | none => ⟨s, none, v⟩ :: untag A (s :: seen) r
    | some (t, b) => match memT t b A, memN t (s :: seen) with
      | true, false => ⟨s, none, v⟩ :: untag A (s :: seen) r
      | _, _ => ⟨s, some (t, b), v⟩ :: untag A (s :: seen) r

/-- Symbolic runs. -/
inductive RR : List It → St → List Ck → (DX → St → List Ck → Prop) → Prop where
  | seq {a b : DC} {k : List It} {st : St} {cs : List Ck} {Q : DX → St → List Ck → Prop} : RR (.code a :: .code b :: k) st cs Q → RR (.code (.seq a b) :: k) st cs Q
  | region {os : List ROp} {k : List It} {st : St} {cs : List Ck} {Q : DX → St → List Ck → Prop} : RR (.ops os :: k) st cs Q → RR (.code (.region os) :: k) st cs Q
  | opsnil {k : List It} {st : St} {cs : List Ck} {Q : DX → St → List Ck → Prop} : RR k st cs Q → RR (.ops [] :: k) st cs Q
  | cond {c : Opd} {x y : DC} {k : List It} {nt : Nat} {es : List En} {ds : List DDef} {ir : Option Nat} {cs : List Ck} {Q : DX → St → List Ck → Prop} {b : Bool} : lo D es [] c = some (.bool b) → (b = true → RR (.code x :: k) ⟨nt, es, ds, ir⟩ cs Q) → (b = false → RR (.code y :: k) ⟨nt, es, ds, ir⟩ cs Q) → RR (.code (.cond c x y) :: k) ⟨nt, es, ds, ir⟩ cs Q
  | skip {k : List It} {st : St} {cs : List Ck} {Q : DX → St → List Ck → Prop} : RR k st cs Q → RR (.code .skip :: k) st cs Q
  | block {id : Nat} {b : DC} {k : List It} {st : St} {cs : List Ck} {Q : DX → St → List Ck → Prop} : RR (.code b :: .blk id :: k) st cs Q → RR (.code (.block id b) :: k) st cs Q
  | blk {id : Nat} {k : List It} {st : St} {cs : List Ck} {Q : DX → St → List Ck → Prop} : RR k st cs Q → RR (.blk id :: k) st cs Q
  | exit {id : Nat} {k k' : List It} {st : St} {cs : List Ck} {Q : DX → St → List Ck → Prop} : unw k id = some k' → RR k' st cs Q → RR (.code (.exit id) :: k) st cs Q
  | ret {k : List It} {st : St} {cs : List Ck} {Q : DX → St → List Ck → Prop} : Q .ret st cs → RR (.code .ret :: k) st cs Q
  | nil {st : St} {cs : List Ck} {Q : DX → St → List Ck → Prop} : Q .normal st cs → RR [] st cs Q
  | chk {l : List (Opd × Shape × Nat × Option (Nat × Bool))} {k : List It} {nt : Nat} {es : List En} {ds : List DDef} {ir : Option Nat} {cs : List Ck} {Q : DX → St → List Ck → Prop} : CKs D nt es cs l → RR k ⟨nt, es, ds, ir⟩ cs Q → RR (.chk l :: k) ⟨nt, es, ds, ir⟩ cs Q
  | call {d : Option Nat} {x : Opd} {az : List Opd} {c : List (Opd × Shape × Nat × Option (Nat × Bool))} {os : List ROp} {k : List It} {nt : Nat} {es : List En} {ds : List DDef} {ir : Option Nat} {cs : List Ck} {Q : DX → St → List Ck → Prop} {xv : DV} {vs : List DV} {P : DV → List Ck → Prop} :
      lo D es [] x = some xv → LoS D es [] az vs → dstOk nt d = true → FC D xv vs cs P → (∀ v cs', P v cs' → RR (.chk c :: .ops os :: k) (St.putO ⟨nt, es, ds, ir⟩ d v) cs' Q) → RR (.ops (⟨d, .call x az false, none, c⟩ :: os) :: k) ⟨nt, es, ds, ir⟩ cs Q
  | callZ {d : Option Nat} {x : Opd} {az : List Opd} {c : List (Opd × Shape × Nat × Option (Nat × Bool))} {os : List ROp} {k : List It} {nt : Nat} {es : List En} {ds : List DDef} {ir : Option Nat} {cs : List Ck} {Q : DX → St → List Ck → Prop} {xv : DV} {vs : List DV} {P : DV → List Ck → Prop} :
      lo D es [] x = some xv → LoS D es [] az vs → dstOk nt d = true → FZ D xv vs cs P → (∀ v cs', P v cs' → RR (.chk c :: .ops os :: k) (St.putO ⟨nt, es, ds, ir⟩ d v) cs' Q) → RR (.ops (⟨d, .call x az true, none, c⟩ :: os) :: k) ⟨nt, es, ds, ir⟩ cs Q
  | store {d : Option Nat} {n : Nat} {x y : Opd} {c : List (Opd × Shape × Nat × Option (Nat × Bool))} {os : List ROp} {k : List It} {nt : Nat} {es : List En} {ds : List DDef} {ir : Option Nat} {cs cs' : List Ck} {Q : DX → St → List Ck → Prop} {id off : Nat} {cells vc cells' : List DV} {s : Shape} {v : DV} :
      lo D es [] x = some (.ptr id off) → lo D es [] y = some v → CL n v vc → Upd1 (.obj id (.cells cells s)) (.obj id (.cells cells' s)) cs cs' → Ow cells off vc cells' → dstOk nt d = true → RR (.chk c :: .ops os :: k) (St.putO ⟨nt, es, ds, ir⟩ d .undef) cs' Q → RR (.ops (⟨d, .store n x y, none, c⟩ :: os) :: k) ⟨nt, es, ds, ir⟩ cs Q
  | storeS {d : Option Nat} {n : Nat} {x y : Opd} {c : List (Opd × Shape × Nat × Option (Nat × Bool))} {os : List ROp} {k : List It} {nt : Nat} {es : List En} {ds : List DDef} {ir : Option Nat} {cs cs' : List Ck} {Q : DX → St → List Ck → Prop} {id off : Nat} {v : DV} :
      lo D es [] x = some (.ptr id off) → lo D es [] y = some v → StS cs n id off v cs' → dstOk nt d = true → RR (.chk c :: .ops os :: k) (St.putO ⟨nt, es, ds, ir⟩ d .undef) cs' Q → RR (.ops (⟨d, .store n x y, none, c⟩ :: os) :: k) ⟨nt, es, ds, ir⟩ cs Q
  | append {d : Option Nat} {sh : Shape} {bytes : Nat} {x y : Opd} {c : List (Opd × Shape × Nat × Option (Nat × Bool))} {os : List ROp} {k : List It} {nt : Nat} {es : List En} {ds : List DDef} {ir : Option Nat} {cs : List Ck} {cs' : Nat → List Ck} {Q : DX → St → List Ck → Prop} {t z : Nat} {xs ys zs : List DV} {yv : DV} :
      lo D es [] x = some (.lst t z xs) → lo D es [] y = some yv → z = zOf t sh.size → EL cs sh yv ys → JO xs ys zs → Upd (.own t sh.size xs) (fun a => .own a sh.size zs) cs cs' → Nat.ble 1 bytes = true → Arith ((xs.length + ys.length) * bytes ≤ 140737488355328) → dstOk nt d = true →
      (∀ t', RR (.chk c :: .ops os :: k) (St.putO ⟨nt, es, ds, ir⟩ d (.lst t' (zOf t' sh.size) zs)) (cs' t') Q) → RR (.ops (⟨d, .append false sh bytes x y, none, c⟩ :: os) :: k) ⟨nt, es, ds, ir⟩ cs Q
  | mks {d : Option Nat} {sh : Shape} {zero : DV} {len : Nat} {ps : List (Nat × Opd)} {c : List (Opd × Shape × Nat × Option (Nat × Bool))} {os : List ROp} {k : List It} {nt : Nat} {es : List En} {ds : List DDef} {ir : Option Nat} {cs : List Ck} {Q : DX → St → List Ck → Prop} {vs : List DV} :
      Sq D es [] sh.size 0 ps vs → Nat.beq ps.length len = true → Nat.ble (len * sh.size) 16777216 = true → dstOk nt d = true → (∀ t, 2 ≤ t → RR (.chk c :: .ops os :: k) (St.putO ⟨nt, es, ds, ir⟩ d (.lst t (zOf t sh.size) vs)) (.own t sh.size vs :: cs) Q) → RR (.ops (⟨d, .mks false sh zero len ps, none, c⟩ :: os) :: k) ⟨nt, es, ds, ir⟩ cs Q
  | box {d : Option Nat} {x : Opd} {n : Nat} {c : List (Opd × Shape × Nat × Option (Nat × Bool))} {os : List ROp} {k : List It} {nt : Nat} {es : List En} {ds : List DDef} {ir : Option Nat} {cs : List Ck} {Q : DX → St → List Ck → Prop} {v : DV} {vc : List DV} :
      lo D es [] x = some v → CL n v vc → dstOk nt d = true → (∀ id, 2 ≤ id → RR (.chk c :: .ops os :: k) (St.putO ⟨nt, es, ds, ir⟩ d (.ptr id 0)) (.obj id (.cells vc none) :: cs) Q) → RR (.ops (⟨d, .box x n, none, c⟩ :: os) :: k) ⟨nt, es, ds, ir⟩ cs Q
  | alloc {d : Option Nat} {zero : List DV} {sh : Shape} {c : List (Opd × Shape × Nat × Option (Nat × Bool))} {os : List ROp} {k : List It} {nt : Nat} {es : List En} {ds : List DDef} {ir : Option Nat} {cs : List Ck} {Q : DX → St → List Ck → Prop} :
      dstOk nt d = true → (∀ id, 2 ≤ id → RR (.chk c :: .ops os :: k) (St.putO ⟨nt, es, ds, ir⟩ d (.ptr id 0)) (.obj id (.cells zero sh) :: cs) Q) → RR (.ops (⟨d, .alloc zero sh, none, c⟩ :: os) :: k) ⟨nt, es, ds, ir⟩ cs Q
  | strBytes {d : Option Nat} {x : Opd} {c : List (Opd × Shape × Nat × Option (Nat × Bool))} {os : List ROp} {k : List It} {nt : Nat} {es : List En} {ds : List DDef} {ir : Option Nat} {cs : List Ck} {Q : DX → St → List Ck → Prop} {s : List UInt8} :
      lo D es [] x = some (.str s) → Arith (s.length ≤ 140737488355328) → dstOk nt d = true → (∀ t, 2 ≤ t → RR (.chk c :: .ops os :: k) (St.putO ⟨nt, es, ds, ir⟩ d (.lst t (zOf t 1) (bytesV s))) (.own t 1 (bytesV s) :: cs) Q) → RR (.ops (⟨d, .conv .strBytes false x, none, c⟩ :: os) :: k) ⟨nt, es, ds, ir⟩ cs Q
  | strBytesM {d : Option Nat} {x : Opd} {c : List (Opd × Shape × Nat × Option (Nat × Bool))} {os : List ROp} {k : List It} {nt : Nat} {es : List En} {ds : List DDef} {ir : Option Nat} {cs : List Ck} {Q : DX → St → List Ck → Prop} {s : List UInt8} :
      lo D es [] x = some (.str s) → Arith (s.length ≤ 140737488355328) → dstOk nt d = true → (∀ id, 2 ≤ id → RR (.chk c :: .ops os :: k) (St.putO ⟨nt, es, ds, ir⟩ d (.arr id 1 0 s.length)) (.obj id (.cells (bytesV s) none) :: cs) Q) → RR (.ops (⟨d, .conv .strBytes true x, none, c⟩ :: os) :: k) ⟨nt, es, ds, ir⟩ cs Q
  | range {d : Option Nat} {x : Opd} {c : List (Opd × Shape × Nat × Option (Nat × Bool))} {os : List ROp} {k : List It} {nt : Nat} {es : List En} {ds : List DDef} {ir : Option Nat} {cs : List Ck} {Q : DX → St → List Ck → Prop} {s : List UInt8} :
      lo D es [] x = some (.str s) → dstOk nt d = true → (∀ id, 2 ≤ id → RR (.chk c :: .ops os :: k) (St.putO ⟨nt, es, ds, ir⟩ d (.ptr id 0)) (.obj id (.siter s 0) :: cs) Q) → RR (.ops (⟨d, .range x, none, c⟩ :: os) :: k) ⟨nt, es, ds, ir⟩ cs Q
  | next {d : Option Nat} {x : Opd} {c : List (Opd × Shape × Nat × Option (Nat × Bool))} {os : List ROp} {k : List It} {nt : Nat} {es : List En} {ds : List DDef} {ir : Option Nat} {cs cs' : List Ck} {Q : DX → St → List Ck → Prop} {id pos : Nat} {s : List UInt8} :
      lo D es [] x = some (.ptr id 0) → Upd1 (.obj id (.siter s pos)) (.obj id (.siter s (pos + (Utf8.decode ⟨s.toArray⟩ pos).2))) cs cs' → dstOk nt d = true →
      (pos < s.length → RR (.chk c :: .ops os :: k) (St.putO ⟨nt, es, ds, ir⟩ d (.tup [.bool true, .int .i64 pos, .int .i32 (Utf8.decode ⟨s.toArray⟩ pos).1])) cs' Q) → (s.length ≤ pos → RR (.chk c :: .ops os :: k) (St.putO ⟨nt, es, ds, ir⟩ d (.tup [.bool false])) cs Q) → RR (.ops (⟨d, .next x, none, c⟩ :: os) :: k) ⟨nt, es, ds, ir⟩ cs Q
  | defr {d : Option Nat} {x : Opd} {az : List Opd} {c : List (Opd × Shape × Nat × Option (Nat × Bool))} {os : List ROp} {k : List It} {nt : Nat} {es : List En} {ds : List DDef} {cs : List Ck} {Q : DX → St → List Ck → Prop} {g : Nat} {first caps vs : List DV} :
      lo D es [] x = some (.fn (.func g) first caps) → LoS D es [] az vs → dstOk nt d = true → RR (.chk c :: .ops os :: k) (St.putO ⟨nt, es, .call g (first ++ vs ++ caps) :: ds, none⟩ d .undef) cs Q → RR (.ops (⟨d, .defr x az, none, c⟩ :: os) :: k) ⟨nt, es, ds, none⟩ cs Q
  | gcall {d : Nat} {x : Opd} {az : List Opd} {fz : Bool} {t : Nat} {b : Bool} {c : List (Opd × Shape × Nat × Option (Nat × Bool))} {os : List ROp} {k : List It} {nt : Nat} {es : List En} {ds : List DDef} {ir : Option Nat} {cs : List Ck} {Q : DX → St → List Ck → Prop} {A : List (Nat × Bool)} {p : Bool} :
      gate es 12 (some (t, b)) = some (A, p) → Nat.blt d nt = true → (p = true → RR (.ops (⟨some d, .call x az fz, none, c⟩ :: os) :: k) ⟨nt, untag A [] es, ds, ir⟩ cs Q) → (p = false → RR (.ops os :: k) ⟨nt, ⟨d, none, .undef⟩ :: es, ds, ir⟩ cs Q) → RR (.ops (⟨some d, .call x az fz, some (t, b), c⟩ :: os) :: k) ⟨nt, es, ds, ir⟩ cs Q
  | gmks {d : Nat} {mu : Bool} {sh : Shape} {zero : DV} {len : Nat} {ps : List (Nat × Opd)} {t : Nat} {b : Bool} {c : List (Opd × Shape × Nat × Option (Nat × Bool))} {os : List ROp} {k : List It} {nt : Nat} {es : List En} {ds : List DDef} {ir : Option Nat} {cs : List Ck} {Q : DX → St → List Ck → Prop} {A : List (Nat × Bool)} {p : Bool} :
      gate es 12 (some (t, b)) = some (A, p) → Nat.blt d nt = true → (p = true → RR (.ops (⟨some d, .mks mu sh zero len ps, none, c⟩ :: os) :: k) ⟨nt, untag A [] es, ds, ir⟩ cs Q) → (p = false → RR (.ops os :: k) ⟨nt, ⟨d, none, .undef⟩ :: es, ds, ir⟩ cs Q) → RR (.ops (⟨some d, .mks mu sh zero len ps, some (t, b), c⟩ :: os) :: k) ⟨nt, es, ds, ir⟩ cs Q
  | val {d : Nat} {op : DOp} {g : Option (Nat × Bool)} {os : List ROp} {k : List It} {nt : Nat} {es : List En} {ds : List DDef} {ir : Option Nat} {cs : List Ck} {Q : DX → St → List Ck → Prop} {A : List (Nat × Bool)} {p : Bool} {v : DV} :
      gate es 12 g = some (A, p) → VO D es cs A p op v → Nat.blt d nt = true → RR (.ops os :: k) ⟨nt, ⟨d, g, v⟩ :: es, ds, ir⟩ cs Q → RR (.ops (⟨some d, op, g, []⟩ :: os) :: k) ⟨nt, es, ds, ir⟩ cs Q
  | sem {k : List It} {st : St} {cs : List Ck} {Q : DX → St → List Ck → Prop} : RS D k st cs Q → RR k st cs Q
end
end Go.Dm
/- The D-machine (33): symbolic runs are runs. -/
namespace Go.Dm
set_option linter.unusedSimpArgs false
set_option linter.unusedVariables false
set_option linter.unnecessarySimpa false

theorem wrap_i64_in {x : Int} (h : -9223372036854775808 ≤ x ∧ x ≤ 9223372036854775807) : IntKind.i64.wrap x = x := by rw [IntKind.wrap_i64]; omega
theorem wrap_i32_in {x : Int} (h : -2147483648 ≤ x ∧ x ≤ 2147483647) : IntKind.i32.wrap x = x := by rw [IntKind.wrap_i32]; omega
section
variable {D : DProg} {es : List En} {cs : List Ck} {A : List (Nat × Bool)} {p : Bool} {fr : Fr} {h : Heap}
abbrev Tags (fr : Fr) (A : List (Nat × Bool)) : Prop := ∀ t b, (t, b) ∈ A → fr.tmps.getD t .undef = .bool b
theorem Tags.nil : Tags fr [] := fun _ _ h => by cases h
theorem lo_ok (ha : Ag fr.tmps [] es) (hA : Tags fr A) {x : Opd} {v : DV} (hl : lo D es A x = some v) : ev D fr x = v := by
  cases x with
  | t n => exact lk_ok hA ha rfl hl
  | c w => exact Option.some.inj hl
  | g n =>
    simp only [lo] at hl
    simp only [ev]
    cases hg : D.glob n with
    | none => rw [hg] at hl; cases hl
    | some cs => rw [hg] at hl; simpa using hl
  | f n => exact Option.some.inj hl
theorem LoS.ok (ha : Ag fr.tmps [] es) (hA : Tags fr A) {xs : List Opd} {vs : List DV} (hl : LoS D es A xs vs) : evs D fr xs = vs := by
  induction hl with
  | nil => rfl
  | cons h1 _ ih => simp only [evs, List.map_cons, lo_ok ha hA h1] at ih ⊢; rw [ih]
theorem LoO.ok (ha : Ag fr.tmps [] es) (hA : Tags fr A) {x : Option Opd} {v : Option DV} (hl : LoO D es A x v) : evO D fr x = v := by
  cases hl with
  | none => rfl
  | some h1 => simp only [evO, Option.map_some, lo_ok ha hA h1]
theorem top_wrap {k : IntKind} {x : Int} (h0 : 0 ≤ x) (h1 : x ≤ top k) : k.wrap x = x := by
  cases k <;> simp only [top] at h1
  · omega
  · omega
  · rw [IntKind.wrap_i32]; omega
  · rw [IntKind.wrap_i64]; omega
  · show x % 256 = x; omega
  · show x % 65536 = x; omega
  · show x % 4294967296 = x; omega
  · show x % 18446744073709551616 = x; omega
theorem top_bits (k : IntKind) : top k < 2 ^ k.bits ∧ wid k = k.bits ∧ (∀ a b : Nat, (a : Int) ≤ top k → (b : Int) ≤ top k → ((a ||| b : Nat) : Int) ≤ top k) := by
  have aux : ∀ n (t : Int), t = 2 ^ n - 1 → ∀ a b : Nat, (a : Int) ≤ t → (b : Int) ≤ t → ((a ||| b : Nat) : Int) ≤ t := by
    intro n t ht a b ha hb
    have e : (2 ^ n : Int) = ((2 ^ n : Nat) : Int) := by simp
    have hp : 0 < 2 ^ n := Nat.pow_pos (by omega)
    have := Nat.or_lt_two_pow (x := a) (y := b) (n := n) (by omega) (by omega)
    omega
  cases k
  · exact ⟨by decide, rfl, fun a b ha _ => by simp only [top] at ha; omega⟩
  · exact ⟨by decide, rfl, fun a b ha _ => by simp only [top] at ha; omega⟩
  · exact ⟨by decide, rfl, aux 31 _ rfl⟩
  · exact ⟨by decide, rfl, aux 63 _ rfl⟩
  · exact ⟨by decide, rfl, aux 8 _ rfl⟩
  · exact ⟨by decide, rfl, aux 16 _ rfl⟩
  · exact ⟨by decide, rfl, aux 32 _ rfl⟩
  · exact ⟨by decide, rfl, aux 64 _ rfl⟩
theorem ofInt_top {k : IntKind} {a : Int} (h0 : 0 ≤ a) (h1 : a ≤ top k) : (BitVec.ofInt k.bits a).toNat = a.toNat := by
  have h2 := (top_bits k).1
  rw [BitVec.toNat_ofInt]
  have e : (2 ^ k.bits : Int) = ((2 ^ k.bits : Nat) : Int) := by simp
  congr 1
  apply Int.emod_eq_of_lt h0
  omega
theorem BI.ok (hp : p = true) {op : BinOp} {k : EqK} {a b v : DV} (hb : BI p op k a b v) : binD op k a b = some v := by
  cases hb with
  | addL h1 => simp [binD, intBin, wrap_i64_in (h1.out hp)]
  | subL h1 => simp [binD, intBin, wrap_i64_in (h1.out hp)]
  | mulL h1 => simp [binD, intBin, wrap_i64_in (h1.out hp)]
  | addI h1 => simp [binD, intBin, wrap_i32_in (h1.out hp)]
  | subI h1 => simp [binD, intBin, wrap_i32_in (h1.out hp)]
  | addS h1 => have := h1.out hp; simp [binD, strBin, this]
  | @and q k a b h1 =>
    obtain ⟨⟨a0, a1⟩, b0, b1⟩ := h1.out hp
    have e : (BitVec.ofInt k.bits a &&& BitVec.ofInt k.bits b).toNat = a.toNat &&& b.toNat := by
      rw [BitVec.toNat_and, ofInt_top a0 a1, ofInt_top b0 b1]
    have hle : a.toNat &&& b.toNat ≤ a.toNat := Nat.and_le_left
    simp only [binD, if_true, intBin, e]
    rw [top_wrap (by omega) (by omega)]
  | @or q k a b h1 =>
    obtain ⟨⟨a0, a1⟩, b0, b1⟩ := h1.out hp
    have e : (BitVec.ofInt k.bits a ||| BitVec.ofInt k.bits b).toNat = a.toNat ||| b.toNat := by
      rw [BitVec.toNat_or, ofInt_top a0 a1, ofInt_top b0 b1]
    have hle := (top_bits k).2.2 a.toNat b.toNat (by omega) (by omega)
    simp only [binD, if_true, intBin, e]
    rw [top_wrap (by omega) hle]
  | @shl q k k' a b h1 =>
    obtain ⟨b0, b1, a0, h2⟩ := h1.out hp
    have hb := (top_bits k).2.1
    have hm : min b.toNat k.bits = b.toNat := by omega
    simp only [binD]
    rw [if_neg (by omega), hm, top_wrap (Int.mul_nonneg a0 (Int.pow_nonneg (by omega))) h2]
  | @shr q k k' a b h1 =>
    obtain ⟨b0, b1, a0⟩ := h1.out hp
    have hb := (top_bits k).2.1
    have hm : min b.toNat k.bits = b.toNat := by omega
    simp only [binD]
    rw [if_neg (by omega), hm, Int.fdiv_eq_ediv_of_nonneg _ (Int.pow_nonneg (by omega))]
  | offL h1 => exact (h1.out hp).elim
  | offR h1 => exact (h1.out hp).elim
  | gen h1 => exact h1
theorem byte_ofByte (b : UInt8) : byte? (ofByte b) = some b := by
  have := b.toNat_lt
  simp only [ofByte, byte?]
  rw [if_pos (by omega)]
  simp
theorem toStr_bytesV (s : List UInt8) : toStr? (bytesV s) = some s := by
  induction s with
  | nil => rfl
  | cons b s ih => simp only [bytesV, List.map_cons, toStr?] at ih ⊢; rw [byte_ofByte, ih]
theorem toStr_append {a b : List DV} {s t : List UInt8} (h1 : toStr? a = some s) (h2 : toStr? b = some t) : toStr? (a ++ b) = some (s ++ t) := by
  induction a generalizing s with
  | nil => simp only [toStr?, Option.some.injEq] at h1; subst h1; exact h2
  | cons x a ih =>
    simp only [toStr?] at h1
    split at h1 <;> try (cases h1; done)
    rename_i b1 s1 hb hs
    simp only [Option.some.injEq] at h1; subst h1
    simp only [List.cons_append, toStr?, hb, ih hs]
theorem toStr_len {a : List DV} {s : List UInt8} (h1 : toStr? a = some s) : a = bytesV s := by
  induction a generalizing s with
  | nil => simp only [toStr?, Option.some.injEq] at h1; subst h1; rfl
  | cons x a ih =>
    simp only [toStr?] at h1
    split at h1 <;> try (cases h1; done)
    rename_i b1 s1 hb hs
    simp only [Option.some.injEq] at h1; subst h1
    have := ih hs
    subst this
    unfold byte? at hb
    split at hb <;> try (cases hb; done)
    rename_i n
    split at hb <;> try (cases hb; done)
    rename_i hn
    simp only [Option.some.injEq] at hb; subst hb
    simp only [bytesV, List.map_cons, ofByte]
    congr 2
    rw [UInt8.toNat_ofNat']
    omega
theorem BL.ok {xs : List DV} {s : List UInt8} (hb : BL xs s) : toStr? xs = some s := by
  induction hb with
  | bytes => exact toStr_bytesV _
  | map => exact toStr_bytesV _
  | nil => rfl
  | app _ _ h1 h2 => exact toStr_append h1 h2
  | drop _ h1 => rw [toStr_len h1]; simp only [bytesV, ← List.map_drop]; exact toStr_bytesV _
  | take _ h1 => rw [toStr_len h1]; simp only [bytesV, ← List.map_take]; exact toStr_bytesV _
  | @cons b a s _ h1 => have := byte_ofByte b; simp only [ofByte] at this; simp only [toStr?, this, h1]
  | lit hn _ h1 => have hn := hn.out; simp only [toStr?, byte?, hn, and_self, if_true, h1]
theorem runes_ok (rs : List Int) : runesStr? (rs.map I32) = some (runeBytes rs) := by
  induction rs with
  | nil => rfl
  | cons r rs ih => simp only [List.map_cons, runesStr?, rune?, ih]; rfl
theorem CV.ok (hp : p = true) {k : ConvK} {mu : Bool} {a v : DV} (hc : CV p k mu a v) : convD h k mu a = some (.val v) := by
  cases hc with
  | @iBb _ b => have := b.toNat_lt; simp [convD, wrap_i32_in (x := (b.toNat : Int)) (by omega)]
  | @lBb _ b => have := b.toNat_lt; simp [convD, wrap_i64_in (x := (b.toNat : Int)) (by omega)]
  | lI h1 => simp [convD, wrap_i64_in (h1.out hp)]
  | lB h1 => simp [convD, wrap_i64_in (h1.out hp)]
  | lU h1 => simp [convD, wrap_i64_in (h1.out hp)]
  | iB h1 => simp [convD, wrap_i32_in (h1.out hp)]
  | ii h1 => simp [convD, wrap_i32_in (h1.out hp)]
  | ll h1 => simp [convD, wrap_i64_in (h1.out hp)]
  | wrap => rfl
  | same => rfl
  | bytesStr h1 => simp [convD, h1.ok]
  | runesStr => simp [convD, runes_ok]
theorem Cut.ok {cs : List DV} {o n : Nat} {r : List DV} (hc : Cut cs o n r) : cut cs o n = some r := by
  induction hc with
  | zero => simp [cut]
  | take _ ih =>
    unfold cut at ih ⊢
    split at ih <;> cases ih
    rename_i hl
    rw [if_pos (by simp only [List.length_cons]; omega)]
    simp
  | skip _ ih =>
    unfold cut at ih ⊢
    split at ih <;> cases ih
    rename_i hl
    rw [if_pos (by simp only [List.length_cons]; omega)]
    simp
theorem LDv.ok {c : List DV} {off : Nat} {sh : Shape} {v : DV} (hl : LDv c off sh v) : (cut c off sh.size).bind (mkv sh) = some v := by
  cases hl with
  | one h1 =>
    have hlt := (List.getElem?_eq_some_iff.1 h1).1
    have hv := (List.getElem?_eq_some_iff.1 h1).2
    have hc : cut c off 1 = some [v] := by
      unfold cut
      rw [if_pos (by omega), List.drop_eq_getElem_cons hlt, hv]; rfl
    show (cut c off 1).bind (mkv none) = some v
    rw [hc]; rfl
  | agg h1 => simp only [Shape.size, Option.getD_some, h1.ok, Option.bind_some, mkv]
theorem LD.ok (hs : Sat h cs) {sh : Shape} {a v : DV} (hl : LD cs sh a v) : loadD h sh a = some v := by
  cases hl with
  | ptr hm hv => simp only [loadD, hs.obj hm, hv.ok]
  | elt hv => simp only [loadD, hv.ok]
  | sem hv => exact hv h hs
theorem ZK.ok {t z sz : Nat} (hz : ZK t z sz) : t = 0 ∨ z = sz := by
  cases hz with
  | lit => exact .inr rfl
  | zof => cases t with
    | zero => exact .inl rfl
    | succ t => exact .inr rfl
theorem zOf_two {t sz : Nat} (h : 2 ≤ t) : zOf t sz = sz := by
  cases t with
  | zero => omega
  | succ t => rfl
theorem take_drop_all {α : Type} (xs : List α) (n : Nat) : (xs.drop n).take (xs.length - n) = xs.drop n := List.take_of_length_le (by simp)
theorem bounds_lo {n : Nat} {k : IntKind} {l : Int} (h1 : 0 ≤ l ∧ l ≤ n) : bounds n (some (.int k l)) none = some (l.toNat, n) := by simp only [bounds]; rw [if_pos h1]
theorem bounds_hi {n : Nat} {k : IntKind} {r : Int} (h1 : 0 ≤ r ∧ r ≤ n) : bounds n none (some (.int k r)) = some (0, r.toNat) := by simp only [bounds]; rw [if_pos h1]
theorem bounds_both {n : Nat} {k k' : IntKind} {l r : Int} (h1 : 0 ≤ l ∧ l ≤ r ∧ r ≤ n) : bounds n (some (.int k l)) (some (.int k' r)) = some (l.toNat, r.toNat) := by simp only [bounds]; rw [if_pos h1]
theorem SL.ok (hp : p = true) {sz : Nat} {s v : DV} {a b : Option DV} (hl : SL cs p sz s a b v) : sliceD sz s a b none = some (.val v) := by
  have hc : ∀ t n : Nat, cutT t n n = t := fun t n => by simp [cutT]
  cases hl with
  | loM hz h1 =>
    have h1 := h1.out hp
    simp only [sliceD]
    rw [if_pos hz.ok, List.length_map, bounds_lo h1]
    simp [Option.map_some, hc, List.take_of_length_le]
  | hiM hz h1 =>
    have h1 := h1.out hp
    simp only [sliceD]
    rw [if_pos hz.ok, List.length_map, bounds_hi h1]
    simp [Option.map_some]
  | bothM hz h1 =>
    have h1 := h1.out hp
    simp only [sliceD]
    rw [if_pos hz.ok, List.length_map, bounds_both h1]
    simp [Option.map_some]
  | lo hz h1 =>
    have h1 := h1.out hp
    simp only [sliceD]
    rw [if_pos hz.ok, bounds_lo h1]
    simp [Option.map_some, take_drop_all, hc]
  | hi hz h1 =>
    have h1 := h1.out hp
    simp only [sliceD]
    rw [if_pos hz.ok, bounds_hi h1]
    simp [Option.map_some]
  | both hz h1 =>
    have h1 := h1.out hp
    simp only [sliceD]
    rw [if_pos hz.ok, bounds_both h1]
    simp [Option.map_some]
  | arrLo h1 => have h1 := h1.out hp; simp only [sliceD, if_true]; rw [bounds_lo h1]; simp
  | arrHi h1 => have h1 := h1.out hp; simp only [sliceD, if_true]; rw [bounds_hi h1]; simp
  | arrBoth h1 => have h1 := h1.out hp; simp only [sliceD, if_true]; rw [bounds_both h1]; simp
theorem SS.ok (hp : p = true) {s r : List UInt8} {a b : Option DV} (hl : SS p s a b r) : (bounds s.length a b).map (fun (l, r) => EvR.val (.str ((s.drop l).take (r - l)))) = some (.val (.str r)) := by
  cases hl with
  | all => simp [bounds]
  | lo h1 => rw [bounds_lo (h1.out hp)]; simp [take_drop_all]
  | hi h1 => rw [bounds_hi (h1.out hp)]; simp
  | both h1 => rw [bounds_both (h1.out hp)]; simp
theorem BP.ok (ha : Ag fr.tmps [] es) (hA : Tags fr A) {ps : List (Nat × Nat × Opd)} {vs : List (Nat × Nat × DV)} (hb : BP D es A ps vs) : (ps.map fun q => (q.1, q.2.1, ev D fr q.2.2)) = vs := by
  induction hb with
  | nil => rfl
  | cons h1 _ ih => simp only [List.map_cons, lo_ok ha hA h1, ih]
theorem CL.ok {n : Nat} {v : DV} {c : List DV} (hc : CL n v c) : v.cells = c ∧ c.length = n ∧ v.okv = true := by
  cases hc with
  | agg h1 => exact ⟨rfl, h1, rfl⟩
  | gen h1 h2 => exact ⟨rfl, h1, h2⟩
  | _ => exact ⟨rfl, rfl, rfl⟩
theorem Ow.ok {cs xs r : List DV} {o : Nat} (ho : Ow cs o xs r) : overwrite cs o xs = r ∧ o + xs.length ≤ cs.length := by
  induction ho with
  | nil => simp [overwrite]
  | put _ ih =>
    obtain ⟨h1, h2⟩ := ih
    simp only [overwrite, List.take_zero, List.nil_append, Nat.zero_add] at h1
    constructor
    · simp only [overwrite, List.take_zero, List.nil_append, List.length_cons, Nat.zero_add, List.drop_succ_cons, List.cons_append, h1]
    · simp only [List.length_cons]; omega
  | skip _ ih =>
    obtain ⟨h1, h2⟩ := ih
    constructor
    · have : ∀ (c : DV) (cs xs : List DV) (o : Nat), overwrite (c :: cs) (o + 1) xs = c :: overwrite cs o xs := by
        intro c cs xs o
        simp only [overwrite, List.take_succ_cons, List.cons_append]
        rw [show o + 1 + xs.length = (o + xs.length) + 1 by omega, List.drop_succ_cons]
      rw [this, h1]
    · simp only [List.length_cons]; omega
theorem BLd.ok {cs out : List DV} {ps : List (Nat × Nat × DV)} (hb : BLd cs ps out) : buildL cs ps = some out := by
  induction hb with
  | nil => rfl
  | cons hc ho _ ih =>
    obtain ⟨h1, h2, h3⟩ := hc.ok
    obtain ⟨h4, h5⟩ := ho.ok
    simp only [buildL]
    rw [if_pos ⟨by rw [h1, h2], by omega, h3⟩, h1, h4, ih]
theorem VO.ok (ha : Ag fr.tmps [] es) (hs : Sat h cs) (hA : Tags fr A) (hp : p = true) {op : DOp} {v : DV} (hv : VO D es cs A p op v) : evalOp D fr h op = some (.val v) := by
  cases hv with
  | mv h1 => simp only [evalOp, lo_ok ha hA h1]
  | load h1 h2 => simp only [evalOp, lo_ok ha hA h1, h2.ok hs, Option.map_some]
  | nilc h1 h2 => simp only [evalOp, lo_ok ha hA h1]; cases h2 <;> rfl
  | faddr h1 h2 => simp only [evalOp, lo_ok ha hA h1]; cases h2 <;> simp
  | bin h1 h2 h3 => simp only [evalOp, lo_ok ha hA h1, lo_ok ha hA h2, h3.ok hp, Option.map_some]
  | @pickk t x y w v h1 h2 =>
    have e1 : ev D fr (.t t) = w := lo_ok ha hA h1
    cases h2 with
    | @or y q b A1 q1 z h2 h3 h4 =>
      cases q with
      | true => simp only [evalOp, e1]; rfl
      | false =>
        have hw : wantedG (some (t, false)) fr = true := wanted_bool.2 e1
        have hA1 := ((gate_ok ha h2).1 hw).2
        have e3 : ev D fr y = z := lo_ok (A := A1 ++ A) ha (fun t b hm => (List.mem_append.1 hm).elim (hA1 t b) (hA t b)) h3
        cases h4 with
        | val => simp only [evalOp, e1, e3, Bool.false_or]
        | off h5 => exact absurd (h5.out hp) (by decide)
    | @and _ q b A1 q1 z h2 h3 h4 =>
      cases q with
      | false => simp only [evalOp, e1]; rfl
      | true =>
        have hw : wantedG (some (t, true)) fr = true := wanted_bool.2 e1
        have hA1 := ((gate_ok ha h2).1 hw).2
        have e3 : ev D fr x = z := lo_ok (A := A1 ++ A) ha (fun t b hm => (List.mem_append.1 hm).elim (hA1 t b) (hA t b)) h3
        cases h4 with
        | val => simp only [evalOp, e1, e3, Bool.true_and]
        | off h5 => exact absurd (h5.out hp) (by decide)
    | @pick x y q a b h2 h3 =>
      have e2 : ev D fr x = a := lo_ok ha hA h2
      have e3 : ev D fr y = b := lo_ok ha hA h3
      cases q <;> simp only [evalOp, e1, e2, e3, cond_true, cond_false]
    | off h2 => exact (h2.out hp).elim
  | un h1 h2 =>
    cases h2 with
    | off h3 => exact (h3.out hp).elim
    | gen h3 => simp only [evalOp, lo_ok ha hA h1, h3, Option.map_some]
  | iaddr h1 h2 h3 =>
    simp only [evalOp, lo_ok ha hA h1, lo_ok ha hA h2]
    cases h3 with
    | @map α _ t z f ys k n hz hb =>
      have hb := hb.out hp
      have hn : n.toNat < ys.length := by omega
      have hget : (ys.map f)[n.toNat]? = some (f (ys.getD n.toNat default)) := by
        rw [List.getElem?_map, List.getD_eq_getElem?_getD, List.getElem?_eq_getElem hn]; rfl
      dsimp only
      rw [if_pos ⟨hb.1, hz.ok⟩, hget]; rfl
    | @gen t z xs k n w hz hb =>
      have hb := hb.out hp
      dsimp only
      rw [if_pos ⟨hb.1, hz.ok⟩, hb.2]; rfl
    | arr hb => have hb := hb.out hp; dsimp only; rw [if_pos ⟨hb.1, hb.2, rfl⟩]
  | len h1 h2 => simp only [evalOp, lo_ok ha hA h1]; cases h2 <;> simp
  | extract h1 h2 => simp only [evalOp, lo_ok ha hA h1, h2, Option.map_some]
  | field h1 h2 => simp only [evalOp, lo_ok ha hA h1, h2.ok, Option.map_some]
  | conv h1 h2 => simp only [evalOp, lo_ok ha hA h1]; exact h2.ok hp
  | @idxStr x i s k n h1 h2 hb =>
    have hb := hb.out hp
    have hn : n.toNat < s.length := by omega
    simp only [evalOp, lo_ok ha hA h1, lo_ok ha hA h2]
    rw [if_pos hb.1, List.getElem?_eq_getElem hn, List.getD_eq_getElem?_getD, List.getElem?_eq_getElem hn]
    rfl
  | sliceStr h1 h2 h3 h4 => simp only [evalOp, lo_ok ha hA h1, h2.ok ha hA, h3.ok ha hA]; exact h4.ok hp
  | slice h1 h2 h3 h4 => simp only [evalOp, lo_ok ha hA h1, h2.ok ha hA, h3.ok ha hA]; exact h4.ok hp
  | build h1 h2 => simp only [evalOp, h1.ok ha hA, h2.ok, Option.map_some]
  | mkfn h1 h2 => simp only [evalOp, h1.ok ha hA, h2.ok ha hA]
  | iaddrArrE h1 h2 hb => have hb := hb.out hp; simp only [evalOp, lo_ok ha hA h1, lo_ok ha hA h2]; rw [if_pos hb]
  | idxArr h1 h2 hb => have hb := hb.out hp; simp only [evalOp, lo_ok ha hA h1, lo_ok ha hA h2]; rw [if_pos ⟨hb.1, hb.2.1⟩, hb.2.2.ok]; rfl
  | @min x y k k' a b h1 h2 =>
    simp only [evalOp, lo_ok ha hA h1, lo_ok ha hA h2]
    simp only [Bool.false_eq_true, if_false, Option.some.injEq, EvR.val.injEq, DV.int.injEq, true_and]
    split <;> omega
  | @max x y k k' a b h1 h2 =>
    simp only [evalOp, lo_ok ha hA h1, lo_ok ha hA h2]
    simp only [if_true, Option.some.injEq, EvR.val.injEq, DV.int.injEq, true_and]
    split <;> omega
end
end Go.Dm
/- The D-machine (34): symbolic runs are runs (2); functions. -/
namespace Go.Dm
set_option linter.unusedSimpArgs false
set_option linter.unusedVariables false
set_option linter.unnecessarySimpa false

section
variable {D : DProg}
theorem unw_ok {k k' : List It} {i : Nat} {fr : Fr} {h : Heap} {Q : DX → Fr → Heap → Prop} (hu : unw k i = some k') (hw : WpK D k' .normal fr h Q) : WpK D k (.exit i) fr h Q := by
  induction k with
  | nil => cases hu
  | cons a k ih =>
    cases a with
    | blk j =>
      simp only [unw] at hu
      simp only [WpK]
      cases hb : Nat.beq i j with
      | true =>
        rw [hb] at hu
        simp only [Option.some.injEq] at hu; subst hu
        rw [if_pos (Nat.eq_of_beq_eq_true hb)]; exact hw
      | false =>
        rw [hb] at hu
        rw [if_neg (Nat.ne_of_beq_eq_false hb)]; exact ih hu
    | code c => exact ih hu
    | ops c => exact ih hu
    | chk c => exact ih hu
    | lp c => exact ih hu
theorem WpK_ret {k : List It} {fr : Fr} {h : Heap} {Q : DX → Fr → Heap → Prop} (hw : Q .ret fr h) : WpK D k .ret fr h Q := by
  induction k with
  | nil => exact hw
  | cons a k ih => cases a <;> exact ih
theorem CKs.ok {nt : Nat} {es : List En} {cs : List Ck} {fr : Fr} {h : Heap} (ha : Ag fr.tmps [] es) (hl : fr.tmps.length = nt) (hs : Sat h cs) {l : List (Opd × Shape × Nat × Option (Nat × Bool))} (hc : CKs D nt es cs l) : chkOk D fr h l = true := by
  induction hc with
  | nil => rfl
  | @cons a sh t g r A p av v h1 h2 h3 h4 h5 _ ih =>
    simp only [chkOk, List.all_cons, Bool.and_eq_true] at ih ⊢
    refine ⟨?_, ih⟩
    cases hw : wantedG g fr with
    | false => rfl
    | true =>
      obtain ⟨_, hA⟩ := (gate_ok ha h1).1 hw
      have e1 : ev D fr a = av := lo_ok ha hA h2
      have e2 := lk_ok hA ha rfl h4
      have hlt : t < fr.tmps.length := by rw [hl]; exact Nat.le_of_ble_eq_true h5
      rw [List.getD_eq_getElem?_getD, List.getElem?_eq_getElem hlt] at e2
      simp only [Option.getD_some] at e2
      simp only [e1, h3.ok hs, List.getElem?_eq_getElem hlt, e2, DV.beq_refl, Bool.not_true, Bool.false_or]
theorem ops_ev {st : St} {fr : Fr} {h h1 : Heap} {d : Option Nat} {op : DOp} {c : List (Opd × Shape × Nat × Option (Nat × Bool))} {os : List ROp} {k : List It} {r : EvR} {v : DV} {cs' : List Ck} {Q : DX → St → List Ck → Prop}
    (ha : AgS fr st) (he : evalOp D fr h op = some r) (hst : stepEv h r = some (v, h1)) (hd : dstOk st.nt d = true) (hs : Sat h1 cs') (hr : RS D (.chk c :: .ops os :: k) (st.putO d v) cs' Q) :
    WpK D (.ops (⟨d, op, none, c⟩ :: os) :: k) .normal fr h fun x fr' h' => ∃ st' cs', AgS fr' st' ∧ Sat h' cs' ∧ Q x st' cs' := by
  obtain ⟨hc, hk⟩ := hr (fr.put d v) h1 (ha.put hd) hs
  exact WpOps.op rfl he hst hc hk
theorem untag_ok {fr : List DV} {A : List (Nat × Bool)} (hA : ∀ t b, (t, b) ∈ A → fr.getD t .undef = .bool b) : ∀ {es : List En} {seen : List Nat}, Ag fr seen es → Ag fr seen (untag A seen es)
  | [], _, _ => trivial
  | ⟨s, g, v⟩ :: r, seen, ⟨he, hr⟩ => by
    have ih := untag_ok hA hr
    cases g with
    | none => exact ⟨he, ih⟩
    | some p =>
      obtain ⟨t, b⟩ := p
      simp only [untag]
      cases hm : memT t b A with
      | true =>
        cases ht : memN t (s :: seen) with
        | false => exact ⟨fun hn => (he hn ht).1 (hA t b (memT_mem hm)), ih⟩
        | true => exact ⟨he, ih⟩
      | false => exact ⟨he, ih⟩
theorem Me.mem' {c : Ck} {cs : List Ck} (h : c ∈ cs) : Me c cs := by
  induction cs with
  | nil => cases h
  | cons a r ih =>
    rcases List.mem_cons.1 h with rfl | h
    · exact .head
    · exact .tail (ih h)
theorem Upd.mem' {α : Type} {c : Ck} {n : α → Ck} {cs : List Ck} {cs' : α → List Ck} (h : Upd c n cs cs') : c ∈ cs := by
  induction h with
  | head => simp
  | tail _ ih => simp [ih]
theorem add_get (h : Heap) (o : HObj) : (h.add o).objs.get h.next = some o := by simp [Heap.add, Tr.get_set]
theorem add_keep (h : Heap) (o : HObj) {i : Nat} (hi : i < h.next) : (h.add o).objs.get i = h.objs.get i ∧ (h.add o).tags.get i = h.tags.get i := by
  refine ⟨?_, rfl⟩
  simp only [Heap.add, Tr.get_set]; rw [if_neg (by omega)]
theorem addTag_keep (h : Heap) (z : Nat) {i : Nat} (hi : i < h.next) : (h.addTag z).objs.get i = h.objs.get i ∧ (h.addTag z).tags.get i = h.tags.get i := by
  refine ⟨rfl, ?_⟩
  simp only [Heap.addTag, Tr.get_set]; rw [if_neg (by omega)]
theorem put_keep (h : Heap) (j : Nat) (o : HObj) {i : Nat} (hi : i ≠ j) : (h.put j o).objs.get i = h.objs.get i ∧ (h.put j o).tags.get i = h.tags.get i := by
  refine ⟨?_, rfl⟩
  simp only [Heap.put, Tr.get_set]; rw [if_neg hi]
theorem put_get (h : Heap) (j : Nat) (o : HObj) : (h.put j o).objs.get j = some o := by simp [Heap.put, Tr.get_set]
theorem Sat.addO {h : Heap} {cs : List Ck} (hs : Sat h cs) (o : HObj) : Sat (h.add o) (.obj h.next o :: cs) :=
  hs.add (Nat.le_succ _) (add_get h o) (fun i hi => by cases hi; exact Nat.lt_succ_self _) (fun i hi => by cases hi; exact Nat.le_refl _) (fun i hi => add_keep h o hi)
theorem Sat.addT {h : Heap} {cs : List Ck} (hs : Sat h cs) (z : Nat) (xs : List DV) : Sat (h.addTag z) (.own h.next z xs :: cs) :=
  hs.add (Nat.le_succ _) (.inr ⟨hs.two, by simp [Heap.addTag, Tr.get_set]⟩) (fun i hi => by cases hi.1; exact Nat.lt_succ_self _) (fun i hi => by cases hi.1; exact Nat.le_refl _) (fun i hi => addTag_keep h z hi)
theorem Sat.put {h : Heap} {cs cs' : List Ck} {id : Nat} {o o' : HObj} (hs : Sat h cs) (hu : Upd1 (.obj id o) (.obj id o') cs cs') : Sat (h.put id o') cs' :=
  hs.upd hu (Nat.le_refl _) (put_get h id o') (fun i hi => by cases hi; exact (hs.ok _ hu.mem).2 _ rfl) (fun i hi => .inl hi) (fun i _ hn => put_keep h id o' (fun e => hn e))
theorem MapL.ok {α : Type} {f : α → DV} {ys : List DV} {ys' : List α} (h : MapL f ys ys') : ys = ys'.map f := by
  induction h with
  | nil => rfl
  | cons _ ih => simp [ih]
  | map => rfl
theorem JO.ok {xs ys zs : List DV} (h : JO xs ys zs) : zs = xs ++ ys := by
  cases h with
  | nil => rfl
  | bytes h1 => rw [toStr_len h1.ok]; simp [bytesV]
  | map h1 => rw [h1.ok]; simp
  | gen => rfl
/-- What is owned is appended to. -/
theorem Sat.append {h : Heap} {cs : List Ck} {cs' : Nat → List Ck} {sh : Shape} {bytes t z : Nat} {xs ys zs : List DV} {yv : DV} (hs : Sat h cs) (hz : z = zOf t sh.size) (he : elems h sh yv = some ys) (hj : JO xs ys zs) (hu : Upd (.own t sh.size xs) (fun a => .own a sh.size zs) cs cs')
    (hb : 1 ≤ bytes) (hl : (xs.length + ys.length) * bytes ≤ 140737488355328) : ∃ r v h1 t', appendD h false sh bytes (.lst t z xs) yv = some r ∧ stepEv h r = some (v, h1) ∧ v = .lst t' (zOf t' sh.size) zs ∧ Sat h1 (cs' t') := by
  obtain rfl := hj.ok
  have hn : xs.length + ys.length ≤ 9223372036854775807 := by
    have : xs.length + ys.length ≤ (xs.length + ys.length) * bytes := Nat.le_mul_of_pos_right _ hb
    omega
  by_cases hy : ys = []
  · subst hy
    refine ⟨_, _, _, t, by unfold appendD; rw [he]; dsimp only; rw [if_pos rfl], rfl, by simp [hz], ?_⟩
    have := hu.one t
    simp only [List.append_nil] at this
    have hE : ∀ {cs cs' : List Ck} {c : Ck}, Upd1 c c cs cs' → cs' = cs := by
      intro cs cs' c h1
      induction h1 with
      | head => rfl
      | tail _ ih => rw [ih]
    rw [hE this]; exact hs
  · rcases hs.get (Me.mem' hu.mem') with ⟨h0, hx⟩ | ⟨h2, ht⟩
    · subst h0; subst hx
      refine ⟨.newT sh.size fun u => .lst u sh.size ys, _, _, h.next, ?_, rfl, ?_, ?_⟩
      · unfold appendD; rw [he]; dsimp only
        rw [if_neg hy, if_pos ⟨.inl rfl, hl, hn⟩]
        simp
      · rw [zOf_two hs.two]; rfl
      · refine hs.upd (hu.one h.next) (Nat.le_succ _) (.inr ⟨hs.two, by simp [Heap.addTag, Tr.get_set]⟩) (fun i hi => by cases hi.1; exact Nat.lt_succ_self _) (fun i hi => .inr (by cases hi.1; exact Nat.le_refl _)) (fun i hi _ => addTag_keep h _ hi)
    · have hlt : t < h.next := (hs.ok _ hu.mem').2 t ⟨rfl, h2⟩
      refine ⟨.eff (.lst h.next sh.size (xs ++ ys)) ((h.spend t).addTag sh.size), _, _, h.next, ?_, rfl, by rw [zOf_two hs.two], ?_⟩
      · unfold appendD; rw [he]; dsimp only
        rw [if_neg hy, if_pos ⟨.inr (by rw [hz, zOf_two h2]), hl, hn⟩]
        simp only [Bool.false_eq_true, if_false]
        rw [if_neg (by omega), if_pos ⟨h2, ht⟩]
      · refine hs.upd (hu.one h.next) (Nat.le_succ _) (.inr ⟨hs.two, ?_⟩) (fun i hi => by cases hi.1; exact Nat.lt_succ_self _) (fun i hi => .inr (by cases hi.1; exact Nat.le_refl _)) (fun i hi hne => ⟨rfl, ?_⟩)
        · show (((h.spend t).addTag sh.size).tags.get h.next) = _
          simp [Heap.addTag, Heap.spend, Tr.get_set]
        · simp only [Heap.addTag, Heap.spend, Tr.get_set]
          rw [if_neg (by omega), if_neg (fun e => hne ⟨e, h2⟩)]
end
end Go.Dm
/- The D-machine (35): symbolic runs are runs (3); functions by their bodies. -/
namespace Go.Dm
set_option linter.unusedSimpArgs false
set_option linter.unusedVariables false
set_option linter.unnecessarySimpa false

section
variable {D : DProg}
theorem EL.ok {h : Heap} {cs : List Ck} (hs : Sat h cs) {sh : Shape} {yv : DV} {ys : List DV} (he : EL cs sh yv ys) : elems h sh yv = some ys := by
  cases he with
  | str h1 => simp only [elems, h1, if_true]
  | lst hz => simp only [elems]; rw [if_pos hz.ok]
theorem Sq.ok {es : List En} {A : List (Nat × Bool)} {fr : Fr} (ha : Ag fr.tmps [] es) (hA : Tags fr A) {sz : Nat} : ∀ {i : Nat} {ps : List (Nat × Opd)} {vs : List DV}, Sq D es A sz i ps vs →
    ps.map (fun p => (p.1, ev D fr p.2)) = (vs.zipIdx i).map (fun q => (q.2, q.1)) ∧ ps.length = vs.length ∧ (∀ p ∈ ps, i ≤ p.1 ∧ p.1 < i + ps.length ∧ (ev D fr p.2).cells.length = sz ∧ (ev D fr p.2).okv = true)
  | _, _, _, .nil => ⟨rfl, rfl, fun _ h => by cases h⟩
  | _, _, _, .cons h1 h2 h3 => by
    obtain ⟨e1, e2, e3⟩ := Sq.ok ha hA h3
    have ev1 := lo_ok ha hA h1
    obtain ⟨c1, c2, c3⟩ := h2.ok
    refine ⟨by simp only [List.map_cons, ev1, e1, List.zipIdx_cons], by simp [e2], fun q hq => ?_⟩
    rcases List.mem_cons.1 hq with rfl | hq
    · refine ⟨Nat.le_refl _, by simp only [List.length_cons]; omega, ?_, ?_⟩
      · show (ev D fr _).cells.length = sz
        rw [ev1, c1, c2]
      · show (ev D fr _).okv = true
        rw [ev1, c3]
    · obtain ⟨a, b, c⟩ := e3 q hq
      simp only [List.length_cons]
      exact ⟨by omega, by omega, c⟩
theorem fill_seq : ∀ (vs pre : List DV) (zero : DV), fillL (pre ++ List.replicate vs.length zero) ((vs.zipIdx pre.length).map fun q => (q.2, q.1)) = pre ++ vs
  | [], pre, zero => by simp [fillL]
  | v :: vs, pre, zero => by
    simp only [List.zipIdx_cons, List.map_cons, fillL, List.length_cons, List.replicate_succ]
    have := fill_seq vs (pre ++ [v]) zero
    simp only [List.length_append, List.length_cons, List.length_nil, Nat.zero_add, List.append_assoc, List.cons_append, List.nil_append] at this
    rw [List.set_append_right _ _ (Nat.le_refl _), Nat.sub_self, List.set_cons_zero]
    exact this
theorem RR.sound {k : List It} {st : St} {cs : List Ck} {Q : DX → St → List Ck → Prop} (hr : RR D k st cs Q) : RS D k st cs Q := by
  induction hr with
  | seq _ ih =>
    intro fr h ha hs
    have := ih fr h ha hs
    refine Wp.seq ?_
    refine Wp.mono this fun x fr' h' hq => ?_
    cases x with
    | normal => exact hq
    | exit i => exact hq
    | ret => exact hq
  | region _ ih => intro fr h ha hs; exact Wp.region (ih fr h ha hs)
  | opsnil _ ih => intro fr h ha hs; exact WpOps.nil (ih fr h ha hs)
  | @cond c x y k nt es ds ir cs Q b h1 _ _ ih1 ih2 =>
    intro fr h ha hs
    refine Wp.cond (lo_ok ha.es Tags.nil h1) ?_
    cases b with
    | true => exact ih1 rfl fr h ha hs
    | false => exact ih2 rfl fr h ha hs
  | skip _ ih => intro fr h ha hs; exact Wp.skip (ih fr h ha hs)
  | @block id b k st cs Q _ ih =>
    intro fr h ha hs
    refine Wp.block (Wp.mono (ih fr h ha hs) fun x fr' h' hq => ?_)
    cases x with
    | normal => exact hq
    | exit i =>
      simp only [WpK] at hq
      simp only [InBlock]
      split
      · rename_i e; rw [if_pos e] at hq; exact hq
      · rename_i e; rw [if_neg e] at hq; exact hq
    | ret => exact hq
  | blk _ ih => intro fr h ha hs; exact ih fr h ha hs
  | exit hu _ ih => intro fr h ha hs; exact Wp.exit (unw_ok hu (ih fr h ha hs))
  | ret hq => intro fr h ha hs; exact Wp.ret (WpK_ret ⟨_, _, ha, hs, hq⟩)
  | nil hq => intro fr h ha hs; exact ⟨_, _, ha, hs, hq⟩
  | chk hc _ ih => intro fr h ha hs; exact ⟨hc.ok ha.es ha.len hs, ih fr h ha hs⟩
  | @call d x az c os k nt es ds ir cs Q xv vs P h1 h2 hd hF _ ih =>
    intro fr h ha hs
    have e1 := lo_ok (D := D) ha.es Tags.nil h1
    have e2 := h2.ok ha.es Tags.nil
    have he : evalOp D fr h (.call x az false) = callV xv vs false := by simp only [evalOp, e1, e2]
    unfold FC at hF
    split at hF
    · rename_i g first caps
      obtain ⟨v, h', cs', r1, r2, r3⟩ := hF h hs
      obtain ⟨hc, hk⟩ := ih v cs' r3 (fr.put d v) h' (ha.put hd) r2
      exact WpOps.call rfl (by rw [he]; rfl) r1 hc hk
    · rename_i l
      obtain ⟨n, b, h', cs', r1, r2, r3⟩ := hF h hs
      obtain ⟨hc, n2, fr2, h2', q1, q2⟩ := ih (.bool b) cs' r3 (fr.put d (.bool b)) h' (ha.put hd) r2
      refine ⟨max n n2, fr2, h2', ?_, q2⟩
      have hrun : runOp D (exec D (max n n2)) ⟨d, .call x az false, none, c⟩ fr h = some (fr.put d (.bool b), h') := by
        unfold runOp
        simp only [he, callV, yieldD_le (exec_le (Nat.le_max_left n n2)) r1, Option.map_some]
      simp only [runOps, wantedD, wantedG, if_true, hrun, hc, runOps_le (exec_le (Nat.le_max_right n n2)) q1]
    · exact hF.elim
  | @callZ d x az c os k nt es ds ir cs Q xv vs P h1 h2 hd hF _ ih =>
    intro fr h ha hs
    have e1 := lo_ok (D := D) ha.es Tags.nil h1
    have e2 := h2.ok ha.es Tags.nil
    have he : evalOp D fr h (.call x az true) = callV xv vs true := by simp only [evalOp, e1, e2]
    unfold FZ at hF
    split at hF
    · rename_i g first caps
      obtain ⟨v, h', v2, h2', cs', r1, rz, r2, r3⟩ := hF h hs
      obtain ⟨hc, hk⟩ := ih v2 cs' r3 (fr.put d v2) h2' (ha.put hd) r2
      exact WpOps.callF rfl (by rw [he]; rfl) r1 rz hc hk
    · exact hF.elim
  | @store d n x y c os k nt es ds ir cs cs' Q id off cells vc cells' s v h1 h2 hc hu ho hd _ ih =>
    intro fr h ha hs
    have e1 := lo_ok (D := D) ha.es Tags.nil h1
    have e2 := lo_ok (D := D) ha.es Tags.nil h2
    obtain ⟨c1, c2, c3⟩ := hc.ok
    obtain ⟨o1, o2⟩ := ho.ok
    have hg : h.objs.get id = some (.cells cells s) := hs.obj (Me.mem' hu.mem)
    refine ops_ev ha (r := .eff .undef (h.put id (.cells cells' s))) (h1 := h.put id (.cells cells' s)) (v := .undef) ?_ rfl hd (hs.put hu) ih
    simp only [evalOp, e1, e2, storeD, hg, c1]
    rw [if_pos ⟨c2, by rw [← c2]; exact o2, c3⟩, o1]; rfl
  | @storeS d n x y c os k nt es ds ir cs cs' Q id off v h1 h2 hst hd _ ih =>
    intro fr h ha hs
    have e1 := lo_ok (D := D) ha.es Tags.nil h1
    have e2 := lo_ok (D := D) ha.es Tags.nil h2
    obtain ⟨h', s1, s2⟩ := hst.ok h hs
    refine ops_ev ha (r := .eff .undef h') (h1 := h') (v := .undef) ?_ rfl hd s2 ih
    simp only [evalOp, e1, e2, s1]; rfl
  | @append d sh bytes x y c os k nt es ds ir cs cs' Q t z xs ys zs yv h1 h2 hz he hj hu hb hl hd _ ih =>
    intro fr h ha hs
    have e1 := lo_ok (D := D) ha.es Tags.nil h1
    have e2 := lo_ok (D := D) ha.es Tags.nil h2
    obtain ⟨r, v, h1', t', q1, q2, q3, q4⟩ := hs.append hz (he.ok hs) hj hu (Nat.le_of_ble_eq_true hb) hl.out
    subst q3
    exact ops_ev ha (by simp only [evalOp, e1, e2]; exact q1) q2 hd q4 (ih t')
  | @mks d sh zero len ps c os k nt es ds ir cs Q vs hq hl hb hd _ ih =>
    intro fr h ha hs
    obtain ⟨q1, q2, q3⟩ := hq.ok (D := D) ha.es Tags.nil
    have hlen := Nat.eq_of_beq_eq_true hl
    have hf := fill_seq vs [] zero
    simp only [List.nil_append, List.length_nil] at hf
    refine ops_ev ha (r := .newT sh.size fun t => .lst t sh.size vs) ?_ (show stepEv h (.newT sh.size fun t => .lst t sh.size vs) = some (.lst h.next (zOf h.next sh.size) vs, _) by rw [zOf_two hs.two]; rfl) hd (hs.addT sh.size vs) (ih h.next hs.two)
    simp only [evalOp]
    rw [if_pos ⟨Nat.le_of_ble_eq_true hb, fun p hp => by obtain ⟨_, b2, b3, b4⟩ := q3 p hp; exact ⟨by omega, b3, b4⟩⟩, q1, ← hlen, q2, hf]
    simp
  | @box d x n c os k nt es ds ir cs Q v vc h1 hc hd _ ih =>
    intro fr h ha hs
    have e1 := lo_ok (D := D) ha.es Tags.nil h1
    obtain ⟨c1, c2, c3⟩ := hc.ok
    refine ops_ev ha (r := .newO (.cells vc none) fun i => .ptr i 0) ?_ rfl hd (hs.addO _) (ih h.next hs.two)
    simp only [evalOp, e1, c1]
    rw [if_pos ⟨c2, c3⟩]
  | @alloc d zero sh c os k nt es ds ir cs Q hd _ ih =>
    intro fr h ha hs
    exact ops_ev ha (r := .newO (.cells zero sh) fun i => .ptr i 0) rfl rfl hd (hs.addO _) (ih h.next hs.two)
  | @strBytes d x c os k nt es ds ir cs Q s h1 hl hd _ ih =>
    intro fr h ha hs
    have e1 := lo_ok (D := D) ha.es Tags.nil h1
    refine ops_ev ha (r := .newT 1 fun t => .lst t 1 (bytesV s)) ?_ (show stepEv h (.newT 1 fun t => .lst t 1 (bytesV s)) = some (.lst h.next (zOf h.next 1) (bytesV s), _) by rw [zOf_two hs.two]; rfl) hd (hs.addT 1 (bytesV s)) (ih h.next hs.two)
    simp only [evalOp, e1, convD]
    rw [if_pos hl.out]; rfl
  | @strBytesM d x c os k nt es ds ir cs Q s h1 hl hd _ ih =>
    intro fr h ha hs
    have e1 := lo_ok (D := D) ha.es Tags.nil h1
    refine ops_ev ha (r := .newO (.cells (bytesV s) none) fun i => .arr i 1 0 s.length) ?_ rfl hd (hs.addO _) (ih h.next hs.two)
    simp only [evalOp, e1, convD]
    rw [if_pos hl.out]; rfl
  | @range d x c os k nt es ds ir cs Q s h1 hd _ ih =>
    intro fr h ha hs
    have e1 := lo_ok (D := D) ha.es Tags.nil h1
    exact ops_ev ha (r := .newO (.siter s 0) fun i => .ptr i 0) (by simp only [evalOp, e1]) rfl hd (hs.addO _) (ih h.next hs.two)
  | @next d x c os k nt es ds ir cs cs' Q id pos s h1 hu hd _ _ ih1 ih2 =>
    intro fr h ha hs
    have e1 := lo_ok (D := D) ha.es Tags.nil h1
    have hg : h.objs.get id = some (.siter s pos) := hs.obj (Me.mem' hu.mem)
    by_cases hp : pos < s.length
    · refine ops_ev ha (r := .eff _ _) ?_ rfl hd (hs.put hu) (ih1 hp)
      simp only [evalOp, e1, hg]
      rw [if_pos hp]
    · refine ops_ev ha (r := .eff (.tup [.bool false]) h) ?_ rfl hd hs (ih2 (by omega))
      simp only [evalOp, e1, hg]
      rw [if_neg hp]
  | @defr d x az c os k nt es ds cs Q g first caps vs h1 h2 hd _ ih =>
    intro fr h ha hs
    have e1 := lo_ok (D := D) ha.es Tags.nil h1
    have e2 := h2.ok ha.es Tags.nil
    have hir : fr.inr = none := ha.ir
    have ha' : AgS { fr with defers := .call g (first ++ vs ++ caps) :: fr.defers } ⟨nt, es, .call g (first ++ vs ++ caps) :: ds, none⟩ := ⟨ha.len, ha.es, by rw [show fr.defers = ds from ha.ds], ha.ir⟩
    obtain ⟨hc, n, fr2, h2', q1, q2⟩ := ih (Fr.put { fr with defers := .call g (first ++ vs ++ caps) :: fr.defers } d .undef) h (ha'.put hd) hs
    refine ⟨n, fr2, h2', ?_, q2⟩
    have hrun : runOp D (exec D n) ⟨d, .defr x az, none, c⟩ fr h = some (Fr.put { fr with defers := .call g (first ++ vs ++ caps) :: fr.defers } d .undef, h) := by
      unfold runOp
      have he : evalOp D fr h (.defr x az) = some (.defr g (first ++ vs ++ caps)) := by simp only [evalOp, hir, e1, e2]; rfl
      simp only [he]
    simp only [runOps, wantedD, wantedG, if_true, hrun, hc, q1]
  | @gcall d x az fz t b c os k nt es ds ir cs Q A p hg hd _ _ ih1 ih2 =>
    intro fr h ha hs
    have hgo := gate_ok ha.es hg
    cases hw : wantedG (some (t, b)) fr with
    | true =>
      obtain ⟨hp, hA⟩ := hgo.1 hw
      obtain ⟨n, fr2, h2, q1, q2⟩ := ih1 hp fr h ⟨ha.len, untag_ok hA ha.es, ha.ds, ha.ir⟩ hs
      refine ⟨n, fr2, h2, ?_, q2⟩
      simp only [runOps, wantedD, hw, if_true]
      simp only [runOps, wantedD, wantedG, if_true] at q1
      exact q1
    | false =>
      have hp : p = false := by
        cases p with
        | false => rfl
        | true => have := hgo.2 rfl; rw [hw] at this; cases this
      exact WpOps.off hw (ih2 hp (fr.put (some d) .undef) h (ha.put (d := some d) (v := .undef) hd) hs)
  | @gmks d mu sh zero len ps t b c os k nt es ds ir cs Q A p hg hd _ _ ih1 ih2 =>
    intro fr h ha hs
    have hgo := gate_ok ha.es hg
    cases hw : wantedG (some (t, b)) fr with
    | true =>
      obtain ⟨hp, hA⟩ := hgo.1 hw
      obtain ⟨n, fr2, h2, q1, q2⟩ := ih1 hp fr h ⟨ha.len, untag_ok hA ha.es, ha.ds, ha.ir⟩ hs
      refine ⟨n, fr2, h2, ?_, q2⟩
      simp only [runOps, wantedD, hw, if_true]
      simp only [runOps, wantedD, wantedG, if_true] at q1
      exact q1
    | false =>
      have hp : p = false := by
        cases p with
        | false => rfl
        | true => have := hgo.2 rfl; rw [hw] at this; cases this
      exact WpOps.off hw (ih2 hp (fr.put (some d) .undef) h (ha.put (d := some d) (v := .undef) hd) hs)
  | @val d op g os k nt es ds ir cs Q A p v hg hv hd _ ih =>
    intro fr h ha hs
    have hgo := gate_ok ha.es hg
    have hdl : d < fr.tmps.length := by rw [ha.len]; exact Nat.le_of_ble_eq_true hd
    cases hw : wantedG g fr with
    | true =>
      obtain ⟨hp, hA⟩ := hgo.1 hw
      have he := hv.ok ha.es hs hA hp
      refine WpOps.op (v := v) (h1 := h) hw he rfl rfl (ih (fr.put (some d) v) h ⟨?_, ?_, ha.ds, ha.ir⟩ hs)
      · show (fr.tmps.set d v).length = _; rw [List.length_set]; exact ha.len
      · cases g with
        | none => exact ha.es.put hdl rfl
        | some tb => exact ha.es.putG hdl (fun _ => rfl) (fun hne => absurd (wanted_bool.1 hw) hne)
    | false =>
      refine WpOps.off hw (ih (fr.put (some d) .undef) h ⟨?_, ?_, ha.ds, ha.ir⟩ hs)
      · show (fr.tmps.set d .undef).length = _; rw [List.length_set]; exact ha.len
      · cases g with
        | none => cases hw
        | some tb => exact ha.es.putG hdl (fun e => by rw [wanted_bool.2 e] at hw; cases hw) (fun _ => rfl)
  | sem h => exact h
theorem RS.loop {b : DC} {k : List It} {st : St} {cs : List Ck} {Q : DX → St → List Ck → Prop} (hr : RR D (.code b :: .lp b :: k) st cs Q) : RS D (.code (.loop b) :: k) st cs Q := by
  intro fr h ha hs
  refine Wp.loop1 (Wp.mono (hr.sound fr h ha hs) fun x fr' h' hq => ?_)
  cases x with
  | normal => exact hq
  | exit i => exact hq
  | ret => exact hq
theorem RS.lp {b : DC} {k : List It} {st : St} {cs : List Ck} {Q : DX → St → List Ck → Prop} (hr : RS D (.code (.loop b) :: k) st cs Q) : RS D (.lp b :: k) st cs Q := fun fr h ha hs => hr fr h ha hs
theorem RS.weak {k : List It} {nt : Nat} {es : List En} {ds : List DDef} {ir : Option Nat} {cs cs' : List Ck} {Q : DX → St → List Ck → Prop} (l : List (Nat × DV)) (hr : RS D k ⟨nt, ents l, ds, ir⟩ cs' Q) (hsub : Sub es l) (hk : KK cs cs') : RS D k ⟨nt, es, ds, ir⟩ cs Q :=
  fun fr h ha hs => hr fr h ⟨ha.len, hsub.ag ha.es [], ha.ds, ha.ir⟩ (hs.sub hk.sublist)
theorem RS.nilOwn {k : List It} {st : St} {cs : List Ck} {Q : DX → St → List Ck → Prop} (sz : Nat) (hr : RS D k st (.own 0 sz [] :: cs) Q) : RS D k st cs Q := fun fr h ha hs => hr fr h ha (hs.nilOwn sz)
theorem RS.perm {k : List It} {st : St} {cs cs' : List Ck} {Q : DX → St → List Ck → Prop} (hp : cs.Perm cs') (hr : RS D k st cs' Q) : RS D k st cs Q := fun fr h ha hs => hr fr h ha (hs.perm hp)
/-- A loop: what it goes over (E: the slots, C: the pieces), what grows less (μ). -/
theorem RS.loopW {α : Type} (E : α → List (Nat × DV)) (C : α → List Ck) (Inv : α → Prop) (μ : α → Nat) (a0 : α) {b : DC} {k : List It} {nt : Nat} {es : List En} {ds : List DDef} {ir : Option Nat} {cs : List Ck} {Q : DX → St → List Ck → Prop}
    (h0 : Inv a0) (hsub : Sub es (E a0)) (hk : KK cs (C a0))
    (step : ∀ a, Inv a → (∀ (es' : List En) (cs' : List Ck) (a' : α), Inv a' → μ a' < μ a → Sub es' (E a') → KK cs' (C a') → RS D (.lp b :: k) ⟨nt, es', ds, ir⟩ cs' Q) → RR D (.code b :: .lp b :: k) ⟨nt, ents (E a), ds, ir⟩ (C a) Q) : RS D (.code (.loop b) :: k) ⟨nt, es, ds, ir⟩ cs Q := by
  refine RS.weak (E a0) ?_ hsub hk
  suffices h : ∀ n a, μ a = n → Inv a → RS D (.code (.loop b) :: k) ⟨nt, ents (E a), ds, ir⟩ (C a) Q from h _ a0 rfl h0
  intro n
  induction n using Nat.strongRecOn with
  | ind n ih =>
    intro a hn hi
    refine RS.loop (step a hi fun es' cs' a' hi' hlt hsub' hk' => RS.lp (RS.weak (E a') (ih (μ a') (by omega) a' rfl hi') hsub' hk'))
theorem RR.loop {b : DC} {k : List It} {st : St} {cs : List Ck} {Q : DX → St → List Ck → Prop} (hr : RR D (.code b :: .lp b :: k) st cs Q) : RR D (.code (.loop b) :: k) st cs Q := .sem (.loop hr)
/-- Less is known; another order of the pieces. -/
theorem RR.weak {k : List It} {nt : Nat} {es : List En} {ds : List DDef} {ir : Option Nat} {cs : List Ck} {Q : DX → St → List Ck → Prop} (l : List (Nat × DV)) (hr : RR D k ⟨nt, ents l, ds, ir⟩ cs Q) (hsub : Sub es l) : RR D k ⟨nt, es, ds, ir⟩ cs Q :=
  .sem fun fr h ha hs => hr.sound fr h ⟨ha.len, hsub.ag ha.es [], ha.ds, ha.ir⟩ hs
theorem RR.perm {k : List It} {st : St} {cs cs' : List Ck} {Q : DX → St → List Ck → Prop} (hp : cs.Perm cs') (hr : RR D k st cs' Q) : RR D k st cs Q := .sem fun fr h ha hs => hr.sound fr h ha (hs.perm hp)
theorem RR.drop {k : List It} {st : St} {cs cs' : List Ck} {Q : DX → St → List Ck → Prop} (hp : cs'.Sublist cs) (hr : RR D k st cs' Q) : RR D k st cs Q := .sem fun fr h ha hs => hr.sound fr h ha (hs.sub hp)
theorem RR.pure {k : List It} {st : St} {cs : List Ck} {Q : DX → St → List Ck → Prop} {X : Prop} (hx : ∀ h, Sat h cs → X) (hr : X → RR D k st cs Q) : RR D k st cs Q := .sem fun fr h ha hs => (hr (hx h hs)).sound fr h ha hs

/-! functions -/
variable (D) in
inductive RE (es : List En) (cs : List Ck) : DRes → DV → Prop where
  | tmp {t : Nat} {v : DV} : lk [] [] es t = some v → RE es cs (.tmp t) v
  | cell {t : Nat} {sh : Shape} {a v : DV} : lk [] [] es t = some a → LD cs sh a v → RE es cs (.cell t sh) v
inductive Done : DX → Prop where
  | ret : Done .ret
  | normal : Done .normal
variable (D) in
/-- What a call does that was put off. -/
def FD (f : Nat) (args : List DV) (cs : List Ck) (P : List Ck → Prop) : Prop := ∀ h, Sat h cs → ∃ n h' cs', callDef D (exec D n) f args h = some h' ∧ Sat h' cs' ∧ P cs'
variable (D) in
inductive Fin (P : DV → List Ck → Prop) : List DRes → DX → St → List Ck → Prop where
  | one {x : DX} {nt : Nat} {es : List En} {ir : Option Nat} {cs : List Ck} {r : DRes} {v : DV} : Done x → RE es cs r v → Pst (P v) cs → Fin P [r] x ⟨nt, es, [], ir⟩ cs
  | zero {x : DX} {nt : Nat} {es : List En} {ir : Option Nat} {cs : List Ck} : Done x → Pst (P (.tup [])) cs → Fin P [] x ⟨nt, es, [], ir⟩ cs
  | two {x : DX} {nt : Nat} {es : List En} {ir : Option Nat} {cs : List Ck} {r s : DRes} {v w : DV} : Done x → RE es cs r v → RE es cs s w → Pst (P (.tup [v, w])) cs → Fin P [r, s] x ⟨nt, es, [], ir⟩ cs
  | three {x : DX} {nt : Nat} {es : List En} {ir : Option Nat} {cs : List Ck} {r s t : DRes} {v w u : DV} : Done x → RE es cs r v → RE es cs s w → RE es cs t u → Pst (P (.tup [v, w, u])) cs → Fin P [r, s, t] x ⟨nt, es, [], ir⟩ cs
  | four {x : DX} {nt : Nat} {es : List En} {ir : Option Nat} {cs : List Ck} {r s t q : DRes} {v w u y : DV} : Done x → RE es cs r v → RE es cs s w → RE es cs t u → RE es cs q y → Pst (P (.tup [v, w, u, y])) cs → Fin P [r, s, t, q] x ⟨nt, es, [], ir⟩ cs
  | dfr {x : DX} {nt : Nat} {es : List En} {ds : List DDef} {ir : Option Nat} {cs : List Ck} {res : List DRes} {g : Nat} {az : List DV} {P1 : List Ck → Prop} : Done x → FD D g az cs P1 → (∀ cs', P1 cs' → Fin P res x ⟨nt, es, ds, ir⟩ cs') → Fin P res x ⟨nt, es, .call g az :: ds, ir⟩ cs
  | mark {x : DX} {nt : Nat} {es : List En} {ds : List DDef} {ir : Option Nat} {cs cs' : List Ck} {res : List DRes} {m : Nat} : Rem (.obj m .mark) cs cs' → Fin P res x ⟨nt, es, ds, ir⟩ cs' → Fin P res x ⟨nt, es, .mark m :: ds, ir⟩ cs
theorem RE.ok {es : List En} {cs : List Ck} {fr : Fr} {h : Heap} (ha : Ag fr.tmps [] es) (hs : Sat h cs) {r : DRes} {v : DV} (hr : RE es cs r v) {rs : List DRes} {vs : List DV} (h2 : resD fr h rs = some vs) : resD fr h (r :: rs) = some (v :: vs) := by
  cases hr with
  | tmp h1 => simp only [resD, h2, Option.map_some, lk_ok Tags.nil ha rfl h1]
  | cell h1 hl => simp only [resD, lk_ok Tags.nil ha rfl h1, hl.ok hs, h2]
theorem Fin.ok {P : DV → List Ck → Prop} {res : List DRes} {x : DX} {st : St} {cs : List Ck} (hf : Fin D P res x st cs) : ∀ {fr : Fr} {h : Heap}, AgS fr st → Sat h cs →
    Done x ∧ ∃ n h' cs' vs, leaveD st.ds h (callDef D (exec D n)) = some h' ∧ resD fr h' res = some vs ∧ Sat h' cs' ∧ P (tupD vs) cs' := by
  induction hf with
  | one hd h1 hp => intro fr h ha hs; obtain ⟨cs', hk, hp⟩ := hp.out; exact ⟨hd, 0, _, _, _, rfl, h1.ok ha.es hs rfl, hk _ hs, hp⟩
  | zero hd hp => intro fr h ha hs; obtain ⟨cs', hk, hp⟩ := hp.out; exact ⟨hd, 0, _, _, _, rfl, rfl, hk _ hs, hp⟩
  | two hd h1 h2 hp => intro fr h ha hs; obtain ⟨cs', hk, hp⟩ := hp.out; exact ⟨hd, 0, _, _, _, rfl, h1.ok ha.es hs (h2.ok ha.es hs rfl), hk _ hs, hp⟩
  | three hd h1 h2 h3 hp => intro fr h ha hs; obtain ⟨cs', hk, hp⟩ := hp.out; exact ⟨hd, 0, _, _, _, rfl, h1.ok ha.es hs (h2.ok ha.es hs (h3.ok ha.es hs rfl)), hk _ hs, hp⟩
  | four hd h1 h2 h3 h4 hp => intro fr h ha hs; obtain ⟨cs', hk, hp⟩ := hp.out; exact ⟨hd, 0, _, _, _, rfl, h1.ok ha.es hs (h2.ok ha.es hs (h3.ok ha.es hs (h4.ok ha.es hs rfl))), hk _ hs, hp⟩
  | @dfr x nt es ds ir cs res g az P1 hd hF _ ih =>
    intro fr h ha hs
    obtain ⟨n, h1, cs1, q1, q2, q3⟩ := hF h hs
    have ha' : AgS { fr with defers := ds } ⟨nt, es, ds, ir⟩ := ⟨ha.len, ha.es, rfl, ha.ir⟩
    obtain ⟨_, n2, h2, cs2, vs, r1, r2, r3, r4⟩ := ih cs1 q3 ha' q2
    refine ⟨hd, max n n2, h2, cs2, vs, ?_, ?_, r3, r4⟩
    · simp only [leaveD, callDef_le (exec_le (Nat.le_max_left n n2)) q1, Option.bind_some]
      exact leaveD_le (fun f a h r => callDef_le (exec_le (Nat.le_max_right n n2))) r1
    · have : ∀ (rs : List DRes), resD { fr with defers := ds } h2 rs = resD fr h2 rs := by
        intro rs
        induction rs with
        | nil => rfl
        | cons r rs ih2 => cases r <;> simp only [resD, ih2]
      exact (this _).symm.trans r2
  | @mark x nt es ds ir cs cs' res m hr _ ih =>
    intro fr h ha hs
    have hg : h.objs.get m = some .mark := hs.obj (Me.mem' hr.mem)
    have hs' : Sat (h.drop m) cs' := hr.keep hs (Nat.le_refl _) fun i _ hne => ⟨by
      simp only [Heap.drop, Tr.get_set]; rw [if_neg (show ¬ i = m from hne)], rfl⟩
    have ha' : AgS { fr with defers := ds } ⟨nt, es, ds, ir⟩ := ⟨ha.len, ha.es, rfl, ha.ir⟩
    obtain ⟨hd, n2, h2, cs2, vs, r1, r2, r3, r4⟩ := ih ha' hs'
    refine ⟨hd, n2, h2, cs2, vs, ?_, ?_, r3, r4⟩
    · simp only [leaveD, hg]; exact r1
    · have : ∀ (rs : List DRes), resD { fr with defers := ds } h2 rs = resD fr h2 rs := by
        intro rs
        induction rs with
        | nil => rfl
        | cons r rs ih2 => cases r <;> simp only [resD, ih2]
      exact (this _).symm.trans r2
def pars : Nat → List DV → List En
  | _, [] => []
  | i, v :: r => ⟨i, none, v⟩ :: pars (i + 1) r
theorem pars_ag : ∀ {args pre rest : List DV} {seen : List Nat}, Ag (pre ++ args ++ rest) seen (pars pre.length args)
  | [], _, _, _ => trivial
  | v :: r, pre, rest, seen => by
    refine ⟨fun _ => ?_, ?_⟩
    · show (pre ++ v :: r ++ rest).getD pre.length .undef = v
      rw [List.getD_eq_getElem?_getD, List.append_assoc, List.getElem?_append_right (Nat.le_refl _), Nat.sub_self]; rfl
    · have := pars_ag (args := r) (pre := pre ++ [v]) (rest := rest) (seen := pre.length :: seen)
      simpa [List.append_assoc] using this
theorem F.of {f : Nat} {args : List DV} {cs : List Ck} {P : DV → List Ck → Prop} {nt : Nat} {body : DC} {res : List DRes} (hp : D.prim f = none) (hd : D.fn f = some ⟨nt, body, res⟩) (hl : Nat.ble args.length nt = true) (hr : RR D [.code body] ⟨nt, pars 0 args, [], none⟩ cs (Fin D P res)) : F D f args cs P := by
  intro h hs
  have hl' := Nat.le_of_ble_eq_true hl
  obtain ⟨n, x, fr', h1, q1, q2⟩ := hr.sound { tmps := args ++ List.replicate (nt - args.length) .undef, defers := [], inr := none } h
    ⟨by simp; omega, by have := pars_ag (args := args) (pre := []) (rest := List.replicate (nt - args.length) .undef) (seen := []); simpa using this, rfl, rfl⟩ hs
  obtain ⟨st', cs1, a1, a2, a3⟩ := q2
  obtain ⟨hdn, n2, h2, cs2, vs, r1, r2, r3, r4⟩ := a3.ok a1 a2
  refine ⟨tupD vs, h2, cs2, ⟨max n n2, ?_⟩, r3, r4⟩
  have hb : bodyD D (exec D (max n n2)) f args h = some (⟨nt, body, res⟩, fr', h1) := by
    unfold bodyD
    rw [hd]
    simp only [exec_le (Nat.le_max_left n n2) _ _ _ _ q1]
    cases hdn <;> rfl
  unfold run callD
  rw [hp]
  have hds : fr'.defers = st'.ds := a1.ds
  simp only [hb, hds, leaveD_le (fun f a h r => callDef_le (exec_le (Nat.le_max_right n n2))) r1, r2, Option.map_some]
theorem FD.of {f : Nat} {args : List DV} {cs : List Ck} {P : List Ck → Prop} {nt : Nat} {body : DC} {res : List DRes} (hd : D.fn f = some ⟨nt, body, res⟩) (hl : Nat.ble args.length nt = true) (hr : RR D [.code body] ⟨nt, pars 0 args, [], none⟩ cs (fun x st cs' => st.ds = [] ∧ Fin D (fun _ => P) res x st cs')) : FD D f args cs P := by
  intro h hs
  have hl' := Nat.le_of_ble_eq_true hl
  obtain ⟨n, x, fr', h1, q1, q2⟩ := hr.sound { tmps := args ++ List.replicate (nt - args.length) .undef, defers := [], inr := none } h
    ⟨by simp; omega, by have := pars_ag (args := args) (pre := []) (rest := List.replicate (nt - args.length) .undef) (seen := []); simpa using this, rfl, rfl⟩ hs
  obtain ⟨st', cs1, a1, a2, a3⟩ := q2
  obtain ⟨hds0, a3⟩ := a3
  obtain ⟨hdn, n2, h2, cs2, vs, r1, r2, r3, r4⟩ := a3.ok a1 a2
  rw [hds0] at r1
  simp only [leaveD, Option.some.injEq] at r1
  subst r1
  refine ⟨n, h1, cs2, ?_, r3, r4⟩
  have hb : bodyD D (exec D n) f args h = some (⟨nt, body, res⟩, fr', h1) := by
    unfold bodyD
    rw [hd]
    simp only [q1]
    cases hdn <;> rfl
  have hds : fr'.defers = [] := by rw [a1.ds, hds0]
  unfold callDef
  simp only [hb, hds, r2]
theorem Hold.mk {p : Prop} (h : p) : Hold p := h
theorem Hold.out {p : Prop} (h : Hold p) : p := h
/-- What comes of a round. -/
inductive YPost (P : Bool → List Ck → Prop) : DV → List Ck → Prop where
  | mk {b : Bool} {cs : List Ck} : P b cs → YPost P (.bool b) cs
theorem FC.yield {l : Nat} {args : List DV} {cs : List Ck} {P : Bool → List Ck → Prop} (h : Y D l args cs P) : FC D (.fn (.yield l) [] []) args cs (YPost P) := fun h0 hs =>
  let ⟨n, b, h', cs', r1, r2, r3⟩ := h h0 hs; ⟨n, b, h', cs', r1, r2, .mk r3⟩
theorem F.perm {f : Nat} {args : List DV} {cs cs' : List Ck} {P : DV → List Ck → Prop} (hp : cs.Perm cs') (hf : F D f args cs' P) : F D f args cs P := fun h hs => hf h (hs.perm hp)
/-- What comes behind in another order. -/
theorem F.post {f : Nat} {args : List DV} {cs : List Ck} {P P' : DV → List Ck → Prop} (hf : F D f args cs P) (hp : ∀ v cs', P v cs' → ∃ cs2, cs'.Perm cs2 ∧ P' v cs2) : F D f args cs P' := fun h hs =>
  let ⟨v, h', cs', r1, r2, r3⟩ := hf h hs; let ⟨cs2, q1, q2⟩ := hp _ _ r3; ⟨v, h', cs2, r1, r2.perm q1, q2⟩
theorem Y.perm {l : Nat} {args : List DV} {cs cs' : List Ck} {P : Bool → List Ck → Prop} (hp : cs.Perm cs') (hf : Y D l args cs' P) : Y D l args cs P := fun h hs => hf h (hs.perm hp)
theorem Y.post {l : Nat} {args : List DV} {cs : List Ck} {P P' : Bool → List Ck → Prop} (hf : Y D l args cs P) (hp : ∀ v cs', P v cs' → ∃ cs2, cs'.Perm cs2 ∧ P' v cs2) : Y D l args cs P' := fun h hs =>
  let ⟨n, v, h', cs', r1, r2, r3⟩ := hf h hs; let ⟨cs2, q1, q2⟩ := hp _ _ r3; ⟨n, v, h', cs2, r1, r2.perm q1, q2⟩
/-- Another function's contract, less known of it. -/
theorem F.mono {f : Nat} {args : List DV} {cs : List Ck} {P P' : DV → List Ck → Prop} (hf : F D f args cs P) (hp : ∀ v cs', P v cs' → P' v cs') : F D f args cs P' := fun h hs =>
  let ⟨v, h', cs', r1, r2, r3⟩ := hf h hs; ⟨v, h', cs', r1, r2, hp _ _ r3⟩
end
end Go.Dm
/- The D-machine (36): short names for code; tables of functions. -/
namespace Go.Dm
namespace C
@[reducible] def v (d : Nat) (op : DOp) : ROp := ⟨some d, op, none, []⟩
@[reducible] def w (d : Nat) (op : DOp) (t : Nat) (b : Bool) : ROp := ⟨some d, op, some (t, b), []⟩
@[reducible] def m (d s : Nat) : ROp := ⟨some d, .mv (.t s), none, []⟩
@[reducible] def u (op : DOp) : ROp := ⟨none, op, none, []⟩
end C
inductive BT where
  | nil
  | node (l : BT) (k : Nat) (d : DFunc) (r : BT)
def BT.get : BT → Nat → Option DFunc
  | .nil, _ => none
  | .node l k d r, n => match Nat.beq n k with
    | true => some d
    | false => match Nat.blt n k with
      | true => l.get n
      | false => r.get n
inductive BT.All (P : Nat → DFunc → Prop) : BT → Prop where
  | nil : BT.All P .nil
  | node {l : BT} {k : Nat} {d : DFunc} {r : BT} : BT.All P l → P k d → BT.All P r → BT.All P (.node l k d r)
theorem BT.All.get {P : Nat → DFunc → Prop} {t : BT} (ha : BT.All P t) {n : Nat} {d : DFunc} (hg : t.get n = some d) : P n d := by
  induction ha with
  | nil => cases hg
  | node _ hk _ ih1 ih2 =>
    simp only [BT.get] at hg
    split at hg
    · rename_i hb
      have := Nat.eq_of_beq_eq_true hb
      simp only [Option.some.injEq] at hg
      subst this; subst hg; exact hk
    · split at hg
      · exact ih1 hg
      · exact ih2 hg
end Go.Dm
/- Functions of the program az code of the D-machine (1): PRINTED BY PROGRAM; each is checked to be what the program's own compiles to. -/
namespace Go.Proofs.YticnenofiibpgaaDoor.Code
set_option linter.unusedSimpArgs false
set_option linter.unusedVariables false
open Go.Dm Go.Dm.C
def cfg1 : Cfg := ⟨fun t => [3, 83].contains t, fun f => [26, 46, 57, 58, 59].contains f⟩
/-- woodcutlaw10.SerReads -/
def c_woodcutlaw10_SerReads : DFunc := ⟨90, 
(.seq 
(.region [v 2 (.mv (.c (.bool false)))]) 
(.seq 
(.seq 
(.region [v 8 (.call (.f 33) [] false), v 9 (.un .not (.t 8))]) 
(.cond (.t 9) 
(.seq 
(.region [v 2 (.mv (.c (.bool false)))]) .ret) .skip)) 
(.seq 
(.seq 
(.region [m 10 0, v 11 (.len false (.t 10)), v 12 (.bin .gtr .any (.t 11) (.c (.int .i64 200)))]) 
(.cond (.t 12) 
(.seq 
(.region [v 2 (.mv (.c (.bool true)))]) .ret) .skip)) 
(.seq 
(.region [v 3 (.mv (.c (.str [])))]) 
(.seq 
(.seq 
(.region [v 4 (.mv (.c (.int .i64 0)))]) 
(.block 0 
(.loop 
(.seq 
(.seq 
(.region [m 13 4, m 14 0, v 15 (.len false (.t 14)), v 16 (.bin .lss .any (.t 13) (.t 15))]) 
(.cond (.t 16) .skip (.exit 0))) 
(.seq 
(.block 1 
(.seq 
(.region [m 19 0, m 20 4, v 21 (.idxStr (.t 19) (.t 20)), v 22 (.bin .geq .any (.t 21) (.c (.int .u8 32))), m 23 22, w 24 (.mv (.t 0)) 23 true, w 25 (.mv (.t 4)) 23 true, w 26 (.idxStr (.t 24) (.t 25)) 23 true, w 27 (.bin .lss .any (.t 26) (.c (.int .u8 127))) 23 true, v 28 (.pick (.t 23) (.t 27) (.c (.bool false))), m 29 28, w 30 (.mv (.t 0)) 29 false, w 31 (.mv (.t 4)) 29 false, w 32 (.idxStr (.t 30) (.t 31)) 29 false, w 33 (.bin .eql .any (.t 32) (.c (.int .u8 10))) 29 false, v 34 (.pick (.t 29) (.c (.bool true)) (.t 33))]) 
(.cond (.t 34) 
(.region [m 35 3, m 36 0, m 37 4, m 38 4, v 39 (.bin .add .any (.t 38) (.c (.int .i64 1))), v 40 (.sliceStr (.t 36) (some (.t 37)) (some (.t 39))), v 41 (.bin .add .any (.t 35) (.t 40)), m 3 41]) 
(.seq 
(.region [m 42 0, m 43 4, v 44 (.idxStr (.t 42) (.t 43)), v 45 (.bin .gtr .any (.t 44) (.c (.int .u8 250)))]) 
(.cond (.t 45) 
(.region [m 46 3, v 47 (.bin .add .any (.t 46) (.c (.str [194, 160]))), m 3 47]) .skip))))) 
(.region [m 17 4, v 18 (.bin .add .any (.t 17) (.c (.int .i64 1))), m 4 18])))))) 
(.seq 
(.region [m 48 3, v 49 (.call (.f 34) [(.t 48)] false), v 50 (.bin .add .any (.c (.str [60, 97, 32, 98, 61, 34])) (.t 49)), v 51 (.bin .add .any (.t 50) (.c (.str [34, 62]))), m 52 3, v 53 (.call (.f 35) [(.t 52)] false), v 54 (.bin .add .any (.t 51) (.t 53)), v 55 (.conv .strBytes false (.t 54)), v 56 (.call (.f 15) [(.t 55)] false), m 5 56]) 
(.seq 
(.region [m 57 3, v 58 (.build [(.str []), (.str [])] [(0, 1, (.c (.str [98]))), (1, 1, (.t 57))]), v 59 (.mks false (some 2) (.agg [(.str []), (.str [])]) 1 [(0, (.t 58))]), v 60 (.build [(.int .i64 0), (.str []), (.lst 0 0 []), (.bool false), (.str []), (.str []), (.str []), (.bool false), (.bool false), (.bool false)] [(0, 1, (.c (.int .i64 2))), (1, 1, (.c (.str [97]))), (2, 1, (.t 59))]), v 61 (.mks false (some 10) (.agg [(.int .i64 0), (.str []), (.lst 0 0 []), (.bool false), (.str []), (.str []), (.str []), (.bool false), (.bool false), (.bool false)]) 1 [(0, (.t 60))]), m 6 61]) 
(.seq 
(.seq 
(.region [m 62 3, v 63 (.bin .neq .any (.t 62) (.c (.str [])))]) 
(.cond (.t 63) 
(.region [m 64 6, m 65 3, v 66 (.build [(.int .i64 0), (.str []), (.lst 0 0 []), (.bool false), (.str []), (.str []), (.str []), (.bool false), (.bool false), (.bool false)] [(0, 1, (.c (.int .i64 1))), (4, 1, (.t 65))]), v 67 (.mks false (some 10) (.agg [(.int .i64 0), (.str []), (.lst 0 0 []), (.bool false), (.str []), (.str []), (.str []), (.bool false), (.bool false), (.bool false)]) 1 [(0, (.t 66))]), v 68 (.append false (some 10) 112 (.t 64) (.t 67)), m 6 68]) .skip)) 
(.seq 
(.seq 
(.region [m 69 5, v 70 (.len true (.t 69)), m 71 6, v 72 (.len true (.t 71)), v 73 (.bin .neq .any (.t 70) (.t 72))]) 
(.cond (.t 73) 
(.seq 
(.region [v 2 (.mv (.c (.bool false)))]) .ret) .skip)) 
(.seq 
(.seq 
(.region [m 74 5, v 75 (.len true (.t 74)), v 76 (.mv (.c (.int .i64 0)))]) 
(.block 2 
(.loop 
(.seq 
(.region [v 77 (.bin .lss .any (.t 76) (.t 75))]) 
(.seq 
(.cond (.t 77) .skip (.exit 2)) 
(.seq 
(.block 3 
(.seq 
(.region [m 78 76, m 7 78]) 
(.seq 
(.region [m 79 5, m 80 7, v 81 (.iaddr 10 (.t 79) (.t 80)), v 82 (.load (some 10) (.t 81)), m 83 6, m 84 7, v 85 (.iaddr 10 (.t 83) (.t 84)), v 86 (.load (some 10) (.t 85)), v 87 (.call (.f 29) [(.t 82), (.t 86)] false), v 88 (.un .not (.t 87))]) 
(.cond (.t 88) 
(.seq 
(.region [v 2 (.mv (.c (.bool false)))]) .ret) .skip)))) 
(.region [v 89 (.bin .add .any (.t 76) (.c (.int .i64 1))), m 76 89]))))))) 
(.seq 
(.region [v 2 (.mv (.c (.bool true)))]) .ret))))))))))),
 [.tmp 2]⟩
/-- woodcutlaw09.word -/
def c_woodcutlaw09_word : DFunc := ⟨25, 
(.seq 
(.region [v 2 (.mv (.c (.str [])))]) 
(.seq 
(.region [v 3 (.mv (.c (.str [119])))]) 
(.seq 
(.seq 
(.region [v 4 (.mv (.c (.int .i64 0)))]) 
(.block 0 
(.loop 
(.seq 
(.seq 
(.region [m 5 4, m 6 0, v 7 (.len false (.t 6)), v 8 (.bin .lss .any (.t 5) (.t 7)), m 9 8, w 10 (.mv (.t 4)) 9 true, w 11 (.bin .lss .any (.t 10) (.c (.int .i64 8))) 9 true, v 12 (.pick (.t 9) (.t 11) (.c (.bool false)))]) 
(.cond (.t 12) .skip (.exit 0))) 
(.seq 
(.block 1 
(.region [m 15 3, m 16 0, m 17 4, v 18 (.idxStr (.t 16) (.t 17)), v 19 (.bin .rem .any (.t 18) (.c (.int .u8 26))), v 20 (.bin .add .any (.c (.int .u8 97)) (.t 19)), v 21 (.mks false none (.int .u8 0) 1 [(0, (.t 20))]), v 22 (.conv .bytesStr false (.t 21)), v 23 (.bin .add .any (.t 15) (.t 22)), m 3 23])) 
(.region [m 13 4, v 14 (.bin .add .any (.t 13) (.c (.int .i64 1))), m 4 14])))))) 
(.seq 
(.region [m 24 3, m 2 24]) .ret)))),
 [.tmp 2]⟩
/-- lex.All -/
def c_lex_All : DFunc := ⟨8, 
(.seq 
(.region [v 2 (.mv (.c (.lst 0 0 [])))]) 
(.seq 
(.region [m 3 0, v 4 (.call (.f 22) [(.t 3)] false), v 5 (.call (.f 24) [(.t 4)] false), v 6 (.call (.f 36) [(.t 5)] false), v 7 (.call (.f 26) [(.t 6)] true), m 2 7]) .ret)),
 [.tmp 2]⟩
/-- chars.Match -/
def c_chars_Match : DFunc := ⟨84, 
(.seq 
(.region [v 2 (.mv (.c (.lst 0 0 []))), v 3 (.mv (.c (.int .i64 0))), v 4 (.mv (.c (.bool false)))]) 
(.seq 
(.region [v 5 (.mv (.c (.int .i64 (-1)))), v 6 (.mv (.c (.int .i64 0))), v 7 (.mv (.c (.bool false)))]) 
(.seq 
(.seq 
(.region [v 13 (.call (.f 37) [] false), v 14 (.len true (.t 13)), v 15 (.mv (.c (.int .i64 0)))]) 
(.block 0 
(.loop 
(.seq 
(.region [v 16 (.bin .lss .any (.t 15) (.t 14))]) 
(.seq 
(.cond (.t 16) .skip (.exit 0)) 
(.seq 
(.block 1 
(.seq 
(.region [m 17 15, v 18 (.iaddr 3 (.t 13) (.t 15)), v 19 (.load (some 3) (.t 18)), v 9 (.alloc [(.str []), (.int .i32 0), (.bool false)] none), m 8 17, u (.store 3 (.t 9) (.t 19))]) 
(.seq 
(.region [v 20 (.faddr 0 (.t 9)), v 21 (.load none (.t 20)), v 22 (.len false (.t 21)), m 10 22]) 
(.seq 
(.seq 
(.region [m 23 10, m 24 0, v 25 (.len true (.t 24)), v 26 (.bin .gtr .any (.t 23) (.t 25)), m 27 26, w 28 (.mv (.t 0)) 27 false, w 29 (.mv (.t 10)) 27 false, w 30 (.slice 1 (.t 28) none (some (.t 29)) none) 27 false, w 31 (.conv .runesStr false (.t 30)) 27 false, w 32 (.faddr 0 (.t 9)) 27 false, w 33 (.load none (.t 32)) 27 false, w 34 (.bin .neq .any (.t 31) (.t 33)) 27 false, v 35 (.pick (.t 27) (.c (.bool true)) (.t 34))]) 
(.cond (.t 35) (.exit 1) .skip)) 
(.seq 
(.region [m 36 10, m 37 0, v 38 (.len true (.t 37)), v 39 (.bin .lss .any (.t 36) (.t 38)), m 40 39, w 41 (.mv (.t 0)) 40 true, w 42 (.mv (.t 10)) 40 true, w 43 (.iaddr 1 (.t 41) (.t 42)) 40 true, w 44 (.load none (.t 43)) 40 true, w 45 (.bin .eql .any (.t 44) (.c (.int .i32 59))) 40 true, v 46 (.pick (.t 40) (.t 45) (.c (.bool false))), m 11 46]) 
(.seq 
(.seq 
(.region [m 47 11]) 
(.cond (.t 47) 
(.region [m 48 10, v 49 (.bin .add .any (.t 48) (.c (.int .i64 1))), m 10 49]) .skip)) 
(.seq 
(.region [m 50 11, m 51 50, w 52 (.faddr 2 (.t 9)) 51 false, w 53 (.load none (.t 52)) 51 false, v 54 (.pick (.t 51) (.c (.bool true)) (.t 53)), m 55 54, w 56 (.mv (.t 10)) 55 true, w 57 (.mv (.t 6)) 55 true, w 58 (.bin .gtr .any (.t 56) (.t 57)) 55 true, v 59 (.pick (.t 55) (.t 58) (.c (.bool false)))]) 
(.cond (.t 59) 
(.region [m 60 8, m 61 10, m 62 11, m 5 60, m 6 61, m 7 62]) .skip)))))))) 
(.region [v 63 (.bin .add .any (.t 15) (.c (.int .i64 1))), m 15 63]))))))) 
(.seq 
(.seq 
(.region [m 64 5, v 65 (.bin .lss .any (.t 64) (.c (.int .i64 0)))]) 
(.cond (.t 65) 
(.seq 
(.region [v 2 (.mv (.c (.lst 0 0 []))), v 3 (.mv (.c (.int .i64 0))), v 4 (.mv (.c (.bool false)))]) .ret) .skip)) 
(.seq 
(.region [v 66 (.call (.f 37) [] false), m 67 5, v 68 (.iaddr 3 (.t 66) (.t 67)), v 69 (.faddr 1 (.t 68)), v 70 (.load none (.t 69)), v 71 (.mks false none (.int .i32 0) 1 [(0, (.t 70))]), m 12 71]) 
(.seq 
(.seq 
(.region [v 72 (.call (.f 37) [] false), m 73 5, v 74 (.iaddr 3 (.t 72) (.t 73)), v 75 (.faddr 0 (.t 74)), v 76 (.load none (.t 75)), v 77 (.bin .eql .any (.t 76) (.c (.str [110, 118, 108, 116])))]) 
(.cond (.t 77) 
(.region [m 78 12, v 79 (.mks false none (.int .i32 0) 1 [(0, (.c (.int .i32 8402)))]), v 80 (.append false none 4 (.t 78) (.t 79)), m 12 80]) .skip)) 
(.seq 
(.region [m 81 12, m 82 6, m 83 7, m 2 81, m 3 82, m 4 83]) .ret))))))),
 [.tmp 2, .tmp 3, .tmp 4]⟩
theorem ok_woodcutlaw10_SerReads : compF Tryd.prog cfg1 12 = some c_woodcutlaw10_SerReads := by kernel_rfl
theorem ok_woodcutlaw09_word : compF Tryd.prog cfg1 14 = some c_woodcutlaw09_word := by kernel_rfl
theorem ok_lex_All : compF Tryd.prog cfg1 15 = some c_lex_All := by kernel_rfl
theorem ok_chars_Match : compF Tryd.prog cfg1 16 = some c_chars_Match := by kernel_rfl
end Go.Proofs.YticnenofiibpgaaDoor.Code
/- Functions of the program az code of the D-machine (2): PRINTED BY PROGRAM; each is checked to be what the program's own compiles to. -/
namespace Go.Proofs.YticnenofiibpgaaDoor.Code
set_option linter.unusedSimpArgs false
set_option linter.unusedVariables false
open Go.Dm Go.Dm.C
def cfg2 : Cfg := ⟨fun t => [3, 83].contains t, fun f => [26, 46, 57, 58, 59].contains f⟩
/-- text.Encode -/
def c_text_Encode : DFunc := ⟨17, 
(.seq 
(.region [v 2 (.mv (.c (.lst 0 0 [])))]) 
(.seq 
(.region [v 3 (.mv (.c (.lst 0 0 [])))]) 
(.seq 
(.seq 
(.region [m 6 0, v 7 (.len true (.t 6)), v 8 (.mv (.c (.int .i64 0)))]) 
(.block 0 
(.loop 
(.seq 
(.region [v 9 (.bin .lss .any (.t 8) (.t 7))]) 
(.seq 
(.cond (.t 9) .skip (.exit 0)) 
(.seq 
(.block 1 
(.seq 
(.region [v 10 (.iaddr 1 (.t 6) (.t 8)), v 11 (.load none (.t 10)), m 5 11]) 
(.region [m 12 3, m 13 5, v 14 (.call (.f 38) [(.t 12), (.t 13)] false), m 3 14]))) 
(.region [v 15 (.bin .add .any (.t 8) (.c (.int .i64 1))), m 8 15]))))))) 
(.seq 
(.region [m 16 3, m 2 16]) .ret)))),
 [.tmp 2]⟩
/-- text.Letter -/
def c_text_Letter : DFunc := ⟨17, 
(.seq 
(.region [v 2 (.mv (.c (.bool false)))]) 
(.seq 
(.region [m 3 0, v 4 (.bin .geq .any (.t 3) (.c (.int .i32 97))), m 5 4, w 6 (.mv (.t 0)) 5 true, w 7 (.bin .leq .any (.t 6) (.c (.int .i32 122))) 5 true, v 8 (.pick (.t 5) (.t 7) (.c (.bool false))), m 9 8, w 10 (.mv (.t 0)) 9 false, w 11 (.bin .geq .any (.t 10) (.c (.int .i32 65))) 9 false, w 12 (.mv (.t 11)) 9 false, w 13 (.mv (.t 0)) 12 true, w 14 (.bin .leq .any (.t 13) (.c (.int .i32 90))) 12 true, w 15 (.pick (.t 12) (.t 14) (.c (.bool false))) 9 false, v 16 (.pick (.t 9) (.c (.bool true)) (.t 15)), m 2 16]) .ret)),
 [.tmp 2]⟩
/-- text.Digit -/
def c_text_Digit : DFunc := ⟨9, 
(.seq 
(.region [v 2 (.mv (.c (.bool false)))]) 
(.seq 
(.region [m 3 0, v 4 (.bin .geq .any (.t 3) (.c (.int .i32 48))), m 5 4, w 6 (.mv (.t 0)) 5 true, w 7 (.bin .leq .any (.t 6) (.c (.int .i32 57))) 5 true, v 8 (.pick (.t 5) (.t 7) (.c (.bool false))), m 2 8]) .ret)),
 [.tmp 2]⟩
/-- chars.Numeric -/
def c_chars_Numeric : DFunc := ⟨31, 
(.seq 
(.region [v 2 (.mv (.c (.int .i32 0)))]) 
(.seq 
(.block 0 
(.seq 
(.region [m 4 0, v 5 (.bin .leq .any (.t 4) (.c (.int .i64 0))), m 6 5, w 7 (.mv (.t 0)) 6 false, w 8 (.bin .gtr .any (.t 7) (.c (.int .i64 1114111))) 6 false, v 9 (.pick (.t 6) (.c (.bool true)) (.t 8)), m 10 9, w 11 (.mv (.t 0)) 10 false, w 12 (.bin .geq .any (.t 11) (.c (.int .i64 55296))) 10 false, w 13 (.mv (.t 12)) 10 false, w 14 (.mv (.t 0)) 13 true, w 15 (.bin .leq .any (.t 14) (.c (.int .i64 57343))) 13 true, w 16 (.pick (.t 13) (.t 15) (.c (.bool false))) 10 false, v 17 (.pick (.t 10) (.c (.bool true)) (.t 16)), m 3 17]) 
(.cond (.t 3) 
(.seq 
(.region [v 2 (.mv (.c (.int .i32 65533)))]) .ret) 
(.seq 
(.region [m 19 0, v 20 (.bin .geq .any (.t 19) (.c (.int .i64 128))), m 21 20, w 22 (.mv (.t 0)) 21 true, w 23 (.bin .lss .any (.t 22) (.c (.int .i64 160))) 21 true, v 24 (.pick (.t 21) (.t 23) (.c (.bool false))), m 18 24]) 
(.cond (.t 18) 
(.seq 
(.region [m 25 0, v 26 (.bin .sub .any (.t 25) (.c (.int .i64 128))), v 27 (.iaddrArr 1 32 (.g 0) (.t 26)), v 28 (.load none (.t 27)), m 2 28]) .ret) .skip))))) 
(.seq 
(.region [m 29 0, v 30 (.conv (.int .i32) false (.t 29)), m 2 30]) .ret))),
 [.tmp 2]⟩
/-- woodcutlaw09.clean -/
def c_woodcutlaw09_clean : DFunc := ⟨27, 
(.seq 
(.region [v 2 (.mv (.c (.str [])))]) 
(.seq 
(.region [v 6 (.mks false none (.int .i32 0) 0 []), m 3 6]) 
(.seq 
(.seq 
(.region [m 7 0, v 8 (.conv .strBytes false (.t 7)), v 9 (.call (.f 39) [(.t 8)] false), v 10 (.len true (.t 9)), v 11 (.mv (.c (.int .i64 0)))]) 
(.block 0 
(.loop 
(.seq 
(.region [v 12 (.bin .lss .any (.t 11) (.t 10))]) 
(.seq 
(.cond (.t 12) .skip (.exit 0)) 
(.seq 
(.block 1 
(.seq 
(.region [v 13 (.iaddr 1 (.t 9) (.t 11)), v 14 (.load none (.t 13)), m 5 14]) 
(.seq 
(.seq 
(.region [m 15 5, v 16 (.bin .eql .any (.t 15) (.c (.int .i32 65279)))]) 
(.cond (.t 16) 
(.region [v 5 (.mv (.c (.int .i32 120)))]) .skip)) 
(.seq 
(.region [m 17 5, v 18 (.bin .neq .any (.t 17) (.c (.int .i32 0)))]) 
(.cond (.t 18) 
(.region [m 19 3, m 20 5, v 21 (.mks false none (.int .i32 0) 1 [(0, (.t 20))]), v 22 (.append false none 4 (.t 19) (.t 21)), m 3 22]) .skip))))) 
(.region [v 23 (.bin .add .any (.t 11) (.c (.int .i64 1))), m 11 23]))))))) 
(.seq 
(.region [m 24 3, v 25 (.call (.f 17) [(.t 24)] false), v 26 (.conv .bytesStr false (.t 25)), m 2 26]) .ret)))),
 [.tmp 2]⟩
/-- lex.New -/
def c_lex_New : DFunc := ⟨7, 
(.seq 
(.region [v 2 (.mv (.c .nilp))]) 
(.seq 
(.region [m 3 0, v 4 (.call (.f 39) [(.t 3)] false), v 5 (.build [(.lst 0 0 []), (.int .i64 0), (.int .i64 0), (.str []), (.bool false), (.lst 0 0 []), (.lst 0 0 []), (.bool false)] [(0, 1, (.t 4))]), v 6 (.box (.t 5) 8), m 2 6]) .ret)),
 [.tmp 2]⟩
/-- (*lex.Lexer).Way -/
def c_lex_Lexer_Way : DFunc := ⟨16, 
(.seq 
(.region [m 6 0, v 7 (.bin .neq .ptr (.t 6) (.c .nilp))]) 
(.cond (.t 7) 
(.region [m 8 0, m 9 0, m 10 1, m 11 2, v 12 (.nilc (.t 8)), v 13 (.faddr 2 (.t 12)), u (.store 1 (.t 13) (.t 10)), v 14 (.nilc (.t 9)), v 15 (.faddr 3 (.t 14)), u (.store 1 (.t 15) (.t 11))]) .skip)),
 []⟩
/-- (*lex.Lexer).Tokens -/
def c_lex_Lexer_Tokens : DFunc := ⟨4, 
(.seq 
(.region [v 1 (.box (.t 0) 1), v 2 (.mv (.c .nilfn))]) 
(.seq 
(.region [v 3 (.mkfn (.func 40) [] [(.t 1)]), m 2 3]) .ret)),
 [.tmp 2]⟩
/-- (*lex.Lexer).Sections -/
def c_lex_Lexer_Sections : DFunc := ⟨10, 
(.seq 
(.region [m 4 0, v 5 (.bin .neq .ptr (.t 4) (.c .nilp))]) 
(.cond (.t 5) 
(.region [m 6 0, m 7 1, v 8 (.nilc (.t 6)), v 9 (.faddr 4 (.t 8)), u (.store 1 (.t 9) (.t 7))]) .skip)),
 []⟩
/-- token.Join -/
def c_token_Join : DFunc := ⟨56, 
(.seq 
(.region [v 2 (.mv (.c (.lst 0 0 [])))]) 
(.seq 
(.region [v 3 (.mv (.c (.lst 0 0 [])))]) 
(.seq 
(.seq 
(.region [m 7 0, v 8 (.len true (.t 7)), v 9 (.mv (.c (.int .i64 0)))]) 
(.block 0 
(.loop 
(.seq 
(.region [v 10 (.bin .lss .any (.t 9) (.t 8))]) 
(.seq 
(.cond (.t 10) .skip (.exit 0)) 
(.seq 
(.block 1 
(.seq 
(.region [v 11 (.iaddr 10 (.t 7) (.t 9)), v 12 (.load (some 10) (.t 11)), v 5 (.alloc [(.int .i64 0), (.str []), (.lst 0 0 []), (.bool false), (.str []), (.str []), (.str []), (.bool false), (.bool false), (.bool false)] none), u (.store 10 (.t 5) (.t 12))]) 
(.seq 
(.seq 
(.region [m 13 3, v 14 (.len true (.t 13)), m 6 14]) 
(.seq 
(.region [v 15 (.faddr 0 (.t 5)), v 16 (.load none (.t 15)), v 17 (.bin .eql .any (.t 16) (.c (.int .i64 1))), m 18 17, w 19 (.mv (.t 6)) 18 true, w 20 (.bin .gtr .any (.t 19) (.c (.int .i64 0))) 18 true, v 21 (.pick (.t 18) (.t 20) (.c (.bool false))), m 22 21, w 23 (.mv (.t 3)) 22 true, w 24 (.mv (.t 6)) 22 true, w 25 (.bin .sub .any (.t 24) (.c (.int .i64 1))) 22 true, w 26 (.iaddr 10 (.t 23) (.t 25)) 22 true, w 27 (.faddr 0 (.t 26)) 22 true, w 28 (.load none (.t 27)) 22 true, w 29 (.bin .eql .any (.t 28) (.c (.int .i64 1))) 22 true, v 30 (.pick (.t 22) (.t 29) (.c (.bool false)))]) 
(.cond (.t 30) 
(.seq 
(.region [m 31 3, m 32 6, v 33 (.bin .sub .any (.t 32) (.c (.int .i64 1))), v 34 (.iaddr 10 (.t 31) (.t 33)), v 35 (.faddr 4 (.t 34)), v 36 (.load none (.t 35)), v 37 (.faddr 4 (.t 5)), v 38 (.load none (.t 37)), v 39 (.bin .add .any (.t 36) (.t 38)), v 40 (.iaddr 10 (.t 31) (.t 33)), v 41 (.faddr 4 (.t 40)), u (.store 1 (.t 41) (.t 39))]) (.exit 1)) .skip))) 
(.seq 
(.seq 
(.region [v 42 (.faddr 0 (.t 5)), v 43 (.load none (.t 42)), v 44 (.bin .eql .any (.t 43) (.c (.int .i64 1))), m 45 44, w 46 (.faddr 4 (.t 5)) 45 true, w 47 (.load none (.t 46)) 45 true, w 48 (.bin .eql .any (.t 47) (.c (.str []))) 45 true, v 49 (.pick (.t 45) (.t 48) (.c (.bool false)))]) 
(.cond (.t 49) (.exit 1) .skip)) 
(.region [m 50 3, v 51 (.load (some 10) (.t 5)), v 52 (.mks true (some 10) (.agg [(.int .i64 0), (.str []), (.lst 0 0 []), (.bool false), (.str []), (.str []), (.str []), (.bool false), (.bool false), (.bool false)]) 1 [(0, (.t 51))]), v 53 (.append true (some 10) 112 (.t 50) (.t 52)), m 3 53]))))) 
(.region [v 54 (.bin .add .any (.t 9) (.c (.int .i64 1))), m 9 54]))))))) 
(.seq 
(.region [m 55 3, m 2 55]) .ret)))),
 [.tmp 2]⟩
/-- (token.Token).Same -/
def c_token_Token_Same : DFunc := ⟨73, 
(.seq 
(.region [v 2 (.box (.t 0) 10), v 3 (.box (.t 1) 10), v 4 (.mv (.c (.bool false)))]) 
(.seq 
(.region [v 5 (.faddr 2 (.t 2)), v 6 (.load none (.t 5)), v 7 (.faddr 2 (.t 3)), v 8 (.load none (.t 7)), v 9 (.call (.f 42) [(.t 6), (.t 8)] false), m 10 9, w 11 (.faddr 0 (.t 2)) 10 true, w 12 (.load none (.t 11)) 10 true, w 13 (.faddr 0 (.t 3)) 10 true, w 14 (.load none (.t 13)) 10 true, w 15 (.bin .eql .any (.t 12) (.t 14)) 10 true, v 16 (.pick (.t 10) (.t 15) (.c (.bool false))), m 17 16, w 18 (.faddr 1 (.t 2)) 17 true, w 19 (.load none (.t 18)) 17 true, w 20 (.faddr 1 (.t 3)) 17 true, w 21 (.load none (.t 20)) 17 true, w 22 (.bin .eql .any (.t 19) (.t 21)) 17 true, v 23 (.pick (.t 17) (.t 22) (.c (.bool false))), m 24 23, w 25 (.faddr 3 (.t 2)) 24 true, w 26 (.load none (.t 25)) 24 true, w 27 (.faddr 3 (.t 3)) 24 true, w 28 (.load none (.t 27)) 24 true, w 29 (.bin .eql .bool (.t 26) (.t 28)) 24 true, v 30 (.pick (.t 24) (.t 29) (.c (.bool false))), m 31 30, w 32 (.faddr 4 (.t 2)) 31 true, w 33 (.load none (.t 32)) 31 true, w 34 (.faddr 4 (.t 3)) 31 true, w 35 (.load none (.t 34)) 31 true, w 36 (.bin .eql .any (.t 33) (.t 35)) 31 true, v 37 (.pick (.t 31) (.t 36) (.c (.bool false))), m 38 37, w 39 (.faddr 5 (.t 2)) 38 true, w 40 (.load none (.t 39)) 38 true, w 41 (.faddr 5 (.t 3)) 38 true, w 42 (.load none (.t 41)) 38 true, w 43 (.bin .eql .any (.t 40) (.t 42)) 38 true, v 44 (.pick (.t 38) (.t 43) (.c (.bool false))), m 45 44, w 46 (.faddr 6 (.t 2)) 45 true, w 47 (.load none (.t 46)) 45 true, w 48 (.faddr 6 (.t 3)) 45 true, w 49 (.load none (.t 48)) 45 true, w 50 (.bin .eql .any (.t 47) (.t 49)) 45 true, v 51 (.pick (.t 45) (.t 50) (.c (.bool false))), m 52 51, w 53 (.faddr 7 (.t 2)) 52 true, w 54 (.load none (.t 53)) 52 true, w 55 (.faddr 7 (.t 3)) 52 true, w 56 (.load none (.t 55)) 52 true, w 57 (.bin .eql .bool (.t 54) (.t 56)) 52 true, v 58 (.pick (.t 52) (.t 57) (.c (.bool false))), m 59 58, w 60 (.faddr 8 (.t 2)) 59 true, w 61 (.load none (.t 60)) 59 true, w 62 (.faddr 8 (.t 3)) 59 true, w 63 (.load none (.t 62)) 59 true, w 64 (.bin .eql .bool (.t 61) (.t 63)) 59 true, v 65 (.pick (.t 59) (.t 64) (.c (.bool false))), m 66 65, w 67 (.faddr 9 (.t 2)) 66 true, w 68 (.load none (.t 67)) 66 true, w 69 (.faddr 9 (.t 3)) 66 true, w 70 (.load none (.t 69)) 66 true, w 71 (.bin .eql .bool (.t 68) (.t 70)) 66 true, v 72 (.pick (.t 66) (.t 71) (.c (.bool false))), m 4 72]) .ret)),
 [.tmp 4]⟩
/-- (token.Token).Is -/
def c_token_Token_Is : DFunc := ⟨17, 
(.seq 
(.region [v 3 (.box (.t 0) 10), v 6 (.mv (.c (.bool false)))]) 
(.seq 
(.region [v 7 (.faddr 0 (.t 3)), v 8 (.load none (.t 7)), m 9 1, v 10 (.bin .eql .any (.t 8) (.t 9)), m 11 10, w 12 (.mv (.t 2)) 11 true, w 13 (.faddr 1 (.t 3)) 11 true, w 14 (.load none (.t 13)) 11 true, w 15 (.call (.f 43) [(.t 12), (.t 14)] false) 11 true, v 16 (.pick (.t 11) (.t 15) (.c (.bool false))), m 6 16]) .ret)),
 [.tmp 6]⟩
/-- woodcutlaw10.head -/
def c_woodcutlaw10_head : DFunc := ⟨23, 
(.seq 
(.region [v 0 (.mv (.c (.bool false)))]) 
(.seq 
(.region [v 3 (.call (.f 47) [] false), m 1 3]) 
(.seq 
(.region [m 4 1, v 5 (.build [(.int .i64 0), (.int .i64 0), (.str []), (.str []), (.lst 0 0 []), (.str []), (.str []), (.int .i64 0), (.lst 0 0 []), (.int .i64 0)] [(0, 1, (.c (.int .i64 2))), (2, 1, (.c (.str [112])))]), v 6 (.call (.f 48) [(.t 4), (.t 5)] false), m 2 6]) 
(.seq 
(.region [m 7 1, m 8 2, v 9 (.call (.f 49) [(.t 7), (.c (.int .i64 0)), (.t 8), (.c (.int .i64 (-1)))] false), v 10 (.bin .eql .any (.t 9) (.c (.int .i64 0))), m 11 10, w 12 (.mv (.t 1)) 11 true, w 13 (.mv (.t 2)) 11 true, w 14 (.call (.f 50) [(.t 12), (.t 13), (.c (.str [97, 60, 98])), (.c (.int .i64 (-1)))] false) 11 true, w 15 (.bin .eql .any (.t 14) (.c (.int .i64 0))) 11 true, v 16 (.pick (.t 11) (.t 15) (.c (.bool false))), m 17 16, w 18 (.mv (.t 1)) 17 true, w 19 (.call (.f 51) [(.t 18)] false) 17 true, w 20 (.conv .bytesStr false (.t 19)) 17 true, w 21 (.bin .eql .any (.t 20) (.c (.str [60, 112, 62, 97, 38, 108, 116, 59, 98, 60, 47, 112, 62]))) 17 true, v 22 (.pick (.t 17) (.t 21) (.c (.bool false))), m 0 22]) .ret)))),
 [.tmp 0]⟩
/-- ser.Value -/
def c_ser_Value : DFunc := ⟨6, 
(.seq 
(.region [v 2 (.mv (.c (.str [])))]) 
(.seq 
(.region [m 3 0, v 4 (.call (.f 52) [(.c (.lst 0 0 [])), (.t 3), (.c (.bool true))] false), v 5 (.conv .bytesStr false (.t 4)), m 2 5]) .ret)),
 [.tmp 2]⟩
/-- ser.Text -/
def c_ser_Text : DFunc := ⟨6, 
(.seq 
(.region [v 2 (.mv (.c (.str [])))]) 
(.seq 
(.region [m 3 0, v 4 (.call (.f 52) [(.c (.lst 0 0 [])), (.t 3), (.c (.bool false))] false), v 5 (.conv .bytesStr false (.t 4)), m 2 5]) .ret)),
 [.tmp 2]⟩
/-- slices.Collect[token.Token] -/
def c_slices_Collect_token_Token : DFunc := ⟨5, 
(.seq 
(.region [v 2 (.mv (.c (.lst 0 0 [])))]) 
(.seq 
(.region [m 3 0, v 4 (.call (.f 53) [(.c (.lst 0 0 [])), (.t 3)] false), m 2 4]) .ret)),
 [.tmp 2]⟩
/-- chars.table -/
def c_chars_table : DFunc := ⟨63, 
(.seq 
(.region [v 0 (.mv (.c (.lst 0 0 [])))]) 
(.seq 
(.region [v 1 (.build [(.str []), (.int .i32 0), (.bool false)] [(0, 1, (.c (.str [97, 109, 112]))), (1, 1, (.c (.int .i32 38))), (2, 1, (.c (.bool true)))]), v 2 (.build [(.str []), (.int .i32 0), (.bool false)] [(0, 1, (.c (.str [108, 116]))), (1, 1, (.c (.int .i32 60))), (2, 1, (.c (.bool true)))]), v 3 (.build [(.str []), (.int .i32 0), (.bool false)] [(0, 1, (.c (.str [103, 116]))), (1, 1, (.c (.int .i32 62))), (2, 1, (.c (.bool true)))]), v 4 (.build [(.str []), (.int .i32 0), (.bool false)] [(0, 1, (.c (.str [113, 117, 111, 116]))), (1, 1, (.c (.int .i32 34))), (2, 1, (.c (.bool true)))]), v 5 (.build [(.str []), (.int .i32 0), (.bool false)] [(0, 1, (.c (.str [65, 77, 80]))), (1, 1, (.c (.int .i32 38))), (2, 1, (.c (.bool true)))]), v 6 (.build [(.str []), (.int .i32 0), (.bool false)] [(0, 1, (.c (.str [76, 84]))), (1, 1, (.c (.int .i32 60))), (2, 1, (.c (.bool true)))]), v 7 (.build [(.str []), (.int .i32 0), (.bool false)] [(0, 1, (.c (.str [71, 84]))), (1, 1, (.c (.int .i32 62))), (2, 1, (.c (.bool true)))]), v 8 (.build [(.str []), (.int .i32 0), (.bool false)] [(0, 1, (.c (.str [110, 98, 115, 112]))), (1, 1, (.c (.int .i32 160))), (2, 1, (.c (.bool true)))]), v 9 (.build [(.str []), (.int .i32 0), (.bool false)] [(0, 1, (.c (.str [105, 101, 120, 99, 108]))), (1, 1, (.c (.int .i32 161))), (2, 1, (.c (.bool true)))]), v 10 (.build [(.str []), (.int .i32 0), (.bool false)] [(0, 1, (.c (.str [99, 101, 110, 116]))), (1, 1, (.c (.int .i32 162))), (2, 1, (.c (.bool true)))]), v 11 (.build [(.str []), (.int .i32 0), (.bool false)] [(0, 1, (.c (.str [112, 111, 117, 110, 100]))), (1, 1, (.c (.int .i32 163))), (2, 1, (.c (.bool true)))]), v 12 (.build [(.str []), (.int .i32 0), (.bool false)] [(0, 1, (.c (.str [121, 101, 110]))), (1, 1, (.c (.int .i32 165))), (2, 1, (.c (.bool true)))]), v 13 (.build [(.str []), (.int .i32 0), (.bool false)] [(0, 1, (.c (.str [115, 101, 99, 116]))), (1, 1, (.c (.int .i32 167))), (2, 1, (.c (.bool true)))]), v 14 (.build [(.str []), (.int .i32 0), (.bool false)] [(0, 1, (.c (.str [99, 111, 112, 121]))), (1, 1, (.c (.int .i32 169))), (2, 1, (.c (.bool true)))]), v 15 (.build [(.str []), (.int .i32 0), (.bool false)] [(0, 1, (.c (.str [108, 97, 113, 117, 111]))), (1, 1, (.c (.int .i32 171))), (2, 1, (.c (.bool true)))]), v 16 (.build [(.str []), (.int .i32 0), (.bool false)] [(0, 1, (.c (.str [110, 111, 116]))), (1, 1, (.c (.int .i32 172))), (2, 1, (.c (.bool true)))]), v 17 (.build [(.str []), (.int .i32 0), (.bool false)] [(0, 1, (.c (.str [115, 104, 121]))), (1, 1, (.c (.int .i32 173))), (2, 1, (.c (.bool true)))]), v 18 (.build [(.str []), (.int .i32 0), (.bool false)] [(0, 1, (.c (.str [114, 101, 103]))), (1, 1, (.c (.int .i32 174))), (2, 1, (.c (.bool true)))]), v 19 (.build [(.str []), (.int .i32 0), (.bool false)] [(0, 1, (.c (.str [100, 101, 103]))), (1, 1, (.c (.int .i32 176))), (2, 1, (.c (.bool true)))]), v 20 (.build [(.str []), (.int .i32 0), (.bool false)] [(0, 1, (.c (.str [112, 108, 117, 115, 109, 110]))), (1, 1, (.c (.int .i32 177))), (2, 1, (.c (.bool true)))]), v 21 (.build [(.str []), (.int .i32 0), (.bool false)] [(0, 1, (.c (.str [115, 117, 112, 50]))), (1, 1, (.c (.int .i32 178))), (2, 1, (.c (.bool true)))]), v 22 (.build [(.str []), (.int .i32 0), (.bool false)] [(0, 1, (.c (.str [109, 105, 99, 114, 111]))), (1, 1, (.c (.int .i32 181))), (2, 1, (.c (.bool true)))]), v 23 (.build [(.str []), (.int .i32 0), (.bool false)] [(0, 1, (.c (.str [112, 97, 114, 97]))), (1, 1, (.c (.int .i32 182))), (2, 1, (.c (.bool true)))]), v 24 (.build [(.str []), (.int .i32 0), (.bool false)] [(0, 1, (.c (.str [109, 105, 100, 100, 111, 116]))), (1, 1, (.c (.int .i32 183))), (2, 1, (.c (.bool true)))]), v 25 (.build [(.str []), (.int .i32 0), (.bool false)] [(0, 1, (.c (.str [114, 97, 113, 117, 111]))), (1, 1, (.c (.int .i32 187))), (2, 1, (.c (.bool true)))]), v 26 (.build [(.str []), (.int .i32 0), (.bool false)] [(0, 1, (.c (.str [102, 114, 97, 99, 49, 50]))), (1, 1, (.c (.int .i32 189))), (2, 1, (.c (.bool true)))]), v 27 (.build [(.str []), (.int .i32 0), (.bool false)] [(0, 1, (.c (.str [105, 113, 117, 101, 115, 116]))), (1, 1, (.c (.int .i32 191))), (2, 1, (.c (.bool true)))]), v 28 (.build [(.str []), (.int .i32 0), (.bool false)] [(0, 1, (.c (.str [65, 117, 109, 108]))), (1, 1, (.c (.int .i32 196))), (2, 1, (.c (.bool true)))]), v 29 (.build [(.str []), (.int .i32 0), (.bool false)] [(0, 1, (.c (.str [69, 97, 99, 117, 116, 101]))), (1, 1, (.c (.int .i32 201))), (2, 1, (.c (.bool true)))]), v 30 (.build [(.str []), (.int .i32 0), (.bool false)] [(0, 1, (.c (.str [79, 117, 109, 108]))), (1, 1, (.c (.int .i32 214))), (2, 1, (.c (.bool true)))]), v 31 (.build [(.str []), (.int .i32 0), (.bool false)] [(0, 1, (.c (.str [116, 105, 109, 101, 115]))), (1, 1, (.c (.int .i32 215))), (2, 1, (.c (.bool true)))]), v 32 (.build [(.str []), (.int .i32 0), (.bool false)] [(0, 1, (.c (.str [85, 117, 109, 108]))), (1, 1, (.c (.int .i32 220))), (2, 1, (.c (.bool true)))]), v 33 (.build [(.str []), (.int .i32 0), (.bool false)] [(0, 1, (.c (.str [115, 122, 108, 105, 103]))), (1, 1, (.c (.int .i32 223))), (2, 1, (.c (.bool true)))]), v 34 (.build [(.str []), (.int .i32 0), (.bool false)] [(0, 1, (.c (.str [97, 103, 114, 97, 118, 101]))), (1, 1, (.c (.int .i32 224))), (2, 1, (.c (.bool true)))]), v 35 (.build [(.str []), (.int .i32 0), (.bool false)] [(0, 1, (.c (.str [97, 117, 109, 108]))), (1, 1, (.c (.int .i32 228))), (2, 1, (.c (.bool true)))]), v 36 (.build [(.str []), (.int .i32 0), (.bool false)] [(0, 1, (.c (.str [99, 99, 101, 100, 105, 108]))), (1, 1, (.c (.int .i32 231))), (2, 1, (.c (.bool true)))]), v 37 (.build [(.str []), (.int .i32 0), (.bool false)] [(0, 1, (.c (.str [101, 97, 99, 117, 116, 101]))), (1, 1, (.c (.int .i32 233))), (2, 1, (.c (.bool true)))]), v 38 (.build [(.str []), (.int .i32 0), (.bool false)] [(0, 1, (.c (.str [110, 116, 105, 108, 100, 101]))), (1, 1, (.c (.int .i32 241))), (2, 1, (.c (.bool true)))]), v 39 (.build [(.str []), (.int .i32 0), (.bool false)] [(0, 1, (.c (.str [111, 117, 109, 108]))), (1, 1, (.c (.int .i32 246))), (2, 1, (.c (.bool true)))]), v 40 (.build [(.str []), (.int .i32 0), (.bool false)] [(0, 1, (.c (.str [100, 105, 118, 105, 100, 101]))), (1, 1, (.c (.int .i32 247))), (2, 1, (.c (.bool true)))]), v 41 (.build [(.str []), (.int .i32 0), (.bool false)] [(0, 1, (.c (.str [117, 117, 109, 108]))), (1, 1, (.c (.int .i32 252))), (2, 1, (.c (.bool true)))]), v 42 (.build [(.str []), (.int .i32 0), (.bool false)] [(0, 1, (.c (.str [97, 112, 111, 115]))), (1, 1, (.c (.int .i32 39))), (2, 1, (.c (.bool false)))]), v 43 (.build [(.str []), (.int .i32 0), (.bool false)] [(0, 1, (.c (.str [104, 101, 108, 108, 105, 112]))), (1, 1, (.c (.int .i32 8230))), (2, 1, (.c (.bool false)))]), v 44 (.build [(.str []), (.int .i32 0), (.bool false)] [(0, 1, (.c (.str [109, 100, 97, 115, 104]))), (1, 1, (.c (.int .i32 8212))), (2, 1, (.c (.bool false)))]), v 45 (.build [(.str []), (.int .i32 0), (.bool false)] [(0, 1, (.c (.str [110, 100, 97, 115, 104]))), (1, 1, (.c (.int .i32 8211))), (2, 1, (.c (.bool false)))]), v 46 (.build [(.str []), (.int .i32 0), (.bool false)] [(0, 1, (.c (.str [101, 117, 114, 111]))), (1, 1, (.c (.int .i32 8364))), (2, 1, (.c (.bool false)))]), v 47 (.build [(.str []), (.int .i32 0), (.bool false)] [(0, 1, (.c (.str [116, 114, 97, 100, 101]))), (1, 1, (.c (.int .i32 8482))), (2, 1, (.c (.bool false)))]), v 48 (.build [(.str []), (.int .i32 0), (.bool false)] [(0, 1, (.c (.str [108, 97, 114, 114]))), (1, 1, (.c (.int .i32 8592))), (2, 1, (.c (.bool false)))]), v 49 (.build [(.str []), (.int .i32 0), (.bool false)] [(0, 1, (.c (.str [114, 97, 114, 114]))), (1, 1, (.c (.int .i32 8594))), (2, 1, (.c (.bool false)))]), v 50 (.build [(.str []), (.int .i32 0), (.bool false)] [(0, 1, (.c (.str [110, 111, 116, 105, 110]))), (1, 1, (.c (.int .i32 8713))), (2, 1, (.c (.bool false)))]), v 51 (.build [(.str []), (.int .i32 0), (.bool false)] [(0, 1, (.c (.str [97, 108, 112, 104, 97]))), (1, 1, (.c (.int .i32 945))), (2, 1, (.c (.bool false)))]), v 52 (.build [(.str []), (.int .i32 0), (.bool false)] [(0, 1, (.c (.str [111, 109, 101, 103, 97]))), (1, 1, (.c (.int .i32 969))), (2, 1, (.c (.bool false)))]), v 53 (.build [(.str []), (.int .i32 0), (.bool false)] [(0, 1, (.c (.str [105, 110, 102, 105, 110]))), (1, 1, (.c (.int .i32 8734))), (2, 1, (.c (.bool false)))]), v 54 (.build [(.str []), (.int .i32 0), (.bool false)] [(0, 1, (.c (.str [98, 117, 108, 108]))), (1, 1, (.c (.int .i32 8226))), (2, 1, (.c (.bool false)))]), v 55 (.build [(.str []), (.int .i32 0), (.bool false)] [(0, 1, (.c (.str [108, 115, 113, 117, 111]))), (1, 1, (.c (.int .i32 8216))), (2, 1, (.c (.bool false)))]), v 56 (.build [(.str []), (.int .i32 0), (.bool false)] [(0, 1, (.c (.str [114, 115, 113, 117, 111]))), (1, 1, (.c (.int .i32 8217))), (2, 1, (.c (.bool false)))]), v 57 (.build [(.str []), (.int .i32 0), (.bool false)] [(0, 1, (.c (.str [108, 100, 113, 117, 111]))), (1, 1, (.c (.int .i32 8220))), (2, 1, (.c (.bool false)))]), v 58 (.build [(.str []), (.int .i32 0), (.bool false)] [(0, 1, (.c (.str [114, 100, 113, 117, 111]))), (1, 1, (.c (.int .i32 8221))), (2, 1, (.c (.bool false)))]), v 59 (.build [(.str []), (.int .i32 0), (.bool false)] [(0, 1, (.c (.str [110, 101]))), (1, 1, (.c (.int .i32 8800))), (2, 1, (.c (.bool false)))]), v 60 (.build [(.str []), (.int .i32 0), (.bool false)] [(0, 1, (.c (.str [108, 101]))), (1, 1, (.c (.int .i32 8804))), (2, 1, (.c (.bool false)))]), v 61 (.build [(.str []), (.int .i32 0), (.bool false)] [(0, 1, (.c (.str [110, 118, 108, 116]))), (1, 1, (.c (.int .i32 60))), (2, 1, (.c (.bool false)))]), v 62 (.mks false (some 3) (.agg [(.str []), (.int .i32 0), (.bool false)]) 61 [(0, (.t 1)), (1, (.t 2)), (2, (.t 3)), (3, (.t 4)), (4, (.t 5)), (5, (.t 6)), (6, (.t 7)), (7, (.t 8)), (8, (.t 9)), (9, (.t 10)), (10, (.t 11)), (11, (.t 12)), (12, (.t 13)), (13, (.t 14)), (14, (.t 15)), (15, (.t 16)), (16, (.t 17)), (17, (.t 18)), (18, (.t 19)), (19, (.t 20)), (20, (.t 21)), (21, (.t 22)), (22, (.t 23)), (23, (.t 24)), (24, (.t 25)), (25, (.t 26)), (26, (.t 27)), (27, (.t 28)), (28, (.t 29)), (29, (.t 30)), (30, (.t 31)), (31, (.t 32)), (32, (.t 33)), (33, (.t 34)), (34, (.t 35)), (35, (.t 36)), (36, (.t 37)), (37, (.t 38)), (38, (.t 39)), (39, (.t 40)), (40, (.t 41)), (41, (.t 42)), (42, (.t 43)), (43, (.t 44)), (44, (.t 45)), (45, (.t 46)), (46, (.t 47)), (47, (.t 48)), (48, (.t 49)), (49, (.t 50)), (50, (.t 51)), (51, (.t 52)), (52, (.t 53)), (53, (.t 54)), (54, (.t 55)), (55, (.t 56)), (56, (.t 57)), (57, (.t 58)), (58, (.t 59)), (59, (.t 60)), (60, (.t 61))]), m 0 62]) .ret)),
 [.tmp 0]⟩
/-- text.Put -/
def c_text_Put : DFunc := ⟨84, 
(.seq 
(.region [v 4 (.mv (.c (.lst 0 0 [])))]) 
(.seq 
(.block 0 
(.seq 
(.region [m 6 1, v 7 (.bin .lss .any (.t 6) (.c (.int .i32 0))), m 8 7, w 9 (.mv (.t 1)) 8 false, w 10 (.bin .gtr .any (.t 9) (.c (.int .i32 1114111))) 8 false, v 11 (.pick (.t 8) (.c (.bool true)) (.t 10)), m 12 11, w 13 (.mv (.t 1)) 12 false, w 14 (.bin .geq .any (.t 13) (.c (.int .i32 55296))) 12 false, w 15 (.mv (.t 14)) 12 false, w 16 (.mv (.t 1)) 15 true, w 17 (.bin .leq .any (.t 16) (.c (.int .i32 57343))) 15 true, w 18 (.pick (.t 15) (.t 17) (.c (.bool false))) 12 false, v 19 (.pick (.t 12) (.c (.bool true)) (.t 18)), m 5 19]) 
(.cond (.t 5) 
(.seq 
(.region [m 20 0, v 21 (.call (.f 38) [(.t 20), (.c (.int .i32 65533))] false), m 4 21]) .ret) 
(.seq 
(.region [m 23 1, v 24 (.bin .lss .any (.t 23) (.c (.int .i32 128))), m 22 24]) 
(.cond (.t 22) 
(.seq 
(.region [m 25 0, m 26 1, v 27 (.conv (.int .u8) false (.t 26)), v 28 (.mks false none (.int .u8 0) 1 [(0, (.t 27))]), v 29 (.append false none 1 (.t 25) (.t 28)), m 4 29]) .ret) 
(.seq 
(.region [m 31 1, v 32 (.bin .lss .any (.t 31) (.c (.int .i32 2048))), m 30 32]) 
(.cond (.t 30) 
(.seq 
(.region [m 33 0, m 34 1, v 35 (.bin .shr .any (.t 34) (.c (.int .u64 6))), v 36 (.conv (.int .u8) false (.t 35)), v 37 (.bin .or .any (.c (.int .u8 192)) (.t 36)), m 38 1, v 39 (.bin .and .any (.t 38) (.c (.int .i32 63))), v 40 (.conv (.int .u8) false (.t 39)), v 41 (.bin .or .any (.c (.int .u8 128)) (.t 40)), v 42 (.mks false none (.int .u8 0) 2 [(0, (.t 37)), (1, (.t 41))]), v 43 (.append false none 1 (.t 33) (.t 42)), m 4 43]) .ret) 
(.seq 
(.region [m 45 1, v 46 (.bin .lss .any (.t 45) (.c (.int .i32 65536))), m 44 46]) 
(.cond (.t 44) 
(.seq 
(.region [m 47 0, m 48 1, v 49 (.bin .shr .any (.t 48) (.c (.int .u64 12))), v 50 (.conv (.int .u8) false (.t 49)), v 51 (.bin .or .any (.c (.int .u8 224)) (.t 50)), m 52 1, v 53 (.bin .shr .any (.t 52) (.c (.int .u64 6))), v 54 (.bin .and .any (.t 53) (.c (.int .i32 63))), v 55 (.conv (.int .u8) false (.t 54)), v 56 (.bin .or .any (.c (.int .u8 128)) (.t 55)), m 57 1, v 58 (.bin .and .any (.t 57) (.c (.int .i32 63))), v 59 (.conv (.int .u8) false (.t 58)), v 60 (.bin .or .any (.c (.int .u8 128)) (.t 59)), v 61 (.mks false none (.int .u8 0) 3 [(0, (.t 51)), (1, (.t 56)), (2, (.t 60))]), v 62 (.append false none 1 (.t 47) (.t 61)), m 4 62]) .ret) .skip))))))))) 
(.seq 
(.region [m 63 0, m 64 1, v 65 (.bin .shr .any (.t 64) (.c (.int .u64 18))), v 66 (.conv (.int .u8) false (.t 65)), v 67 (.bin .or .any (.c (.int .u8 240)) (.t 66)), m 68 1, v 69 (.bin .shr .any (.t 68) (.c (.int .u64 12))), v 70 (.bin .and .any (.t 69) (.c (.int .i32 63))), v 71 (.conv (.int .u8) false (.t 70)), v 72 (.bin .or .any (.c (.int .u8 128)) (.t 71)), m 73 1, v 74 (.bin .shr .any (.t 73) (.c (.int .u64 6))), v 75 (.bin .and .any (.t 74) (.c (.int .i32 63))), v 76 (.conv (.int .u8) false (.t 75)), v 77 (.bin .or .any (.c (.int .u8 128)) (.t 76)), m 78 1, v 79 (.bin .and .any (.t 78) (.c (.int .i32 63))), v 80 (.conv (.int .u8) false (.t 79)), v 81 (.bin .or .any (.c (.int .u8 128)) (.t 80)), v 82 (.mks false none (.int .u8 0) 4 [(0, (.t 67)), (1, (.t 72)), (2, (.t 77)), (3, (.t 81))]), v 83 (.append false none 1 (.t 63) (.t 82)), m 4 83]) .ret))),
 [.tmp 4]⟩
/-- text.Decode -/
def c_text_Decode : DFunc := ⟨53, 
(.seq 
(.region [v 2 (.mv (.c (.lst 0 0 [])))]) 
(.seq 
(.seq 
(.region [m 7 0, v 8 (.len true (.t 7)), v 9 (.bin .geq .any (.t 8) (.c (.int .i64 3))), m 10 9, w 11 (.mv (.t 0)) 10 true, w 12 (.iaddr 1 (.t 11) (.c (.int .i64 0))) 10 true, w 13 (.load none (.t 12)) 10 true, w 14 (.bin .eql .any (.t 13) (.c (.int .u8 239))) 10 true, v 15 (.pick (.t 10) (.t 14) (.c (.bool false))), m 16 15, w 17 (.mv (.t 0)) 16 true, w 18 (.iaddr 1 (.t 17) (.c (.int .i64 1))) 16 true, w 19 (.load none (.t 18)) 16 true, w 20 (.bin .eql .any (.t 19) (.c (.int .u8 187))) 16 true, v 21 (.pick (.t 16) (.t 20) (.c (.bool false))), m 22 21, w 23 (.mv (.t 0)) 22 true, w 24 (.iaddr 1 (.t 23) (.c (.int .i64 2))) 22 true, w 25 (.load none (.t 24)) 22 true, w 26 (.bin .eql .any (.t 25) (.c (.int .u8 191))) 22 true, v 27 (.pick (.t 22) (.t 26) (.c (.bool false)))]) 
(.cond (.t 27) 
(.region [m 28 0, v 29 (.slice 1 (.t 28) (some (.c (.int .i64 3))) none none), m 0 29]) .skip)) 
(.seq 
(.region [v 3 (.alloc [(.lst 0 0 [])] none)]) 
(.seq 
(.region [v 4 (.alloc [(.int .i32 0)] none), u (.store 1 (.t 4) (.c (.int .i32 0)))]) 
(.seq 
(.seq 
(.region [m 30 0, v 31 (.call (.f 54) [(.t 30)] false)]) 
(.block 0 
(.range (.t 31) [32, 33] 
(.region [m 6 33]) 
(.block 1 
(.seq 
(.block 2 
(.seq 
(.region [m 39 6, v 40 (.bin .eql .any (.t 39) (.c (.int .i32 13))), m 38 40]) 
(.cond (.t 38) 
(.region [v 41 (.load none (.t 3)), v 42 (.mks false none (.int .i32 0) 1 [(0, (.c (.int .i32 10)))]), v 43 (.append false none 4 (.t 41) (.t 42)), u (.store 1 (.t 3) (.t 43))]) 
(.seq 
(.region [m 45 6, v 46 (.bin .eql .any (.t 45) (.c (.int .i32 10))), m 47 46, w 48 (.load none (.t 4)) 47 true, w 49 (.bin .eql .any (.t 48) (.c (.int .i32 13))) 47 true, v 50 (.pick (.t 47) (.t 49) (.c (.bool false))), m 44 50]) 
(.cond (.t 44) .skip 
(.region [v 34 (.load none (.t 3)), m 35 6, v 36 (.mks false none (.int .i32 0) 1 [(0, (.t 35))]), v 37 (.append false none 4 (.t 34) (.t 36)), u (.store 1 (.t 3) (.t 37))])))))) 
(.region [m 51 6, u (.store 1 (.t 4) (.t 51))])))))) 
(.seq 
(.region [v 52 (.load none (.t 3)), m 2 52]) .ret)))))),
 [.tmp 2]⟩
/-- (*lex.Lexer).Tokens$1 -/
def c_lex_Lexer_Tokens_1 : DFunc := ⟨18, 
(.block 0 
(.loop 
(.block 1 
(.seq 
(.region [v 6 (.load none (.t 1)), v 7 (.call (.f 41) [(.t 6)] false), m 5 7, v 8 (.extract (.t 5) 0), v 9 (.extract (.t 5) 1), v 3 (.alloc [(.int .i64 0), (.str []), (.lst 0 0 []), (.bool false), (.str []), (.str []), (.str []), (.bool false), (.bool false), (.bool false)] none), u (.store 10 (.t 3) (.t 8)), m 4 9]) 
(.seq 
(.region [m 10 4, v 11 (.un .not (.t 10)), m 12 11, w 13 (.mv (.t 0)) 12 false, w 14 (.load (some 10) (.t 3)) 12 false, w 15 (.call (.t 13) [(.t 14)] false) 12 false, w 16 (.un .not (.t 15)) 12 false, v 17 (.pick (.t 12) (.c (.bool true)) (.t 16))]) 
(.cond (.t 17) .ret .skip)))))),
 []⟩
/-- (*lex.Lexer).Next -/
def c_lex_Lexer_Next : DFunc := ⟨36, 
(.seq 
(.region [v 2 (.alloc [(.int .i64 0), (.str []), (.lst 0 0 []), (.bool false), (.str []), (.str []), (.str []), (.bool false), (.bool false), (.bool false)] none), v 3 (.mv (.c (.bool false)))]) 
(.seq 
(.seq 
(.region [m 5 0, v 6 (.bin .eql .ptr (.t 5) (.c .nilp))]) 
(.cond (.t 6) 
(.seq 
(.region [v 7 (.build [(.int .i64 0), (.str []), (.lst 0 0 []), (.bool false), (.str []), (.str []), (.str []), (.bool false), (.bool false), (.bool false)] []), u (.store 10 (.t 2) (.t 7)), v 3 (.mv (.c (.bool false)))]) .ret) .skip)) 
(.seq 
(.block 0 
(.loop 
(.seq 
(.seq 
(.region [m 8 0, v 9 (.nilc (.t 8)), v 10 (.faddr 5 (.t 9)), v 11 (.load none (.t 10)), v 12 (.len true (.t 11)), v 13 (.bin .eql .any (.t 12) (.c (.int .i64 0)))]) 
(.cond (.t 13) .skip (.exit 0))) 
(.block 1 
(.seq 
(.seq 
(.region [m 14 0, v 15 (.nilc (.t 14)), v 16 (.faddr 7 (.t 15)), v 17 (.load none (.t 16))]) 
(.cond (.t 17) 
(.seq 
(.region [v 18 (.build [(.int .i64 0), (.str []), (.lst 0 0 []), (.bool false), (.str []), (.str []), (.str []), (.bool false), (.bool false), (.bool false)] []), u (.store 10 (.t 2) (.t 18)), v 3 (.mv (.c (.bool false)))]) .ret) .skip)) 
(.region [m 19 0, v 20 (.call (.f 55) [(.t 19)] false)])))))) 
(.seq 
(.region [m 21 0, v 22 (.nilc (.t 21)), v 23 (.faddr 5 (.t 22)), v 24 (.load none (.t 23)), v 25 (.iaddr 10 (.t 24) (.c (.int .i64 0))), v 26 (.load (some 10) (.t 25)), v 4 (.alloc [(.int .i64 0), (.str []), (.lst 0 0 []), (.bool false), (.str []), (.str []), (.str []), (.bool false), (.bool false), (.bool false)] none), u (.store 10 (.t 4) (.t 26))]) 
(.seq 
(.region [m 27 0, m 28 0, v 29 (.nilc (.t 28)), v 30 (.faddr 5 (.t 29)), v 31 (.load none (.t 30)), v 32 (.slice 10 (.t 31) (some (.c (.int .i64 1))) none none), v 33 (.nilc (.t 27)), v 34 (.faddr 5 (.t 33)), u (.store 1 (.t 34) (.t 32))]) 
(.seq 
(.region [v 35 (.load (some 10) (.t 4)), u (.store 10 (.t 2) (.t 35)), v 3 (.mv (.c (.bool true)))]) .ret)))))),
 [.cell 2 (some 10), .tmp 3]⟩
/-- slices.Equal[[]token.Attr,token.Attr] -/
def c_slices_Equal_token_Attr_token_Attr : DFunc := ⟨26, 
(.seq 
(.region [v 4 (.mv (.c (.bool false)))]) 
(.seq 
(.seq 
(.region [m 6 0, v 7 (.len true (.t 6)), m 8 1, v 9 (.len true (.t 8)), v 10 (.bin .neq .any (.t 7) (.t 9))]) 
(.cond (.t 10) 
(.seq 
(.region [v 4 (.mv (.c (.bool false)))]) .ret) .skip)) 
(.seq 
(.seq 
(.region [m 11 0, v 12 (.len true (.t 11)), v 13 (.mv (.c (.int .i64 0)))]) 
(.block 0 
(.loop 
(.seq 
(.region [v 14 (.bin .lss .any (.t 13) (.t 12))]) 
(.seq 
(.cond (.t 14) .skip (.exit 0)) 
(.seq 
(.block 1 
(.seq 
(.region [m 15 13, m 5 15]) 
(.seq 
(.region [m 16 0, m 17 5, v 18 (.iaddr 2 (.t 16) (.t 17)), v 19 (.load (some 2) (.t 18)), m 20 1, m 21 5, v 22 (.iaddr 2 (.t 20) (.t 21)), v 23 (.load (some 2) (.t 22)), v 24 (.bin .neq (.st [.str, .str]) (.t 19) (.t 23))]) 
(.cond (.t 24) 
(.seq 
(.region [v 4 (.mv (.c (.bool false)))]) .ret) .skip)))) 
(.region [v 25 (.bin .add .any (.t 13) (.c (.int .i64 1))), m 13 25]))))))) 
(.seq 
(.region [v 4 (.mv (.c (.bool true)))]) .ret)))),
 [.tmp 4]⟩
/-- slices.Contains[[]string,string] -/
def c_slices_Contains_string_string : DFunc := ⟨9, 
(.seq 
(.region [v 4 (.mv (.c (.bool false)))]) 
(.seq 
(.region [m 5 0, m 6 1, v 7 (.call (.f 56) [(.t 5), (.t 6)] false), v 8 (.bin .geq .any (.t 7) (.c (.int .i64 0))), m 4 8]) .ret)),
 [.tmp 4]⟩
/-- dom.New -/
def c_dom_New : DFunc := ⟨5, 
(.seq 
(.region [v 0 (.mv (.c .nilp))]) 
(.seq 
(.region [v 1 (.build [(.int .i64 0), (.int .i64 0), (.str []), (.str []), (.lst 0 0 []), (.str []), (.str []), (.int .i64 0), (.lst 0 0 []), (.int .i64 0)] [(0, 1, (.c (.int .i64 1))), (7, 1, (.c (.int .i64 (-1)))), (9, 1, (.c (.int .i64 (-1))))]), v 2 (.mks true (some 10) (.agg [(.int .i64 0), (.int .i64 0), (.str []), (.str []), (.lst 0 0 []), (.str []), (.str []), (.int .i64 0), (.lst 0 0 []), (.int .i64 0)]) 1 [(0, (.t 1))]), v 3 (.build [(.lst 0 0 []), (.bool false)] [(0, 1, (.t 2))]), v 4 (.box (.t 3) 2), m 0 4]) .ret)),
 [.tmp 0]⟩
/-- (*dom.Doc).Add -/
def c_dom_Doc_Add : DFunc := ⟨87, 
(.seq 
(.region [v 3 (.box (.t 1) 10), v 4 (.mv (.c (.int .i64 0)))]) 
(.seq 
(.seq 
(.region [m 6 0, v 7 (.bin .eql .ptr (.t 6) (.c .nilp)), m 8 7, w 9 (.mv (.t 0)) 8 false, w 10 (.nilc (.t 9)) 8 false, w 11 (.faddr 0 (.t 10)) 8 false, w 12 (.load none (.t 11)) 8 false, w 13 (.len true (.t 12)) 8 false, w 14 (.bin .geq .any (.t 13) (.c (.int .i64 20000))) 8 false, v 15 (.pick (.t 8) (.c (.bool true)) (.t 14))]) 
(.cond (.t 15) 
(.seq 
(.region [v 4 (.mv (.c (.int .i64 (-1))))]) .ret) .skip)) 
(.seq 
(.region [v 16 (.faddr 4 (.t 3)), v 17 (.load none (.t 16)), v 18 (.call (.f 58) [(.t 17)] true), v 19 (.faddr 4 (.t 3)), u (.store 1 (.t 19) (.t 18)), v 20 (.faddr 8 (.t 3)), u (.store 1 (.t 20) (.c (.lst 0 0 []))), v 21 (.faddr 7 (.t 3)), u (.store 1 (.t 21) (.c (.int .i64 (-1)))), v 22 (.faddr 9 (.t 3)), u (.store 1 (.t 22) (.c (.int .i64 (-1))))]) 
(.seq 
(.region [m 23 0, m 24 0, v 25 (.nilc (.t 24)), v 26 (.faddr 0 (.t 25)), v 27 (.load none (.t 26)), v 28 (.load (some 10) (.t 3)), v 29 (.mks true (some 10) (.agg [(.int .i64 0), (.int .i64 0), (.str []), (.str []), (.lst 0 0 []), (.str []), (.str []), (.int .i64 0), (.lst 0 0 []), (.int .i64 0)]) 1 [(0, (.t 28))]), v 30 (.append true (some 10) 144 (.t 27) (.t 29)), v 31 (.nilc (.t 23)), v 32 (.faddr 0 (.t 31)), u (.store 1 (.t 32) (.t 30))]) 
(.seq 
(.region [m 33 0, v 34 (.nilc (.t 33)), v 35 (.faddr 0 (.t 34)), v 36 (.load none (.t 35)), v 37 (.len true (.t 36)), v 38 (.bin .sub .any (.t 37) (.c (.int .i64 1))), m 5 38]) 
(.seq 
(.seq 
(.region [v 39 (.faddr 0 (.t 3)), v 40 (.load none (.t 39)), v 41 (.bin .eql .any (.t 40) (.c (.int .i64 2))), m 42 41, w 43 (.faddr 1 (.t 3)) 42 true, w 44 (.load none (.t 43)) 42 true, w 45 (.bin .eql .any (.t 44) (.c (.int .i64 0))) 42 true, v 46 (.pick (.t 42) (.t 45) (.c (.bool false))), m 47 46, w 48 (.faddr 2 (.t 3)) 47 true, w 49 (.load none (.t 48)) 47 true, w 50 (.bin .eql .any (.t 49) (.c (.str [116, 101, 109, 112, 108, 97, 116, 101]))) 47 true, v 51 (.pick (.t 47) (.t 50) (.c (.bool false)))]) 
(.cond (.t 51) 
(.seq 
(.seq 
(.region [m 52 0, v 53 (.nilc (.t 52)), v 54 (.faddr 0 (.t 53)), v 55 (.load none (.t 54)), v 56 (.len true (.t 55)), v 57 (.bin .geq .any (.t 56) (.c (.int .i64 20000)))]) 
(.cond (.t 57) 
(.seq 
(.region [m 58 0, m 59 0, v 60 (.nilc (.t 59)), v 61 (.faddr 0 (.t 60)), v 62 (.load none (.t 61)), m 63 5, v 64 (.slice 10 (.t 62) none (some (.t 63)) none), v 65 (.nilc (.t 58)), v 66 (.faddr 0 (.t 65)), u (.store 1 (.t 66) (.t 64))]) 
(.seq 
(.region [v 4 (.mv (.c (.int .i64 (-1))))]) .ret)) .skip)) 
(.seq 
(.region [m 67 0, m 68 0, v 69 (.nilc (.t 68)), v 70 (.faddr 0 (.t 69)), v 71 (.load none (.t 70)), v 72 (.build [(.int .i64 0), (.int .i64 0), (.str []), (.str []), (.lst 0 0 []), (.str []), (.str []), (.int .i64 0), (.lst 0 0 []), (.int .i64 0)] [(0, 1, (.c (.int .i64 1))), (7, 1, (.c (.int .i64 (-1)))), (9, 1, (.c (.int .i64 (-1))))]), v 73 (.mks true (some 10) (.agg [(.int .i64 0), (.int .i64 0), (.str []), (.str []), (.lst 0 0 []), (.str []), (.str []), (.int .i64 0), (.lst 0 0 []), (.int .i64 0)]) 1 [(0, (.t 72))]), v 74 (.append true (some 10) 144 (.t 71) (.t 73)), v 75 (.nilc (.t 67)), v 76 (.faddr 0 (.t 75)), u (.store 1 (.t 76) (.t 74))]) 
(.region [m 77 0, v 78 (.nilc (.t 77)), v 79 (.faddr 0 (.t 78)), v 80 (.load none (.t 79)), m 81 5, m 82 5, v 83 (.bin .add .any (.t 82) (.c (.int .i64 1))), v 84 (.iaddr 10 (.t 80) (.t 81)), v 85 (.faddr 9 (.t 84)), u (.store 1 (.t 85) (.t 83))]))) .skip)) 
(.seq 
(.region [m 86 5, m 4 86]) .ret))))))),
 [.tmp 4]⟩
theorem ok_text_Encode : compF Tryd.prog cfg2 17 = some c_text_Encode := by kernel_rfl
theorem ok_text_Letter : compF Tryd.prog cfg2 18 = some c_text_Letter := by kernel_rfl
theorem ok_text_Digit : compF Tryd.prog cfg2 19 = some c_text_Digit := by kernel_rfl
theorem ok_chars_Numeric : compF Tryd.prog cfg2 20 = some c_chars_Numeric := by kernel_rfl
theorem ok_woodcutlaw09_clean : compF Tryd.prog cfg2 21 = some c_woodcutlaw09_clean := by kernel_rfl
theorem ok_lex_New : compF Tryd.prog cfg2 22 = some c_lex_New := by kernel_rfl
theorem ok_lex_Lexer_Way : compF Tryd.prog cfg2 23 = some c_lex_Lexer_Way := by kernel_rfl
theorem ok_lex_Lexer_Tokens : compF Tryd.prog cfg2 24 = some c_lex_Lexer_Tokens := by kernel_rfl
theorem ok_lex_Lexer_Sections : compF Tryd.prog cfg2 25 = some c_lex_Lexer_Sections := by kernel_rfl
theorem ok_token_Join : compF Tryd.prog cfg2 26 = some c_token_Join := by kernel_rfl
theorem ok_token_Token_Same : compF Tryd.prog cfg2 29 = some c_token_Token_Same := by kernel_rfl
theorem ok_token_Token_Is : compF Tryd.prog cfg2 30 = some c_token_Token_Is := by kernel_rfl
theorem ok_woodcutlaw10_head : compF Tryd.prog cfg2 33 = some c_woodcutlaw10_head := by kernel_rfl
theorem ok_ser_Value : compF Tryd.prog cfg2 34 = some c_ser_Value := by kernel_rfl
theorem ok_ser_Text : compF Tryd.prog cfg2 35 = some c_ser_Text := by kernel_rfl
theorem ok_slices_Collect_token_Token : compF Tryd.prog cfg2 36 = some c_slices_Collect_token_Token := by kernel_rfl
theorem ok_chars_table : compF Tryd.prog cfg2 37 = some c_chars_table := by kernel_rfl
theorem ok_text_Put : compF Tryd.prog cfg2 38 = some c_text_Put := by kernel_rfl
theorem ok_text_Decode : compF Tryd.prog cfg2 39 = some c_text_Decode := by kernel_rfl
theorem ok_lex_Lexer_Tokens_1 : compF Tryd.prog cfg2 40 = some c_lex_Lexer_Tokens_1 := by kernel_rfl
theorem ok_lex_Lexer_Next : compF Tryd.prog cfg2 41 = some c_lex_Lexer_Next := by kernel_rfl
theorem ok_slices_Equal_token_Attr_token_Attr : compF Tryd.prog cfg2 42 = some c_slices_Equal_token_Attr_token_Attr := by kernel_rfl
theorem ok_slices_Contains_string_string : compF Tryd.prog cfg2 43 = some c_slices_Contains_string_string := by kernel_rfl
theorem ok_dom_New : compF Tryd.prog cfg2 47 = some c_dom_New := by kernel_rfl
theorem ok_dom_Doc_Add : compF Tryd.prog cfg2 48 = some c_dom_Doc_Add := by kernel_rfl
end Go.Proofs.YticnenofiibpgaaDoor.Code
/- Functions of the program az code of the D-machine (3): PRINTED BY PROGRAM; each is checked to be what the program's own compiles to. -/
namespace Go.Proofs.YticnenofiibpgaaDoor.Code
set_option linter.unusedSimpArgs false
set_option linter.unusedVariables false
open Go.Dm Go.Dm.C
def cfg3 : Cfg := ⟨fun t => [3, 83].contains t, fun f => [26, 46, 57, 58, 59].contains f⟩
/-- (*dom.Doc).Put -/
def c_dom_Doc_Put : DFunc := ⟨116, 
(.seq 
(.region [v 8 (.mv (.c (.int .i64 0)))]) 
(.seq 
(.seq 
(.region [m 12 0, m 13 1, v 14 (.call (.f 60) [(.t 12), (.t 13)] false), v 15 (.un .not (.t 14)), m 16 15, w 17 (.mv (.t 0)) 16 false, w 18 (.mv (.t 2)) 16 false, w 19 (.call (.f 60) [(.t 17), (.t 18)] false) 16 false, w 20 (.un .not (.t 19)) 16 false, v 21 (.pick (.t 16) (.c (.bool true)) (.t 20)), m 22 21, w 23 (.mv (.t 0)) 22 false, w 24 (.nilc (.t 23)) 22 false, w 25 (.faddr 0 (.t 24)) 22 false, w 26 (.load none (.t 25)) 22 false, w 27 (.mv (.t 2)) 22 false, w 28 (.iaddr 10 (.t 26) (.t 27)) 22 false, w 29 (.faddr 0 (.t 28)) 22 false, w 30 (.load none (.t 29)) 22 false, w 31 (.bin .eql .any (.t 30) (.c (.int .i64 1))) 22 false, v 32 (.pick (.t 22) (.c (.bool true)) (.t 31)), m 33 32, w 34 (.mv (.t 3)) 33 false, w 35 (.mv (.t 2)) 33 false, w 36 (.bin .eql .any (.t 34) (.t 35)) 33 false, v 37 (.pick (.t 33) (.c (.bool true)) (.t 36))]) 
(.cond (.t 37) 
(.seq 
(.region [v 8 (.mv (.c (.int .i64 1)))]) .ret) .skip)) 
(.seq 
(.seq 
(.region [m 38 0, v 39 (.nilc (.t 38)), v 40 (.faddr 0 (.t 39)), v 41 (.load none (.t 40)), m 42 1, v 43 (.iaddr 10 (.t 41) (.t 42)), v 44 (.faddr 0 (.t 43)), v 45 (.load none (.t 44)), m 9 45]) 
(.seq 
(.region [m 46 9, v 47 (.bin .neq .any (.t 46) (.c (.int .i64 1))), m 48 47, w 49 (.mv (.t 9)) 48 true, w 50 (.bin .neq .any (.t 49) (.c (.int .i64 2))) 48 true, v 51 (.pick (.t 48) (.t 50) (.c (.bool false))), m 52 51, w 53 (.mv (.t 0)) 52 false, w 54 (.mv (.t 2)) 52 false, w 55 (.mv (.t 1)) 52 false, w 56 (.call (.f 61) [(.t 53), (.t 54), (.t 55)] false) 52 false, v 57 (.pick (.t 52) (.c (.bool true)) (.t 56))]) 
(.cond (.t 57) 
(.seq 
(.region [v 8 (.mv (.c (.int .i64 1)))]) .ret) .skip))) 
(.seq 
(.seq 
(.region [m 58 3, v 59 (.bin .neq .any (.t 58) (.c (.int .i64 (-1)))), m 60 59, w 61 (.mv (.t 0)) 60 true, w 62 (.mv (.t 3)) 60 true, w 63 (.call (.f 60) [(.t 61), (.t 62)] false) 60 true, w 64 (.un .not (.t 63)) 60 true, w 65 (.mv (.t 64)) 60 true, w 66 (.mv (.t 0)) 65 false, w 67 (.nilc (.t 66)) 65 false, w 68 (.faddr 0 (.t 67)) 65 false, w 69 (.load none (.t 68)) 65 false, w 70 (.mv (.t 3)) 65 false, w 71 (.iaddr 10 (.t 69) (.t 70)) 65 false, w 72 (.faddr 7 (.t 71)) 65 false, w 73 (.load none (.t 72)) 65 false, w 74 (.mv (.t 1)) 65 false, w 75 (.bin .neq .any (.t 73) (.t 74)) 65 false, w 76 (.pick (.t 65) (.c (.bool true)) (.t 75)) 60 true, v 77 (.pick (.t 60) (.t 76) (.c (.bool false)))]) 
(.cond (.t 77) 
(.seq 
(.region [v 8 (.mv (.c (.int .i64 4)))]) .ret) .skip)) 
(.seq 
(.region [m 78 0, m 79 2, v 80 (.call (.f 62) [(.t 78), (.t 79)] false)]) 
(.seq 
(.region [m 81 0, v 82 (.nilc (.t 81)), v 83 (.faddr 0 (.t 82)), v 84 (.load none (.t 83)), m 85 1, v 86 (.iaddr 10 (.t 84) (.t 85)), v 87 (.faddr 8 (.t 86)), m 10 87]) 
(.seq 
(.region [m 88 10, v 89 (.nilc (.t 88)), v 90 (.load none (.t 89)), v 91 (.len true (.t 90)), m 11 91]) 
(.seq 
(.seq 
(.region [m 92 3, v 93 (.bin .neq .any (.t 92) (.c (.int .i64 (-1))))]) 
(.cond (.t 93) 
(.region [m 94 10, v 95 (.nilc (.t 94)), v 96 (.load none (.t 95)), m 97 3, v 98 (.call (.f 63) [(.t 96), (.t 97)] false), m 11 98]) .skip)) 
(.seq 
(.region [m 99 10, m 100 10, v 101 (.nilc (.t 100)), v 102 (.load none (.t 101)), m 103 11, m 104 2, v 105 (.mks true none (.int .i64 0) 1 [(0, (.t 104))]), v 106 (.call (.f 64) [(.t 102), (.t 103), (.t 105)] false), v 107 (.nilc (.t 99)), u (.store 1 (.t 107) (.t 106))]) 
(.seq 
(.region [m 108 0, v 109 (.nilc (.t 108)), v 110 (.faddr 0 (.t 109)), v 111 (.load none (.t 110)), m 112 2, m 113 1, v 114 (.iaddr 10 (.t 111) (.t 112)), v 115 (.faddr 7 (.t 114)), u (.store 1 (.t 115) (.t 113))]) 
(.seq 
(.region [v 8 (.mv (.c (.int .i64 0)))]) .ret))))))))))),
 [.tmp 8]⟩
/-- (*dom.Doc).Say -/
def c_dom_Doc_Say : DFunc := ⟨81, 
(.seq 
(.region [v 8 (.mv (.c (.int .i64 0)))]) 
(.seq 
(.seq 
(.region [m 12 0, m 13 1, v 14 (.call (.f 60) [(.t 12), (.t 13)] false), v 15 (.un .not (.t 14)), m 16 15, w 17 (.mv (.t 2)) 16 false, w 18 (.bin .eql .any (.t 17) (.c (.str []))) 16 false, v 19 (.pick (.t 16) (.c (.bool true)) (.t 18))]) 
(.cond (.t 19) 
(.seq 
(.region [v 8 (.mv (.c (.int .i64 1)))]) .ret) .skip)) 
(.seq 
(.region [m 20 0, v 21 (.nilc (.t 20)), v 22 (.faddr 0 (.t 21)), v 23 (.load none (.t 22)), m 24 1, v 25 (.iaddr 10 (.t 23) (.t 24)), v 26 (.faddr 8 (.t 25)), v 27 (.load none (.t 26)), m 9 27]) 
(.seq 
(.region [m 28 9, v 29 (.len true (.t 28)), m 10 29]) 
(.seq 
(.seq 
(.region [m 30 3, v 31 (.bin .neq .any (.t 30) (.c (.int .i64 (-1))))]) 
(.cond (.t 31) 
(.seq 
(.region [m 32 9, m 33 3, v 34 (.call (.f 63) [(.t 32), (.t 33)] false), m 10 34]) 
(.seq 
(.region [m 35 10, v 36 (.bin .lss .any (.t 35) (.c (.int .i64 0)))]) 
(.cond (.t 36) 
(.seq 
(.region [v 8 (.mv (.c (.int .i64 4)))]) .ret) .skip))) .skip)) 
(.seq 
(.seq 
(.region [m 37 10, v 38 (.bin .gtr .any (.t 37) (.c (.int .i64 0))), m 39 38, w 40 (.mv (.t 0)) 39 true, w 41 (.nilc (.t 40)) 39 true, w 42 (.faddr 0 (.t 41)) 39 true, w 43 (.load none (.t 42)) 39 true, w 44 (.mv (.t 9)) 39 true, w 45 (.mv (.t 10)) 39 true, w 46 (.bin .sub .any (.t 45) (.c (.int .i64 1))) 39 true, w 47 (.iaddr 1 (.t 44) (.t 46)) 39 true, w 48 (.load none (.t 47)) 39 true, w 49 (.iaddr 10 (.t 43) (.t 48)) 39 true, w 50 (.faddr 0 (.t 49)) 39 true, w 51 (.load none (.t 50)) 39 true, w 52 (.bin .eql .any (.t 51) (.c (.int .i64 3))) 39 true, v 53 (.pick (.t 39) (.t 52) (.c (.bool false)))]) 
(.cond (.t 53) 
(.seq 
(.region [m 54 0, v 55 (.nilc (.t 54)), v 56 (.faddr 0 (.t 55)), v 57 (.load none (.t 56)), m 58 9, m 59 10, v 60 (.bin .sub .any (.t 59) (.c (.int .i64 1))), v 61 (.iaddr 1 (.t 58) (.t 60)), v 62 (.load none (.t 61)), v 63 (.iaddr 10 (.t 57) (.t 62)), v 64 (.faddr 3 (.t 63)), v 65 (.load none (.t 64)), m 66 2, v 67 (.bin .add .any (.t 65) (.t 66)), v 68 (.iaddr 10 (.t 57) (.t 62)), v 69 (.faddr 3 (.t 68)), u (.store 1 (.t 69) (.t 67))]) 
(.seq 
(.region [v 8 (.mv (.c (.int .i64 0)))]) .ret)) .skip)) 
(.seq 
(.region [m 70 0, m 71 2, v 72 (.build [(.int .i64 0), (.int .i64 0), (.str []), (.str []), (.lst 0 0 []), (.str []), (.str []), (.int .i64 0), (.lst 0 0 []), (.int .i64 0)] [(0, 1, (.c (.int .i64 3))), (3, 1, (.t 71))]), v 73 (.call (.f 48) [(.t 70), (.t 72)] false), m 11 73]) 
(.seq 
(.seq 
(.region [m 74 11, v 75 (.bin .eql .any (.t 74) (.c (.int .i64 (-1))))]) 
(.cond (.t 75) 
(.seq 
(.region [v 8 (.mv (.c (.int .i64 26)))]) .ret) .skip)) 
(.seq 
(.region [m 76 0, m 77 1, m 78 11, m 79 3, v 80 (.call (.f 49) [(.t 76), (.t 77), (.t 78), (.t 79)] false), m 8 80]) .ret))))))))),
 [.tmp 8]⟩
/-- ser.Page -/
def c_ser_Page : DFunc := ⟨5, 
(.seq 
(.region [v 2 (.mv (.c (.lst 0 0 [])))]) 
(.seq 
(.region [m 3 0, v 4 (.call (.f 65) [(.t 3), (.c (.int .i64 0))] false), m 2 4]) .ret)),
 [.tmp 2]⟩
/-- ser.escape -/
def c_ser_escape : DFunc := ⟨67, 
(.seq 
(.region [v 6 (.mv (.c (.lst 0 0 [])))]) 
(.seq 
(.seq 
(.region [v 7 (.mv (.c (.int .i64 0)))]) 
(.block 0 
(.loop 
(.seq 
(.seq 
(.region [m 9 7, m 10 1, v 11 (.len false (.t 10)), v 12 (.bin .lss .any (.t 9) (.t 11))]) 
(.cond (.t 12) .skip (.exit 0))) 
(.seq 
(.block 1 
(.seq 
(.region [m 15 1, m 16 7, v 17 (.idxStr (.t 15) (.t 16)), m 8 17]) 
(.block 2 
(.seq 
(.region [m 23 8, v 24 (.bin .eql .any (.t 23) (.c (.int .u8 38))), m 22 24]) 
(.cond (.t 22) 
(.region [m 25 0, v 26 (.append false none 1 (.t 25) (.c (.str [38, 97, 109, 112, 59]))), m 0 26]) 
(.seq 
(.region [m 28 8, v 29 (.bin .eql .any (.t 28) (.c (.int .u8 60))), m 27 29]) 
(.cond (.t 27) 
(.region [m 30 0, v 31 (.append false none 1 (.t 30) (.c (.str [38, 108, 116, 59]))), m 0 31]) 
(.seq 
(.region [m 33 8, v 34 (.bin .eql .any (.t 33) (.c (.int .u8 62))), m 32 34]) 
(.cond (.t 32) 
(.region [m 35 0, v 36 (.append false none 1 (.t 35) (.c (.str [38, 103, 116, 59]))), m 0 36]) 
(.seq 
(.region [m 38 8, v 39 (.bin .eql .any (.t 38) (.c (.int .u8 34))), m 40 39, w 41 (.mv (.t 2)) 40 true, v 42 (.pick (.t 40) (.t 41) (.c (.bool false))), m 37 42]) 
(.cond (.t 37) 
(.region [m 43 0, v 44 (.append false none 1 (.t 43) (.c (.str [38, 113, 117, 111, 116, 59]))), m 0 44]) 
(.seq 
(.region [m 46 8, v 47 (.bin .eql .any (.t 46) (.c (.int .u8 194))), m 48 47, w 49 (.mv (.t 7)) 48 true, w 50 (.bin .add .any (.t 49) (.c (.int .i64 1))) 48 true, w 51 (.mv (.t 1)) 48 true, w 52 (.len false (.t 51)) 48 true, w 53 (.bin .lss .any (.t 50) (.t 52)) 48 true, v 54 (.pick (.t 48) (.t 53) (.c (.bool false))), m 55 54, w 56 (.mv (.t 1)) 55 true, w 57 (.mv (.t 7)) 55 true, w 58 (.bin .add .any (.t 57) (.c (.int .i64 1))) 55 true, w 59 (.idxStr (.t 56) (.t 58)) 55 true, w 60 (.bin .eql .any (.t 59) (.c (.int .u8 160))) 55 true, v 61 (.pick (.t 55) (.t 60) (.c (.bool false))), m 45 61]) 
(.cond (.t 45) 
(.seq 
(.region [m 62 0, v 63 (.append false none 1 (.t 62) (.c (.str [38, 110, 98, 115, 112, 59]))), m 0 63]) 
(.region [m 64 7, v 65 (.bin .add .any (.t 64) (.c (.int .i64 1))), m 7 65])) 
(.region [m 18 0, m 19 8, v 20 (.mks false none (.int .u8 0) 1 [(0, (.t 19))]), v 21 (.append false none 1 (.t 18) (.t 20)), m 0 21])))))))))))))) 
(.region [m 13 7, v 14 (.bin .add .any (.t 13) (.c (.int .i64 1))), m 7 14])))))) 
(.seq 
(.region [m 66 0, m 6 66]) .ret))),
 [.tmp 6]⟩
/-- slices.AppendSeq[[]token.Token,token.Token] -/
def c_slices_AppendSeq_token_Token_token_Token : DFunc := ⟨13, 
(.seq 
(.region [v 2 (.box (.t 0) 1), v 4 (.mv (.c (.lst 0 0 [])))]) 
(.seq 
(.seq 
(.region [m 6 1]) 
(.block 0 
(.range (.t 6) [7] 
(.region [v 5 (.alloc [(.int .i64 0), (.str []), (.lst 0 0 []), (.bool false), (.str []), (.str []), (.str []), (.bool false), (.bool false), (.bool false)] none), u (.store 10 (.t 5) (.t 7))]) 
(.block 1 
(.region [v 8 (.load none (.t 2)), v 9 (.load (some 10) (.t 5)), v 10 (.mks false (some 10) (.agg [(.int .i64 0), (.str []), (.lst 0 0 []), (.bool false), (.str []), (.str []), (.str []), (.bool false), (.bool false), (.bool false)]) 1 [(0, (.t 9))]), v 11 (.append false (some 10) 112 (.t 8) (.t 10)), u (.store 1 (.t 2) (.t 11))]))))) 
(.seq 
(.region [v 12 (.load none (.t 2)), m 4 12]) .ret))),
 [.tmp 4]⟩
/-- text.Signs -/
def c_text_Signs : DFunc := ⟨4, 
(.seq 
(.region [v 1 (.box (.t 0) 1), v 2 (.mv (.c .nilfn))]) 
(.seq 
(.region [v 3 (.mkfn (.func 66) [] [(.t 1)]), m 2 3]) .ret)),
 [.tmp 2]⟩
/-- (*lex.Lexer).step -/
def c_lex_Lexer_step : DFunc := ⟨151, 
(.seq 
(.region [m 3 0, v 4 (.call (.f 68) [(.t 3)] false), m 2 4]) 
(.seq 
(.block 0 
(.seq 
(.region [m 31 2, v 32 (.bin .eql .any (.t 31) (.c (.int .i32 (-1)))), m 30 32]) 
(.cond (.t 30) 
(.seq 
(.region [m 33 0, v 34 (.call (.f 69) [(.t 33)] false)]) 
(.region [m 35 0, v 36 (.nilc (.t 35)), v 37 (.faddr 7 (.t 36)), u (.store 1 (.t 37) (.c (.bool true)))])) 
(.seq 
(.region [m 39 2, v 40 (.bin .eql .any (.t 39) (.c (.int .i32 38))), m 41 40, w 42 (.mv (.t 0)) 41 true, w 43 (.nilc (.t 42)) 41 true, w 44 (.faddr 2 (.t 43)) 41 true, w 45 (.load none (.t 44)) 41 true, w 46 (.bin .eql .any (.t 45) (.c (.int .i64 0))) 41 true, w 47 (.mv (.t 46)) 41 true, w 48 (.mv (.t 0)) 47 false, w 49 (.nilc (.t 48)) 47 false, w 50 (.faddr 2 (.t 49)) 47 false, w 51 (.load none (.t 50)) 47 false, w 52 (.bin .eql .any (.t 51) (.c (.int .i64 1))) 47 false, w 53 (.pick (.t 47) (.c (.bool true)) (.t 52)) 41 true, v 54 (.pick (.t 41) (.t 53) (.c (.bool false))), m 38 54]) 
(.cond (.t 38) 
(.region [m 55 0, v 56 (.call (.f 70) [(.t 55), (.c (.bool false))] false)]) 
(.seq 
(.region [m 58 2, v 59 (.bin .eql .any (.t 58) (.c (.int .i32 60))), m 60 59, w 61 (.mv (.t 0)) 60 true, w 62 (.nilc (.t 61)) 60 true, w 63 (.faddr 2 (.t 62)) 60 true, w 64 (.load none (.t 63)) 60 true, w 65 (.bin .eql .any (.t 64) (.c (.int .i64 0))) 60 true, v 66 (.pick (.t 60) (.t 65) (.c (.bool false))), m 57 66]) 
(.cond (.t 57) 
(.seq 
(.region [m 67 0, v 68 (.call (.f 69) [(.t 67)] false)]) 
(.region [m 69 0, v 70 (.call (.f 71) [(.t 69)] false)])) 
(.seq 
(.region [m 72 2, v 73 (.bin .eql .any (.t 72) (.c (.int .i32 60))), m 74 73, w 75 (.mv (.t 0)) 74 true, w 76 (.nilc (.t 75)) 74 true, w 77 (.faddr 2 (.t 76)) 74 true, w 78 (.load none (.t 77)) 74 true, w 79 (.bin .eql .any (.t 78) (.c (.int .i64 1))) 74 true, w 80 (.mv (.t 79)) 74 true, w 81 (.mv (.t 0)) 80 false, w 82 (.nilc (.t 81)) 80 false, w 83 (.faddr 2 (.t 82)) 80 false, w 84 (.load none (.t 83)) 80 false, w 85 (.bin .eql .any (.t 84) (.c (.int .i64 2))) 80 false, w 86 (.pick (.t 80) (.c (.bool true)) (.t 85)) 74 true, v 87 (.pick (.t 74) (.t 86) (.c (.bool false))), m 71 87]) 
(.cond (.t 71) 
(.seq 
(.region [m 88 0, v 89 (.call (.f 69) [(.t 88)] false)]) 
(.region [m 90 0, v 91 (.call (.f 72) [(.t 90)] false)])) 
(.seq 
(.region [m 93 2, v 94 (.bin .eql .any (.t 93) (.c (.int .i32 60))), m 95 94, w 96 (.mv (.t 0)) 95 true, w 97 (.nilc (.t 96)) 95 true, w 98 (.faddr 2 (.t 97)) 95 true, w 99 (.load none (.t 98)) 95 true, w 100 (.bin .eql .any (.t 99) (.c (.int .i64 3))) 95 true, v 101 (.pick (.t 95) (.t 100) (.c (.bool false))), m 92 101]) 
(.cond (.t 92) 
(.seq 
(.region [m 102 0, v 103 (.call (.f 69) [(.t 102)] false)]) 
(.region [m 104 0, v 105 (.call (.f 73) [(.t 104)] false)])) 
(.seq 
(.region [m 107 2, v 108 (.bin .eql .any (.t 107) (.c (.int .i32 0))), m 109 108, w 110 (.mv (.t 0)) 109 true, w 111 (.nilc (.t 110)) 109 true, w 112 (.faddr 2 (.t 111)) 109 true, w 113 (.load none (.t 112)) 109 true, w 114 (.bin .eql .any (.t 113) (.c (.int .i64 0))) 109 true, v 115 (.pick (.t 109) (.t 114) (.c (.bool false))), m 106 115]) 
(.cond (.t 106) 
(.region [m 116 0, v 117 (.mks false none (.int .i32 0) 1 [(0, (.c (.int .i32 0)))]), v 118 (.call (.f 74) [(.t 116), (.t 117)] false)]) 
(.seq 
(.region [m 120 2, v 121 (.bin .eql .any (.t 120) (.c (.int .i32 0))), m 119 121]) 
(.cond (.t 119) 
(.region [m 122 0, v 123 (.mks false none (.int .i32 0) 1 [(0, (.c (.int .i32 65533)))]), v 124 (.call (.f 74) [(.t 122), (.t 123)] false)]) 
(.seq 
(.region [m 5 0, m 6 2, v 7 (.mks false none (.int .i32 0) 1 [(0, (.t 6))]), v 8 (.call (.f 74) [(.t 5), (.t 7)] false)]) 
(.block 1 
(.loop 
(.block 2 
(.seq 
(.seq 
(.region [m 9 0, v 10 (.call (.f 75) [(.t 9), (.c (.int .i64 0))] false), m 2 10]) 
(.seq 
(.region [m 11 2, v 12 (.bin .eql .any (.t 11) (.c (.int .i32 (-1)))), m 13 12, w 14 (.mv (.t 2)) 13 false, w 15 (.bin .eql .any (.t 14) (.c (.int .i32 38))) 13 false, v 16 (.pick (.t 13) (.c (.bool true)) (.t 15)), m 17 16, w 18 (.mv (.t 2)) 17 false, w 19 (.bin .eql .any (.t 18) (.c (.int .i32 60))) 17 false, v 20 (.pick (.t 17) (.c (.bool true)) (.t 19)), m 21 20, w 22 (.mv (.t 2)) 21 false, w 23 (.bin .eql .any (.t 22) (.c (.int .i32 0))) 21 false, v 24 (.pick (.t 21) (.c (.bool true)) (.t 23))]) 
(.cond (.t 24) (.exit 1) .skip))) 
(.region [m 25 0, m 26 0, v 27 (.call (.f 68) [(.t 26)] false), v 28 (.mks false none (.int .i32 0) 1 [(0, (.t 27))]), v 29 (.call (.f 74) [(.t 25), (.t 28)] false)]))))))))))))))))))))) 
(.seq 
(.region [m 125 0, v 126 (.nilc (.t 125)), v 127 (.faddr 5 (.t 126)), v 128 (.load none (.t 127)), v 129 (.len true (.t 128)), v 130 (.bin .eql .any (.t 129) (.c (.int .i64 0))), m 131 130, w 132 (.mv (.t 0)) 131 true, w 133 (.nilc (.t 132)) 131 true, w 134 (.faddr 6 (.t 133)) 131 true, w 135 (.load none (.t 134)) 131 true, w 136 (.len true (.t 135)) 131 true, w 137 (.bin .gtr .any (.t 136) (.c (.int .i64 0))) 131 true, v 138 (.pick (.t 131) (.t 137) (.c (.bool false))), m 139 138, w 140 (.mv (.t 0)) 139 true, w 141 (.call (.f 75) [(.t 140), (.c (.int .i64 0))] false) 139 true, w 142 (.bin .eql .any (.t 141) (.c (.int .i32 60))) 139 true, w 143 (.mv (.t 142)) 139 true, w 144 (.mv (.t 0)) 143 false, w 145 (.call (.f 75) [(.t 144), (.c (.int .i64 0))] false) 143 false, w 146 (.bin .eql .any (.t 145) (.c (.int .i32 (-1)))) 143 false, w 147 (.pick (.t 143) (.c (.bool true)) (.t 146)) 139 true, v 148 (.pick (.t 139) (.t 147) (.c (.bool false)))]) 
(.cond (.t 148) 
(.region [m 149 0, v 150 (.call (.f 69) [(.t 149)] false)]) .skip)))),
 []⟩
/-- slices.Index[[]string,string] -/
def c_slices_Index_string_string : DFunc := ⟨19, 
(.seq 
(.region [v 4 (.mv (.c (.int .i64 0)))]) 
(.seq 
(.seq 
(.region [m 6 0, v 7 (.len true (.t 6)), v 8 (.mv (.c (.int .i64 0)))]) 
(.block 0 
(.loop 
(.seq 
(.region [v 9 (.bin .lss .any (.t 8) (.t 7))]) 
(.seq 
(.cond (.t 9) .skip (.exit 0)) 
(.seq 
(.block 1 
(.seq 
(.region [m 10 8, m 5 10]) 
(.seq 
(.region [m 11 1, m 12 0, m 13 5, v 14 (.iaddr 1 (.t 12) (.t 13)), v 15 (.load none (.t 14)), v 16 (.bin .eql .any (.t 11) (.t 15))]) 
(.cond (.t 16) 
(.seq 
(.region [m 17 5, m 4 17]) .ret) .skip)))) 
(.region [v 18 (.bin .add .any (.t 8) (.c (.int .i64 1))), m 8 18]))))))) 
(.seq 
(.region [v 4 (.mv (.c (.int .i64 (-1))))]) .ret))),
 [.tmp 4]⟩
/-- slices.Clone[[]token.Attr,token.Attr] -/
def c_slices_Clone_token_Attr_token_Attr : DFunc := ⟨8, 
(.seq 
(.region [v 2 (.mv (.c (.lst 0 0 [])))]) 
(.seq 
(.seq 
(.region [m 3 0, v 4 (.bin .eql .sl (.t 3) (.c (.lst 0 0 [])))]) 
(.cond (.t 4) 
(.seq 
(.region [v 2 (.mv (.c (.lst 0 0 [])))]) .ret) .skip)) 
(.seq 
(.region [v 5 (.mks true (some 2) (.agg [(.str []), (.str [])]) 0 []), m 6 0, v 7 (.append true (some 2) 32 (.t 5) (.t 6)), m 2 7]) .ret))),
 [.tmp 2]⟩
/-- (*dom.Doc).in -/
def c_dom_Doc_in : DFunc := ⟨20, 
(.seq 
(.region [v 4 (.mv (.c (.bool false)))]) 
(.seq 
(.region [m 5 0, v 6 (.bin .neq .ptr (.t 5) (.c .nilp)), m 7 6, w 8 (.mv (.t 1)) 7 true, w 9 (.bin .geq .any (.t 8) (.c (.int .i64 0))) 7 true, v 10 (.pick (.t 7) (.t 9) (.c (.bool false))), m 11 10, w 12 (.mv (.t 1)) 11 true, w 13 (.mv (.t 0)) 11 true, w 14 (.nilc (.t 13)) 11 true, w 15 (.faddr 0 (.t 14)) 11 true, w 16 (.load none (.t 15)) 11 true, w 17 (.len true (.t 16)) 11 true, w 18 (.bin .lss .any (.t 12) (.t 17)) 11 true, v 19 (.pick (.t 11) (.t 18) (.c (.bool false))), m 4 19]) .ret)),
 [.tmp 4]⟩
/-- (*dom.Doc).above -/
def c_dom_Doc_above : DFunc := ⟨43, 
(.seq 
(.region [v 6 (.mv (.c (.bool false)))]) 
(.seq 
(.block 0 
(.loop 
(.seq 
(.seq 
(.region [m 8 2, v 9 (.bin .neq .any (.t 8) (.c (.int .i64 (-1))))]) 
(.cond (.t 9) .skip (.exit 0))) 
(.block 1 
(.seq 
(.seq 
(.region [m 10 2, m 11 1, v 12 (.bin .eql .any (.t 10) (.t 11))]) 
(.cond (.t 12) 
(.seq 
(.region [v 6 (.mv (.c (.bool true)))]) .ret) .skip)) 
(.seq 
(.region [m 13 0, v 14 (.nilc (.t 13)), v 15 (.faddr 0 (.t 14)), v 16 (.load none (.t 15)), m 17 2, v 18 (.iaddr 10 (.t 16) (.t 17)), v 19 (.faddr 7 (.t 18)), v 20 (.load none (.t 19)), m 7 20]) 
(.seq 
(.seq 
(.region [m 21 7, v 22 (.bin .eql .any (.t 21) (.c (.int .i64 (-1)))), m 23 22, w 24 (.mv (.t 2)) 23 true, w 25 (.bin .gtr .any (.t 24) (.c (.int .i64 0))) 23 true, v 26 (.pick (.t 23) (.t 25) (.c (.bool false))), m 27 26, w 28 (.mv (.t 0)) 27 true, w 29 (.nilc (.t 28)) 27 true, w 30 (.faddr 0 (.t 29)) 27 true, w 31 (.load none (.t 30)) 27 true, w 32 (.mv (.t 2)) 27 true, w 33 (.bin .sub .any (.t 32) (.c (.int .i64 1))) 27 true, w 34 (.iaddr 10 (.t 31) (.t 33)) 27 true, w 35 (.faddr 9 (.t 34)) 27 true, w 36 (.load none (.t 35)) 27 true, w 37 (.mv (.t 2)) 27 true, w 38 (.bin .eql .any (.t 36) (.t 37)) 27 true, v 39 (.pick (.t 27) (.t 38) (.c (.bool false)))]) 
(.cond (.t 39) 
(.region [m 40 2, v 41 (.bin .sub .any (.t 40) (.c (.int .i64 1))), m 7 41]) .skip)) 
(.region [m 42 7, m 2 42])))))))) 
(.seq 
(.region [v 6 (.mv (.c (.bool false)))]) .ret))),
 [.tmp 6]⟩
/-- (*dom.Doc).Out -/
def c_dom_Doc_Out : DFunc := ⟨58, 
(.seq 
(.seq 
(.region [m 6 0, m 7 1, v 8 (.call (.f 60) [(.t 6), (.t 7)] false), v 9 (.un .not (.t 8)), m 10 9, w 11 (.mv (.t 0)) 10 false, w 12 (.nilc (.t 11)) 10 false, w 13 (.faddr 0 (.t 12)) 10 false, w 14 (.load none (.t 13)) 10 false, w 15 (.mv (.t 1)) 10 false, w 16 (.iaddr 10 (.t 14) (.t 15)) 10 false, w 17 (.faddr 7 (.t 16)) 10 false, w 18 (.load none (.t 17)) 10 false, w 19 (.bin .eql .any (.t 18) (.c (.int .i64 (-1)))) 10 false, v 20 (.pick (.t 10) (.c (.bool true)) (.t 19))]) 
(.cond (.t 20) .ret .skip)) 
(.seq 
(.region [m 21 0, v 22 (.nilc (.t 21)), v 23 (.faddr 0 (.t 22)), v 24 (.load none (.t 23)), m 25 0, v 26 (.nilc (.t 25)), v 27 (.faddr 0 (.t 26)), v 28 (.load none (.t 27)), m 29 1, v 30 (.iaddr 10 (.t 28) (.t 29)), v 31 (.faddr 7 (.t 30)), v 32 (.load none (.t 31)), v 33 (.iaddr 10 (.t 24) (.t 32)), m 4 33]) 
(.seq 
(.region [m 34 4, v 35 (.nilc (.t 34)), v 36 (.faddr 8 (.t 35)), v 37 (.load none (.t 36)), m 38 1, v 39 (.call (.f 63) [(.t 37), (.t 38)] false), m 5 39]) 
(.seq 
(.region [m 40 4, m 41 4, v 42 (.nilc (.t 41)), v 43 (.faddr 8 (.t 42)), v 44 (.load none (.t 43)), m 45 5, m 46 5, v 47 (.bin .add .any (.t 46) (.c (.int .i64 1))), v 48 (.call (.f 77) [(.t 44), (.t 45), (.t 47)] false), v 49 (.nilc (.t 40)), v 50 (.faddr 8 (.t 49)), u (.store 1 (.t 50) (.t 48))]) 
(.region [m 51 0, v 52 (.nilc (.t 51)), v 53 (.faddr 0 (.t 52)), v 54 (.load none (.t 53)), m 55 1, v 56 (.iaddr 10 (.t 54) (.t 55)), v 57 (.faddr 7 (.t 56)), u (.store 1 (.t 57) (.c (.int .i64 (-1))))]))))),
 []⟩
/-- slices.Index[[]int,int] -/
def c_slices_Index_int_int : DFunc := ⟨19, 
(.seq 
(.region [v 4 (.mv (.c (.int .i64 0)))]) 
(.seq 
(.seq 
(.region [m 6 0, v 7 (.len true (.t 6)), v 8 (.mv (.c (.int .i64 0)))]) 
(.block 0 
(.loop 
(.seq 
(.region [v 9 (.bin .lss .any (.t 8) (.t 7))]) 
(.seq 
(.cond (.t 9) .skip (.exit 0)) 
(.seq 
(.block 1 
(.seq 
(.region [m 10 8, m 5 10]) 
(.seq 
(.region [m 11 1, m 12 0, m 13 5, v 14 (.iaddr 1 (.t 12) (.t 13)), v 15 (.load none (.t 14)), v 16 (.bin .eql .any (.t 11) (.t 15))]) 
(.cond (.t 16) 
(.seq 
(.region [m 17 5, m 4 17]) .ret) .skip)))) 
(.region [v 18 (.bin .add .any (.t 8) (.c (.int .i64 1))), m 8 18]))))))) 
(.seq 
(.region [v 4 (.mv (.c (.int .i64 (-1))))]) .ret))),
 [.tmp 4]⟩
/-- slices.Insert[[]int,int] -/
def c_slices_Insert_int_int : DFunc := ⟨95, 
(.seq 
(.region [v 6 (.mv (.c (.lst 0 0 [])))]) 
(.seq 
(.region [m 10 0, m 11 1, v 12 (.slice 1 (.t 10) (some (.t 11)) none none)]) 
(.seq 
(.region [m 13 2, v 14 (.len true (.t 13)), m 7 14]) 
(.seq 
(.seq 
(.region [m 15 7, v 16 (.bin .eql .any (.t 15) (.c (.int .i64 0)))]) 
(.cond (.t 16) 
(.seq 
(.region [m 17 0, m 6 17]) .ret) .skip)) 
(.seq 
(.region [m 18 0, v 19 (.len true (.t 18)), m 8 19]) 
(.seq 
(.seq 
(.region [m 20 1, m 21 8, v 22 (.bin .eql .any (.t 20) (.t 21))]) 
(.cond (.t 22) 
(.seq 
(.region [m 23 0, m 24 2, v 25 (.append true none 8 (.t 23) (.t 24)), m 6 25]) .ret) .skip)) 
(.seq 
(.seq 
(.loop .skip) 
(.cond (.t 31) 
(.seq 
(.loop .skip) 
(.seq 
(.region [m 41 9, m 42 1, v 43 (.slice 1 (.t 41) (some (.t 42)) none none), m 44 2, v 45 (.copy none (.t 43) (.t 44))]) 
(.seq 
(.region [m 46 9, m 47 1, m 48 7, v 49 (.bin .add .any (.t 47) (.t 48)), v 50 (.slice 1 (.t 46) (some (.t 49)) none none), m 51 0, m 52 1, v 53 (.slice 1 (.t 51) (some (.t 52)) none none), v 54 (.copy none (.t 50) (.t 53))]) 
(.seq 
(.region [m 55 9, m 6 55]) .ret)))) .skip)) 
(.seq 
(.region [m 56 0, m 57 8, m 58 7, v 59 (.bin .add .any (.t 57) (.t 58)), v 60 (.slice 1 (.t 56) none (some (.t 59)) none), m 0 60]) 
(.seq 
(.seq 
(.region [m 61 2, m 62 0, m 63 1, m 64 7, v 65 (.bin .add .any (.t 63) (.t 64)), v 66 (.slice 1 (.t 62) (some (.t 65)) none none), v 67 (.call (.f 78) [(.t 61), (.t 66)] false), v 68 (.un .not (.t 67))]) 
(.cond (.t 68) 
(.seq 
(.region [m 69 0, m 70 1, m 71 7, v 72 (.bin .add .any (.t 70) (.t 71)), v 73 (.slice 1 (.t 69) (some (.t 72)) none none), m 74 0, m 75 1, v 76 (.slice 1 (.t 74) (some (.t 75)) none none), v 77 (.copy none (.t 73) (.t 76))]) 
(.seq 
(.region [m 78 0, m 79 1, v 80 (.slice 1 (.t 78) (some (.t 79)) none none), m 81 2, v 82 (.copy none (.t 80) (.t 81))]) 
(.seq 
(.region [m 83 0, m 6 83]) .ret))) .skip)) 
(.seq 
(.region [m 84 0, m 85 8, v 86 (.slice 1 (.t 84) (some (.t 85)) none none), m 87 2, v 88 (.copy none (.t 86) (.t 87))]) 
(.seq 
(.region [m 89 0, m 90 1, v 91 (.slice 1 (.t 89) (some (.t 90)) none none), m 92 7, v 93 (.call (.f 79) [(.t 91), (.t 92)] false)]) 
(.seq 
(.region [m 94 0, m 6 94]) .ret)))))))))))),
 [.tmp 6]⟩
/-- ser.Inner -/
def c_ser_Inner : DFunc := ⟨114, 
(.seq 
(.region [v 2 (.box (.t 0) 1), v 4 (.mv (.c (.lst 0 0 [])))]) 
(.seq 
(.seq 
(.region [v 9 (.load none (.t 2)), m 10 1, v 11 (.call (.f 80) [(.t 9), (.t 10)] false), v 12 (.bin .eql .any (.t 11) (.c (.int .i64 0)))]) 
(.cond (.t 12) 
(.seq 
(.region [v 4 (.mv (.c (.lst 0 0 [])))]) .ret) .skip)) 
(.seq 
(.region [v 13 (.mkfn (.func 81) [] [(.t 2)]), m 5 13]) 
(.seq 
(.seq 
(.region [v 14 (.load none (.t 2)), m 15 1, v 16 (.call (.f 80) [(.t 14), (.t 15)] false), v 17 (.bin .eql .any (.t 16) (.c (.int .i64 2))), m 18 17, w 19 (.load none (.t 2)) 18 true, w 20 (.nilc (.t 19)) 18 true, w 21 (.faddr 0 (.t 20)) 18 true, w 22 (.load none (.t 21)) 18 true, w 23 (.mv (.t 1)) 18 true, w 24 (.iaddr 10 (.t 22) (.t 23)) 18 true, w 25 (.faddr 1 (.t 24)) 18 true, w 26 (.load none (.t 25)) 18 true, w 27 (.bin .eql .any (.t 26) (.c (.int .i64 0))) 18 true, v 28 (.pick (.t 18) (.t 27) (.c (.bool false))), m 29 28, w 30 (.load none (.t 2)) 29 true, w 31 (.nilc (.t 30)) 29 true, w 32 (.faddr 0 (.t 31)) 29 true, w 33 (.load none (.t 32)) 29 true, w 34 (.mv (.t 1)) 29 true, w 35 (.iaddr 10 (.t 33) (.t 34)) 29 true, w 36 (.faddr 2 (.t 35)) 29 true, w 37 (.load none (.t 36)) 29 true, w 38 (.call (.f 84) [(.t 37)] false) 29 true, v 39 (.pick (.t 29) (.t 38) (.c (.bool false)))]) 
(.cond (.t 39) 
(.seq 
(.region [v 4 (.mv (.c (.lst 0 0 [])))]) .ret) .skip)) 
(.seq 
(.region [v 6 (.mv (.c (.lst 0 0 [])))]) 
(.seq 
(.region [m 40 5, m 41 1, v 42 (.call (.t 40) [(.t 41)] false), m 7 42]) 
(.seq 
(.block 0 
(.loop 
(.seq 
(.seq 
(.region [m 43 7, v 44 (.len true (.t 43)), v 45 (.bin .gtr .any (.t 44) (.c (.int .i64 0)))]) 
(.cond (.t 45) .skip (.exit 0))) 
(.block 1 
(.seq 
(.region [m 46 7, m 47 7, v 48 (.len true (.t 47)), v 49 (.bin .sub .any (.t 48) (.c (.int .i64 1))), v 50 (.iaddr 1 (.t 46) (.t 49)), v 51 (.load none (.t 50)), m 8 51]) 
(.seq 
(.region [m 52 7, m 53 7, v 54 (.len true (.t 53)), v 55 (.bin .sub .any (.t 54) (.c (.int .i64 1))), v 56 (.slice 1 (.t 52) none (some (.t 55)) none), m 7 56]) 
(.seq 
(.seq 
(.region [m 57 8, v 58 (.bin .lss .any (.t 57) (.c (.int .i64 0)))]) 
(.cond (.t 58) 
(.seq 
(.region [m 59 6, v 61 (.load none (.t 2)), v 62 (.nilc (.t 61)), v 63 (.faddr 0 (.t 62)), v 64 (.load none (.t 63)), m 65 8, v 66 (.un .xor (.t 65)), v 67 (.iaddr 10 (.t 64) (.t 66)), v 68 (.faddr 2 (.t 67)), v 69 (.load none (.t 68)), v 71 (.mks false none (.int .u8 0) 1 [(0, (.c (.int .u8 62)))]), ⟨(some 60), .append false none 1 (.t 59) (.c (.str [60, 47])), none, [((.t 68), none, 69, none), ((.t 63), none, 64, none), ((.t 2), none, 61, none)]⟩, v 70 (.append false none 1 (.t 60) (.t 69)), v 72 (.append false none 1 (.t 70) (.t 71)), m 6 72]) (.exit 1)) .skip)) 
(.seq 
(.region [m 73 6, v 74 (.load none (.t 2)), m 75 8, v 76 (.call (.f 85) [(.t 73), (.t 74), (.t 75)] false), m 6 76]) 
(.seq 
(.region [v 77 (.load none (.t 2)), m 78 8, v 79 (.call (.f 80) [(.t 77), (.t 78)] false), v 80 (.bin .eql .any (.t 79) (.c (.int .i64 2))), m 81 80, w 82 (.load none (.t 2)) 81 true, w 83 (.nilc (.t 82)) 81 true, w 84 (.faddr 0 (.t 83)) 81 true, w 85 (.load none (.t 84)) 81 true, w 86 (.mv (.t 8)) 81 true, w 87 (.iaddr 10 (.t 85) (.t 86)) 81 true, w 88 (.faddr 1 (.t 87)) 81 true, w 89 (.load none (.t 88)) 81 true, w 90 (.bin .eql .any (.t 89) (.c (.int .i64 0))) 81 true, w 91 (.mv (.t 90)) 81 true, w 92 (.load none (.t 2)) 91 true, w 93 (.nilc (.t 92)) 91 true, w 94 (.faddr 0 (.t 93)) 91 true, w 95 (.load none (.t 94)) 91 true, w 96 (.mv (.t 8)) 91 true, w 97 (.iaddr 10 (.t 95) (.t 96)) 91 true, w 98 (.faddr 2 (.t 97)) 91 true, w 99 (.load none (.t 98)) 91 true, w 100 (.call (.f 84) [(.t 99)] false) 91 true, w 101 (.pick (.t 91) (.t 100) (.c (.bool false))) 81 true, w 102 (.un .not (.t 101)) 81 true, v 103 (.pick (.t 81) (.t 102) (.c (.bool false)))]) 
(.cond (.t 103) 
(.region [m 104 7, m 105 8, v 106 (.un .xor (.t 105)), v 107 (.mks true none (.int .i64 0) 1 [(0, (.t 106))]), v 108 (.append true none 8 (.t 104) (.t 107)), m 109 5, m 110 8, v 111 (.call (.t 109) [(.t 110)] false), v 112 (.append true none 8 (.t 108) (.t 111)), m 7 112]) .skip)))))))))) 
(.seq 
(.region [m 113 6, m 4 113]) .ret)))))))),
 [.tmp 4]⟩
/-- text.Signs$1 -/
def c_text_Signs_1 : DFunc := ⟨25, 
(.seq 
(.region [v 3 (.mv (.c (.int .i64 0)))]) 
(.block 0 
(.loop 
(.seq 
(.seq 
(.region [m 6 3, v 7 (.load none (.t 1)), v 8 (.len true (.t 7)), v 9 (.bin .lss .any (.t 6) (.t 8))]) 
(.cond (.t 9) .skip (.exit 0))) 
(.block 1 
(.seq 
(.region [v 11 (.load none (.t 1)), m 12 3, v 13 (.slice 1 (.t 11) (some (.t 12)) none none), v 14 (.call (.f 67) [(.t 13)] false), m 10 14, v 15 (.extract (.t 10) 0), v 16 (.extract (.t 10) 1), m 4 15, m 5 16]) 
(.seq 
(.seq 
(.region [m 17 0, m 18 3, m 19 4, v 20 (.call (.t 17) [(.t 18), (.t 19)] false), v 21 (.un .not (.t 20))]) 
(.cond (.t 21) .ret .skip)) 
(.region [m 22 3, m 23 5, v 24 (.bin .add .any (.t 22) (.t 23)), m 3 24])))))))),
 []⟩
/-- text.one -/
def c_text_one : DFunc := ⟨72, 
(.seq 
(.region [v 2 (.mv (.c (.int .i32 0))), v 3 (.mv (.c (.int .i64 0)))]) 
(.seq 
(.seq 
(.region [m 9 0, v 10 (.iaddr 1 (.t 9) (.c (.int .i64 0))), v 11 (.load none (.t 10)), v 12 (.bin .lss .any (.t 11) (.c (.int .u8 128)))]) 
(.cond (.t 12) 
(.seq 
(.region [m 13 0, v 14 (.iaddr 1 (.t 13) (.c (.int .i64 0))), v 15 (.load none (.t 14)), v 16 (.conv (.int .i32) false (.t 15)), m 2 16, v 3 (.mv (.c (.int .i64 1)))]) .ret) .skip)) 
(.seq 
(.region [m 18 0, v 19 (.iaddr 1 (.t 18) (.c (.int .i64 0))), v 20 (.load none (.t 19)), v 21 (.call (.f 86) [(.t 20)] false), m 17 21, v 22 (.extract (.t 17) 0), v 23 (.extract (.t 17) 1), v 24 (.extract (.t 17) 2), m 4 22, m 5 23, m 6 24]) 
(.seq 
(.seq 
(.region [m 25 4, v 26 (.bin .eql .any (.t 25) (.c (.int .i64 0)))]) 
(.cond (.t 26) 
(.seq 
(.region [v 2 (.mv (.c (.int .i32 65533))), v 3 (.mv (.c (.int .i64 1)))]) .ret) .skip)) 
(.seq 
(.region [m 27 0, v 28 (.iaddr 1 (.t 27) (.c (.int .i64 0))), v 29 (.load none (.t 28)), v 30 (.conv (.int .i32) false (.t 29)), m 31 4, v 32 (.bin .shr .any (.c (.int .i32 63)) (.t 31)), v 33 (.bin .and .any (.t 30) (.t 32)), m 7 33]) 
(.seq 
(.seq 
(.region [v 8 (.mv (.c (.int .i64 1)))]) 
(.block 0 
(.loop 
(.seq 
(.seq 
(.region [m 34 8, m 35 4, v 36 (.bin .leq .any (.t 34) (.t 35))]) 
(.cond (.t 36) .skip (.exit 0))) 
(.seq 
(.block 1 
(.seq 
(.seq 
(.region [m 39 8, m 40 0, v 41 (.len true (.t 40)), v 42 (.bin .geq .any (.t 39) (.t 41)), m 43 42, w 44 (.mv (.t 0)) 43 false, w 45 (.mv (.t 8)) 43 false, w 46 (.iaddr 1 (.t 44) (.t 45)) 43 false, w 47 (.load none (.t 46)) 43 false, w 48 (.mv (.t 5)) 43 false, w 49 (.bin .lss .any (.t 47) (.t 48)) 43 false, v 50 (.pick (.t 43) (.c (.bool true)) (.t 49)), m 51 50, w 52 (.mv (.t 0)) 51 false, w 53 (.mv (.t 8)) 51 false, w 54 (.iaddr 1 (.t 52) (.t 53)) 51 false, w 55 (.load none (.t 54)) 51 false, w 56 (.mv (.t 6)) 51 false, w 57 (.bin .gtr .any (.t 55) (.t 56)) 51 false, v 58 (.pick (.t 51) (.c (.bool true)) (.t 57))]) 
(.cond (.t 58) 
(.seq 
(.region [m 59 8, v 2 (.mv (.c (.int .i32 65533))), m 3 59]) .ret) .skip)) 
(.seq 
(.region [m 60 7, v 61 (.bin .shl .any (.t 60) (.c (.int .u64 6))), m 62 0, m 63 8, v 64 (.iaddr 1 (.t 62) (.t 63)), v 65 (.load none (.t 64)), v 66 (.bin .and .any (.t 65) (.c (.int .u8 63))), v 67 (.conv (.int .i32) false (.t 66)), v 68 (.bin .or .any (.t 61) (.t 67)), m 7 68]) 
(.region [v 5 (.mv (.c (.int .u8 128))), v 6 (.mv (.c (.int .u8 191)))])))) 
(.region [m 37 8, v 38 (.bin .add .any (.t 37) (.c (.int .i64 1))), m 8 38])))))) 
(.seq 
(.region [m 69 7, m 70 4, v 71 (.bin .add .any (.t 70) (.c (.int .i64 1))), m 2 69, m 3 71]) .ret))))))),
 [.tmp 2, .tmp 3]⟩
/-- (*lex.Lexer).next -/
def c_lex_Lexer_next : DFunc := ⟨14, 
(.seq 
(.region [v 2 (.mv (.c (.int .i32 0)))]) 
(.seq 
(.region [m 4 0, v 5 (.call (.f 75) [(.t 4), (.c (.int .i64 0))] false), m 3 5]) 
(.seq 
(.region [m 6 0, v 7 (.nilc (.t 6)), v 8 (.faddr 1 (.t 7)), v 9 (.load none (.t 8)), v 10 (.bin .add .any (.t 9) (.c (.int .i64 1))), v 11 (.nilc (.t 6)), v 12 (.faddr 1 (.t 11)), u (.store 1 (.t 12) (.t 10))]) 
(.seq 
(.region [m 13 3, m 2 13]) .ret)))),
 [.tmp 2]⟩
/-- (*lex.Lexer).flush -/
def c_lex_Lexer_flush : DFunc := ⟨27, 
(.seq 
(.region [m 2 0, v 3 (.nilc (.t 2)), v 4 (.faddr 6 (.t 3)), v 5 (.load none (.t 4)), v 6 (.len true (.t 5)), v 7 (.bin .gtr .any (.t 6) (.c (.int .i64 0)))]) 
(.cond (.t 7) 
(.seq 
(.region [m 8 0, m 9 0, v 10 (.nilc (.t 9)), v 11 (.faddr 5 (.t 10)), v 12 (.load none (.t 11)), m 13 0, v 14 (.nilc (.t 13)), v 15 (.faddr 6 (.t 14)), v 16 (.load none (.t 15)), ⟨(some 17), .call (.f 17) [(.t 16)] false, none, [((.t 11), none, 12, none)]⟩, v 18 (.conv .bytesStr false (.t 17)), v 19 (.build [(.int .i64 0), (.str []), (.lst 0 0 []), (.bool false), (.str []), (.str []), (.str []), (.bool false), (.bool false), (.bool false)] [(0, 1, (.c (.int .i64 1))), (4, 1, (.t 18))]), v 20 (.mks false (some 10) (.agg [(.int .i64 0), (.str []), (.lst 0 0 []), (.bool false), (.str []), (.str []), (.str []), (.bool false), (.bool false), (.bool false)]) 1 [(0, (.t 19))]), v 21 (.append false (some 10) 112 (.t 12) (.t 20)), v 22 (.nilc (.t 8)), v 23 (.faddr 5 (.t 22)), u (.store 1 (.t 23) (.t 21))]) 
(.region [m 24 0, v 25 (.nilc (.t 24)), v 26 (.faddr 6 (.t 25)), u (.store 1 (.t 26) (.c (.lst 0 0 [])))])) .skip)),
 []⟩
/-- (*lex.Lexer).reference -/
def c_lex_Lexer_reference : DFunc := ⟨135, 
(.seq 
(.region [m 13 0, v 14 (.nilc (.t 13)), v 15 (.faddr 0 (.t 14)), v 16 (.load none (.t 15)), m 17 0, v 18 (.nilc (.t 17)), v 19 (.faddr 1 (.t 18)), v 20 (.load none (.t 19)), m 21 0, v 22 (.nilc (.t 21)), v 23 (.faddr 0 (.t 22)), v 24 (.load none (.t 23)), v 25 (.len true (.t 24)), v 26 (.minmax false (.t 20) (.t 25)), v 27 (.slice 1 (.t 16) (some (.t 26)) none none), m 4 27]) 
(.seq 
(.seq 
(.region [m 28 4, v 29 (.len true (.t 28)), v 30 (.bin .gtr .any (.t 29) (.c (.int .i64 0))), m 31 30, w 32 (.mv (.t 4)) 31 true, w 33 (.iaddr 1 (.t 32) (.c (.int .i64 0))) 31 true, w 34 (.load none (.t 33)) 31 true, w 35 (.bin .eql .any (.t 34) (.c (.int .i32 35))) 31 true, v 36 (.pick (.t 31) (.t 35) (.c (.bool false)))]) 
(.cond (.t 36) 
(.seq 
(.region [v 5 (.mv (.c (.int .i64 1))), v 6 (.mv (.c (.int .i64 10)))]) 
(.seq 
(.seq 
(.region [m 37 4, v 38 (.len true (.t 37)), v 39 (.bin .gtr .any (.t 38) (.c (.int .i64 1))), m 40 39, w 41 (.mv (.t 4)) 40 true, w 42 (.iaddr 1 (.t 41) (.c (.int .i64 1))) 40 true, w 43 (.load none (.t 42)) 40 true, w 44 (.bin .eql .any (.t 43) (.c (.int .i32 120))) 40 true, w 45 (.mv (.t 44)) 40 true, w 46 (.mv (.t 4)) 45 false, w 47 (.iaddr 1 (.t 46) (.c (.int .i64 1))) 45 false, w 48 (.load none (.t 47)) 45 false, w 49 (.bin .eql .any (.t 48) (.c (.int .i32 88))) 45 false, w 50 (.pick (.t 45) (.c (.bool true)) (.t 49)) 40 true, v 51 (.pick (.t 40) (.t 50) (.c (.bool false)))]) 
(.cond (.t 51) 
(.region [v 5 (.mv (.c (.int .i64 2))), v 6 (.mv (.c (.int .i64 16)))]) .skip)) 
(.seq 
(.region [m 53 4, m 54 5, v 55 (.slice 1 (.t 53) (some (.t 54)) none none), m 56 6, v 57 (.call (.f 87) [(.t 55), (.t 56)] false), m 52 57, v 58 (.extract (.t 52) 0), v 59 (.extract (.t 52) 1), m 7 58, m 8 59]) 
(.seq 
(.seq 
(.region [m 60 8, v 61 (.bin .eql .any (.t 60) (.c (.int .i64 0)))]) 
(.cond (.t 61) 
(.seq 
(.region [m 62 0, v 63 (.mks false none (.int .i32 0) 1 [(0, (.c (.int .i32 38)))]), v 64 (.call (.f 74) [(.t 62), (.t 63)] false)]) .ret) .skip)) 
(.seq 
(.region [m 65 0, v 66 (.nilc (.t 65)), v 67 (.faddr 1 (.t 66)), v 68 (.load none (.t 67)), m 69 5, m 70 8, v 71 (.bin .add .any (.t 69) (.t 70)), v 72 (.bin .add .any (.t 68) (.t 71)), v 73 (.nilc (.t 65)), v 74 (.faddr 1 (.t 73)), u (.store 1 (.t 74) (.t 72))]) 
(.seq 
(.seq 
(.region [m 75 0, v 76 (.call (.f 75) [(.t 75), (.c (.int .i64 0))] false), v 77 (.bin .eql .any (.t 76) (.c (.int .i32 59)))]) 
(.cond (.t 77) 
(.region [m 78 0, v 79 (.call (.f 68) [(.t 78)] false)]) .skip)) 
(.seq 
(.region [m 80 0, m 81 7, v 82 (.call (.f 20) [(.t 81)] false), v 83 (.mks false none (.int .i32 0) 1 [(0, (.t 82))]), v 84 (.call (.f 74) [(.t 80), (.t 83)] false)]) .ret))))))) .skip)) 
(.seq 
(.region [m 86 4, v 87 (.call (.f 16) [(.t 86)] false), m 85 87, v 88 (.extract (.t 85) 0), v 89 (.extract (.t 85) 1), v 90 (.extract (.t 85) 2), m 9 88, m 10 89, m 11 90]) 
(.seq 
(.seq 
(.region [m 91 10, v 92 (.bin .eql .any (.t 91) (.c (.int .i64 0)))]) 
(.cond (.t 92) 
(.seq 
(.region [m 93 0, v 94 (.mks false none (.int .i32 0) 1 [(0, (.c (.int .i32 38)))]), v 95 (.call (.f 74) [(.t 93), (.t 94)] false)]) .ret) .skip)) 
(.seq 
(.seq 
(.region [m 96 1, m 97 96, w 98 (.mv (.t 11)) 97 true, w 99 (.un .not (.t 98)) 97 true, v 100 (.pick (.t 97) (.t 99) (.c (.bool false))), m 101 100, w 102 (.mv (.t 10)) 101 true, w 103 (.mv (.t 4)) 101 true, w 104 (.len true (.t 103)) 101 true, w 105 (.bin .lss .any (.t 102) (.t 104)) 101 true, v 106 (.pick (.t 101) (.t 105) (.c (.bool false)))]) 
(.cond (.t 106) 
(.seq 
(.region [m 107 4, m 108 10, v 109 (.iaddr 1 (.t 107) (.t 108)), v 110 (.load none (.t 109)), m 12 110]) 
(.seq 
(.region [m 111 12, v 112 (.bin .eql .any (.t 111) (.c (.int .i32 61))), m 113 112, w 114 (.mv (.t 12)) 113 false, w 115 (.call (.f 18) [(.t 114)] false) 113 false, v 116 (.pick (.t 113) (.c (.bool true)) (.t 115)), m 117 116, w 118 (.mv (.t 12)) 117 false, w 119 (.call (.f 19) [(.t 118)] false) 117 false, v 120 (.pick (.t 117) (.c (.bool true)) (.t 119))]) 
(.cond (.t 120) 
(.seq 
(.region [m 121 0, v 122 (.mks false none (.int .i32 0) 1 [(0, (.c (.int .i32 38)))]), v 123 (.call (.f 74) [(.t 121), (.t 122)] false)]) .ret) .skip))) .skip)) 
(.seq 
(.region [m 124 0, v 125 (.nilc (.t 124)), v 126 (.faddr 1 (.t 125)), v 127 (.load none (.t 126)), m 128 10, v 129 (.bin .add .any (.t 127) (.t 128)), v 130 (.nilc (.t 124)), v 131 (.faddr 1 (.t 130)), u (.store 1 (.t 131) (.t 129))]) 
(.region [m 132 0, m 133 9, v 134 (.call (.f 74) [(.t 132), (.t 133)] false)]))))))),
 []⟩
/-- (*lex.Lexer).open -/
def c_lex_Lexer_open : DFunc := ⟨34, 
(.seq 
(.region [m 3 0, v 4 (.call (.f 68) [(.t 3)] false), m 2 4]) 
(.block 0 
(.seq 
(.region [m 11 2, v 12 (.bin .eql .any (.t 11) (.c (.int .i32 33))), m 10 12]) 
(.cond (.t 10) 
(.region [m 13 0, v 14 (.call (.f 88) [(.t 13)] false)]) 
(.seq 
(.region [m 16 2, v 17 (.bin .eql .any (.t 16) (.c (.int .i32 47))), m 15 17]) 
(.cond (.t 15) 
(.region [m 18 0, v 19 (.call (.f 89) [(.t 18)] false)]) 
(.seq 
(.region [m 21 2, v 22 (.call (.f 18) [(.t 21)] false), m 20 22]) 
(.cond (.t 20) 
(.seq 
(.region [m 23 0, v 24 (.call (.f 90) [(.t 23)] false)]) 
(.region [m 25 0, v 26 (.call (.f 91) [(.t 25), (.c (.int .i64 2))] false)])) 
(.seq 
(.region [m 28 2, v 29 (.bin .eql .any (.t 28) (.c (.int .i32 63))), m 27 29]) 
(.cond (.t 27) 
(.seq 
(.region [m 30 0, v 31 (.call (.f 90) [(.t 30)] false)]) 
(.region [m 32 0, v 33 (.call (.f 92) [(.t 32)] false)])) 
(.seq 
(.region [m 5 0, v 6 (.call (.f 90) [(.t 5)] false)]) 
(.region [m 7 0, v 8 (.mks false none (.int .i32 0) 1 [(0, (.c (.int .i32 60)))]), v 9 (.call (.f 74) [(.t 7), (.t 8)] false)])))))))))))),
 []⟩
/-- (*lex.Lexer).close -/
def c_lex_Lexer_close : DFunc := ⟨21, 
(.seq 
(.region [v 2 (.mv (.c (.bool false)))]) 
(.seq 
(.seq 
(.region [m 3 0, v 4 (.call (.f 93) [(.t 3)] false), v 5 (.bin .eql .any (.t 4) (.c (.int .i64 0)))]) 
(.cond (.t 5) 
(.seq 
(.region [m 6 0, v 7 (.mks false none (.int .i32 0) 1 [(0, (.c (.int .i32 60)))]), v 8 (.call (.f 74) [(.t 6), (.t 7)] false)]) 
(.seq 
(.region [v 2 (.mv (.c (.bool false)))]) .ret)) .skip)) 
(.seq 
(.region [m 9 0, v 10 (.nilc (.t 9)), v 11 (.faddr 1 (.t 10)), v 12 (.load none (.t 11)), v 13 (.bin .add .any (.t 12) (.c (.int .i64 1))), v 14 (.nilc (.t 9)), v 15 (.faddr 1 (.t 14)), u (.store 1 (.t 15) (.t 13))]) 
(.seq 
(.region [m 16 0, v 17 (.nilc (.t 16)), v 18 (.faddr 2 (.t 17)), u (.store 1 (.t 18) (.c (.int .i64 0)))]) 
(.seq 
(.region [m 19 0, v 20 (.call (.f 91) [(.t 19), (.c (.int .i64 3))] false)]) 
(.seq 
(.region [v 2 (.mv (.c (.bool true)))]) .ret)))))),
 [.tmp 2]⟩
/-- (*lex.Lexer).script -/
def c_lex_Lexer_script : DFunc := ⟨109, 
(.seq 
(.seq 
(.region [m 7 0, v 8 (.call (.f 94) [(.t 7), (.c (.str [33, 45, 45]))] false), v 9 (.un .not (.t 8))]) 
(.cond (.t 9) 
(.seq 
(.region [m 10 0, v 11 (.call (.f 72) [(.t 10)] false)]) .ret) .skip)) 
(.seq 
(.region [m 12 0, v 13 (.mks false none (.int .i32 0) 4 [(0, (.c (.int .i32 60))), (1, (.c (.int .i32 33))), (2, (.c (.int .i32 45))), (3, (.c (.int .i32 45)))]), v 14 (.call (.f 74) [(.t 12), (.t 13)] false)]) 
(.seq 
(.region [m 15 0, v 16 (.nilc (.t 15)), v 17 (.faddr 1 (.t 16)), v 18 (.load none (.t 17)), v 19 (.bin .add .any (.t 18) (.c (.int .i64 3))), v 20 (.nilc (.t 15)), v 21 (.faddr 1 (.t 20)), u (.store 1 (.t 21) (.t 19))]) 
(.seq 
(.region [v 2 (.mv (.c (.int .i64 2))), v 3 (.mv (.c (.bool false)))]) 
(.block 0 
(.loop 
(.block 1 
(.seq 
(.region [m 22 0, v 23 (.call (.f 68) [(.t 22)] false), m 4 23]) 
(.seq 
(.block 2 
(.seq 
(.region [m 29 4, v 30 (.bin .eql .any (.t 29) (.c (.int .i32 (-1)))), m 28 30]) 
(.cond (.t 28) 
(.seq 
(.region [m 31 0, v 32 (.call (.f 90) [(.t 31)] false)]) .ret) 
(.seq 
(.region [m 34 4, v 35 (.bin .eql .any (.t 34) (.c (.int .i32 45))), m 33 35]) 
(.cond (.t 33) 
(.seq 
(.region [m 36 0, m 37 4, v 38 (.mks false none (.int .i32 0) 1 [(0, (.t 37))]), v 39 (.call (.f 74) [(.t 36), (.t 38)] false)]) 
(.seq 
(.region [m 40 2, v 41 (.bin .add .any (.t 40) (.c (.int .i64 1))), m 2 41]) (.exit 1))) 
(.seq 
(.region [m 43 4, v 44 (.bin .eql .any (.t 43) (.c (.int .i32 62))), m 45 44, w 46 (.mv (.t 2)) 45 true, w 47 (.bin .geq .any (.t 46) (.c (.int .i64 2))) 45 true, v 48 (.pick (.t 45) (.t 47) (.c (.bool false))), m 42 48]) 
(.cond (.t 42) 
(.seq 
(.region [m 49 0, m 50 4, v 51 (.mks false none (.int .i32 0) 1 [(0, (.t 50))]), v 52 (.call (.f 74) [(.t 49), (.t 51)] false)]) .ret) 
(.seq 
(.region [m 54 4, v 55 (.bin .eql .any (.t 54) (.c (.int .i32 60))), m 56 55, w 57 (.mv (.t 3)) 56 true, w 58 (.un .not (.t 57)) 56 true, v 59 (.pick (.t 56) (.t 58) (.c (.bool false))), m 53 59]) 
(.cond (.t 53) 
(.seq 
(.seq 
(.region [m 60 0, v 61 (.call (.f 93) [(.t 60)] false), v 62 (.bin .gtr .any (.t 61) (.c (.int .i64 0)))]) 
(.cond (.t 62) 
(.seq 
(.region [m 63 0, v 64 (.call (.f 69) [(.t 63)] false)]) 
(.seq 
(.region [m 65 0, v 66 (.call (.f 72) [(.t 65)] false)]) .ret)) .skip)) 
(.seq 
(.region [m 67 0, m 68 4, v 69 (.mks false none (.int .i32 0) 1 [(0, (.t 68))]), v 70 (.call (.f 74) [(.t 67), (.t 69)] false)]) 
(.seq 
(.region [m 71 0, v 72 (.call (.f 95) [(.t 71)] false), m 5 72]) 
(.seq 
(.region [m 73 5, v 74 (.bin .gtr .any (.t 73) (.c (.int .i64 0)))]) 
(.cond (.t 74) 
(.seq 
(.region [v 3 (.mv (.c (.bool true)))]) 
(.region [m 75 0, m 76 5, v 77 (.call (.f 96) [(.t 75), (.t 76)] false)])) .skip))))) 
(.seq 
(.region [m 79 4, v 80 (.bin .eql .any (.t 79) (.c (.int .i32 60))), m 81 80, w 82 (.mv (.t 3)) 81 true, v 83 (.pick (.t 81) (.t 82) (.c (.bool false))), m 78 83]) 
(.cond (.t 78) 
(.seq 
(.region [m 84 0, m 85 4, v 86 (.mks false none (.int .i32 0) 1 [(0, (.t 85))]), v 87 (.call (.f 74) [(.t 84), (.t 86)] false)]) 
(.seq 
(.region [m 88 0, v 89 (.call (.f 75) [(.t 88), (.c (.int .i64 0))] false), v 90 (.bin .eql .any (.t 89) (.c (.int .i32 47)))]) 
(.cond (.t 90) 
(.seq 
(.region [m 91 0, m 92 0, v 93 (.call (.f 68) [(.t 92)] false), v 94 (.mks false none (.int .i32 0) 1 [(0, (.t 93))]), v 95 (.call (.f 74) [(.t 91), (.t 94)] false)]) 
(.seq 
(.region [m 96 0, v 97 (.call (.f 95) [(.t 96)] false), m 6 97]) 
(.seq 
(.region [m 98 6, v 99 (.bin .gtr .any (.t 98) (.c (.int .i64 0)))]) 
(.cond (.t 99) 
(.seq 
(.region [v 3 (.mv (.c (.bool false)))]) 
(.region [m 100 0, m 101 6, v 102 (.call (.f 96) [(.t 100), (.t 101)] false)])) .skip)))) .skip))) 
(.seq 
(.region [m 104 4, v 105 (.bin .eql .any (.t 104) (.c (.int .i32 0))), m 103 105]) 
(.cond (.t 103) 
(.region [m 106 0, v 107 (.mks false none (.int .i32 0) 1 [(0, (.c (.int .i32 65533)))]), v 108 (.call (.f 74) [(.t 106), (.t 107)] false)]) 
(.region [m 24 0, m 25 4, v 26 (.mks false none (.int .i32 0) 1 [(0, (.t 25))]), v 27 (.call (.f 74) [(.t 24), (.t 26)] false)])))))))))))))) 
(.region [v 2 (.mv (.c (.int .i64 0)))])))))))))),
 []⟩
/-- (*lex.Lexer).say -/
def c_lex_Lexer_say : DFunc := ⟨25, 
(.seq 
(.region [m 6 1, v 7 (.len true (.t 6)), v 8 (.mv (.c (.int .i64 0)))]) 
(.block 0 
(.loop 
(.seq 
(.region [v 9 (.bin .lss .any (.t 8) (.t 7))]) 
(.seq 
(.cond (.t 9) .skip (.exit 0)) 
(.seq 
(.block 1 
(.seq 
(.region [v 10 (.iaddr 1 (.t 6) (.t 8)), v 11 (.load none (.t 10)), m 5 11]) 
(.seq 
(.region [m 12 5, v 13 (.bin .neq .any (.t 12) (.c (.int .i32 (-1))))]) 
(.cond (.t 13) 
(.region [m 14 0, m 15 0, v 16 (.nilc (.t 15)), v 17 (.faddr 6 (.t 16)), v 18 (.load none (.t 17)), m 19 5, v 20 (.mks false none (.int .i32 0) 1 [(0, (.t 19))]), v 21 (.append false none 4 (.t 18) (.t 20)), v 22 (.nilc (.t 14)), v 23 (.faddr 6 (.t 22)), u (.store 1 (.t 23) (.t 21))]) .skip)))) 
(.region [v 24 (.bin .add .any (.t 8) (.c (.int .i64 1))), m 8 24]))))))),
 []⟩
/-- (*lex.Lexer).peek -/
def c_lex_Lexer_peek : DFunc := ⟨29, 
(.seq 
(.region [v 4 (.mv (.c (.int .i32 0)))]) 
(.seq 
(.seq 
(.region [m 5 0, v 6 (.nilc (.t 5)), v 7 (.faddr 1 (.t 6)), v 8 (.load none (.t 7)), m 9 1, v 10 (.bin .add .any (.t 8) (.t 9)), m 11 0, v 12 (.nilc (.t 11)), v 13 (.faddr 0 (.t 12)), v 14 (.load none (.t 13)), v 15 (.len true (.t 14)), v 16 (.bin .geq .any (.t 10) (.t 15))]) 
(.cond (.t 16) 
(.seq 
(.region [v 4 (.mv (.c (.int .i32 (-1))))]) .ret) .skip)) 
(.seq 
(.region [m 17 0, v 18 (.nilc (.t 17)), v 19 (.faddr 0 (.t 18)), v 20 (.load none (.t 19)), m 21 0, v 22 (.nilc (.t 21)), v 23 (.faddr 1 (.t 22)), v 24 (.load none (.t 23)), m 25 1, v 26 (.bin .add .any (.t 24) (.t 25)), v 27 (.iaddr 1 (.t 20) (.t 26)), v 28 (.load none (.t 27)), m 4 28]) .ret))),
 [.tmp 4]⟩
/-- slices.IndexFunc[[]token.Attr,token.Attr] -/
def c_slices_IndexFunc_token_Attr_token_Attr : DFunc := ⟨19, 
(.seq 
(.region [v 4 (.mv (.c (.int .i64 0)))]) 
(.seq 
(.seq 
(.region [m 6 0, v 7 (.len true (.t 6)), v 8 (.mv (.c (.int .i64 0)))]) 
(.block 0 
(.loop 
(.seq 
(.region [v 9 (.bin .lss .any (.t 8) (.t 7))]) 
(.seq 
(.cond (.t 9) .skip (.exit 0)) 
(.seq 
(.block 1 
(.seq 
(.region [m 10 8, m 5 10]) 
(.seq 
(.region [m 11 1, m 12 0, m 13 5, v 14 (.iaddr 2 (.t 12) (.t 13)), v 15 (.load (some 2) (.t 14)), v 16 (.call (.t 11) [(.t 15)] false)]) 
(.cond (.t 16) 
(.seq 
(.region [m 17 5, m 4 17]) .ret) .skip)))) 
(.region [v 18 (.bin .add .any (.t 8) (.c (.int .i64 1))), m 8 18]))))))) 
(.seq 
(.region [v 4 (.mv (.c (.int .i64 (-1))))]) .ret))),
 [.tmp 4]⟩
/-- slices.Delete[[]int,int] -/
def c_slices_Delete_int_int : DFunc := ⟨33, 
(.seq 
(.region [v 6 (.mv (.c (.lst 0 0 [])))]) 
(.seq 
(.region [m 8 0, m 9 1, m 10 2, m 11 0, v 12 (.len true (.t 11)), v 13 (.slice 1 (.t 8) (some (.t 9)) (some (.t 10)) (some (.t 12)))]) 
(.seq 
(.seq 
(.region [m 14 1, m 15 2, v 16 (.bin .eql .any (.t 14) (.t 15))]) 
(.cond (.t 16) 
(.seq 
(.region [m 17 0, m 6 17]) .ret) .skip)) 
(.seq 
(.region [m 18 0, v 19 (.len true (.t 18)), m 7 19]) 
(.seq 
(.region [m 20 0, m 21 1, v 22 (.slice 1 (.t 20) none (some (.t 21)) none), m 23 0, m 24 2, v 25 (.slice 1 (.t 23) (some (.t 24)) none none), v 26 (.append true none 8 (.t 22) (.t 25)), m 0 26]) 
(.seq 
(.region [m 27 0, m 28 0, v 29 (.len true (.t 28)), m 30 7, v 31 (.slice 1 (.t 27) (some (.t 29)) (some (.t 30)) none), u (.clear [(.int .i64 0)] (.t 31))]) 
(.seq 
(.region [m 32 0, m 6 32]) .ret))))))),
 [.tmp 6]⟩
/-- slices.rotateRight[int] -/
def c_slices_rotateRight_int : DFunc := ⟨10, 
(.region [m 4 0, m 5 0, v 6 (.len true (.t 5)), m 7 1, v 8 (.bin .sub .any (.t 6) (.t 7)), v 9 (.call (.f 97) [(.t 4), (.t 8)] false)]),
 []⟩
/-- (*dom.Doc).Kind -/
def c_dom_Doc_Kind : DFunc := ⟨17, 
(.seq 
(.region [v 4 (.mv (.c (.int .i64 0)))]) 
(.seq 
(.seq 
(.region [m 5 0, m 6 1, v 7 (.call (.f 60) [(.t 5), (.t 6)] false), v 8 (.un .not (.t 7))]) 
(.cond (.t 8) 
(.seq 
(.region [v 4 (.mv (.c (.int .i64 0)))]) .ret) .skip)) 
(.seq 
(.region [m 9 0, v 10 (.nilc (.t 9)), v 11 (.faddr 0 (.t 10)), v 12 (.load none (.t 11)), m 13 1, v 14 (.iaddr 10 (.t 12) (.t 13)), v 15 (.faddr 0 (.t 14)), v 16 (.load none (.t 15)), m 4 16]) .ret))),
 [.tmp 4]⟩
/-- ser.Inner$1 -/
def c_ser_Inner_1 : DFunc := ⟨23, 
(.seq 
(.region [v 3 (.mv (.c (.lst 0 0 [])))]) 
(.seq 
(.seq 
(.region [v 6 (.load none (.t 1)), v 7 (.nilc (.t 6)), v 8 (.faddr 0 (.t 7)), v 9 (.load none (.t 8)), m 10 0, v 11 (.iaddr 10 (.t 9) (.t 10)), v 12 (.faddr 9 (.t 11)), v 13 (.load none (.t 12)), m 4 13]) 
(.seq 
(.region [m 14 4, v 15 (.bin .neq .any (.t 14) (.c (.int .i64 (-1))))]) 
(.cond (.t 15) 
(.region [m 16 4, m 0 16]) .skip))) 
(.seq 
(.region [v 17 (.load none (.t 1)), m 18 0, v 19 (.call (.f 82) [(.t 17), (.t 18)] false), m 5 19]) 
(.seq 
(.region [m 20 5, v 21 (.call (.f 83) [(.t 20)] false)]) 
(.seq 
(.region [m 22 5, m 3 22]) .ret))))),
 [.tmp 3]⟩
/-- (*dom.Doc).Kids -/
def c_dom_Doc_Kids : DFunc := ⟨18, 
(.seq 
(.region [v 4 (.mv (.c (.lst 0 0 [])))]) 
(.seq 
(.seq 
(.region [m 5 0, m 6 1, v 7 (.call (.f 60) [(.t 5), (.t 6)] false), v 8 (.un .not (.t 7))]) 
(.cond (.t 8) 
(.seq 
(.region [v 4 (.mv (.c (.lst 0 0 [])))]) .ret) .skip)) 
(.seq 
(.region [m 9 0, v 10 (.nilc (.t 9)), v 11 (.faddr 0 (.t 10)), v 12 (.load none (.t 11)), m 13 1, v 14 (.iaddr 10 (.t 12) (.t 13)), v 15 (.faddr 8 (.t 14)), v 16 (.load none (.t 15)), v 17 (.call (.f 98) [(.t 16)] false), m 4 17]) .ret))),
 [.tmp 4]⟩
/-- slices.Reverse[[]int,int] -/
def c_slices_Reverse_int_int : DFunc := ⟨28, 
(.seq 
(.region [m 4 0, v 5 (.len true (.t 4)), v 6 (.bin .sub .any (.t 5) (.c (.int .i64 1))), v 2 (.mv (.c (.int .i64 0))), m 3 6]) 
(.block 0 
(.loop 
(.seq 
(.seq 
(.region [m 7 2, m 8 3, v 9 (.bin .lss .any (.t 7) (.t 8))]) 
(.cond (.t 9) .skip (.exit 0))) 
(.seq 
(.block 1 
(.region [m 14 0, m 15 2, m 16 0, m 17 3, m 18 0, m 19 3, v 20 (.iaddr 1 (.t 18) (.t 19)), v 21 (.load none (.t 20)), m 22 0, m 23 2, v 24 (.iaddr 1 (.t 22) (.t 23)), v 25 (.load none (.t 24)), v 26 (.iaddr 1 (.t 14) (.t 15)), u (.store 1 (.t 26) (.t 21)), v 27 (.iaddr 1 (.t 16) (.t 17)), u (.store 1 (.t 27) (.t 25))])) 
(.region [m 10 2, v 11 (.bin .add .any (.t 10) (.c (.int .i64 1))), m 12 3, v 13 (.bin .sub .any (.t 12) (.c (.int .i64 1))), m 2 11, m 3 13])))))),
 []⟩
/-- ser.Void -/
def c_ser_Void : DFunc := ⟨6, 
(.seq 
(.region [v 2 (.mv (.c (.bool false)))]) 
(.seq 
(.region [v 3 (.load none (.g 1)), m 4 0, v 5 (.call (.f 43) [(.t 3), (.t 4)] false), m 2 5]) .ret)),
 [.tmp 2]⟩
/-- ser.begin -/
def c_ser_begin : DFunc := ⟨108, 
(.seq 
(.region [v 6 (.mv (.c (.lst 0 0 [])))]) 
(.seq 
(.region [m 11 1, v 12 (.nilc (.t 11)), v 13 (.faddr 0 (.t 12)), v 14 (.load none (.t 13)), m 15 2, v 16 (.iaddr 10 (.t 14) (.t 15)), v 17 (.load (some 10) (.t 16)), v 7 (.alloc [(.int .i64 0), (.int .i64 0), (.str []), (.str []), (.lst 0 0 []), (.str []), (.str []), (.int .i64 0), (.lst 0 0 []), (.int .i64 0)] none), u (.store 10 (.t 7) (.t 17))]) 
(.seq 
(.seq 
(.region [v 18 (.faddr 0 (.t 7)), v 19 (.load none (.t 18))]) 
(.block 0 
(.seq 
(.region [v 21 (.bin .eql .any (.t 19) (.c (.int .i64 2))), m 20 21]) 
(.cond (.t 20) 
(.seq 
(.region [m 22 0, v 23 (.mks false none (.int .u8 0) 1 [(0, (.c (.int .u8 60)))]), v 25 (.faddr 2 (.t 7)), v 26 (.load none (.t 25)), ⟨(some 24), .append false none 1 (.t 22) (.t 23), none, [((.t 25), none, 26, none)]⟩, v 27 (.append false none 1 (.t 24) (.t 26)), m 0 27]) 
(.seq 
(.seq 
(.region [v 28 (.faddr 4 (.t 7)), v 29 (.load none (.t 28)), v 30 (.len true (.t 29)), v 31 (.mv (.c (.int .i64 0)))]) 
(.block 1 
(.loop 
(.seq 
(.region [v 32 (.bin .lss .any (.t 31) (.t 30))]) 
(.seq 
(.cond (.t 32) .skip (.exit 1)) 
(.seq 
(.block 2 
(.seq 
(.region [v 33 (.iaddr 2 (.t 29) (.t 31)), v 34 (.load (some 2) (.t 33)), v 9 (.alloc [(.str []), (.str [])] none), u (.store 2 (.t 9) (.t 34))]) 
(.seq 
(.region [m 35 0, v 36 (.mks false none (.int .u8 0) 1 [(0, (.c (.int .u8 32)))]), v 38 (.faddr 0 (.t 9)), v 39 (.load none (.t 38)), ⟨(some 37), .append false none 1 (.t 35) (.t 36), none, [((.t 38), none, 39, none)]⟩, v 40 (.append false none 1 (.t 37) (.t 39)), m 0 40]) 
(.region [m 41 0, v 43 (.faddr 1 (.t 9)), v 44 (.load none (.t 43)), v 46 (.mks false none (.int .u8 0) 1 [(0, (.c (.int .u8 34)))]), ⟨(some 42), .append false none 1 (.t 41) (.c (.str [61, 34])), none, [((.t 43), none, 44, none)]⟩, v 45 (.call (.f 52) [(.t 42), (.t 44), (.c (.bool true))] false), v 47 (.append false none 1 (.t 45) (.t 46)), m 0 47])))) 
(.region [v 48 (.bin .add .any (.t 31) (.c (.int .i64 1))), m 31 48]))))))) 
(.region [m 49 0, v 50 (.mks false none (.int .u8 0) 1 [(0, (.c (.int .u8 62)))]), v 51 (.append false none 1 (.t 49) (.t 50)), m 0 51]))) 
(.seq 
(.region [v 53 (.bin .eql .any (.t 19) (.c (.int .i64 3))), m 52 53]) 
(.cond (.t 52) 
(.seq 
(.region [v 54 (.faddr 7 (.t 7)), v 55 (.load none (.t 54)), m 10 55]) 
(.seq 
(.region [m 56 1, m 57 10, v 58 (.call (.f 80) [(.t 56), (.t 57)] false), v 59 (.bin .eql .any (.t 58) (.c (.int .i64 2))), m 60 59, w 61 (.mv (.t 1)) 60 true, w 62 (.nilc (.t 61)) 60 true, w 63 (.faddr 0 (.t 62)) 60 true, w 64 (.load none (.t 63)) 60 true, w 65 (.mv (.t 10)) 60 true, w 66 (.iaddr 10 (.t 64) (.t 65)) 60 true, w 67 (.faddr 1 (.t 66)) 60 true, w 68 (.load none (.t 67)) 60 true, w 69 (.bin .eql .any (.t 68) (.c (.int .i64 0))) 60 true, v 70 (.pick (.t 60) (.t 69) (.c (.bool false))), m 71 70, w 72 (.mv (.t 1)) 71 true, w 73 (.nilc (.t 72)) 71 true, w 74 (.faddr 0 (.t 73)) 71 true, w 75 (.load none (.t 74)) 71 true, w 76 (.mv (.t 10)) 71 true, w 77 (.iaddr 10 (.t 75) (.t 76)) 71 true, w 78 (.faddr 2 (.t 77)) 71 true, w 79 (.load none (.t 78)) 71 true, w 80 (.call (.f 99) [(.t 79)] false) 71 true, v 81 (.pick (.t 71) (.t 80) (.c (.bool false)))]) 
(.cond (.t 81) 
(.region [m 82 0, v 83 (.faddr 3 (.t 7)), v 84 (.load none (.t 83)), v 85 (.append false none 1 (.t 82) (.t 84)), m 0 85]) 
(.region [m 86 0, v 87 (.faddr 3 (.t 7)), v 88 (.load none (.t 87)), v 89 (.call (.f 52) [(.t 86), (.t 88), (.c (.bool false))] false), m 0 89])))) 
(.seq 
(.region [v 91 (.bin .eql .any (.t 19) (.c (.int .i64 4))), m 90 91]) 
(.cond (.t 90) 
(.region [m 92 0, v 94 (.faddr 3 (.t 7)), v 95 (.load none (.t 94)), ⟨(some 93), .append false none 1 (.t 92) (.c (.str [60, 33, 45, 45])), none, [((.t 94), none, 95, none)]⟩, v 96 (.append false none 1 (.t 93) (.t 95)), v 97 (.append false none 1 (.t 96) (.c (.str [45, 45, 62]))), m 0 97]) 
(.seq 
(.region [v 99 (.bin .eql .any (.t 19) (.c (.int .i64 5))), m 98 99]) 
(.cond (.t 98) 
(.region [m 100 0, v 102 (.faddr 2 (.t 7)), v 103 (.load none (.t 102)), v 105 (.mks false none (.int .u8 0) 1 [(0, (.c (.int .u8 62)))]), ⟨(some 101), .append false none 1 (.t 100) (.c (.str [60, 33, 68, 79, 67, 84, 89, 80, 69, 32])), none, [((.t 102), none, 103, none)]⟩, v 104 (.append false none 1 (.t 101) (.t 103)), v 106 (.append false none 1 (.t 104) (.t 105)), m 0 106]) .skip)))))))))) 
(.seq 
(.region [m 107 0, m 6 107]) .ret)))),
 [.tmp 6]⟩
theorem ok_dom_Doc_Put : compF Tryd.prog cfg3 49 = some c_dom_Doc_Put := by kernel_rfl
theorem ok_dom_Doc_Say : compF Tryd.prog cfg3 50 = some c_dom_Doc_Say := by kernel_rfl
theorem ok_ser_Page : compF Tryd.prog cfg3 51 = some c_ser_Page := by kernel_rfl
theorem ok_ser_escape : compF Tryd.prog cfg3 52 = some c_ser_escape := by kernel_rfl
theorem ok_slices_AppendSeq_token_Token_token_Token : compF Tryd.prog cfg3 53 = some c_slices_AppendSeq_token_Token_token_Token := by kernel_rfl
theorem ok_text_Signs : compF Tryd.prog cfg3 54 = some c_text_Signs := by kernel_rfl
theorem ok_lex_Lexer_step : compF Tryd.prog cfg3 55 = some c_lex_Lexer_step := by kernel_rfl
theorem ok_slices_Index_string_string : compF Tryd.prog cfg3 56 = some c_slices_Index_string_string := by kernel_rfl
theorem ok_slices_Clone_token_Attr_token_Attr : compF Tryd.prog cfg3 58 = some c_slices_Clone_token_Attr_token_Attr := by kernel_rfl
theorem ok_dom_Doc_in : compF Tryd.prog cfg3 60 = some c_dom_Doc_in := by kernel_rfl
theorem ok_dom_Doc_above : compF Tryd.prog cfg3 61 = some c_dom_Doc_above := by kernel_rfl
theorem ok_dom_Doc_Out : compF Tryd.prog cfg3 62 = some c_dom_Doc_Out := by kernel_rfl
theorem ok_slices_Index_int_int : compF Tryd.prog cfg3 63 = some c_slices_Index_int_int := by kernel_rfl
theorem ok_slices_Insert_int_int : compF Tryd.prog cfg3 64 = some c_slices_Insert_int_int := by kernel_rfl
theorem ok_ser_Inner : compF Tryd.prog cfg3 65 = some c_ser_Inner := by kernel_rfl
theorem ok_text_Signs_1 : compF Tryd.prog cfg3 66 = some c_text_Signs_1 := by kernel_rfl
theorem ok_text_one : compF Tryd.prog cfg3 67 = some c_text_one := by kernel_rfl
theorem ok_lex_Lexer_next : compF Tryd.prog cfg3 68 = some c_lex_Lexer_next := by kernel_rfl
theorem ok_lex_Lexer_flush : compF Tryd.prog cfg3 69 = some c_lex_Lexer_flush := by kernel_rfl
theorem ok_lex_Lexer_reference : compF Tryd.prog cfg3 70 = some c_lex_Lexer_reference := by kernel_rfl
theorem ok_lex_Lexer_open : compF Tryd.prog cfg3 71 = some c_lex_Lexer_open := by kernel_rfl
theorem ok_lex_Lexer_close : compF Tryd.prog cfg3 72 = some c_lex_Lexer_close := by kernel_rfl
theorem ok_lex_Lexer_script : compF Tryd.prog cfg3 73 = some c_lex_Lexer_script := by kernel_rfl
theorem ok_lex_Lexer_say : compF Tryd.prog cfg3 74 = some c_lex_Lexer_say := by kernel_rfl
theorem ok_lex_Lexer_peek : compF Tryd.prog cfg3 75 = some c_lex_Lexer_peek := by kernel_rfl
theorem ok_slices_IndexFunc_token_Attr_token_Attr : compF Tryd.prog cfg3 76 = some c_slices_IndexFunc_token_Attr_token_Attr := by kernel_rfl
theorem ok_slices_Delete_int_int : compF Tryd.prog cfg3 77 = some c_slices_Delete_int_int := by kernel_rfl
theorem ok_slices_rotateRight_int : compF Tryd.prog cfg3 79 = some c_slices_rotateRight_int := by kernel_rfl
theorem ok_dom_Doc_Kind : compF Tryd.prog cfg3 80 = some c_dom_Doc_Kind := by kernel_rfl
theorem ok_ser_Inner_1 : compF Tryd.prog cfg3 81 = some c_ser_Inner_1 := by kernel_rfl
theorem ok_dom_Doc_Kids : compF Tryd.prog cfg3 82 = some c_dom_Doc_Kids := by kernel_rfl
theorem ok_slices_Reverse_int_int : compF Tryd.prog cfg3 83 = some c_slices_Reverse_int_int := by kernel_rfl
theorem ok_ser_Void : compF Tryd.prog cfg3 84 = some c_ser_Void := by kernel_rfl
theorem ok_ser_begin : compF Tryd.prog cfg3 85 = some c_ser_begin := by kernel_rfl
end Go.Proofs.YticnenofiibpgaaDoor.Code
