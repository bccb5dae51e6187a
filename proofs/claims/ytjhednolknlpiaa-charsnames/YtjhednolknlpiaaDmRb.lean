/- The D-machine (32): the rules of symbolic runs. -/
import Derived.Test.YtjhednolknlpiaaDmRa
import Derived.Laws.BitsLemmas
namespace Go.Dm
set_option linter.unusedSimpArgs false
set_option linter.unusedVariables false
set_option linter.unnecessarySimpa false

/-- A post that is opened by hand. -/
def Hold (p : Prop) : Prop := p
inductive It where
  | code (c : DC)
  | ops (os : List ROp)
  | chk (l : List (Opd × Shape × Nat × Option (Nat × Bool)))
  | blk (id : Nat)
  | lp (b : DC)
/-- Where an exit leads. -/
def unw : List It → Nat → Option (List It)
  | [], _ => none
  | .blk j :: k, i => match Nat.beq i j with
    | true => some k
    | false => unw k i
  | .code _ :: k, i => unw k i
  | .ops _ :: k, i => unw k i
  | .chk _ :: k, i => unw k i
  | .lp _ :: k, i => unw k i

/-- What is left to do, from an outcome on. -/
def WpK (D : DProg) : List It → DX → Fr → Heap → (DX → Fr → Heap → Prop) → Prop
  | [], x, fr, h, Q => Q x fr h
  | .code c :: k, .normal, fr, h, Q => Wp D c fr h fun x fr' h' => WpK D k x fr' h' Q
  | .code _ :: k, x, fr, h, Q => WpK D k x fr h Q
  | .ops os :: k, .normal, fr, h, Q => WpOps D os fr h fun fr' h' => WpK D k .normal fr' h' Q
  | .ops _ :: k, x, fr, h, Q => WpK D k x fr h Q
  | .chk l :: k, .normal, fr, h, Q => chkOk D fr h l = true ∧ WpK D k .normal fr h Q
  | .chk _ :: k, x, fr, h, Q => WpK D k x fr h Q
  | .blk j :: k, .exit i, fr, h, Q => if i = j then WpK D k .normal fr h Q else WpK D k (.exit i) fr h Q
  | .blk _ :: k, x, fr, h, Q => WpK D k x fr h Q
  | .lp b :: k, .normal, fr, h, Q => Wp D (.loop b) fr h fun x fr' h' => WpK D k x fr' h' Q
  | .lp _ :: k, x, fr, h, Q => WpK D k x fr h Q
/-- What a symbolic run means. -/
def RS (D : DProg) (k : List It) (st : St) (cs : List Ck) (Q : DX → St → List Ck → Prop) : Prop :=
  ∀ fr h, AgS fr st → Sat h cs → WpK D k .normal fr h fun x fr' h' => ∃ st' cs', AgS fr' st' ∧ Sat h' cs' ∧ Q x st' cs'

section
variable (D : DProg)
/-- What a function does. -/
def F (f : Nat) (args : List DV) (cs : List Ck) (P : DV → List Ck → Prop) : Prop := ∀ h, Sat h cs → ∃ v h' cs', Runs D f args h v h' ∧ Sat h' cs' ∧ P v cs'
/-- What a loop's body does that is called. -/
def Y (l : Nat) (args : List DV) (cs : List Ck) (P : Bool → List Ck → Prop) : Prop := ∀ h, Sat h cs → ∃ n b h' cs', yieldD (exec D n) l args h = some (.bool b, h') ∧ Sat h' cs' ∧ P b cs'
def FC (x : DV) (args : List DV) (cs : List Ck) (P : DV → List Ck → Prop) : Prop :=
  match x with
  | .fn (.func g) first caps => F D g (first ++ args ++ caps) cs P
  | .fn (.yield l) [] [] => Y D l args cs fun b => P (.bool b)
  | _ => False
/-- The same where what comes out is written into no more. -/
def FZ1 (g : Nat) (args : List DV) (cs : List Ck) (P : DV → List Ck → Prop) : Prop := ∀ h, Sat h cs → ∃ v h' v2 h2 cs', Runs D g args h v h' ∧ frzV h' v = some (v2, h2) ∧ Sat h2 cs' ∧ P v2 cs'
def FZ (x : DV) (args : List DV) (cs : List Ck) (P : DV → List Ck → Prop) : Prop :=
  match x with
  | .fn (.func g) first caps => FZ1 D g (first ++ args ++ caps) cs P
  | _ => False

def lo (es : List En) (A : List (Nat × Bool)) : Opd → Option DV
  | .t n => lk A [] es n
  | .c v => some v
  | .g n => match D.glob n with
    | some cs => some (.elt cs)
    | none => none
  | .f n => some (.fn (.func n) [] [])
/-- The values of operands, in their order. -/
inductive LoS (es : List En) (A : List (Nat × Bool)) : List Opd → List DV → Prop where
  | nil : LoS es A [] []
  | cons {x : Opd} {v : DV} {xs : List Opd} {vs : List DV} : lo D es A x = some v → LoS es A xs vs → LoS es A (x :: xs) (v :: vs)
inductive LoO (es : List En) (A : List (Nat × Bool)) : Option Opd → Option DV → Prop where
  | none : LoO es A none none
  | some {x : Opd} {v : DV} : lo D es A x = some v → LoO es A (some x) (some v)

def wid : IntKind → Int
  | .i8 => 8 | .u8 => 8 | .i16 => 16 | .u16 => 16 | .i32 => 32 | .u32 => 32 | .i64 => 64 | .u64 => 64
def top : IntKind → Int
  | .i8 => -1 | .u8 => 255 | .i16 => -1 | .u16 => 65535 | .i32 => 2147483647 | .u32 => 4294967295 | .i64 => 9223372036854775807 | .u64 => 18446744073709551615
inductive BI (p : Bool) : BinOp → EqK → DV → DV → DV → Prop where
  | addL {k : EqK} {a b : Int} : Arith (p = true → -9223372036854775808 ≤ a + b ∧ a + b ≤ 9223372036854775807) → BI p .add k (.int .i64 a) (.int .i64 b) (.int .i64 (a + b))
  | subL {k : EqK} {a b : Int} : Arith (p = true → -9223372036854775808 ≤ a - b ∧ a - b ≤ 9223372036854775807) → BI p .sub k (.int .i64 a) (.int .i64 b) (.int .i64 (a - b))
  | mulL {k : EqK} {a b : Int} : Arith (p = true → -9223372036854775808 ≤ a * b ∧ a * b ≤ 9223372036854775807) → BI p .mul k (.int .i64 a) (.int .i64 b) (.int .i64 (a * b))
  | addI {k : EqK} {a b : Int} : Arith (p = true → -2147483648 ≤ a + b ∧ a + b ≤ 2147483647) → BI p .add k (.int .i32 a) (.int .i32 b) (.int .i32 (a + b))
  | subI {k : EqK} {a b : Int} : Arith (p = true → -2147483648 ≤ a - b ∧ a - b ≤ 2147483647) → BI p .sub k (.int .i32 a) (.int .i32 b) (.int .i32 (a - b))
  | addS {k : EqK} {a b : List UInt8} : Arith (p = true → a.length + b.length ≤ 9223372036854775807) → BI p .add k (.str a) (.str b) (.str (a ++ b))
  | and {q : EqK} {k : IntKind} {a b : Int} : Arith (p = true → (0 ≤ a ∧ a ≤ top k) ∧ (0 ≤ b ∧ b ≤ top k)) → BI p .and q (.int k a) (.int k b) (.int k ((a.toNat &&& b.toNat : Nat) : Int))
  | or {q : EqK} {k : IntKind} {a b : Int} : Arith (p = true → (0 ≤ a ∧ a ≤ top k) ∧ (0 ≤ b ∧ b ≤ top k)) → BI p .or q (.int k a) (.int k b) (.int k ((a.toNat ||| b.toNat : Nat) : Int))
  | shl {q : EqK} {k k' : IntKind} {a b : Int} : Arith (p = true → 0 ≤ b ∧ b ≤ wid k ∧ 0 ≤ a ∧ a * 2 ^ b.toNat ≤ top k) → BI p .shl q (.int k a) (.int k' b) (.int k (a * 2 ^ b.toNat))
  | shr {q : EqK} {k k' : IntKind} {a b : Int} : Arith (p = true → 0 ≤ b ∧ b ≤ wid k ∧ 0 ≤ a) → BI p .shr q (.int k a) (.int k' b) (.int k (a / 2 ^ b.toNat))
  | offL {op : BinOp} {k : EqK} {b : DV} : Arith (p = true → False) → BI p op k .undef b (.bool false)
  | offR {op : BinOp} {k : EqK} {a : DV} : Arith (p = true → False) → BI p op k a .undef (.bool false)
  | gen {op : BinOp} {k : EqK} {a b v : DV} : binD op k a b = some v → BI p op k a b v

/-- A list of bytes as what it holds. -/
inductive BL : List DV → List UInt8 → Prop where
  | bytes {s : List UInt8} : BL (bytesV s) s
  | map {s : List UInt8} : BL (s.map ofByte) s
  | nil : BL [] []
  | app {a b : List DV} {s t : List UInt8} : BL a s → BL b t → BL (a ++ b) (s ++ t)
  | drop {a : List DV} {s : List UInt8} {n : Nat} : BL a s → BL (a.drop n) (s.drop n)
  | take {a : List DV} {s : List UInt8} {n : Nat} : BL a s → BL (a.take n) (s.take n)
  | cons {b : UInt8} {a : List DV} {s : List UInt8} : BL a s → BL (.int .u8 (b.toNat : Int) :: a) (b :: s)
  | lit {n : Int} {a : List DV} {s : List UInt8} : Arith (0 ≤ n ∧ n < 256) → BL a s → BL (.int .u8 n :: a) (UInt8.ofNat n.toNat :: s)
abbrev I32 (n : Int) : DV := .int .i32 n
abbrev I64 (n : Int) : DV := .int .i64 n
def runeBytes (rs : List Int) : List UInt8 := rs.flatMap fun r => (Utf8.encode r).data.toList
inductive CV (p : Bool) : ConvK → Bool → DV → DV → Prop where
  | iBb {mu : Bool} {b : UInt8} : CV p (.int .i32) mu (.int .u8 (b.toNat : Int)) (.int .i32 (b.toNat : Int))
  | lBb {mu : Bool} {b : UInt8} : CV p (.int .i64) mu (.int .u8 (b.toNat : Int)) (.int .i64 (b.toNat : Int))
  | lI {mu : Bool} {n : Int} : Arith (p = true → -9223372036854775808 ≤ n ∧ n ≤ 9223372036854775807) → CV p (.int .i64) mu (.int .i32 n) (.int .i64 n)
  | lB {mu : Bool} {n : Int} : Arith (p = true → -9223372036854775808 ≤ n ∧ n ≤ 9223372036854775807) → CV p (.int .i64) mu (.int .u8 n) (.int .i64 n)
  | lU {mu : Bool} {n : Int} : Arith (p = true → -9223372036854775808 ≤ n ∧ n ≤ 9223372036854775807) → CV p (.int .i64) mu (.int .u32 n) (.int .i64 n)
  | iB {mu : Bool} {n : Int} : Arith (p = true → -2147483648 ≤ n ∧ n ≤ 2147483647) → CV p (.int .i32) mu (.int .u8 n) (.int .i32 n)
  | ii {mu : Bool} {n : Int} : Arith (p = true → -2147483648 ≤ n ∧ n ≤ 2147483647) → CV p (.int .i32) mu (.int .i32 n) (.int .i32 n)
  | ll {mu : Bool} {n : Int} : Arith (p = true → -9223372036854775808 ≤ n ∧ n ≤ 9223372036854775807) → CV p (.int .i64) mu (.int .i64 n) (.int .i64 n)
  | wrap {k k' : IntKind} {mu : Bool} {n : Int} : CV p (.int k) mu (.int k' n) (.int k (k.wrap n))
  | same {mu : Bool} {s : List UInt8} : CV p .same mu (.str s) (.str s)
  | bytesStr {t z : Nat} {xs : List DV} {s : List UInt8} : BL xs s → CV p .bytesStr false (.lst t z xs) (.str s)
  | runesStr {mu : Bool} {t z : Nat} {rs : List Int} : CV p .runesStr mu (.lst t z (rs.map I32)) (.str (runeBytes rs))

inductive Cut : List DV → Nat → Nat → List DV → Prop where
  | zero {cs : List DV} : Cut cs 0 0 []
  | take {c : DV} {cs : List DV} {n : Nat} {r : List DV} : Cut cs 0 n r → Cut (c :: cs) 0 (n + 1) (c :: r)
  | skip {c : DV} {cs : List DV} {o n : Nat} {r : List DV} : Cut cs o n r → Cut (c :: cs) (o + 1) n r
inductive LDv (cs : List DV) (off : Nat) : Shape → DV → Prop where
  | one {v : DV} : cs[off]? = some v → LDv cs off none v
  | agg {n : Nat} {r : List DV} : Cut cs off n r → LDv cs off (some n) (.agg r)
inductive LD (cs : List Ck) (sh : Shape) : DV → DV → Prop where
  | ptr {id off : Nat} {c : List DV} {s : Shape} {v : DV} : Me (.obj id (.cells c s)) cs → LDv c off sh v → LD cs sh (.ptr id off) v
  | elt {c : List DV} {v : DV} : LDv c 0 sh v → LD cs sh (.elt c) v
inductive ZK : Nat → Nat → Nat → Prop where
  | zof {t sz : Nat} : ZK t (zOf t sz) sz
  | lit {t sz : Nat} : ZK t sz sz
inductive IA (cs : List Ck) (p : Bool) (sz : Nat) : DV → DV → DV → Prop where
  | map {α : Type} [Inhabited α] {t z : Nat} {f : α → DV} {ys : List α} {k : IntKind} {n : Int} : ZK t z sz → Arith (p = true → 0 ≤ n ∧ n < ys.length) → IA cs p sz (.lst t z (ys.map f)) (.int k n) (.elt (f (ys.getD n.toNat default)).cells)
  | gen {t z : Nat} {xs : List DV} {k : IntKind} {n : Int} {w : DV} : ZK t z sz → Arith (p = true → 0 ≤ n ∧ xs[n.toNat]? = some w) → IA cs p sz (.lst t z xs) (.int k n) (.elt w.cells)
  | arr {id o len : Nat} {k : IntKind} {n : Int} : Arith (p = true → 0 ≤ n ∧ n < len) → IA cs p sz (.arr id sz o len) (.int k n) (.ptr id (o + n.toNat * sz))
inductive SL (cs : List Ck) (p : Bool) (sz : Nat) : DV → Option DV → Option DV → DV → Prop where
  | loM {α : Type} {t z : Nat} {f : α → DV} {xs : List α} {k : IntKind} {l : Int} : ZK t z sz → Arith (p = true → 0 ≤ l ∧ l ≤ xs.length) → SL cs p sz (.lst t z (xs.map f)) (some (.int k l)) none (.lst t (zOf t sz) ((xs.drop l.toNat).map f))
  | hiM {α : Type} {t z : Nat} {f : α → DV} {xs : List α} {k : IntKind} {r : Int} : ZK t z sz → Arith (p = true → 0 ≤ r ∧ r ≤ xs.length) → SL cs p sz (.lst t z (xs.map f)) none (some (.int k r)) (.lst (cutT t r.toNat xs.length) (zOf (cutT t r.toNat xs.length) sz) ((xs.take r.toNat).map f))
  | bothM {α : Type} {t z : Nat} {f : α → DV} {xs : List α} {k k' : IntKind} {l r : Int} : ZK t z sz → Arith (p = true → 0 ≤ l ∧ l ≤ r ∧ r ≤ xs.length) → SL cs p sz (.lst t z (xs.map f)) (some (.int k l)) (some (.int k' r)) (.lst (cutT t r.toNat xs.length) (zOf (cutT t r.toNat xs.length) sz) (((xs.drop l.toNat).take (r.toNat - l.toNat)).map f))
  | lo {t z : Nat} {xs : List DV} {k : IntKind} {l : Int} : ZK t z sz → Arith (p = true → 0 ≤ l ∧ l ≤ xs.length) → SL cs p sz (.lst t z xs) (some (.int k l)) none (.lst t (zOf t sz) (xs.drop l.toNat))
  | hi {t z : Nat} {xs : List DV} {k : IntKind} {r : Int} : ZK t z sz → Arith (p = true → 0 ≤ r ∧ r ≤ xs.length) → SL cs p sz (.lst t z xs) none (some (.int k r)) (.lst (cutT t r.toNat xs.length) (zOf (cutT t r.toNat xs.length) sz) (xs.take r.toNat))
  | both {t z : Nat} {xs : List DV} {k k' : IntKind} {l r : Int} : ZK t z sz → Arith (p = true → 0 ≤ l ∧ l ≤ r ∧ r ≤ xs.length) → SL cs p sz (.lst t z xs) (some (.int k l)) (some (.int k' r)) (.lst (cutT t r.toNat xs.length) (zOf (cutT t r.toNat xs.length) sz) ((xs.drop l.toNat).take (r.toNat - l.toNat)))
  | arrLo {i o n : Nat} {k : IntKind} {l : Int} : Arith (p = true → 0 ≤ l ∧ l ≤ n) → SL cs p sz (.arr i sz o n) (some (.int k l)) none (.arr i sz (o + l.toNat * sz) (n - l.toNat))
  | arrHi {i o n : Nat} {k : IntKind} {r : Int} : Arith (p = true → 0 ≤ r ∧ r ≤ n) → SL cs p sz (.arr i sz o n) none (some (.int k r)) (.arr i sz o r.toNat)
  | arrBoth {i o n : Nat} {k k' : IntKind} {l r : Int} : Arith (p = true → 0 ≤ l ∧ l ≤ r ∧ r ≤ n) → SL cs p sz (.arr i sz o n) (some (.int k l)) (some (.int k' r)) (.arr i sz (o + l.toNat * sz) (r.toNat - l.toNat))
inductive SS (p : Bool) : List UInt8 → Option DV → Option DV → List UInt8 → Prop where
  | all {s : List UInt8} : SS p s none none s
  | lo {s : List UInt8} {k : IntKind} {l : Int} : Arith (p = true → 0 ≤ l ∧ l ≤ s.length) → SS p s (some (.int k l)) none (s.drop l.toNat)
  | hi {s : List UInt8} {k : IntKind} {r : Int} : Arith (p = true → 0 ≤ r ∧ r ≤ s.length) → SS p s none (some (.int k r)) (s.take r.toNat)
  | both {s : List UInt8} {k k' : IntKind} {l r : Int} : Arith (p = true → 0 ≤ l ∧ l ≤ r ∧ r ≤ s.length) → SS p s (some (.int k l)) (some (.int k' r)) ((s.drop l.toNat).take (r.toNat - l.toNat))
inductive FA (off : Nat) : DV → DV → Prop where
  | z {i : Nat} : FA off (.ptr i 0) (.ptr i off)
  | ptr {i o : Nat} : FA off (.ptr i o) (.ptr i (o + off))
  | elt {cs : List DV} : FA off (.elt cs) (.elt (cs.drop off))
inductive NC : DV → Prop where
  | ptr {i o : Nat} : NC (.ptr i o)
  | elt {cs : List DV} : NC (.elt cs)
inductive LN : Bool → DV → Int → Prop where
  | str {s : List UInt8} : LN false (.str s) s.length
  | map {α : Type} {t z : Nat} {f : α → DV} {xs : List α} : LN true (.lst t z (xs.map f)) xs.length
  | lst {t z : Nat} {xs : List DV} : LN true (.lst t z xs) xs.length
  | arr {i z o n : Nat} : LN true (.arr i z o n) n
/-- Parts of a struct that all lie in their order, or not all. -/
inductive BP (es : List En) (A : List (Nat × Bool)) : List (Nat × Nat × Opd) → List (Nat × Nat × DV) → Prop where
  | nil : BP es A [] []
  | cons {o n : Nat} {x : Opd} {v : DV} {r : List (Nat × Nat × Opd)} {vs : List (Nat × Nat × DV)} : lo D es A x = some v → BP es A r vs → BP es A ((o, n, x) :: r) ((o, n, v) :: vs)
/-- A value's cells, its number of cells given. -/
inductive CL : Nat → DV → List DV → Prop where
  | int {k : IntKind} {n : Int} : CL 1 (.int k n) [.int k n]
  | bool {b : Bool} : CL 1 (.bool b) [.bool b]
  | str {s : List UInt8} : CL 1 (.str s) [.str s]
  | lst {t z : Nat} {xs : List DV} : CL 1 (.lst t z xs) [.lst t z xs]
  | nilp : CL 1 .nilp [.nilp]
  | ptr {i o : Nat} : CL 1 (.ptr i o) [.ptr i o]
  | elt {cs : List DV} : CL 1 (.elt cs) [.elt cs]
  | arr {i z o n : Nat} : CL 1 (.arr i z o n) [.arr i z o n]
  | fn {f : Fn} {a b : List DV} : CL 1 (.fn f a b) [.fn f a b]
  | nilfn : CL 1 .nilfn [.nilfn]
  | agg {n : Nat} {cs : List DV} : cs.length = n → CL n (.agg cs) cs
  | gen {n : Nat} {v : DV} : v.cells.length = n → v.okv = true → CL n v v.cells
inductive Ow : List DV → Nat → List DV → List DV → Prop where
  | nil {cs : List DV} : Ow cs 0 [] cs
  | put {c x : DV} {cs xs r : List DV} : Ow cs 0 xs r → Ow (c :: cs) 0 (x :: xs) (x :: r)
  | skip {c : DV} {cs xs r : List DV} {o : Nat} : Ow cs o xs r → Ow (c :: cs) (o + 1) xs (c :: r)
inductive BLd : List DV → List (Nat × Nat × DV) → List DV → Prop where
  | nil {cs : List DV} : BLd cs [] cs
  | cons {cs c cs' out : List DV} {o n : Nat} {v : DV} {r : List (Nat × Nat × DV)} : CL n v c → Ow cs o c cs' → BLd cs' r out → BLd cs ((o, n, v) :: r) out

/-- What an operation gives that turns nothing, if 'p'. -/
inductive VO (es : List En) (cs : List Ck) (A : List (Nat × Bool)) (p : Bool) : DOp → DV → Prop where
  | mv {x : Opd} {v : DV} : lo D es A x = some v → VO es cs A p (.mv x) v
  | load {sh : Shape} {x : Opd} {a v : DV} : lo D es A x = some a → LD cs sh a v → VO es cs A p (.load sh x) v
  | nilc {x : Opd} {v : DV} : lo D es A x = some v → NC v → VO es cs A p (.nilc x) v
  | faddr {off : Nat} {x : Opd} {v w : DV} : lo D es A x = some v → FA off v w → VO es cs A p (.faddr off x) w
  | bin {op : BinOp} {k : EqK} {x y : Opd} {a b v : DV} : lo D es A x = some a → lo D es A y = some b → BI p op k a b v → VO es cs A p (.bin op k x y) v
  | or {t : Nat} {y : Opd} {q b : Bool} {A1 : List (Nat × Bool)} {q1 : Bool} : lo D es A (.t t) = some (.bool q) → gate es 12 (some (t, false)) = some (A1, q1) → lo D es (A1 ++ A) y = some (.bool b) → VO es cs A p (.pick (.t t) (.c (.bool true)) y) (.bool (q || b))
  | and {t : Nat} {y : Opd} {q b : Bool} {A1 : List (Nat × Bool)} {q1 : Bool} : lo D es A (.t t) = some (.bool q) → gate es 12 (some (t, true)) = some (A1, q1) → lo D es (A1 ++ A) y = some (.bool b) → VO es cs A p (.pick (.t t) y (.c (.bool false))) (.bool (q && b))
  | un {op : UnOp} {x : Opd} {a v : DV} : lo D es A x = some a → unD op a = some v → VO es cs A p (.un op x) v
  | iaddr {sz : Nat} {x i : Opd} {a b v : DV} : lo D es A x = some a → lo D es A i = some b → IA cs p sz a b v → VO es cs A p (.iaddr sz x i) v
  | len {sl : Bool} {x : Opd} {a : DV} {n : Int} : lo D es A x = some a → LN sl a n → VO es cs A p (.len sl x) (.int .i64 n)
  | extract {x : Opd} {i : Nat} {vs : List DV} {v : DV} : lo D es A x = some (.tup vs) → vs[i]? = some v → VO es cs A p (.extract x i) v
  | field {off : Nat} {sh : Shape} {x : Opd} {c : List DV} {v : DV} : lo D es A x = some (.agg c) → LDv c off sh v → VO es cs A p (.field off sh x) v
  | conv {k : ConvK} {mu : Bool} {x : Opd} {a v : DV} : lo D es A x = some a → CV p k mu a v → VO es cs A p (.conv k mu x) v
  | idxStr {x i : Opd} {s : List UInt8} {k : IntKind} {n : Int} : lo D es A x = some (.str s) → lo D es A i = some (.int k n) → Arith (p = true → 0 ≤ n ∧ n < s.length) → VO es cs A p (.idxStr x i) (.int .u8 ((s.getD n.toNat 0).toNat : Int))
  | sliceStr {x : Opd} {lo1 hi1 : Option Opd} {a b : Option DV} {s r : List UInt8} : lo D es A x = some (.str s) → LoO D es A lo1 a → LoO D es A hi1 b → SS p s a b r → VO es cs A p (.sliceStr x lo1 hi1) (.str r)
  | slice {sz : Nat} {x : Opd} {lo1 hi1 : Option Opd} {a b : Option DV} {s v : DV} : lo D es A x = some s → LoO D es A lo1 a → LoO D es A hi1 b → SL cs p sz s a b v → VO es cs A p (.slice sz x lo1 hi1 none) v
  | build {zero : List DV} {parts : List (Nat × Nat × Opd)} {vs : List (Nat × Nat × DV)} {c : List DV} : BP D es A parts vs → BLd zero vs c → VO es cs A p (.build zero parts) (.agg c)
  | mkfn {f : Fn} {first caps : List Opd} {a b : List DV} : LoS D es A first a → LoS D es A caps b → VO es cs A p (.mkfn f first caps) (.fn f a b)
  | iaddrArrE {sz len : Nat} {x i : Opd} {c : List DV} {k : IntKind} {n : Int} : lo D es A x = some (.elt c) → lo D es A i = some (.int k n) → Arith (p = true → 0 ≤ n ∧ n < len) → VO es cs A p (.iaddrArr sz len x i) (.elt (c.drop (n.toNat * sz)))
  | idxArr {sh : Shape} {len : Nat} {x i : Opd} {c : List DV} {k : IntKind} {n : Int} {v : DV} : lo D es A x = some (.agg c) → lo D es A i = some (.int k n) → Arith (p = true → 0 ≤ n ∧ n < len ∧ LDv c (n.toNat * sh.size) sh v) → VO es cs A p (.idxArr sh len x i) v
  | min {x y : Opd} {k k' : IntKind} {a b : Int} : lo D es A x = some (.int k a) → lo D es A y = some (.int k' b) → VO es cs A p (.minmax false x y) (.int k (min a b))
  | max {x y : Opd} {k k' : IntKind} {a b : Int} : lo D es A x = some (.int k a) → lo D es A y = some (.int k' b) → VO es cs A p (.minmax true x y) (.int k (max a b))
  | pick {t : Nat} {x y : Opd} {q : Bool} {a b : DV} : lo D es A (.t t) = some (.bool q) → lo D es A x = some a → lo D es A y = some b → VO es cs A p (.pick (.t t) x y) (bif q then a else b)

/-- A list by a function on another one's elements. -/
inductive MapL {α : Type} (f : α → DV) : List DV → List α → Prop where
  | nil : MapL f [] []
  | cons {y : α} {r : List DV} {r' : List α} : MapL f r r' → MapL f (f y :: r) (y :: r')
  | map {ys : List α} : MapL f (ys.map f) ys
inductive JO : List DV → List DV → List DV → Prop where
  | nil {ys : List DV} : JO [] ys ys
  | bytes {s t : List UInt8} {ys : List DV} : BL ys t → JO (bytesV s) ys (bytesV (s ++ t))
  | map {α : Type} {f : α → DV} {xs ys' : List α} {ys : List DV} : MapL f ys ys' → JO (xs.map f) ys ((xs ++ ys').map f)
  | gen {xs ys : List DV} : JO xs ys (xs ++ ys)
/-- The elements of a slice or string. -/
inductive EL (cs : List Ck) (sh : Shape) : DV → List DV → Prop where
  | str {s : List UInt8} : sh.size = 1 → EL cs sh (.str s) (bytesV s)
  | lst {t z : Nat} {xs : List DV} : ZK t z sh.size → EL cs sh (.lst t z xs) xs
/-- A literal slice, all its elements in their order. -/
inductive Sq (es : List En) (A : List (Nat × Bool)) (sz : Nat) : Nat → List (Nat × Opd) → List DV → Prop where
  | nil {i : Nat} : Sq es A sz i [] []
  | cons {i : Nat} {x : Opd} {v : DV} {c : List DV} {r : List (Nat × Opd)} {vs : List DV} : lo D es A x = some v → CL sz v c → Sq es A sz (i + 1) r vs → Sq es A sz i ((i, x) :: r) (v :: vs)
/-- What was loaded ahead reads so still. -/
inductive CKs (nt : Nat) (es : List En) (cs : List Ck) : List (Opd × Shape × Nat × Option (Nat × Bool)) → Prop where
  | nil : CKs nt es cs []
  | cons {a : Opd} {sh : Shape} {t : Nat} {g : Option (Nat × Bool)} {r : List (Opd × Shape × Nat × Option (Nat × Bool))} {A : List (Nat × Bool)} {p : Bool} {av v : DV} : gate es 12 g = some (A, p) → lo D es A a = some av → LD cs sh av v → lk A [] es t = some v → Nat.blt t nt = true → CKs nt es cs r → CKs nt es cs ((a, sh, t, g) :: r)
def untag (A : List (Nat × Bool)) : List Nat → List En → List En
  | _, [] => []
  | seen, ⟨s, g, v⟩ :: r => match g with
    | none => ⟨s, none, v⟩ :: untag A (s :: seen) r
    | some (t, b) => match memT t b A, memN t (s :: seen) with
      | true, false => ⟨s, none, v⟩ :: untag A (s :: seen) r
      | _, _ => ⟨s, some (t, b), v⟩ :: untag A (s :: seen) r

/-- Symbolic runs. -/
inductive RR : List It → St → List Ck → (DX → St → List Ck → Prop) → Prop where
  | seq {a b : DC} {k : List It} {st : St} {cs : List Ck} {Q : DX → St → List Ck → Prop} : RR (.code a :: .code b :: k) st cs Q → RR (.code (.seq a b) :: k) st cs Q
  | region {os : List ROp} {k : List It} {st : St} {cs : List Ck} {Q : DX → St → List Ck → Prop} : RR (.ops os :: k) st cs Q → RR (.code (.region os) :: k) st cs Q
  | opsnil {k : List It} {st : St} {cs : List Ck} {Q : DX → St → List Ck → Prop} : RR k st cs Q → RR (.ops [] :: k) st cs Q
  | cond {c : Opd} {x y : DC} {k : List It} {nt : Nat} {es : List En} {ds : List DDef} {ir : Option Nat} {cs : List Ck} {Q : DX → St → List Ck → Prop} {b : Bool} : lo D es [] c = some (.bool b) → (b = true → RR (.code x :: k) ⟨nt, es, ds, ir⟩ cs Q) → (b = false → RR (.code y :: k) ⟨nt, es, ds, ir⟩ cs Q) → RR (.code (.cond c x y) :: k) ⟨nt, es, ds, ir⟩ cs Q
  | skip {k : List It} {st : St} {cs : List Ck} {Q : DX → St → List Ck → Prop} : RR k st cs Q → RR (.code .skip :: k) st cs Q
  | block {id : Nat} {b : DC} {k : List It} {st : St} {cs : List Ck} {Q : DX → St → List Ck → Prop} : RR (.code b :: .blk id :: k) st cs Q → RR (.code (.block id b) :: k) st cs Q
  | blk {id : Nat} {k : List It} {st : St} {cs : List Ck} {Q : DX → St → List Ck → Prop} : RR k st cs Q → RR (.blk id :: k) st cs Q
  | exit {id : Nat} {k k' : List It} {st : St} {cs : List Ck} {Q : DX → St → List Ck → Prop} : unw k id = some k' → RR k' st cs Q → RR (.code (.exit id) :: k) st cs Q
  | ret {k : List It} {st : St} {cs : List Ck} {Q : DX → St → List Ck → Prop} : Q .ret st cs → RR (.code .ret :: k) st cs Q
  | nil {st : St} {cs : List Ck} {Q : DX → St → List Ck → Prop} : Q .normal st cs → RR [] st cs Q
  | chk {l : List (Opd × Shape × Nat × Option (Nat × Bool))} {k : List It} {nt : Nat} {es : List En} {ds : List DDef} {ir : Option Nat} {cs : List Ck} {Q : DX → St → List Ck → Prop} : CKs D nt es cs l → RR k ⟨nt, es, ds, ir⟩ cs Q → RR (.chk l :: k) ⟨nt, es, ds, ir⟩ cs Q
  | call {d : Option Nat} {x : Opd} {as : List Opd} {c : List (Opd × Shape × Nat × Option (Nat × Bool))} {os : List ROp} {k : List It} {nt : Nat} {es : List En} {ds : List DDef} {ir : Option Nat} {cs : List Ck} {Q : DX → St → List Ck → Prop} {xv : DV} {vs : List DV} {P : DV → List Ck → Prop} :
      lo D es [] x = some xv → LoS D es [] as vs → dstOk nt d = true → FC D xv vs cs P → (∀ v cs', P v cs' → RR (.chk c :: .ops os :: k) (St.putO ⟨nt, es, ds, ir⟩ d v) cs' Q) → RR (.ops (⟨d, .call x as false, none, c⟩ :: os) :: k) ⟨nt, es, ds, ir⟩ cs Q
  | callZ {d : Option Nat} {x : Opd} {as : List Opd} {c : List (Opd × Shape × Nat × Option (Nat × Bool))} {os : List ROp} {k : List It} {nt : Nat} {es : List En} {ds : List DDef} {ir : Option Nat} {cs : List Ck} {Q : DX → St → List Ck → Prop} {xv : DV} {vs : List DV} {P : DV → List Ck → Prop} :
      lo D es [] x = some xv → LoS D es [] as vs → dstOk nt d = true → FZ D xv vs cs P → (∀ v cs', P v cs' → RR (.chk c :: .ops os :: k) (St.putO ⟨nt, es, ds, ir⟩ d v) cs' Q) → RR (.ops (⟨d, .call x as true, none, c⟩ :: os) :: k) ⟨nt, es, ds, ir⟩ cs Q
  | store {d : Option Nat} {n : Nat} {x y : Opd} {c : List (Opd × Shape × Nat × Option (Nat × Bool))} {os : List ROp} {k : List It} {nt : Nat} {es : List En} {ds : List DDef} {ir : Option Nat} {cs cs' : List Ck} {Q : DX → St → List Ck → Prop} {id off : Nat} {cells vc cells' : List DV} {s : Shape} {v : DV} :
      lo D es [] x = some (.ptr id off) → lo D es [] y = some v → CL n v vc → Upd1 (.obj id (.cells cells s)) (.obj id (.cells cells' s)) cs cs' → Ow cells off vc cells' → dstOk nt d = true → RR (.chk c :: .ops os :: k) (St.putO ⟨nt, es, ds, ir⟩ d .undef) cs' Q → RR (.ops (⟨d, .store n x y, none, c⟩ :: os) :: k) ⟨nt, es, ds, ir⟩ cs Q
  | append {d : Option Nat} {sh : Shape} {bytes : Nat} {x y : Opd} {c : List (Opd × Shape × Nat × Option (Nat × Bool))} {os : List ROp} {k : List It} {nt : Nat} {es : List En} {ds : List DDef} {ir : Option Nat} {cs : List Ck} {cs' : Nat → List Ck} {Q : DX → St → List Ck → Prop} {t z : Nat} {xs ys zs : List DV} {yv : DV} :
      lo D es [] x = some (.lst t z xs) → lo D es [] y = some yv → z = zOf t sh.size → EL cs sh yv ys → JO xs ys zs → Upd (.own t sh.size xs) (fun a => .own a sh.size zs) cs cs' → Nat.ble 1 bytes = true → Arith ((xs.length + ys.length) * bytes ≤ 140737488355328) → dstOk nt d = true →
      (∀ t', RR (.chk c :: .ops os :: k) (St.putO ⟨nt, es, ds, ir⟩ d (.lst t' (zOf t' sh.size) zs)) (cs' t') Q) → RR (.ops (⟨d, .append false sh bytes x y, none, c⟩ :: os) :: k) ⟨nt, es, ds, ir⟩ cs Q
  | mks {d : Option Nat} {sh : Shape} {zero : DV} {len : Nat} {ps : List (Nat × Opd)} {c : List (Opd × Shape × Nat × Option (Nat × Bool))} {os : List ROp} {k : List It} {nt : Nat} {es : List En} {ds : List DDef} {ir : Option Nat} {cs : List Ck} {Q : DX → St → List Ck → Prop} {vs : List DV} :
      Sq D es [] sh.size 0 ps vs → Nat.beq ps.length len = true → Nat.ble (len * sh.size) 16777216 = true → dstOk nt d = true → (∀ t, 2 ≤ t → RR (.chk c :: .ops os :: k) (St.putO ⟨nt, es, ds, ir⟩ d (.lst t (zOf t sh.size) vs)) (.own t sh.size vs :: cs) Q) → RR (.ops (⟨d, .mks false sh zero len ps, none, c⟩ :: os) :: k) ⟨nt, es, ds, ir⟩ cs Q
  | box {d : Option Nat} {x : Opd} {n : Nat} {c : List (Opd × Shape × Nat × Option (Nat × Bool))} {os : List ROp} {k : List It} {nt : Nat} {es : List En} {ds : List DDef} {ir : Option Nat} {cs : List Ck} {Q : DX → St → List Ck → Prop} {v : DV} {vc : List DV} :
      lo D es [] x = some v → CL n v vc → dstOk nt d = true → (∀ id, 2 ≤ id → RR (.chk c :: .ops os :: k) (St.putO ⟨nt, es, ds, ir⟩ d (.ptr id 0)) (.obj id (.cells vc none) :: cs) Q) → RR (.ops (⟨d, .box x n, none, c⟩ :: os) :: k) ⟨nt, es, ds, ir⟩ cs Q
  | alloc {d : Option Nat} {zero : List DV} {sh : Shape} {c : List (Opd × Shape × Nat × Option (Nat × Bool))} {os : List ROp} {k : List It} {nt : Nat} {es : List En} {ds : List DDef} {ir : Option Nat} {cs : List Ck} {Q : DX → St → List Ck → Prop} :
      dstOk nt d = true → (∀ id, 2 ≤ id → RR (.chk c :: .ops os :: k) (St.putO ⟨nt, es, ds, ir⟩ d (.ptr id 0)) (.obj id (.cells zero sh) :: cs) Q) → RR (.ops (⟨d, .alloc zero sh, none, c⟩ :: os) :: k) ⟨nt, es, ds, ir⟩ cs Q
  | strBytes {d : Option Nat} {x : Opd} {c : List (Opd × Shape × Nat × Option (Nat × Bool))} {os : List ROp} {k : List It} {nt : Nat} {es : List En} {ds : List DDef} {ir : Option Nat} {cs : List Ck} {Q : DX → St → List Ck → Prop} {s : List UInt8} :
      lo D es [] x = some (.str s) → Arith (s.length ≤ 140737488355328) → dstOk nt d = true → (∀ t, 2 ≤ t → RR (.chk c :: .ops os :: k) (St.putO ⟨nt, es, ds, ir⟩ d (.lst t (zOf t 1) (bytesV s))) (.own t 1 (bytesV s) :: cs) Q) → RR (.ops (⟨d, .conv .strBytes false x, none, c⟩ :: os) :: k) ⟨nt, es, ds, ir⟩ cs Q
  | strBytesM {d : Option Nat} {x : Opd} {c : List (Opd × Shape × Nat × Option (Nat × Bool))} {os : List ROp} {k : List It} {nt : Nat} {es : List En} {ds : List DDef} {ir : Option Nat} {cs : List Ck} {Q : DX → St → List Ck → Prop} {s : List UInt8} :
      lo D es [] x = some (.str s) → Arith (s.length ≤ 140737488355328) → dstOk nt d = true → (∀ id, 2 ≤ id → RR (.chk c :: .ops os :: k) (St.putO ⟨nt, es, ds, ir⟩ d (.arr id 1 0 s.length)) (.obj id (.cells (bytesV s) none) :: cs) Q) → RR (.ops (⟨d, .conv .strBytes true x, none, c⟩ :: os) :: k) ⟨nt, es, ds, ir⟩ cs Q
  | range {d : Option Nat} {x : Opd} {c : List (Opd × Shape × Nat × Option (Nat × Bool))} {os : List ROp} {k : List It} {nt : Nat} {es : List En} {ds : List DDef} {ir : Option Nat} {cs : List Ck} {Q : DX → St → List Ck → Prop} {s : List UInt8} :
      lo D es [] x = some (.str s) → dstOk nt d = true → (∀ id, 2 ≤ id → RR (.chk c :: .ops os :: k) (St.putO ⟨nt, es, ds, ir⟩ d (.ptr id 0)) (.obj id (.siter s 0) :: cs) Q) → RR (.ops (⟨d, .range x, none, c⟩ :: os) :: k) ⟨nt, es, ds, ir⟩ cs Q
  | next {d : Option Nat} {x : Opd} {c : List (Opd × Shape × Nat × Option (Nat × Bool))} {os : List ROp} {k : List It} {nt : Nat} {es : List En} {ds : List DDef} {ir : Option Nat} {cs cs' : List Ck} {Q : DX → St → List Ck → Prop} {id pos : Nat} {s : List UInt8} :
      lo D es [] x = some (.ptr id 0) → Upd1 (.obj id (.siter s pos)) (.obj id (.siter s (pos + (Utf8.decode ⟨s.toArray⟩ pos).2))) cs cs' → dstOk nt d = true →
      (pos < s.length → RR (.chk c :: .ops os :: k) (St.putO ⟨nt, es, ds, ir⟩ d (.tup [.bool true, .int .i64 pos, .int .i32 (Utf8.decode ⟨s.toArray⟩ pos).1])) cs' Q) → (s.length ≤ pos → RR (.chk c :: .ops os :: k) (St.putO ⟨nt, es, ds, ir⟩ d (.tup [.bool false])) cs Q) → RR (.ops (⟨d, .next x, none, c⟩ :: os) :: k) ⟨nt, es, ds, ir⟩ cs Q
  | defr {d : Option Nat} {x : Opd} {as : List Opd} {c : List (Opd × Shape × Nat × Option (Nat × Bool))} {os : List ROp} {k : List It} {nt : Nat} {es : List En} {ds : List DDef} {cs : List Ck} {Q : DX → St → List Ck → Prop} {g : Nat} {first caps vs : List DV} :
      lo D es [] x = some (.fn (.func g) first caps) → LoS D es [] as vs → dstOk nt d = true → RR (.chk c :: .ops os :: k) (St.putO ⟨nt, es, .call g (first ++ vs ++ caps) :: ds, none⟩ d .undef) cs Q → RR (.ops (⟨d, .defr x as, none, c⟩ :: os) :: k) ⟨nt, es, ds, none⟩ cs Q
  | gcall {d : Nat} {x : Opd} {as : List Opd} {fz : Bool} {t : Nat} {b : Bool} {c : List (Opd × Shape × Nat × Option (Nat × Bool))} {os : List ROp} {k : List It} {nt : Nat} {es : List En} {ds : List DDef} {ir : Option Nat} {cs : List Ck} {Q : DX → St → List Ck → Prop} {A : List (Nat × Bool)} {p : Bool} :
      gate es 12 (some (t, b)) = some (A, p) → Nat.blt d nt = true → (p = true → RR (.ops (⟨some d, .call x as fz, none, c⟩ :: os) :: k) ⟨nt, untag A [] es, ds, ir⟩ cs Q) → (p = false → RR (.ops os :: k) ⟨nt, ⟨d, none, .undef⟩ :: es, ds, ir⟩ cs Q) → RR (.ops (⟨some d, .call x as fz, some (t, b), c⟩ :: os) :: k) ⟨nt, es, ds, ir⟩ cs Q
  | gmks {d : Nat} {mu : Bool} {sh : Shape} {zero : DV} {len : Nat} {ps : List (Nat × Opd)} {t : Nat} {b : Bool} {c : List (Opd × Shape × Nat × Option (Nat × Bool))} {os : List ROp} {k : List It} {nt : Nat} {es : List En} {ds : List DDef} {ir : Option Nat} {cs : List Ck} {Q : DX → St → List Ck → Prop} {A : List (Nat × Bool)} {p : Bool} :
      gate es 12 (some (t, b)) = some (A, p) → Nat.blt d nt = true → (p = true → RR (.ops (⟨some d, .mks mu sh zero len ps, none, c⟩ :: os) :: k) ⟨nt, untag A [] es, ds, ir⟩ cs Q) → (p = false → RR (.ops os :: k) ⟨nt, ⟨d, none, .undef⟩ :: es, ds, ir⟩ cs Q) → RR (.ops (⟨some d, .mks mu sh zero len ps, some (t, b), c⟩ :: os) :: k) ⟨nt, es, ds, ir⟩ cs Q
  | val {d : Nat} {op : DOp} {g : Option (Nat × Bool)} {os : List ROp} {k : List It} {nt : Nat} {es : List En} {ds : List DDef} {ir : Option Nat} {cs : List Ck} {Q : DX → St → List Ck → Prop} {A : List (Nat × Bool)} {p : Bool} {v : DV} :
      gate es 12 g = some (A, p) → VO D es cs A p op v → Nat.blt d nt = true → RR (.ops os :: k) ⟨nt, ⟨d, g, v⟩ :: es, ds, ir⟩ cs Q → RR (.ops (⟨some d, op, g, []⟩ :: os) :: k) ⟨nt, es, ds, ir⟩ cs Q
  | sem {k : List It} {st : St} {cs : List Ck} {Q : DX → St → List Ck → Prop} : RS D k st cs Q → RR k st cs Q
end
end Go.Dm
