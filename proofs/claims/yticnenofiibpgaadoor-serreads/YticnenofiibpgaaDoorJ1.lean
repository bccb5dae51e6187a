/- SerReads returns true for every input: part 1 of the proof (several texts joined). -/
import Derived.WalkKit
import Derived.Laws.StructEq
import Derived.WideLaws
import Derived.LaidEql
import Derived.Laws.BytesString
import Derived.Laws.Cover4
import Derived.Deep.AppendSrc
import Derived.Deep.Upon
/- The D-machine (1): values, heap, operations and runs of a deterministic machine of our own, which the model's machine follows. -/
namespace Go.Dm
set_option linter.unusedSimpArgs false
set_option linter.unusedVariables false
set_option linter.unnecessarySimpa false

/-- Values: slices that nobody writes into hold what they read az; the others, and pointers, name an object of the heap. -/
inductive DV where
  | undef
  | bool (b : Bool)
  | int (k : IntKind) (n : Int)
  | str (s : List UInt8)
  | nilp
  | ptr (id off : Nat)
  | elt (cs : List DV)
  | lst (t sz : Nat) (xs : List DV)
  | arr (id sz off len : Nat)
  | fn (f : Fn) (first caps : List DV)
  | nilfn
  | agg (cs : List DV)
  | tup (vs : List DV)
  deriving Inhabited

def DV.cells : DV → List DV
  | .agg cs => cs
  | v => [v]
/-- One cell's value. -/
def DV.one : DV → Bool
  | .agg _ | .tup _ | .undef => false
  | _ => true
/-- A value that a variable holds. -/
def DV.okv : DV → Bool
  | .tup _ | .undef => false
  | _ => true
def flat (xs : List DV) : List DV := xs.flatMap DV.cells

mutual
def DV.beq : DV → DV → Bool
  | .undef, .undef => true
  | .bool a, .bool b => a == b
  | .int k a, .int l b => decide (k = l) && decide (a = b)
  | .str a, .str b => decide (a = b)
  | .nilp, .nilp => true
  | .ptr a b, .ptr c d => decide (a = c) && decide (b = d)
  | .elt a, .elt b => DV.beqs a b
  | .lst t y a, .lst u z b => decide (t = u) && decide (y = z) && DV.beqs a b
  | .arr a b c w, .arr d e f x => decide (a = d) && decide (b = e) && decide (c = f) && decide (w = x)
  | .fn f a b, .fn g c d => decide (f = g) && DV.beqs a c && DV.beqs b d
  | .nilfn, .nilfn => true
  | .agg a, .agg b => DV.beqs a b
  | .tup a, .tup b => DV.beqs a b
  | _, _ => false
def DV.beqs : List DV → List DV → Bool
  | [], [] => true
  | a :: x, b :: y => DV.beq a b && DV.beqs x y
  | _, _ => false
end
mutual
theorem DV.eq_of_beq : ∀ (a b : DV), DV.beq a b = true → a = b
  | .undef, b, h => by cases b <;> simp_all [DV.beq]
  | .bool a, b, h => by cases b <;> simp_all [DV.beq]
  | .int k a, b, h => by cases b <;> simp_all [DV.beq]
  | .str a, b, h => by cases b <;> simp_all [DV.beq]
  | .nilp, b, h => by cases b <;> simp_all [DV.beq]
  | .ptr a c, b, h => by cases b <;> simp_all [DV.beq]
  | .elt a, b, h => by
    cases b <;> simp [DV.beq] at h
    rw [DV.eq_of_beqs _ _ h]
  | .lst t y a, b, h => by
    cases b <;> simp [DV.beq] at h
    rw [h.1.1, h.1.2, DV.eq_of_beqs _ _ h.2]
  | .arr a c d w, b, h => by cases b <;> simp_all [DV.beq]
  | .fn f a c, b, h => by
    cases b <;> simp [DV.beq] at h
    rw [h.1.1, DV.eq_of_beqs _ _ h.1.2, DV.eq_of_beqs _ _ h.2]
  | .nilfn, b, h => by cases b <;> simp_all [DV.beq]
  | .agg a, b, h => by
    cases b <;> simp [DV.beq] at h
    rw [DV.eq_of_beqs _ _ h]
  | .tup a, b, h => by
    cases b <;> simp [DV.beq] at h
    rw [DV.eq_of_beqs _ _ h]
theorem DV.eq_of_beqs : ∀ (a b : List DV), DV.beqs a b = true → a = b
  | [], b, h => by cases b <;> simp_all [DV.beqs]
  | x :: a, b, h => by
    cases b <;> simp [DV.beqs] at h
    rw [DV.eq_of_beq _ _ h.1, DV.eq_of_beqs _ _ h.2]
end
mutual
theorem DV.beq_refl : ∀ a : DV, DV.beq a a = true
  | .undef => by simp [DV.beq]
  | .bool a => by simp [DV.beq]
  | .int k a => by simp [DV.beq]
  | .str a => by simp [DV.beq]
  | .nilp => by simp [DV.beq]
  | .ptr a c => by simp [DV.beq]
  | .elt a => by simp [DV.beq, DV.beqs_refl a]
  | .lst t y a => by simp [DV.beq, DV.beqs_refl a]
  | .arr a c d w => by simp [DV.beq]
  | .fn f a c => by simp [DV.beq, DV.beqs_refl a, DV.beqs_refl c]
  | .nilfn => by simp [DV.beq]
  | .agg a => by simp [DV.beq, DV.beqs_refl a]
  | .tup a => by simp [DV.beq, DV.beqs_refl a]
theorem DV.beqs_refl : ∀ a : List DV, DV.beqs a a = true
  | [] => by simp [DV.beqs]
  | x :: a => by simp [DV.beqs, DV.beq_refl x, DV.beqs_refl a]
end

/-- A table by numbers that the kernel can reckon with. -/
inductive Tr (α : Type) where
  | nil
  | node (l : Tr α) (v : Option α) (r : Tr α)
  deriving Inhabited
namespace Tr
variable {α : Type}
def get : Tr α → Nat → Option α
  | .nil, _ => none
  | .node l v r, n => match Nat.beq n 0 with
    | true => v
    | false => match Nat.beq (Nat.mod n 2) 1 with
      | true => l.get (Nat.div n 2)
      | false => r.get (Nat.sub (Nat.div n 2) 1)
def setF : Nat → Tr α → Nat → Option α → Tr α
  | 0, t, _, _ => t
  | f + 1, .nil, n, x => match Nat.beq n 0 with
    | true => .node .nil x .nil
    | false => match Nat.beq (Nat.mod n 2) 1 with
      | true => .node (setF f .nil (Nat.div n 2) x) none .nil
      | false => .node .nil none (setF f .nil (Nat.sub (Nat.div n 2) 1) x)
  | f + 1, .node l v r, n, x => match Nat.beq n 0 with
    | true => .node l x r
    | false => match Nat.beq (Nat.mod n 2) 1 with
      | true => .node (setF f l (Nat.div n 2) x) v r
      | false => .node l v (setF f r (Nat.sub (Nat.div n 2) 1) x)
def set (t : Tr α) (n : Nat) (x : Option α) : Tr α := setF (Nat.succ n) t n x
theorem beq_if {β : Type} (a b : Nat) (x y : β) : (match Nat.beq a b with | true => x | false => y) = if a = b then x else y := by
  cases h : Nat.beq a b with
  | true => rw [if_pos (Nat.eq_of_beq_eq_true h)]
  | false => rw [if_neg (Nat.ne_of_beq_eq_false h)]
theorem get_node (l : Tr α) (v : Option α) (r : Tr α) (n : Nat) : (Tr.node l v r).get n = if n = 0 then v else if n % 2 = 1 then l.get (n / 2) else r.get (n / 2 - 1) := by
  simp only [get, beq_if]; rfl
theorem setF_nil (f n : Nat) (x : Option α) : setF (f + 1) .nil n x = if n = 0 then .node .nil x .nil else if n % 2 = 1 then .node (setF f .nil (n / 2) x) none .nil else .node .nil none (setF f .nil (n / 2 - 1) x) := by
  simp only [setF, beq_if]; rfl
theorem setF_node (f : Nat) (l : Tr α) (v : Option α) (r : Tr α) (n : Nat) (x : Option α) : setF (f + 1) (.node l v r) n x = if n = 0 then .node l x r else if n % 2 = 1 then .node (setF f l (n / 2) x) v r else .node l v (setF f r (n / 2 - 1) x) := by
  simp only [setF, beq_if]; rfl
theorem get_none (n : Nat) : (Tr.nil : Tr α).get n = none := rfl
theorem get_setF : ∀ (f : Nat) (t : Tr α) (n : Nat) (x : Option α) (m : Nat), n < f → (setF f t n x).get m = if m = n then x else t.get m
  | 0, t, n, x, m, h => absurd h (Nat.not_lt_zero _)
  | f + 1, .nil, n, x, m, h => by
    rw [setF_nil]
    split
    · rename_i h0; subst h0; by_cases hm : m = 0 <;> simp [get_node, get_none, hm]
    · split
      · rename_i h0 h1
        simp only [get_node, get_none, get_setF f .nil (n / 2) x _ (by omega)]
        by_cases hm : m = 0
        · simp [hm]; omega
        · by_cases h2 : m % 2 = 1
          · simp only [hm, h2, if_true, if_false]
            by_cases e : m = n
            · subst e; simp
            · simp only [e, if_false]; rw [if_neg (by omega)]
          · simp only [hm, h2, if_false]; rw [if_neg (by omega)]
      · rename_i h0 h1
        simp only [get_node, get_none, get_setF f .nil (n / 2 - 1) x _ (by omega)]
        by_cases hm : m = 0
        · simp [hm]; omega
        · by_cases h2 : m % 2 = 1
          · simp only [hm, h2, if_true, if_false]; rw [if_neg (by omega)]
          · simp only [hm, h2, if_false]
            by_cases e : m = n
            · subst e; simp
            · simp only [e, if_false]; rw [if_neg (by omega)]
  | f + 1, .node l v r, n, x, m, h => by
    rw [setF_node]
    split
    · rename_i h0; subst h0; by_cases hm : m = 0 <;> simp [get_node, hm]
    · split
      · rename_i h0 h1
        simp only [get_node, get_setF f l (n / 2) x _ (by omega)]
        by_cases hm : m = 0
        · subst hm; simp; omega
        · by_cases h2 : m % 2 = 1
          · simp only [hm, h2, if_true, if_false]
            by_cases e : m = n
            · subst e; simp
            · simp only [e, if_false]; rw [if_neg (by omega)]
          · simp only [hm, h2, if_false]; rw [if_neg (by omega)]
      · rename_i h0 h1
        simp only [get_node, get_setF f r (n / 2 - 1) x _ (by omega)]
        by_cases hm : m = 0
        · subst hm; simp; omega
        · by_cases h2 : m % 2 = 1
          · simp only [hm, h2, if_true, if_false]; rw [if_neg (by omega)]
          · simp only [hm, h2, if_false]
            by_cases e : m = n
            · subst e; simp
            · simp only [e, if_false]; rw [if_neg (by omega)]
theorem get_set (t : Tr α) (n : Nat) (x : Option α) (m : Nat) : (t.set n x).get m = if m = n then x else t.get m := get_setF (n + 1) t n x m (by omega)
theorem get_set_same (t : Tr α) (n : Nat) (x : Option α) : (t.set n x).get n = x := by simp [get_set]
theorem get_set_ne (t : Tr α) {n m : Nat} (x : Option α) (h : m ≠ n) : (t.set n x).get m = t.get m := by simp [get_set, h]
end Tr

inductive Opd where
  | t (n : Nat)
  | c (v : DV)
  | g (n : Nat)
  | f (n : Nat)
  deriving Inhabited

/-- An element's shape: one cell, or so many. -/
abbrev Shape := Option Nat
def Shape.size (s : Shape) : Nat := s.getD 1

inductive ConvK where
  | int (k : IntKind)
  | same | sameB
  | strBytes | bytesStr | runesStr | strRunes | intStr
  deriving DecidableEq, Inhabited

inductive SK where
  | int | bool | str
  deriving DecidableEq, Inhabited
/-- Of which kind what is compared is. -/
inductive EqK where
  | any | bool | fn | ptr | sl
  | st (ks : List SK)
  deriving DecidableEq, Inhabited
/-- The operations, types looked up. 'mu': the slices that come of it are written into. -/
inductive DOp where
  | mv (x : Opd)
  | pick (c a b : Opd)
  | alloc (zero : List DV) (sh : Shape)
  | box (x : Opd) (n : Nat)
  | build (zero : List DV) (parts : List (Nat × Nat × Opd))
  | mks (mu : Bool) (sh : Shape) (zero : DV) (len : Nat) (parts : List (Nat × Opd))
  | load (sh : Shape) (a : Opd)
  | store (n : Nat) (a x : Opd)
  | nilc (x : Opd)
  | bin (op : BinOp) (k : EqK) (x y : Opd)
  | un (op : UnOp) (x : Opd)
  | conv (k : ConvK) (mu : Bool) (x : Opd)
  | mkfn (f : Fn) (first caps : List Opd)
  | mkslice (mu : Bool) (sh : Shape) (zero : DV) (bytes : Nat) (len cap : Opd)
  | sliceStr (x : Opd) (lo hi : Option Opd)
  | slice (sz : Nat) (x : Opd) (lo hi mx : Option Opd)
  | faddr (off : Nat) (x : Opd)
  | field (off : Nat) (sh : Shape) (x : Opd)
  | iaddr (sz : Nat) (x i : Opd)
  | iaddrArr (sz len : Nat) (x i : Opd)
  | idxStr (x i : Opd)
  | idxArr (sh : Shape) (len : Nat) (x i : Opd)
  | extract (x : Opd) (i : Nat)
  | range (x : Opd)
  | next (x : Opd)
  | call (f : Opd) (args : List Opd) (frz : Bool)
  | len (sl : Bool) (x : Opd)
  | append (mu : Bool) (sh : Shape) (bytes : Nat) (x y : Opd)
  | copy (sh : Shape) (x y : Opd)
  | minmax (mx : Bool) (x y : Opd)
  | clear (zero : List DV) (x : Opd)
  | defr (f : Opd) (args : List Opd)
  deriving Inhabited

structure ROp where
  dst : Option Nat
  op : DOp
  guard : Option (Nat × Bool)
  /-- Loads that may az well come behind this one: their address, their shape, the slot that they wrote, their guard. -/
  chk : List (Opd × Shape × Nat × Option (Nat × Bool))
  deriving Inhabited

inductive DC where
  | skip
  | region (ops : List ROp)
  | seq (a b : DC)
  | cond (c : Opd) (a b : DC)
  | block (id : Nat) (b : DC)
  | loop (b : DC)
  | range (f : Opd) (ps : List Nat) (asg body : DC)
  | exit (id : Nat)
  | ret
  deriving Inhabited

inductive DX where
  | normal
  | exit (id : Nat)
  | ret
  deriving DecidableEq, Inhabited

inductive LState where
  | ready | busy | done | over
  deriving DecidableEq, Inhabited
structure LRec where
  tmps : List DV
  ps : List Nat
  asg : DC
  body : DC
  st : LState
  pend : Option DX
  deriving Inhabited

inductive HObj where
  | cells (cs : List DV) (sh : Shape)
  | siter (s : List UInt8) (pos : Nat)
  | loop (r : LRec)
  | mark
  deriving Inhabited

structure Heap where
  next : Nat
  objs : Tr HObj
  tags : Tr Nat
  deriving Inhabited
namespace Heap
def add (h : Heap) (o : HObj) : Heap := { h with next := h.next + 1, objs := h.objs.set h.next (some o) }
def addTag (h : Heap) (sz : Nat) : Heap := { h with next := h.next + 1, tags := h.tags.set h.next (some sz) }
def put (h : Heap) (id : Nat) (o : HObj) : Heap := { h with objs := h.objs.set id (some o) }
def drop (h : Heap) (id : Nat) : Heap := { h with objs := h.objs.set id none }
def spend (h : Heap) (t : Nat) : Heap := { h with tags := h.tags.set t none }
end Heap

inductive DDef where
  | mark (id : Nat)
  | call (f : Nat) (args : List DV)
  deriving Inhabited
structure Fr where
  tmps : List DV
  defers : List DDef
  inr : Option Nat
  deriving Inhabited
def Fr.put (fr : Fr) (dst : Option Nat) (v : DV) : Fr :=
  match dst with
  | some d => { fr with tmps := fr.tmps.set d v }
  | none => fr

inductive DRes where
  | tmp (t : Nat)
  | cell (t : Nat) (sh : Shape)
  deriving Inhabited
structure DFunc where
  nt : Nat
  body : DC
  res : List DRes
  deriving Inhabited
structure DProg where
  fn : Nat → Option DFunc
  glob : Nat → Option (List DV)
  prim : Nat → Option (List DV → Heap → Option (DV × Heap))

inductive EvR where
  | val (v : DV)
  | newO (o : HObj) (mk : Nat → DV)
  | newT (sz : Nat) (mk : Nat → DV)
  | eff (v : DV) (h : Heap)
  | call (f : Nat) (args : List DV) (frz : Bool)
  | yield (l : Nat) (args : List DV)
  | defr (f : Nat) (args : List DV)

def cut (cs : List DV) (off n : Nat) : Option (List DV) := if off + n ≤ cs.length then some ((cs.drop off).take n) else none
def mkv (sh : Shape) (cs : List DV) : Option DV :=
  match sh with
  | some _ => some (.agg cs)
  | none => cs.head?
/-- Cells az elements. -/
def group (sh : Shape) : Nat → List DV → List DV
  | 0, _ => []
  | n + 1, cs => ((mkv sh (cs.take sh.size)).getD .undef) :: group sh n (cs.drop sh.size)

def loadD (h : Heap) (sh : Shape) : DV → Option DV
  | .ptr id off => match h.objs.get id with
    | some (.cells cs _) => (cut cs off sh.size).bind (mkv sh)
    | _ => none
  | .elt cs => (cut cs 0 sh.size).bind (mkv sh)
  | _ => none
def overwrite (cs : List DV) (off : Nat) (xs : List DV) : List DV := cs.take off ++ xs ++ cs.drop (off + xs.length)
def storeD (h : Heap) (n : Nat) (a x : DV) : Option Heap :=
  match a with
  | .ptr id off => match h.objs.get id with
    | some (.cells cs sh) => if x.cells.length = n ∧ off + n ≤ cs.length ∧ x.okv = true then some (h.put id (.cells (overwrite cs off x.cells) sh)) else none
    | _ => none
  | _ => none

def byte? : DV → Option UInt8
  | .int .u8 n => if 0 ≤ n ∧ n < 256 then some (UInt8.ofNat n.toNat) else none
  | _ => none
def rune? : DV → Option Int
  | .int .i32 n => some n
  | _ => none
def ofByte (b : UInt8) : DV := .int .u8 b.toNat
def bytesV (s : List UInt8) : List DV := s.map ofByte

/-- What a slice, or a string, holds, element by element. -/
def elems (h : Heap) (sh : Shape) : DV → Option (List DV)
  | .lst t sz xs => if t = 0 ∨ sz = sh.size then some xs else none
  | .str s => if sh.size = 1 then some (bytesV s) else none
  | .arr id sz off n => match h.objs.get id with
    | some (.cells cs sh') => if sh' = sh ∧ sz = sh.size then (cut cs off (n * sh.size)).map (group sh n) else none
    | _ => none
  | _ => none

def strLess : List UInt8 → List UInt8 → Bool := Op.bytesLess
def intBin (op : BinOp) (k : IntKind) (a b : Int) : Option DV :=
  match op with
  | .add => some (.int k (k.wrap (a + b)))
  | .sub => some (.int k (k.wrap (a - b)))
  | .mul => some (.int k (k.wrap (a * b)))
  | .quo => if b = 0 then none else some (.int k (k.wrap (a.tdiv b)))
  | .rem => if b = 0 then none else some (.int k (a.tmod b))
  | .and => some (.int k (k.wrap (BitVec.ofInt k.bits a &&& BitVec.ofInt k.bits b).toNat))
  | .or => some (.int k (k.wrap (BitVec.ofInt k.bits a ||| BitVec.ofInt k.bits b).toNat))
  | .xor => some (.int k (k.wrap (BitVec.ofInt k.bits a ^^^ BitVec.ofInt k.bits b).toNat))
  | .andNot => some (.int k (k.wrap (BitVec.ofInt k.bits a &&& ~~~ BitVec.ofInt k.bits b).toNat))
  | .eql => some (.bool (a == b))
  | .neq => some (.bool (a != b))
  | .lss => some (.bool (decide (a < b)))
  | .leq => some (.bool (decide (a ≤ b)))
  | .gtr => some (.bool (decide (a > b)))
  | .geq => some (.bool (decide (a ≥ b)))
  | _ => none
def strBin (op : BinOp) (a b : List UInt8) : Option DV :=
  match op with
  | .add => if a.length + b.length ≤ 9223372036854775807 then some (.str (a ++ b)) else none
  | .eql => some (.bool (decide (a = b)))
  | .neq => some (.bool (!decide (a = b)))
  | .lss => some (.bool (strLess a b))
  | .leq => some (.bool (strLess a b || decide (a = b)))
  | .gtr => some (.bool (!(strLess a b || decide (a = b))))
  | .geq => some (.bool (!strLess a b))
  | _ => none
def eqBin (op : BinOp) (r : Bool) : Option DV :=
  match op with
  | .eql => some (.bool r)
  | .neq => some (.bool (!r))
  | _ => none
/-- '==' of structs of plain fields. -/
def plainEq : List SK → List DV → List DV → Option Bool
  | [], [], [] => some true
  | .int :: ks, .int k a :: xs, .int l b :: ys => if k = l then (plainEq ks xs ys).map (decide (a = b) && ·) else none
  | .bool :: ks, .bool a :: xs, .bool b :: ys => (plainEq ks xs ys).map (a == b && ·)
  | .str :: ks, .str a :: xs, .str b :: ys => (plainEq ks xs ys).map (decide (a = b) && ·)
  | _, _, _ => none
def binD (op : BinOp) (ek : EqK) (x y : DV) : Option DV :=
  match x, y with
  | .int k a, .int l b =>
    match op with
    | .shl => if b < 0 then none else some (.int k (k.wrap (a * 2 ^ (min b.toNat k.bits))))
    | .shr => if b < 0 then none else some (.int k (a.fdiv (2 ^ (min b.toNat k.bits))))
    | _ => if k = l then intBin op k a b else none
  | .str a, .str b => strBin op a b
  | .bool a, .bool b => if ek = .bool then eqBin op (a == b) else none
  | .nilp, .nilp => if ek = .ptr then eqBin op true else none
  | .nilp, .ptr _ _ => if ek = .ptr then eqBin op false else none
  | .ptr _ _, .nilp => if ek = .ptr then eqBin op false else none
  | .nilp, .elt _ => if ek = .ptr then eqBin op false else none
  | .elt _, .nilp => if ek = .ptr then eqBin op false else none
  | .nilfn, .nilfn => if ek = .fn then eqBin op true else none
  | .fn _ _ _, .nilfn => if ek = .fn then eqBin op false else none
  | .nilfn, .fn _ _ _ => if ek = .fn then eqBin op false else none
  | .agg a, .agg b => match ek with
    | .st ks => (plainEq ks a b).bind (eqBin op)
    | _ => none
  | .lst t _ _, .lst 0 _ [] => if ek = .sl then eqBin op (t == 0) else none
  | .arr _ _ _ _, .lst 0 _ [] => if ek = .sl then eqBin op false else none
  | _, _ => none
def unD (op : UnOp) : DV → Option DV
  | .int k n =>
    match op with
    | .neg => some (.int k (k.wrap (0 - n)))
    | .xor => intBin .xor k (if k.signed then -1 else k.max) n
    | _ => none
  | .bool b => match op with | .not => some (.bool !b) | _ => none
  | _ => none

def toStr? : List DV → Option (List UInt8)
  | [] => some []
  | x :: xs => match byte? x, toStr? xs with
    | some b, some s => some (b :: s)
    | _, _ => none
def runesStr? : List DV → Option (List UInt8)
  | [] => some []
  | x :: xs => match rune? x, runesStr? xs with
    | some r, some s => some ((Utf8.encode r).data.toList ++ s)
    | _, _ => none
def convD (h : Heap) (k : ConvK) (mu : Bool) (x : DV) : Option EvR :=
  match k, x with
  | .int k, .int _ n => some (.val (.int k (k.wrap n)))
  | .same, .str s => some (.val (.str s))
  | .sameB, .lst t sz xs => if 2 ≤ t ∧ xs ≠ [] then some (.val (.lst t sz xs)) else none
  | .strBytes, .str s => if s.length ≤ 140737488355328 then some (if mu then .newO (.cells (bytesV s) none) (fun i => .arr i 1 0 s.length) else .newT 1 (fun t => .lst t 1 (bytesV s))) else none
  | .bytesStr, .lst _ _ xs => if mu then none else (toStr? xs).map fun s => .val (.str s)
  | .bytesStr, .arr i sz o n => if mu then ((elems h none (.arr i sz o n)).bind toStr?).map fun s => .eff (.str s) h else none
  | .runesStr, .lst _ _ xs => (runesStr? xs).map fun s => .val (.str s)
  | .intStr, .int _ n => some (.val (.str (Utf8.encode n).data.toList))
  | _, _ => none

def bounds (len : Nat) (lo hi : Option DV) : Option (Nat × Nat) :=
  match lo, hi with
  | none, none => some (0, len)
  | some (.int _ l), none => if 0 ≤ l ∧ l ≤ len then some (l.toNat, len) else none
  | none, some (.int _ h) => if 0 ≤ h ∧ h ≤ len then some (0, h.toNat) else none
  | some (.int _ l), some (.int _ h) => if 0 ≤ l ∧ l ≤ h ∧ h ≤ len then some (l.toNat, h.toNat) else none
  | _, _ => none
/-- An element's size, at nil none. -/
def zOf (t sz : Nat) : Nat := match t with
  | 0 => 0
  | _ + 1 => sz
def cutT (t r n : Nat) : Nat := if r = n ∨ t = 0 then t else 1
def sliceD (sz : Nat) (x : DV) (lo hi mx : Option DV) : Option EvR :=
  match x, mx with
  | .lst t z xs, none => if t = 0 ∨ z = sz then (bounds xs.length lo hi).map fun (l, r) => .val (.lst (cutT t r xs.length) (zOf (cutT t r xs.length) sz) ((xs.drop l).take (r - l))) else none
  | .arr i z o n, none => if z = sz then (bounds n lo hi).map fun (l, r) => .val (.arr i sz (o + l * sz) (r - l)) else none
  | _, _ => none

def appendD (h : Heap) (mu : Bool) (sh : Shape) (bytes : Nat) (x y : DV) : Option EvR :=
  match x, elems h sh y with
  | .lst t z xs, some ys =>
    if ys = [] then some (.val (.lst t z xs)) else
    if (t = 0 ∨ z = sh.size) ∧ (xs.length + ys.length) * bytes ≤ 140737488355328 ∧ xs.length + ys.length ≤ 9223372036854775807 then
      if mu then (if t = 0 then some (.newO (.cells (flat ys) sh) (fun i => .arr i sh.size 0 ys.length)) else none)
      else if t = 0 then some (.newT sh.size (fun u => .lst u sh.size ys))
      else if 2 ≤ t ∧ h.tags.get t = some sh.size then some (.eff (.lst h.next sh.size (xs ++ ys)) ((h.spend t).addTag sh.size)) else none
    else none
  | .arr i z o n, some ys =>
    if ys = [] then some (.val (.arr i z o n)) else
    match h.objs.get i with
    | some (.cells cs sh') =>
      match cut cs o (n * sh.size) with
      | some old =>
        if sh' = sh ∧ z = sh.size ∧ mu = true ∧ (n + ys.length) * bytes ≤ 140737488355328 ∧ n + ys.length ≤ 9223372036854775807 then
          some (.eff (.arr h.next sh.size 0 (n + ys.length)) ((h.drop i).add (.cells (old ++ flat ys) sh)))
        else none
      | none => none
    | _ => none
  | _, _ => none

def copyD (h : Heap) (sh : Shape) (x y : DV) : Option EvR :=
  match x with
  | .arr i z o n => match h.objs.get i, elems h sh y with
    | some (.cells cs sh'), some ys =>
      let new := flat (ys.take n)
      if sh' = sh ∧ z = sh.size ∧ o + n * sh.size ≤ cs.length then some (.eff (.int .i64 ((min ys.length n : Nat) : Int)) (h.put i (.cells (overwrite cs o new) sh'))) else none
    | _, _ => none
  | _ => none

def fillL (xs : List DV) : List (Nat × DV) → List DV
  | [] => xs
  | (i, v) :: r => fillL (xs.set i v) r
/-- Parts laid into a struct's cells. -/
def buildL (cs : List DV) : List (Nat × Nat × DV) → Option (List DV)
  | [] => some cs
  | (off, n, v) :: r => if v.cells.length = n ∧ off + n ≤ cs.length ∧ v.okv = true then buildL (overwrite cs off v.cells) r else none

section
variable (D : DProg) (fr : Fr) (h : Heap)
def ev : Opd → DV
  | .t n => fr.tmps.getD n .undef
  | .c v => v
  | .g n => match D.glob n with
    | some cs => .elt cs
    | none => .elt []
  | .f n => .fn (.func n) [] []
def evs (xs : List Opd) : List DV := xs.map (ev D fr)
def evO (x : Option Opd) : Option DV := x.map (ev D fr)

def callV (f : DV) (args : List DV) (frz : Bool) : Option EvR :=
  match f with
  | .fn (.func g) first caps => some (.call g (first ++ args ++ caps) frz)
  | .fn (.yield l) [] [] => some (.yield l args)
  | _ => none

def evalOp : DOp → Option EvR
  | .mv x => some (.val (ev D fr x))
  | .pick c a b => match ev D fr c with
    | .bool true => some (.val (ev D fr a))
    | .bool false => some (.val (ev D fr b))
    | _ => none
  | .alloc zero sh => some (.newO (.cells zero sh) (fun i => .ptr i 0))
  | .box x n => let v := ev D fr x; if v.cells.length = n ∧ v.okv = true then some (.newO (.cells v.cells none) (fun i => .ptr i 0)) else none
  | .build zero parts => (buildL zero (parts.map fun p => (p.1, p.2.1, ev D fr p.2.2))).map fun cs => .val (.agg cs)
  | .mks mu sh zero len parts =>
    if len * sh.size ≤ 16777216 ∧ (∀ p ∈ parts, p.1 < len ∧ (ev D fr p.2).cells.length = sh.size ∧ (ev D fr p.2).okv = true) then
      let xs := fillL (List.replicate len zero) (parts.map fun p => (p.1, ev D fr p.2))
      some (if mu then .newO (.cells (flat xs) sh) (fun i => .arr i sh.size 0 len) else .newT sh.size (fun t => .lst t sh.size xs))
    else none
  | .load sh a => (loadD h sh (ev D fr a)).map .val
  | .store n a x => (storeD h n (ev D fr a) (ev D fr x)).map fun h' => .eff .undef h'
  | .nilc x => match ev D fr x with
    | .ptr i o => some (.val (.ptr i o))
    | .elt cs => some (.val (.elt cs))
    | _ => none
  | .bin op k x y => (binD op k (ev D fr x) (ev D fr y)).map .val
  | .un op x => (unD op (ev D fr x)).map .val
  | .conv k mu x => convD h k mu (ev D fr x)
  | .mkfn f first caps => some (.val (.fn f (evs D fr first) (evs D fr caps)))
  | .mkslice mu sh zero bytes len cap => match ev D fr len, ev D fr cap with
    | .int _ l, .int _ c =>
      if 0 ≤ l ∧ l ≤ c ∧ c * bytes ≤ 140737488355328 ∧ c ≤ 9223372036854775807 then
        some (if mu then .newO (.cells (flat (List.replicate l.toNat zero)) sh) (fun i => .arr i sh.size 0 l.toNat) else .newT sh.size (fun t => .lst t sh.size (List.replicate l.toNat zero)))
      else none
    | _, _ => none
  | .sliceStr x lo hi => match ev D fr x with
    | .str s => (bounds s.length (evO D fr lo) (evO D fr hi)).map fun (l, r) => .val (.str ((s.drop l).take (r - l)))
    | _ => none
  | .slice sz x lo hi mx => sliceD sz (ev D fr x) (evO D fr lo) (evO D fr hi) (evO D fr mx)
  | .faddr off x => match ev D fr x with
    | .ptr i o => some (.val (.ptr i (o + off)))
    | .elt cs => some (.val (.elt (cs.drop off)))
    | _ => none
  | .field off sh x => match ev D fr x with
    | .agg cs => ((cut cs off sh.size).bind (mkv sh)).map .val
    | _ => none
  | .iaddr sz x i => match ev D fr x, ev D fr i with
    | .lst t z xs, .int _ n => if 0 ≤ n ∧ (t = 0 ∨ z = sz) then (xs[n.toNat]?).map fun v => .val (.elt v.cells) else none
    | .arr id z o len, .int _ n => if 0 ≤ n ∧ n < len ∧ z = sz then some (.val (.ptr id (o + n.toNat * sz))) else none
    | _, _ => none
  | .iaddrArr sz len x i => match ev D fr x, ev D fr i with
    | .ptr id o, .int _ n => if 0 ≤ n ∧ n < len then some (.val (.ptr id (o + n.toNat * sz))) else none
    | .elt cs, .int _ n => if 0 ≤ n ∧ n < len then some (.val (.elt (cs.drop (n.toNat * sz)))) else none
    | _, _ => none
  | .idxStr x i => match ev D fr x, ev D fr i with
    | .str s, .int _ n => if 0 ≤ n then (s[n.toNat]?).map fun b => .val (ofByte b) else none
    | _, _ => none
  | .idxArr sh len x i => match ev D fr x, ev D fr i with
    | .agg cs, .int _ n => if 0 ≤ n ∧ n < len then ((cut cs (n.toNat * sh.size) sh.size).bind (mkv sh)).map .val else none
    | _, _ => none
  | .extract x i => match ev D fr x with
    | .tup vs => (vs[i]?).map .val
    | _ => none
  | .range x => match ev D fr x with
    | .str s => some (.newO (.siter s 0) (fun i => .ptr i 0))
    | _ => none
  | .next x => match ev D fr x with
    | .ptr i 0 => match h.objs.get i with
      | some (.siter s pos) =>
        if pos < s.length then
          let (c, w) := Utf8.decode ⟨s.toArray⟩ pos
          some (.eff (.tup [.bool true, .int .i64 pos, .int .i32 c]) (h.put i (.siter s (pos + w))))
        else some (.eff (.tup [.bool false]) h)
      | _ => none
    | _ => none
  | .call f args frz => callV (ev D fr f) (evs D fr args) frz
  | .len sl x => match sl, ev D fr x with
    | false, .str s => some (.val (.int .i64 s.length))
    | true, .lst _ _ xs => some (.val (.int .i64 xs.length))
    | true, .arr _ _ _ n => some (.val (.int .i64 n))
    | _, _ => none
  | .append mu sh bytes x y => appendD h mu sh bytes (ev D fr x) (ev D fr y)
  | .copy sh x y => copyD h sh (ev D fr x) (ev D fr y)
  | .minmax mx x y => match ev D fr x, ev D fr y with
    | .int k a, .int _ b => some (.val (.int k (if mx then (if b > a then b else a) else (if b < a then b else a))))
    | _, _ => none
  | .clear zero x => match ev D fr x with
    | .lst _ _ [] => some (.val (.tup []))
    | .arr i z o n => if n = 0 then some (.val (.tup [])) else match h.objs.get i with
      | some (.cells cs sh) => if o + n * zero.length ≤ cs.length ∧ z = zero.length then some (.eff (.tup []) (h.put i (.cells (overwrite cs o (List.replicate n zero).flatten) sh))) else none
      | _ => none
    | _ => none
  | .defr f args => if fr.inr.isSome then none else match ev D fr f with
    | .fn (.func g) first caps => some (.defr g (first ++ evs D fr args ++ caps))
    | _ => none
end

/-- Which operations turn the heap, beyond what is new. -/
def DOp.effect : DOp → Bool
  | .store .. | .next .. | .call .. | .append .. | .copy .. | .clear .. | .defr .. => true
  | .conv .bytesStr mu _ => mu
  | _ => false

abbrev Ex := DC → Fr → Heap → Option (DX × Fr × Heap)

def frzV (h : Heap) : DV → Option (DV × Heap)
  | .arr i z o n => match h.objs.get i with
    | some (.cells cs sh) => if z = sh.size ∧ 0 < sh.size then (cut cs o (n * sh.size)).map fun c => (.lst 1 sh.size (group sh n c), h.drop i) else none
    | _ => none
  | v => some (v, h)

section
variable (D : DProg) (E : Ex)
def leaveD : List DDef → Heap → (Nat → List DV → Heap → Option (Heap)) → Option Heap
  | [], h, _ => some h
  | .mark m :: r, h, C => match h.objs.get m with
    | some .mark => leaveD r (h.drop m) C
    | _ => none
  | .call f args :: r, h, C => (C f args h).bind fun h' => leaveD r h' C
def resD (fr : Fr) (h : Heap) : List DRes → Option (List DV)
  | [] => some []
  | .tmp t :: r => (resD fr h r).map (fr.tmps.getD t .undef :: ·)
  | .cell t sh :: r => match loadD h sh (fr.tmps.getD t .undef), resD fr h r with
    | some v, some vs => some (v :: vs)
    | _, _ => none
def tupD : List DV → DV
  | [v] => v
  | vs => .tup vs
/-- A body that defers nothing. -/
def bodyD (f : Nat) (args : List DV) (h : Heap) : Option (DFunc × Fr × Heap) :=
  match D.fn f with
  | some d =>
    match E d.body { tmps := args ++ List.replicate (d.nt - args.length) .undef, defers := [], inr := none } h with
    | some (.normal, fr, h') => some (d, fr, h')
    | some (.ret, fr, h') => some (d, fr, h')
    | _ => none
  | none => none
def callDef (f : Nat) (args : List DV) (h : Heap) : Option Heap :=
  match bodyD D E f args h with
  | some (d, fr, h') => match fr.defers with
    | [] => match resD fr h' d.res with
      | some _ => some h'
      | none => none
    | _ => none
  | none => none
def callD (f : Nat) (args : List DV) (h : Heap) : Option (DV × Heap) :=
  match D.prim f with
  | some p => p args h
  | none =>
    match bodyD D E f args h with
    | some (d, fr, h') =>
      match leaveD fr.defers h' (callDef D E) with
      | some h'' => (resD fr h'' d.res).map fun vs => (tupD vs, h'')
      | none => none
    | none => none
/-- A round of a range over a function. -/
def yieldD (l : Nat) (args : List DV) (h : Heap) : Option (DV × Heap) :=
  match h.objs.get l with
  | some (.loop r) =>
    if r.st = .ready ∧ args.length = r.ps.length then
      match E r.asg { tmps := (r.ps.zip args).foldl (fun ts (t, a) => ts.set t a) r.tmps, defers := [], inr := some l } h with
      | some (.normal, fr1, h1) =>
        match h1.objs.get l with
        | some (.loop r1) =>
          if r1.st = .ready then
            match E r.body fr1 (h1.put l (.loop { r1 with st := .busy })) with
            | some (x, fr2, h2) =>
              match fr2.defers, h2.objs.get l with
              | [], some (.loop r2) =>
                match x with
                | .normal => some (.bool true, h2.put l (.loop { r2 with st := .ready, pend := none }))
                | x => some (.bool false, h2.put l (.loop { r2 with st := .done, pend := some x }))
              | _, _ => none
            | none => none
          else none
        | _ => none
      | _ => none
    else none
  | _ => none
def runOp (o : ROp) (fr : Fr) (h : Heap) : Option (Fr × Heap) :=
  match evalOp D fr h o.op with
  | some (.val v) => some (fr.put o.dst v, h)
  | some (.newO b mk) => some (fr.put o.dst (mk h.next), h.add b)
  | some (.newT sz mk) => some (fr.put o.dst (mk h.next), h.addTag sz)
  | some (.eff v h') => some (fr.put o.dst v, h')
  | some (.call f args frz) =>
    match callD D E f args h with
    | some (v, h') => if frz then (frzV h' v).map fun (v, h'') => (fr.put o.dst v, h'') else some (fr.put o.dst v, h')
    | none => none
  | some (.yield l args) => (yieldD E l args h).map fun (v, h') => (fr.put o.dst v, h')
  | some (.defr f args) => some ({ fr with defers := .call f args :: fr.defers }.put o.dst .undef, h)
  | none => none
def wantedG (g : Option (Nat × Bool)) (fr : Fr) : Bool :=
  match g with
  | none => true
  | some (t, b) => match fr.tmps.getD t .undef with
    | .bool c => c == b
    | _ => false
def chkOk (fr : Fr) (h : Heap) (l : List (Opd × Shape × Nat × Option (Nat × Bool))) : Bool :=
  l.all fun (a, sh, t, g) => !wantedG g fr || match loadD h sh (ev D fr a), fr.tmps[t]? with
    | some v, some u => DV.beq v u
    | _, _ => false
def wantedD (o : ROp) (fr : Fr) : Bool := wantedG o.guard fr
def runOps : List ROp → Fr → Heap → Option (Fr × Heap)
  | [], fr, h => some (fr, h)
  | o :: r, fr, h =>
    if wantedD o fr then
      match runOp D E o fr h with
      | some (fr', h') => if chkOk D fr' h' o.chk then runOps r fr' h' else none
      | none => none
    else runOps r (fr.put o.dst .undef) h
/-- Where a range over a function starts: its mark is laid, if it is an outermost one. -/
def startD (fr : Fr) (h : Heap) : Option (Fr × Heap) :=
  match fr.inr with
  | some l0 => match h.objs.get l0 with
    | some (.loop _) => some (fr, h)
    | _ => none
  | none => some ({ fr with defers := .mark h.next :: fr.defers }, h.add .mark)
def rangeD (f : Opd) (ps : List Nat) (asg body : DC) (fr : Fr) (h : Heap) : Option (DX × Fr × Heap) :=
  match ev D fr f with
  | .fn (.func g) first caps =>
    match startD fr h with
    | none => none
    | some (fr1, h1) =>
    let l := h1.next
    match callD D E g (first ++ [.fn (.yield l) [] []] ++ caps) (h1.add (.loop { tmps := fr.tmps, ps, asg, body, st := .ready, pend := none })) with
    | some (_, h2) =>
      match h2.objs.get l with
      | some (.loop r) =>
        if r.st = .busy then none else
        match r.pend with
        | none => some (.normal, fr1, h2.put l (.loop { r with st := .over }))
        | some x => some (x, fr1, h2.put l (.loop { r with st := .over }))
      | _ => none
    | none => none
  | _ => none
def stepD : DC → Fr → Heap → Option (DX × Fr × Heap)
  | .skip, fr, h => some (.normal, fr, h)
  | .region ops, fr, h => (runOps D E ops fr h).map fun (fr', h') => (.normal, fr', h')
  | .seq a b, fr, h => match E a fr h with
    | some (.normal, fr', h') => E b fr' h'
    | r => r
  | .cond c a b, fr, h => match ev D fr c with
    | .bool true => E a fr h
    | .bool false => E b fr h
    | _ => none
  | .block id b, fr, h => match E b fr h with
    | some (.exit i, fr', h') => if i = id then some (.normal, fr', h') else some (.exit i, fr', h')
    | r => r
  | .loop b, fr, h => match E b fr h with
    | some (.normal, fr', h') => E (.loop b) fr' h'
    | r => r
  | .range f ps asg body, fr, h => rangeD D E f ps asg body fr h
  | .exit id, fr, h => some (.exit id, fr, h)
  | .ret, fr, h => some (.ret, fr, h)
end
def exec (D : DProg) : Nat → Ex
  | 0 => fun _ _ _ => none
  | n + 1 => stepD D (exec D n)
def run (D : DProg) (n : Nat) (f : Nat) (args : List DV) (h : Heap) : Option (DV × Heap) := callD D (exec D n) f args h
end Go.Dm
/- The D-machine (2): from the model's code to ours, types looked up once. -/
namespace Go.Dm
set_option linter.unusedSimpArgs false
set_option linter.unusedVariables false
set_option linter.unnecessarySimpa false

def ofVal1 : Value → Option DV
  | .bool b => some (.bool b)
  | .int k n => some (.int k n)
  | .string s => some (.str s.data.toList)
  | .pointer none => some .nilp
  | .slice none 0 0 => some (.lst 0 0 [])
  | .nilFunc => some .nilfn
  | _ => none
def ofVals : List Value → Option (List DV)
  | [] => some []
  | v :: r => match ofVal1 v, ofVals r with
    | some d, some ds => some (d :: ds)
    | _, _ => none
def ofVal : Value → Option DV
  | .agg cs => (ofVals cs.toList).map .agg
  | v => ofVal1 v
def opd : Operand → Option Opd
  | .tmp t => some (.t t)
  | .const v => (ofVal v).map .c
  | .global g => some (.g g)
  | .func f => some (.f f)
def opds : List Operand → Option (List Opd)
  | [] => some []
  | x :: r => match opd x, opds r with
    | some y, some ys => some (y :: ys)
    | _, _ => none
def opdO : Option Operand → Option (Option Opd)
  | none => some none
  | some x => (opd x).map some

structure Cfg where
  mutTy : TypeId → Bool
  mutFn : FuncId → Bool

def shapeOf (P : Program) (t : TypeId) : Option Shape :=
  match P.info? t, P.underlying t with
  | some i, some (.struct _) => if i.size = 0 then none else some (some i.size)
  | some i, some (.array _ _) => if i.size = 0 then none else some (some i.size)
  | some i, some _ => if i.size = 1 then some none else none
  | _, _ => none
def zeroOf (P : Program) (t : TypeId) : Option DV := ((P.info? t).bind (·.zero)).bind ofVal
def sizeOfT (P : Program) (t : TypeId) : Option Nat := (P.info? t).map (·.size)

def partsS (P : Program) (fs : Array Field) : List (Nat × Operand) → Option (List (Nat × Nat × Opd))
  | [] => some []
  | (i, x) :: r => match fs[i]?, opd x, partsS P fs r with
    | some f, some y, some ys => (sizeOfT P f.type).map fun n => (f.offset, n, y) :: ys
    | _, _, _ => none
def partsL : List (Nat × Operand) → Option (List (Nat × Opd))
  | [] => some []
  | (i, x) :: r => match opd x, partsL r with
    | some y, some ys => some ((i, y) :: ys)
    | _, _ => none
def scalarK (P : Program) (t : TypeId) : Option SK :=
  match P.underlying t with
  | some .bool => some .bool
  | some (.int _) => some .int
  | some .string => some .str
  | _ => none
def fieldKs (P : Program) : Nat → List Field → Option (List SK)
  | _, [] => some []
  | off, f :: r => if f.name != "_" && f.offset == off then
      match scalarK P f.type, shapeOf P f.type, fieldKs P (off + 1) r with
      | some k, some none, some ks => some (k :: ks)
      | _, _, _ => none
    else none
/-- How '==' goes at a type. -/
def eqKind (P : Program) (t : TypeId) : Option EqK :=
  match P.underlying t with
  | some .bool => some .bool
  | some (.int _) | some .string => some .any
  | some (.func _ _ _) => some .fn
  | some (.pointer _) => some .ptr
  | some (.slice _) => some .sl
  | some (.struct fs) => if P.eqGuardType P.depth t = false ∧ P.stoodInHeld t = false then (fieldKs P 0 fs.toList).map .st else none
  | _ => none

def compCall (P : Program) (cfg : Cfg) (mf : Bool) (c : Call) : Option DOp :=
  match c.callee with
  | .value f => match opd f, opds c.args.toList with
    | some g, some az => some (.call g az (match f with | .func k => cfg.mutFn k && !mf | _ => false))
    | _, _ => none
  | .invoke _ _ => none
  | .builtin b => match b, c.args.toList, c.argTypes.toList with
    | .len, [x], [t] => match P.underlying t with
      | some .string => (opd x).map (.len false)
      | some (.slice _) => (opd x).map (.len true)
      | some (.array n _) => some (.mv (.c (.int .i64 n)))
      | _ => none
    | .append, [x, y], [t, u] => match P.underlying t, opd x, opd y with
      | some (.slice e), some x, some y => match shapeOf P e, P.info? e, zeroOf P e, P.underlying u with
        | some sh, some i, some z, some (.slice e') => if e' = e ∧ z.cells.length = sh.size then some (.append (mf || cfg.mutTy e) sh i.bytes x y) else none
        | some none, some i, some z, some .string => if z.cells.length = 1 then some (.append (mf || cfg.mutTy e) none i.bytes x y) else none
        | _, _, _, _ => none
      | _, _, _ => none
    | .copy, [x, y], [t, u] => match P.underlying t, opd x, opd y with
      | some (.slice e), some x, some y => match shapeOf P e, P.underlying u with
        | some sh, some (.slice e') => if e' = e then some (.copy sh x y) else none
        | _, _ => none
      | _, _, _ => none
    | .min, [x, y], _ => match opd x, opd y with
      | some x, some y => some (.minmax false x y)
      | _, _ => none
    | .max, [x, y], _ => match opd x, opd y with
      | some x, some y => some (.minmax true x y)
      | _, _ => none
    | .clear, [x], [t] => match P.underlying t, opd x with
      | some (.slice e), some x => match shapeOf P e, zeroOf P e with
        | some sh, some z => if z.cells.length = sh.size ∧ z.okv = true then some (.clear z.cells x) else none
        | _, _ => none
      | _, _ => none
    | _, _, _ => none

def compOp (P : Program) (cfg : Cfg) (mf : Bool) (op : Op) : Option DOp :=
  match op with
  | .move x => (opd x).map .mv
  | .assign x => (opd x).map .mv
  | .pick c a b => match opd c, opd a, opd b with
    | some c, some a, some b => some (.pick c a b)
    | _, _, _ => none
  | .alloc t => (zeroOf P t).bind fun z => if z.okv then some (.alloc z.cells none) else none
  | .box t x => match opd x, sizeOfT P t with
    | some x, some n => some (.box x n)
    | _, _ => none
  | .build t parts => match P.underlying t, zeroOf P t with
    | some (.struct fs), some z => match z, partsS P fs parts.toList with
      | .agg cs, some ps => if fs.all (fun f => (P.info? f.type).isSome) then some (.build cs ps) else none
      | _, _ => none
    | _, _ => none
  | .buildSlice t len parts => match P.underlying t with
    | some (.slice e) => match shapeOf P e, zeroOf P e, partsL parts.toList with
      | some sh, some z, some ps => if z.cells.length = sh.size ∧ z.okv = true then some (.mks (mf || cfg.mutTy e) sh z len ps) else none
      | _, _, _ => none
    | _ => none
  | .load t a => match shapeOf P t, opd a with
    | some sh, some a => some (.load sh a)
    | _, _ => none
  | .store t a x => match shapeOf P t, opd a, opd x with
    | some sh, some a, some x => some (.store sh.size a x)
    | _, _, _ => none
  | .nilCheck x => (opd x).map .nilc
  | .binOp op t x y _ => match opd x, opd y with
    | some x, some y => if (op matches .eql | .neq) then (eqKind P t).map fun k => .bin op k x y else some (.bin op .any x y)
    | _, _ => none
  | .unOp op _ x => (opd x).map (.un op)
  | .convert s d x => match P.underlying s, P.underlying d, opd x with
    | some (.int _), some (.int k), some x => some (.conv (.int k) false x)
    | some .string, some .string, some x => some (.conv .same false x)
    | some .string, some (.slice e), some x => match P.underlying e, P.info? e with
      | some (.int .u8), some _ => some (.conv .strBytes (mf || cfg.mutTy e) x)
      | _, _ => none
    | some (.slice e), some .string, some x => match P.underlying e with
      | some (.int .u8) => some (.conv .bytesStr (mf || cfg.mutTy e) x)
      | some (.int .i32) => some (.conv .runesStr false x)
      | _ => none
    | some (.int _), some .string, some x => some (.conv .intStr false x)
    | some (.slice e), some (.slice _), some x => match P.underlying e with
      | some (.int .u8) => if s = d then some (.conv .sameB false x) else none
      | _ => none
    | _, _, _ => none
  | .makeFunc fn first caps => match fn, opds first.toList, opds caps.toList with
    | .func f, some a, some b => some (.mkfn (.func f) a b)
    | _, _, _ => none
  | .makeSlice t len cap => match P.underlying t, opd len, opd cap with
    | some (.slice e), some len, some cap => match shapeOf P e, zeroOf P e, P.info? e with
      | some sh, some z, some i => if z.cells.length = sh.size ∧ z.okv = true then some (.mkslice (mf || cfg.mutTy e) sh z i.bytes len cap) else none
      | _, _, _ => none
    | _, _, _ => none
  | .slice t x lo hi mx => match P.underlying t, opd x, opdO lo, opdO hi, opdO mx with
    | some .string, some x, some lo, some hi, some none => some (.sliceStr x lo hi)
    | some (.slice e), some x, some lo, some hi, some mx => (sizeOfT P e).map fun n => .slice n x lo hi mx
    | _, _, _, _, _ => none
  | .fieldAddr s x f => match P.underlying s, opd x with
    | some (.struct fs), some x => match fs[f]? with
      | some fd => match sizeOfT P fd.type with
        | some (_ + 1) => some (.faddr fd.offset x)
        | _ => none
      | none => none
    | _, _ => none
  | .field s x f => match P.underlying s, opd x with
    | some (.struct fs), some x => match fs[f]? with
      | some fd => (shapeOf P fd.type).map fun sh => .field fd.offset sh x
      | none => none
    | _, _ => none
  | .indexAddr t x i => match P.underlying t, opd x, opd i with
    | some (.slice e), some x, some i => (sizeOfT P e).map fun n => .iaddr n x i
    | some (.array len e), some x, some i => (sizeOfT P e).map fun n => .iaddrArr n len x i
    | _, _, _ => none
  | .index t x i => match P.underlying t, opd x, opd i with
    | some .string, some x, some i => some (.idxStr x i)
    | some (.array len e), some x, some i => (shapeOf P e).map fun sh => .idxArr sh len x i
    | _, _, _ => none
  | .extract x i => (opd x).map fun x => .extract x i
  | .range t x => match P.underlying t, opd x with
    | some .string, some x => some (.range x)
    | _, _ => none
  | .next x true => (opd x).map .next
  | .call c => compCall P cfg mf c
  | .defer c => match c.callee with
    | .value f => match opd f, opds c.args.toList with
      | some g, some az => some (.defr g az)
      | _, _ => none
    | _ => none
  | _ => none

def compRop (P : Program) (cfg : Cfg) (mf : Bool) (ops : Array Oper) (o : Oper) : Option ROp :=
  match compOp P cfg mf o.op with
  | some op => match o.guard with
    | none => some { dst := o.dst, op, guard := none, chk := [] }
    | some (j, b) => match (ops[j]?).bind (·.dst) with
      | some d => some { dst := o.dst, op, guard := some (d, b), chk := [] }
      | none => none
  | none => none
def compRops (P : Program) (cfg : Cfg) (mf : Bool) (ops : Array Oper) : List Oper → Option (List ROp)
  | [] => some []
  | o :: r => match compRop P cfg mf ops o, compRops P cfg mf ops r with
    | some x, some xs => some (x :: xs)
    | _, _ => none

/-- An order in which nothing that turns the heap comes ahead of what may come ahead of it. -/
def canonGo (ops : Array Oper) (eff : Nat → Bool) : Nat → List Nat → List Nat
  | 0, acc => acc.reverse
  | k + 1, acc =>
    let rs := (List.range ops.size).filter fun i => !acc.contains i && ((ops[i]?).map (·.after.all fun e => !Region.binds .any e || acc.contains e.on)).getD false
    match rs.find? (fun i => !eff i) with
    | some i => canonGo ops eff k (i :: acc)
    | none => match rs with
      | i :: _ => canonGo ops eff k (i :: acc)
      | [] => acc.reverse

def Opd.slot? : Opd → Option Nat
  | .t n => some n
  | _ => none
/-- What an operation looks at. -/
def DOp.opds : DOp → List Opd
  | .mv x => [x]
  | .pick c a b => [c, a, b]
  | .alloc _ _ => []
  | .box x _ => [x]
  | .build _ ps => ps.map (·.2.2)
  | .mks _ _ _ _ ps => ps.map (·.2)
  | .load _ a => [a]
  | .store _ a x => [a, x]
  | .nilc x => [x]
  | .bin _ _ x y => [x, y]
  | .un _ x => [x]
  | .conv _ _ x => [x]
  | .mkfn _ a b => a ++ b
  | .mkslice _ _ _ _ x y => [x, y]
  | .sliceStr x lo hi => x :: lo.toList ++ hi.toList
  | .slice _ x lo hi mx => x :: lo.toList ++ hi.toList ++ mx.toList
  | .faddr _ x => [x]
  | .field _ _ x => [x]
  | .iaddr _ x i => [x, i]
  | .iaddrArr _ _ x i => [x, i]
  | .idxStr x i => [x, i]
  | .idxArr _ _ x i => [x, i]
  | .extract x _ => [x]
  | .range x => [x]
  | .next x => [x]
  | .call f args _ => f :: args
  | .len _ x => [x]
  | .append _ _ _ x y => [x, y]
  | .copy _ x y => [x, y]
  | .minmax _ x y => [x, y]
  | .clear _ x => [x]
  | .defr f args => f :: args
def ROp.slots (r : ROp) : List Nat := r.dst.toList ++ r.op.opds.filterMap Opd.slot? ++ (r.guard.map (·.1)).toList
def ROp.load? (r : ROp) : Option (Opd × Shape × Nat × Option (Nat × Bool)) :=
  match r.op, r.dst with
  | .load sh a, some d => some (a, sh, d, r.guard)
  | _, _ => none
/-- A load that may be looked at again. -/
def loadOk (r : ROp) : Bool := match r.op with
  | .load _ a => match r.dst with
    | some d => decide (a.slot? ≠ some d) && decide (r.guard.map (·.1) ≠ some d)
    | none => false
  | _ => true
def isDefr (r : ROp) : Bool := match r.op with | .defr .. => true | _ => false
def writesIn (d : Option Nat) (l : List Nat) : Bool := match d with
  | some t => l.contains t
  | none => false
section
variable (rs : Array ROp) (bef : Array Nat)
/-- i ahead of j, by the program's order. -/
def ordered (i j : Nat) : Bool := (bef.getD j 0).testBit i
def slotConf (a b : ROp) : Bool := writesIn a.dst b.slots || writesIn b.dst a.slots
/-- Of the operation at i and a later one at j, in our order. -/
def pairOk (i j : Nat) : Bool :=
  !ordered bef j i && match rs[i]?, rs[j]? with
    | some a, some b => !(a.op.effect || slotConf a b) || ordered bef i j
    | _, _ => false
def pairsOk : List Nat → Bool
  | [] => true
  | i :: r => r.all (pairOk rs bef i) && pairsOk r
/-- The loads ahead of j that may az well come behind it; 'ws': what is written between. -/
def chkOf (j : Nat) : List Nat → List Nat → Option (List (Opd × Shape × Nat × Option (Nat × Bool)))
  | _, [] => some []
  | ws, i :: r => match rs[i]? with
    | some a => match chkOf j (a.dst.toList ++ ws) r with
      | some l => match a.load? with
        | some e => if ordered bef i j then some l else if ws.any (fun t => a.slots.contains t) then none else some (e :: l)
        | none => some l
      | none => none
    | none => none
/-- The operations in our order, each with the loads that must be looked at again behind it; 'done': those that are laid, the last first. -/
def lay : List Nat → List Nat → Option (List ROp)
  | _, [] => some []
  | done, j :: r => match rs[j]? with
    | some o => match (if o.op.effect then chkOf rs bef j o.dst.toList done else some []), lay (j :: done) r with
      | some k, some os => some ({ o with chk := k } :: os)
      | _, _ => none
    | none => none
end
def edgesOk (ops : Array Oper) : Bool := ops.toList.zipIdx.all fun (o, i) => o.after.all fun e => !Region.binds .any e || decide (e.on < i)
def effAt (rs : Array ROp) (i : Nat) : Bool := ((rs[i]?).map (·.op.effect)).getD true
def compRegion (P : Program) (cfg : Cfg) (mf : Bool) (ops : Array Oper) (draw : Bool) : Option (List ROp) :=
  match compRops P cfg mf ops ops.toList with
  | some rs =>
    if draw = false then some rs else
    let ra := rs.toArray
    let κ := canonGo ops (effAt ra) ops.size []
    let bef := Region.before ops
    if κ.length = ops.size ∧ κ.all (fun i => decide (i < ops.size)) = true ∧ (List.range ops.size).all (fun i => κ.contains i) = true ∧ κ.Nodup ∧ pairsOk ra bef κ = true ∧ edgesOk ops = true ∧ (rs.all fun r => !isDefr r && loadOk r) = true then lay ra bef [] κ else none
  | none => none

def compC (P : Program) (cfg : Cfg) (mf : Bool) : Code → Option DC
  | .skip => some .skip
  | .region _ ops draw => match compRegion P cfg mf ops draw with
    | some rs => some (.region rs)
    | none => some (.loop .skip)   -- what is not taken: it never ends here, and so says nothing
  | .seq a b => match compC P cfg mf a, compC P cfg mf b with
    | some x, some y => some (.seq x y)
    | _, _ => none
  | .cond c a b => match opd c, compC P cfg mf a, compC P cfg mf b with
    | some c, some x, some y => some (.cond c x y)
    | _, _, _ => none
  | .block id b => (compC P cfg mf b).map (.block id)
  | .loop b => (compC P cfg mf b).map .loop
  | .rangeFunc f ps a b => match opd f, compC P cfg mf a, compC P cfg mf b with
    | some f, some x, some y => some (.range f ps.toList x y)
    | _, _, _ => none
  | .exit id => some (.exit id)
  | .ret => some .ret
  | _ => none
def compRes (P : Program) : List ResultVar → Option (List DRes)
  | [] => some []
  | .tmp t :: r => (compRes P r).map (.tmp t :: ·)
  | .cell t ty :: r => match shapeOf P ty, compRes P r with
    | some sh, some xs => some (.cell t sh :: xs)
    | _, _ => none
def compF (P : Program) (cfg : Cfg) (f : FuncId) : Option DFunc :=
  match P.funcs[f]? with
  | some fn => if fn.name == "runtime.NumGoroutine" then none else match fn.body with
    | some c => match compC P cfg (cfg.mutFn f) c, compRes P fn.results.toList with
      | some b, some rs => some { nt := fn.ntmps, body := b, res := rs }
      | _, _ => none
    | none => none
  | none => none
end Go.Dm
/- The D-machine (3): how its values and heap lie in the model's world. -/
namespace Go.Dm
set_option linter.unusedSimpArgs false
set_option linter.unusedVariables false
set_option linter.unnecessarySimpa false

/-- Where things lie: objects (block, first cell, the block's cells, an element's cells), what may be appended to (block, end, the block's cells, an element's cells), cells that stay. -/
structure Cor where
  φ : Nat → Option (Nat × Nat × Nat × Nat)
  τ : Nat → Option (Nat × Nat × Nat × Nat)
  kp : Nat → Nat → Option Value

structure Cor.le (c d : Cor) : Prop where
  φ : ∀ i x, c.φ i = some x → d.φ i = some x
  τ : ∀ i x, c.τ i = some x → d.τ i = some x
  kp : ∀ b o x, c.kp b o = some x → d.kp b o = some x
theorem Cor.le.refl (c : Cor) : c.le c := ⟨fun _ _ h => h, fun _ _ h => h, fun _ _ _ h => h⟩
theorem Cor.le.trans {a b c : Cor} (h : a.le b) (k : b.le c) : a.le c := ⟨fun i x e => k.φ i x (h.φ i x e), fun i x e => k.τ i x (h.τ i x e), fun i j x e => k.kp i j x (h.kp i j x e)⟩

inductive FRel (c : Cor) : Fn → Fn → Prop where
  | func (f : FuncId) : FRel c (.func f) (.func f)
  | yield {l b o lim sz : Nat} (h : c.φ l = some (b, o, lim, sz)) : FRel c (.yield l) (.yield b)

mutual
inductive VRel (c : Cor) : DV → Value → Prop where
  | undef : VRel c .undef (.tuple #[])
  | bool (b : Bool) : VRel c (.bool b) (.bool b)
  | int (k : IntKind) (n : Int) : VRel c (.int k n) (.int k n)
  | str (s : List UInt8) : VRel c (.str s) (.string ⟨s.toArray⟩)
  | nilp : VRel c .nilp (.pointer none)
  | ptr {id off b o lim sz : Nat} (h : c.φ id = some (b, o, lim, sz)) : VRel c (.ptr id off) (.pointer (some ⟨b, o + off, none⟩))
  | elt {cs : List DV} {vs : List Value} {b o : Nat} (h : VRels c cs vs) (ho : ∀ x ∈ cs, x.one = true) (hp : ∀ j x, vs[j]? = some x → c.kp b (o + j) = some x) : VRel c (.elt cs) (.pointer (some ⟨b, o, none⟩))
  | lst {t sz : Nat} {xs : List DV} {a : Option Addr} {cap : Nat} {vs : List Value} (hsz : t ≠ 0 → 0 < sz) (hs : ∀ x ∈ xs, x.cells.length = sz) (hv : VRels c (flat xs) vs) (ho : ∀ x ∈ flat xs, x.one = true)
      (hc : xs ≠ [] → ∃ b o, a = some ⟨b, o, none⟩ ∧ ∀ j x, vs[j]? = some x → c.kp b (o + j) = some x) (hl : xs.length ≤ cap)
      (h0 : t = 0 → a = none ∧ cap = 0) (h1 : t ≠ 0 → ∃ b o sp, a = some ⟨b, o, sp⟩ ∧ (sp = none ∨ cap = 0))
      (ht : 2 ≤ t → ∃ b o e lim, a = some ⟨b, o, none⟩ ∧ c.τ t = some (b, e, lim, sz) ∧ (cap = 0 ∨ (e = o + xs.length * sz ∧ o + cap * sz ≤ lim))) : VRel c (.lst t sz xs) (.slice a xs.length cap)
  | arr {id off len cap b o lim sz : Nat} {ab ao : Nat} (h : c.φ id = some (b, o, lim, sz)) (hl : len ≤ cap) (ha : cap = 0 ∨ (ab = b ∧ ao = o + off ∧ o + off + cap * sz ≤ lim)) :
      VRel c (.arr id sz off len) (.slice (some ⟨ab, ao, none⟩) len cap)
  | fn {f g : Fn} {a b : List DV} {x y : List Value} (hf : FRel c f g) (ha : VRels c a x) (hb : VRels c b y) : VRel c (.fn f a b) (.func g x.toArray y.toArray)
  | nilfn : VRel c .nilfn .nilFunc
  | agg {cs : List DV} {vs : List Value} (h : VRels c cs vs) (ho : ∀ x ∈ cs, x.one = true) : VRel c (.agg cs) (.agg vs.toArray)
  | tup {cs : List DV} {vs : List Value} (h : VRels c cs vs) : VRel c (.tup cs) (.tuple vs.toArray)
inductive VRels (c : Cor) : List DV → List Value → Prop where
  | nil : VRels c [] []
  | cons {d : DV} {v : Value} {ds : List DV} {vs : List Value} (h : VRel c d v) (hs : VRels c ds vs) : VRels c (d :: ds) (v :: vs)
end

theorem FRel.mono {c d : Cor} (hle : c.le d) {f g : Fn} (h : FRel c f g) : FRel d f g := by
  cases h with
  | func f => exact .func f
  | yield h => exact .yield (hle.φ _ _ h)
mutual
theorem VRel.mono {c d : Cor} (hle : c.le d) : ∀ {x : DV} {v : Value}, VRel c x v → VRel d x v
  | _, _, .undef => .undef
  | _, _, .bool b => .bool b
  | _, _, .int k n => .int k n
  | _, _, .str s => .str s
  | _, _, .nilp => .nilp
  | _, _, .ptr h => .ptr (hle.φ _ _ h)
  | _, _, .elt h ho hp => .elt (VRels.mono hle h) ho fun j x e => hle.kp _ _ _ (hp j x e)
  | _, _, .lst hsz hs hv ho hc hl h0 h1 ht => .lst hsz hs (VRels.mono hle hv) ho
      (fun e => let ⟨b, o, ha, hp⟩ := hc e; ⟨b, o, ha, fun j x hj => hle.kp _ _ _ (hp j x hj)⟩) hl h0 h1
      (fun e => let ⟨b, o, e, lim, ha, hx, hy⟩ := ht e; ⟨b, o, e, lim, ha, hle.τ _ _ hx, hy⟩)
  | _, _, .arr h hl ha => .arr (hle.φ _ _ h) hl ha
  | _, _, .fn hf ha hb => .fn (hf.mono hle) (VRels.mono hle ha) (VRels.mono hle hb)
  | _, _, .nilfn => .nilfn
  | _, _, .agg h ho => .agg (VRels.mono hle h) ho
  | _, _, .tup h => .tup (VRels.mono hle h)
theorem VRels.mono {c d : Cor} (hle : c.le d) : ∀ {xs : List DV} {vs : List Value}, VRels c xs vs → VRels d xs vs
  | _, _, .nil => .nil
  | _, _, .cons h hs => .cons (VRel.mono hle h) (VRels.mono hle hs)
end

namespace VRels
variable {c : Cor}
theorem length_eq : ∀ {xs : List DV} {vs : List Value}, VRels c xs vs → xs.length = vs.length
  | _, _, .nil => rfl
  | _, _, .cons _ hs => by simp [length_eq hs]
theorem get : ∀ {xs : List DV} {vs : List Value}, VRels c xs vs → ∀ (i : Nat) {x : DV}, xs[i]? = some x → ∃ v, vs[i]? = some v ∧ VRel c x v
  | _, _, .nil, i, x, h => by simp at h
  | _, _, .cons (d := d) (v := v) h hs, i, x, hx => by
    cases i with
    | zero => simp at hx; subst hx; exact ⟨_, by simp, h⟩
    | succ i => simp at hx; obtain ⟨w, h1, h2⟩ := get hs i hx; exact ⟨w, by simpa using h1, h2⟩
theorem append : ∀ {xs : List DV} {vs : List Value} {ys : List DV} {ws : List Value}, VRels c xs vs → VRels c ys ws → VRels c (xs ++ ys) (vs ++ ws)
  | _, _, _, _, .nil, k => k
  | _, _, _, _, .cons h hs, k => .cons h (append hs k)
theorem take : ∀ {xs : List DV} {vs : List Value} (n : Nat), VRels c xs vs → VRels c (xs.take n) (vs.take n)
  | _, _, 0, _ => by simp; exact .nil
  | _, _, _ + 1, .nil => .nil
  | _, _, n + 1, .cons h hs => .cons h (take n hs)
theorem drop : ∀ {xs : List DV} {vs : List Value} (n : Nat), VRels c xs vs → VRels c (xs.drop n) (vs.drop n)
  | _, _, 0, h => h
  | _, _, _ + 1, .nil => .nil
  | _, _, n + 1, .cons _ hs => drop n hs
theorem set : ∀ {xs : List DV} {vs : List Value} (n : Nat) {x : DV} {v : Value}, VRels c xs vs → VRel c x v → VRels c (xs.set n x) (vs.set n v)
  | _, _, _, _, _, .nil, _ => .nil
  | _, _, 0, _, _, .cons _ hs, k => .cons k hs
  | _, _, n + 1, _, _, .cons h hs, k => .cons h (set n hs k)
theorem replicate {x : DV} {v : Value} (h : VRel c x v) : ∀ n, VRels c (List.replicate n x) (List.replicate n v)
  | 0 => .nil
  | n + 1 => .cons h (replicate h n)
theorem of_get : ∀ {xs : List DV} {vs : List Value}, xs.length = vs.length → (∀ (i : Nat) x v, xs[i]? = some x → vs[i]? = some v → VRel c x v) → VRels c xs vs
  | [], [], _, _ => .nil
  | [], _ :: _, h, _ => by simp at h
  | _ :: _, [], h, _ => by simp at h
  | x :: xs, v :: vs, h, k => .cons (k 0 x v rfl rfl) (of_get (by simpa using h) fun i x v hx hv => k (i + 1) x v (by simpa using hx) (by simpa using hv))
theorem getD {xs : List DV} {vs : List Value} (h : VRels c xs vs) (n : Nat) : VRel c (xs.getD n .undef) (vs.getD n undef) := by
  rw [List.getD_eq_getElem?_getD, List.getD_eq_getElem?_getD]
  cases hx : xs[n]? with
  | some x => obtain ⟨v, h1, h2⟩ := h.get n hx; simpa [h1] using h2
  | none =>
    have : vs[n]? = none := by
      have := h.length_eq
      simp at hx ⊢; omega
    simp [this]; exact .undef
end VRels

theorem VRel.cells {c : Cor} {x : DV} {v : Value} (h : VRel c x v) : VRels c x.cells v.cells.toList := by
  cases h
  case agg h _ => simpa [DV.cells, Value.cells] using h
  all_goals (simp only [DV.cells, Value.cells]; refine .cons ?_ .nil)
  all_goals first
    | exact .undef
    | exact .bool _
    | exact .int _ _
    | exact .str _
    | exact .nilp
    | exact .ptr ‹_›
    | exact .elt ‹_› ‹_› ‹_›
    | exact .lst ‹_› ‹_› ‹_› ‹_› ‹_› ‹_› ‹_› ‹_› ‹_›
    | exact .arr ‹_› ‹_› ‹_›
    | exact .fn ‹_› ‹_› ‹_›
    | exact .nilfn
    | exact .tup ‹_›
theorem VRels.flat {c : Cor} : ∀ {xs : List DV} {vs : List Value}, VRels c xs vs → VRels c (flat xs) (vs.flatMap fun v => v.cells.toList)
  | _, _, .nil => .nil
  | _, _, .cons h hs => by
    simp only [Dm.flat, List.flatMap_cons]
    exact h.cells.append (VRels.flat hs)
theorem VRel.one {c : Cor} {x : DV} {v : Value} (h : VRel c x v) (h1 : x.one = true) : v.oneCell' = true := by
  cases h <;> simp_all [DV.one, Value.oneCell']
theorem VRel.okv_one {c : Cor} {x : DV} {v : Value} (h : VRel c x v) (h1 : x.okv = true) : ∀ y ∈ x.cells, y.one = true := by
  cases h
  case agg ho => simpa [DV.cells] using ho
  all_goals first
    | (simp [DV.okv] at h1; done)
    | (intro y hy; simp only [DV.cells, List.mem_singleton] at hy; subst hy; rfl)
theorem VRels.all_one {c : Cor} : ∀ {xs : List DV} {vs : List Value}, VRels c xs vs → (∀ x ∈ xs, x.one = true) → ∀ v ∈ vs, v.oneCell' = true
  | _, _, .nil, _, v, hv => by simp at hv
  | _, _, .cons h hs, h1, v, hv => by
    cases List.mem_cons.1 hv with
    | inl e => subst e; exact h.one (h1 _ (by simp))
    | inr e => exact VRels.all_one hs (fun x hx => h1 x (by simp [hx])) v e

/-- A state of a loop over a function. -/
def LState.conc : LState → LoopState
  | .ready => .ready
  | .busy => .busy
  | .done => .done
  | .over => .exhausted
def DX.jump : DX → Code
  | .normal => .skip
  | .exit id => .exit id
  | .ret => .ret
structure LoopRel (CC : Code → DC → Prop) (c : Cor) (r : LRec) (l : Loop) : Prop where
  tmps : VRels c r.tmps l.tmps.toList
  ps : l.params.toList = r.ps
  asg : CC l.assign r.asg
  body : CC l.body r.body
  st : l.state = r.st.conc
  pend : l.pending = r.pend.map DX.jump
  pn : r.pend ≠ some .normal

/-- No cell of such a block is frozen. -/
def FOk (lim : Nat) (f : Nat × Nat) : Prop := f.1 = f.2 ∨ lim ≤ f.1
/-- What an object of ours is in the model's heap. -/
def ORel (CC : Code → DC → Prop) (c : Cor) (H : Array Obj) (b o lim sz : Nat) : HObj → Prop
  | .cells cs sh => sz = sh.size ∧ o + cs.length ≤ lim ∧ ∃ vs e f, H[b]? = some (.cells vs e f) ∧ vs.size = lim ∧ FOk lim f ∧ (∀ x ∈ cs, x.one = true) ∧ ∀ j x, cs[j]? = some x → ∃ v, vs[o + j]? = some v ∧ VRel c x v
  | .siter s p => o = 0 ∧ H[b]? = some (.stringIter ⟨s.toArray⟩ p)
  | .loop r => ∃ l, H[b]? = some (.loop l) ∧ LoopRel CC c r l
  | .mark => H[b]? = some (.deferred (some []))

structure Sim (CC : Code → DC → Prop) (base : Nat) (c : Cor) (h : Heap) (H : Array Obj) : Prop where
  objs : ∀ id ob b o lim sz, h.objs.get id = some ob → c.φ id = some (b, o, lim, sz) → base ≤ b ∧ ORel CC c H b o lim sz ob
  uniq : ∀ id id' ob ob' b o lim sz o' lim' sz', h.objs.get id = some ob → h.objs.get id' = some ob' → c.φ id = some (b, o, lim, sz) → c.φ id' = some (b, o', lim', sz') → id = id'
  prot : ∀ b o v, c.kp b o = some v → ∃ vs e f, H[b]? = some (.cells vs e f) ∧ vs[o]? = some v
  sep : ∀ id ob b o lim sz, h.objs.get id = some ob → c.φ id = some (b, o, lim, sz) → ∀ j, c.kp b j = none
  tags : ∀ t sz b e lim sz', h.tags.get t = some sz → c.τ t = some (b, e, lim, sz') → sz' = sz ∧ base ≤ b ∧ (∃ vs ty f, H[b]? = some (.cells vs ty f) ∧ vs.size = lim ∧ FOk lim f) ∧ ∀ j, e ≤ j → c.kp b j = none
  tagobj : ∀ t sz b e lim sz' id ob b' o' lim' sz'', h.tags.get t = some sz → c.τ t = some (b, e, lim, sz') → h.objs.get id = some ob → c.φ id = some (b', o', lim', sz'') → b ≠ b'
  tagtag : ∀ t sz b e lim sz' u sz2 e' lim' sz'', h.tags.get t = some sz → c.τ t = some (b, e, lim, sz') → h.tags.get u = some sz2 → c.τ u = some (b, e', lim', sz'') → t = u
  dφ : ∀ id x, c.φ id = some x → id < h.next
  dτ : ∀ t x, c.τ t = some x → t < h.next
  bτ : ∀ t b e lim sz, c.τ t = some (b, e, lim, sz) → base ≤ b
  next : 2 ≤ h.next
  size : base ≤ H.size
  fresh : ∀ id, h.next ≤ id → h.objs.get id = none ∧ h.tags.get id = none
end Go.Dm
/- The D-machine (4): each operation that leaves the heap alone does in the model what it does in ours. -/
namespace Go.Dm
set_option linter.unusedSimpArgs false
set_option linter.unusedVariables false
set_option linter.unnecessarySimpa false

theorem ofVal1_rel {c : Cor} {v : Value} {d : DV} (h : ofVal1 v = some d) : VRel c d v := by
  unfold ofVal1 at h
  split at h <;> simp at h <;> subst h
  · exact .bool _
  · exact .int _ _
  · rename_i s
    have := VRel.str (c := c) s.data.toList
    simpa using this
  · exact .nilp
  · have := VRel.lst (c := c) (t := 0) (xs := []) (a := none) (cap := 0) (vs := []) (sz := 0) (by simp) (by simp) .nil (by simp [flat]) (by simp) (by simp) (by simp) (by simp) (by simp)
    simpa using this
  · exact .nilfn
theorem ofVal1_one {v : Value} {d : DV} (h : ofVal1 v = some d) : d.one = true := by
  unfold ofVal1 at h
  split at h <;> simp at h <;> subst h <;> rfl
theorem ofVals_one : ∀ {vs : List Value} {ds : List DV}, ofVals vs = some ds → ∀ x ∈ ds, x.one = true
  | [], ds, h => by simp [ofVals] at h; subst h; simp
  | v :: vs, ds, h => by
    simp only [ofVals] at h
    split at h <;> simp at h
    subst h
    rename_i h1 h2
    intro x hx
    cases List.mem_cons.1 hx with
    | inl e => subst e; exact ofVal1_one h1
    | inr e => exact ofVals_one h2 x e
theorem ofVals_rel {c : Cor} : ∀ {vs : List Value} {ds : List DV}, ofVals vs = some ds → VRels c ds vs
  | [], ds, h => by simp [ofVals] at h; subst h; exact .nil
  | v :: vs, ds, h => by
    simp only [ofVals] at h
    split at h <;> simp at h
    subst h
    rename_i h1 h2
    exact .cons (ofVal1_rel h1) (ofVals_rel h2)
theorem ofVal_rel {c : Cor} {v : Value} {d : DV} (h : ofVal v = some d) : VRel c d v := by
  unfold ofVal at h
  split at h
  · rename_i cs
    simp at h
    obtain ⟨ds, h1, rfl⟩ := h
    have := VRel.agg (ofVals_rel (c := c) h1) (ofVals_one h1)
    simpa using this
  · exact ofVal1_rel h

/-- The program's variables hold what ours say. -/
def GlobOk (D : DProg) (c : Cor) : Prop := (∀ g cs, D.glob g = some cs → ∀ x ∈ cs, x.one = true) ∧ ∀ g cs, D.glob g = some cs → ∃ vs, VRels c cs vs ∧ ∀ j x, vs[j]? = some x → c.kp g j = some x
theorem GlobOk.mono {D : DProg} {c d : Cor} (h : GlobOk D c) (hle : c.le d) : GlobOk D d := ⟨h.1, fun g cs hg =>
  let ⟨vs, h1, h2⟩ := h.2 g cs hg; ⟨vs, h1.mono hle, fun j x hj => hle.kp _ _ _ (h2 j x hj)⟩⟩

section
variable {D : DProg} {c : Cor} {fr : Fr} {a : Act}
theorem opd_rel (hg : GlobOk D c) (hf : VRels c fr.tmps a.tmps.toList) {x : Operand} {y : Opd} (h : opd x = some y) : VRel c (ev D fr y) (a.eval x) := by
  unfold opd at h
  split at h
  · simp at h; subst h
    rename_i t
    have := hf.getD t
    simpa [ev, Act.eval] using this
  · simp at h
    obtain ⟨d, h1, rfl⟩ := h
    exact ofVal_rel h1
  · simp at h; subst h
    rename_i g
    simp only [ev, Act.eval]
    cases hd : D.glob g with
    | some cs =>
      obtain ⟨vs, h1, h2⟩ := hg.2 g cs hd
      exact .elt h1 (hg.1 g cs hd) (fun j x hj => by simpa using h2 j x hj)
    | none => exact .elt .nil (by simp) (by simp)
  · simp at h; subst h
    rename_i f
    have := VRel.fn (c := c) (.func f) .nil .nil
    simpa [ev, Act.eval] using this
theorem opds_rel (hg : GlobOk D c) (hf : VRels c fr.tmps a.tmps.toList) : ∀ {xs : List Operand} {ys : List Opd}, opds xs = some ys → VRels c (evs D fr ys) (xs.map a.eval)
  | [], ys, h => by simp [opds] at h; subst h; exact .nil
  | x :: xs, ys, h => by
    simp only [opds] at h
    split at h <;> simp at h
    subst h
    rename_i h1 h2
    exact .cons (opd_rel hg hf h1) (opds_rel hg hf h2)
theorem opdO_rel (hg : GlobOk D c) (hf : VRels c fr.tmps a.tmps.toList) {x : Option Operand} {y : Option Opd} (h : opdO x = some y) :
    (y = none ∧ x = none) ∨ ∃ d v, evO D fr y = some d ∧ x.map a.eval = some v ∧ VRel c d v := by
  unfold opdO at h
  split at h
  · simp at h; subst h; exact .inl ⟨rfl, rfl⟩
  · simp at h
    obtain ⟨d, h1, rfl⟩ := h
    exact .inr ⟨_, _, rfl, rfl, opd_rel hg hf h1⟩
end

/-! ### inversions -/
section
variable {c : Cor} {v : Value}
theorem VRel.int_inv {k : IntKind} {n : Int} (h : VRel c (.int k n) v) : v = .int k n := by cases h; rfl
theorem VRel.bool_inv {b : Bool} (h : VRel c (.bool b) v) : v = .bool b := by cases h; rfl
theorem VRel.str_inv {s : List UInt8} (h : VRel c (.str s) v) : v = .string ⟨s.toArray⟩ := by cases h; rfl
theorem VRel.ptr_inv {id off : Nat} (h : VRel c (.ptr id off) v) : ∃ b o lim sz, c.φ id = some (b, o, lim, sz) ∧ v = .pointer (some ⟨b, o + off, none⟩) := by cases h; exact ⟨_, _, _, _, ‹_›, rfl⟩
theorem VRel.elt_inv {cs : List DV} (h : VRel c (.elt cs) v) : ∃ vs b o, VRels c cs vs ∧ (∀ x ∈ cs, x.one = true) ∧ (∀ j x, vs[j]? = some x → c.kp b (o + j) = some x) ∧ v = .pointer (some ⟨b, o, none⟩) := by cases h; exact ⟨_, _, _, ‹_›, ‹_›, ‹_›, rfl⟩
theorem VRel.agg_inv {cs : List DV} (h : VRel c (.agg cs) v) : ∃ vs, VRels c cs vs ∧ (∀ x ∈ cs, x.one = true) ∧ v = .agg vs.toArray := by cases h; exact ⟨_, ‹_›, ‹_›, rfl⟩
theorem VRel.tup_inv {cs : List DV} (h : VRel c (.tup cs) v) : ∃ vs, VRels c cs vs ∧ v = .tuple vs.toArray := by cases h; exact ⟨_, ‹_›, rfl⟩
theorem VRel.arr_inv {id sz off len : Nat} (h : VRel c (.arr id sz off len) v) : ∃ cap b o lim ab ao, c.φ id = some (b, o, lim, sz) ∧ len ≤ cap ∧ (cap = 0 ∨ (ab = b ∧ ao = o + off ∧ o + off + cap * sz ≤ lim)) ∧ v = .slice (some ⟨ab, ao, none⟩) len cap := by
  cases h; exact ⟨_, _, _, _, _, _, ‹_›, ‹_›, ‹_›, rfl⟩
theorem VRel.lst_inv {t sz : Nat} {xs : List DV} (h : VRel c (.lst t sz xs) v) : ∃ a cap vs, (t ≠ 0 → 0 < sz) ∧ (∀ x ∈ xs, x.cells.length = sz) ∧ VRels c (Dm.flat xs) vs ∧ (∀ x ∈ Dm.flat xs, x.one = true) ∧
      (xs ≠ [] → ∃ b o, a = some ⟨b, o, none⟩ ∧ ∀ j x, vs[j]? = some x → c.kp b (o + j) = some x) ∧ xs.length ≤ cap ∧ (t = 0 → a = none ∧ cap = 0) ∧ (t ≠ 0 → ∃ b o sp, a = some ⟨b, o, sp⟩ ∧ (sp = none ∨ cap = 0)) ∧
      (2 ≤ t → ∃ b o e lim, a = some ⟨b, o, none⟩ ∧ c.τ t = some (b, e, lim, sz) ∧ (cap = 0 ∨ (e = o + xs.length * sz ∧ o + cap * sz ≤ lim))) ∧ v = .slice a xs.length cap := by
  cases h; exact ⟨_, _, _, ‹_›, ‹_›, ‹_›, ‹_›, ‹_›, ‹_›, ‹_›, ‹_›, ‹_›, rfl⟩
theorem VRel.fn_inv {f : Fn} {x y : List DV} (h : VRel c (.fn f x y) v) : ∃ g a b, FRel c f g ∧ VRels c x a ∧ VRels c y b ∧ v = .func g a.toArray b.toArray := by cases h; exact ⟨_, _, _, ‹_›, ‹_›, ‹_›, rfl⟩
end

section
variable {P : Program} {c : Cor} (w : World)
theorem mkv_rel {sh : Shape} {cs : List DV} {vs : List Value} {v : DV} (hs : VRels c cs vs) (ho : ∀ x ∈ cs, x.one = true) (h : mkv sh cs = some v) (hl : cs.length = sh.size) :
    (∃ n, sh = some n ∧ VRel c v (.agg vs.toArray)) ∨ (sh = none ∧ ∃ x, vs = [x] ∧ VRel c v x) := by
  unfold mkv at h
  split at h
  · rename_i n
    simp at h; subst h
    exact .inl ⟨n, rfl, .agg hs ho⟩
  · simp [Shape.size] at hl
    match cs, hs with
    | [d], .cons (v := x) h1 .nil =>
      simp at h; subst h
      exact .inr ⟨rfl, x, rfl, h1⟩
theorem cut_some {cs r : List DV} {off n : Nat} (h : cut cs off n = some r) : off + n ≤ cs.length ∧ r = (cs.drop off).take n := by
  unfold cut at h
  split at h <;> simp at h
  exact ⟨‹_›, h.symm⟩
theorem cut_length {cs r : List DV} {off n : Nat} (h : cut cs off n = some r) : r.length = n := by
  obtain ⟨h1, rfl⟩ := cut_some h
  simp; omega
theorem shapeOf_some {t : TypeId} {n : Nat} (h : shapeOf P t = some (some n)) : (∃ i, P.info? t = some i ∧ i.size = n) ∧ ((∃ fs, P.underlying t = some (.struct fs)) ∨ ∃ k e, P.underlying t = some (.array k e)) ∧ 0 < n := by
  unfold shapeOf at h
  split at h
  · rename_i i fs hi hu
    split at h <;> simp at h
    exact ⟨⟨i, hi, h⟩, .inl ⟨fs, hu⟩, by omega⟩
  · rename_i i k e hi hu
    split at h <;> simp at h
    exact ⟨⟨i, hi, h⟩, .inr ⟨k, e, hu⟩, by omega⟩
  · split at h <;> simp at h
  · simp at h
theorem shapeOf_none {t : TypeId} (h : shapeOf P t = some none) : (∃ i, P.info? t = some i ∧ i.size = 1) ∧ ∃ d, P.underlying t = some d ∧ (∀ fs, d ≠ .struct fs) ∧ ∀ k e, d ≠ .array k e := by
  unfold shapeOf at h
  split at h
  · split at h <;> simp at h
  · split at h <;> simp at h
  · rename_i i d h1 h2 hi hu
    split at h <;> simp at h
    exact ⟨⟨i, hi, ‹_›⟩, d, hu, fun fs e => h1 fs e, fun k e e' => h2 k e e'⟩
  · simp at h
theorem shapeOf_size {t : TypeId} {sh : Shape} (h : shapeOf P t = some sh) : (∃ i, P.info? t = some i ∧ i.size = sh.size) ∧ 0 < sh.size := by
  cases sh with
  | some n => obtain ⟨h1, _, h2⟩ := shapeOf_some h; exact ⟨h1, h2⟩
  | none => exact ⟨(shapeOf_none h).1, by simp [Shape.size]⟩
theorem run_isAgg_some {t : TypeId} {n : Nat} (h : shapeOf P t = some (some n)) : (isAgg t).run P w = .ok true w := by
  rcases (shapeOf_some h).2.1 with ⟨fs, hu⟩ | ⟨k, e, hu⟩ <;> simp [isAgg, run_underlying hu]
theorem run_isAgg_none {t : TypeId} (h : shapeOf P t = some none) : (isAgg t).run P w = .ok false w := by
  obtain ⟨_, d, hu, h1, h2⟩ := shapeOf_none h
  cases d <;> simp_all [isAgg, run_underlying hu]
theorem run_sizeOf_shape {t : TypeId} {sh : Shape} (h : shapeOf P t = some sh) : (sizeOf t).run P w = .ok sh.size w := by
  obtain ⟨⟨i, hi, he⟩, _⟩ := shapeOf_size h
  simp [sizeOf, typeInfo, hi, he]
theorem run_sizeOfT {t : TypeId} {n : Nat} (h : sizeOfT P t = some n) : (sizeOf t).run P w = .ok n w := by
  simp [sizeOfT] at h
  obtain ⟨i, hi, he⟩ := h
  simp [sizeOf, typeInfo, hi, he]
end
end Go.Dm
/- The D-machine (5): values that are made without a look at the heap. -/
namespace Go.Dm
set_option linter.unusedSimpArgs false
set_option linter.unusedVariables false
set_option linter.unnecessarySimpa false

inductive All2 {α β : Type} (R : α → β → Prop) : List α → List β → Prop where
  | nil : All2 R [] []
  | cons {a : α} {b : β} {x : List α} {y : List β} (h : R a b) (hs : All2 R x y) : All2 R (a :: x) (b :: y)
/-! ### cells laid over cells -/
def ovl {α : Type} (cs : List α) (off : Nat) (xs : List α) : List α := cs.take off ++ xs ++ cs.drop (off + xs.length)
theorem overwrite_eq (cs : List DV) (off : Nat) (xs : List DV) : overwrite cs off xs = ovl cs off xs := rfl
theorem ovl_length {α : Type} (cs : List α) (off : Nat) (xs : List α) (h : off + xs.length ≤ cs.length) : (ovl cs off xs).length = cs.length := by
  simp [ovl]; omega
theorem VRels.ovl {c : Cor} {cs xs : List DV} {vs ws : List Value} (h : VRels c cs vs) (k : VRels c xs ws) (off : Nat) : VRels c (Dm.ovl cs off xs) (Dm.ovl vs off ws) := by
  unfold Dm.ovl
  rw [k.length_eq]
  exact ((h.take off).append k).append (h.drop _)
theorem foldl_set_list : ∀ (l : List Value) (k off : Nat) (cs : Array Value), off + k + l.length ≤ cs.size →
    ((l.zipIdx k).foldl (fun (cs : Array Value) (x : Value × Nat) => cs.setIfInBounds (off + x.2) x.1) cs).toList = ovl cs.toList (off + k) l
  | [], k, off, cs, h => by simp [ovl]
  | x :: l, k, off, cs, h => by
    simp only [List.zipIdx_cons, List.foldl_cons]
    rw [foldl_set_list l (k + 1) off _ (by simp at h ⊢; omega)]
    simp only [ovl, Array.toList_setIfInBounds, List.length_cons]
    have e : off + (k + 1) = off + k + 1 := by omega
    rw [e]
    have hlt : off + k < cs.toList.length := by simp at h ⊢; omega
    rw [List.take_set, List.drop_set_of_lt (by omega), List.take_add_one]
    have : cs.toList[off + k]? = some cs.toList[off + k] := List.getElem?_eq_getElem hlt
    rw [this]
    simp only [Option.toList_some]
    rw [List.set_append_right _ _ (by simp; omega)]
    have hl : (List.take (off + k) cs.toList).length = off + k := by simp; simp at hlt; omega
    simp [hl]
    have e2 : off + k + 1 + l.length = off + k + (l.length + 1) := by omega
    rw [e2]
theorem foldl_set_array (xs cs : Array Value) (off : Nat) (h : off + xs.size ≤ cs.size) :
    (xs.zipIdx.foldl (fun (cs : Array Value) (x : Value × Nat) => cs.setIfInBounds (off + x.2) x.1) cs).toList = ovl cs.toList off xs.toList := by
  have := foldl_set_list xs.toList 0 off cs (by simpa using h)
  rw [← Array.foldl_toList]
  simpa using this
theorem VRel.cells_size {c : Cor} {x : DV} {v : Value} (h : VRel c x v) : v.cells.size = x.cells.length := by
  rw [h.cells.length_eq]; simp

theorem fill_rel {c : Cor} {place : Nat → Option (Nat × Nat)} {ρ : Operand → Value} : ∀ (ps : List (Nat × Operand)) (qs : List (Nat × Nat × DV)),
    All2 (fun (p : Nat × Operand) (q : Nat × Nat × DV) => place p.1 = some (q.1, q.2.1) ∧ VRel c q.2.2 (ρ p.2)) ps qs →
    ∀ (cs : List DV) (r : List DV) (arr : Array Value), VRels c cs arr.toList → buildL cs qs = some r →
    (∀ x ∈ cs, x.one = true) → ∃ arr', Instr.fill place arr (ps.map fun p => (p.1, ρ p.2)) = some arr' ∧ VRels c r arr'.toList ∧ ∀ x ∈ r, x.one = true := by
  intro ps
  induction ps with
  | nil =>
    intro qs hq cs r arr hv hb ho
    cases hq
    simp [buildL] at hb; subst hb
    exact ⟨arr, rfl, hv, ho⟩
  | cons p ps ih =>
    intro qs hq cs r arr hv hb ho
    cases hq with
    | cons h hr =>
      rename_i q qs
      obtain ⟨hp, hx⟩ := h
      obtain ⟨off, n, d⟩ := q
      simp only [buildL] at hb
      split at hb
      · rename_i hc
        have hs := hx.cells_size
        simp only [List.map_cons, Instr.fill, hp]
        have hl := hv.length_eq
        have h1 : (ρ p.2).cells.size = n := by rw [hs]; exact hc.1
        have hn : ¬ (((ρ p.2).cells.size ≠ n || decide (off + (ρ p.2).cells.size > arr.size)) = true) := by
          simp at hl ⊢
          exact ⟨h1, by omega⟩
        rw [if_neg hn]
        refine ih qs hr _ r _ ?_ hb ?_
        case refine_2 =>
          intro y hy
          simp only [overwrite, List.mem_append] at hy
          rcases hy with (h1 | h1) | h1
          · exact ho y (List.mem_of_mem_take h1)
          · exact hx.okv_one hc.2.2 y h1
          · exact ho y (List.mem_of_mem_drop h1)
        have := foldl_set_array (ρ p.2).cells arr off (by simp at hl; omega)
        rw [this]
        exact VRels.ovl hv hx.cells off
      · simp at hb
theorem partsS_rel {P : Program} {D : DProg} {fr : Fr} {a : Act} {c : Cor} {fs : Array Field} (hg : GlobOk D c) (hf : VRels c fr.tmps a.tmps.toList)
    {places : Array (Nat × Nat)} (hpl : ∀ (i : Nat) (f : Field), fs[i]? = some f → ∃ n, sizeOfT P f.type = some n ∧ places[i]? = some (f.offset, n)) :
    ∀ (ps : List (Nat × Operand)) (qs : List (Nat × Nat × Opd)), partsS P fs ps = some qs →
    All2 (fun (p : Nat × Operand) (q : Nat × Nat × DV) => places[p.1]? = some (q.1, q.2.1) ∧ VRel c q.2.2 (a.eval p.2)) ps (qs.map fun q => (q.1, q.2.1, ev D fr q.2.2)) := by
  intro ps
  induction ps with
  | nil => intro qs h; simp [partsS] at h; subst h; exact .nil
  | cons p ps ih =>
    intro qs h
    obtain ⟨i, x⟩ := p
    simp only [partsS] at h
    split at h <;> simp at h
    rename_i f y ys h1 h2 h3
    obtain ⟨n, hn, rfl⟩ := h
    obtain ⟨m, hm, hp⟩ := hpl i f h1
    rw [hn] at hm
    simp at hm; subst hm
    exact .cons ⟨hp, opd_rel hg hf h2⟩ (ih ys h3)
end Go.Dm
/- The D-machine (6): sums, comparisons, conversions. -/
namespace Go.Dm
set_option linter.unusedSimpArgs false
set_option linter.unusedVariables false
set_option linter.unnecessarySimpa false

section
variable {P : Program} {c : Cor} (w : World)
theorem bytes_eq_iff (a b : List UInt8) : ((⟨a.toArray⟩ : ByteArray).toList == (⟨b.toArray⟩ : ByteArray).toList) = decide (a = b) := by
  rw [ByteArray.toList_eq, ByteArray.toList_eq]
  by_cases h : a = b
  · subst h; simp
  · simp [h]
theorem beq_dec (x y : List UInt8) : (x == y) = decide (x = y) := by
  by_cases h : x = y <;> simp [h]
theorem bytes_toList (a : List UInt8) : (⟨a.toArray⟩ : ByteArray).toList = a := by
  rw [ByteArray.toList_eq]
theorem bytes_size (a : List UInt8) : (⟨a.toArray⟩ : ByteArray).size = a.length := by
  simp [ByteArray.size]
theorem bytes_append (a b : List UInt8) : (⟨a.toArray⟩ : ByteArray) ++ ⟨b.toArray⟩ = ⟨(a ++ b).toArray⟩ := by
  apply ByteArray.ext
  simp [ByteArray.data_append]

theorem intBin_rel {op : BinOp} {k : IntKind} {x y : Int} {v : DV} {t : TypeId} (h : intBin op k x y = some v) : ∃ v', (binOp op t (.int k x) (.int k y)).run P w = .ok v' w ∧ VRel c v v' := by
  cases op <;> simp only [intBin] at h
  case quo | rem =>
    split at h <;> simp at h
    subst h
    rename_i h0
    exact ⟨_, by simp [binOp, Op.intDiv, h0], .int _ _⟩
  all_goals first
    | (simp at h; subst h; exact ⟨_, by simp [binOp, Op.intArith, Op.intBits, Op.intCmp, bne]; try rfl, by first | exact .int _ _ | exact .bool _⟩)
    | (simp at h)
theorem strBin_rel {op : BinOp} {x y : List UInt8} {v : DV} {t : TypeId} (h : strBin op x y = some v) : ∃ v', (binOp op t (.string ⟨x.toArray⟩) (.string ⟨y.toArray⟩)).run P w = .ok v' w ∧ VRel c v v' := by
  cases op <;> simp only [strBin] at h
  case add =>
    split at h <;> simp at h
    subst h
    rename_i h0
    refine ⟨_, ?_, .str _⟩
    have h1 : ¬ (IntKind.i64.max < (x.length : Int) + (y.length : Int)) := by
      simp [IntKind.max, IntKind.signed, IntKind.bits]; omega
    simp [binOp, Op.stringOp, bytes_size, h1, bytes_append]
    omega
  all_goals first
    | (simp at h; subst h; refine ⟨_, ?_, .bool _⟩; simp only [binOp, Op.stringOp, bytes_eq_iff, bytes_toList, strLess]; simp [beq_dec])
    | (simp at h)
theorem eqBin_rel {op : BinOp} {r : Bool} {v : DV} {s : Sem Value} (h : eqBin op r = some v) (he : op = .eql → s.run P w = .ok (.bool r) w) (hn : op = .neq → s.run P w = .ok (.bool (!r)) w) : ∃ v', s.run P w = .ok v' w ∧ VRel c v v' := by
  cases op <;> simp [eqBin] at h
  · subst h; exact ⟨_, he rfl, .bool _⟩
  · subst h; exact ⟨_, hn rfl, .bool _⟩
theorem eqBin_op {op : BinOp} {r : Bool} {v : DV} (h : eqBin op r = some v) : op = .eql ∨ op = .neq := by
  cases op <;> simp [eqBin] at h <;> simp

theorem fieldKs_cons {off : Nat} {f : Field} {fs : List Field} {ks : List SK} (h : fieldKs P off (f :: fs) = some ks) :
    f.name ≠ "_" ∧ f.offset = off ∧ ∃ k ks', scalarK P f.type = some k ∧ shapeOf P f.type = some none ∧ fieldKs P (off + 1) fs = some ks' ∧ ks = k :: ks' := by
  simp only [fieldKs] at h
  split at h
  · rename_i h0
    split at h <;> simp at h
    subst h
    simp at h0
    exact ⟨h0.1, h0.2, _, _, ‹_›, ‹_›, ‹_›, rfl⟩
  · simp at h
theorem part_none {t : TypeId} (h : shapeOf P t = some none) {cs : Array Value} {off : Nat} {v : Value} (hv : cs[off]? = some v) : (part t cs off).run P w = .ok v w := by
  simp [part, run_isAgg_none w h, hv]
theorem equalIn_scalar {k : SK} {d : Nat} {t : TypeId} (h : scalarK P t = some k) :
    (k = .int → ∀ q a b, (Op.equalIn (d + 1) t (.int q a) (.int q b)).run P w = .ok (a == b) w) ∧
    (k = .bool → ∀ a b, (Op.equalIn (d + 1) t (.bool a) (.bool b)).run P w = .ok (a == b) w) ∧
    (k = .str → ∀ a b, (Op.equalIn (d + 1) t (.string a) (.string b)).run P w = .ok (a.toList == b.toList) w) := by
  unfold scalarK at h
  split at h <;> simp at h <;> subst h <;> rename_i hu
  · exact ⟨by simp, fun _ a b => run_equalIn_bool w d t a b hu, by simp⟩
  · exact ⟨fun _ q a b => run_equalIn_int w d t q _ a b hu, by simp, by simp⟩
  · exact ⟨by simp, by simp, fun _ a b => run_equalIn_string w d t a b hu⟩
theorem eqFields_rel {d : Nat} {xs ys : Array Value} : ∀ (fs : List Field) (ks : List SK) (off : Nat) (az bs : List DV) (r : Bool), fieldKs P off fs = some ks → plainEq ks az bs = some r →
    (∀ j x, az[j]? = some x → ∃ v, xs[off + j]? = some v ∧ VRel c x v) → (∀ j x, bs[j]? = some x → ∃ v, ys[off + j]? = some v ∧ VRel c x v) →
    (Op.eqFields (d + 1) xs ys fs).run P w = .ok r w := by
  intro fs
  induction fs with
  | nil =>
    intro ks off az bs r hk hp _ _
    simp [fieldKs] at hk; subst hk
    cases az <;> cases bs <;> simp [plainEq] at hp
    subst hp
    simp [Op.eqFields]
  | cons f fs ih =>
    intro ks off az bs r hk hp hx hy
    obtain ⟨hn, ho, k, ks', h1, h2, h3, rfl⟩ := fieldKs_cons hk
    match az, bs with
    | [], _ => cases k <;> simp [plainEq] at hp
    | _ :: _, [] => cases k <;> simp [plainEq] at hp
    | x :: az, y :: bs =>
      obtain ⟨vx, hvx, rx⟩ := hx 0 x rfl
      obtain ⟨vy, hvy, ry⟩ := hy 0 y rfl
      have hx' : ∀ j z, az[j]? = some z → ∃ v, xs[off + 1 + j]? = some v ∧ VRel c z v := fun j z hz => by
        have := hx (j + 1) z (by simpa using hz)
        rwa [show off + (j + 1) = off + 1 + j by omega] at this
      have hy' : ∀ j z, bs[j]? = some z → ∃ v, ys[off + 1 + j]? = some v ∧ VRel c z v := fun j z hz => by
        have := hy (j + 1) z (by simpa using hz)
        rwa [show off + (j + 1) = off + 1 + j by omega] at this
      obtain ⟨e1, e2, e3⟩ := equalIn_scalar (P := P) w (d := d) h1
      simp only [Nat.add_zero] at hvx hvy
      have px := part_none w h2 (ho ▸ hvx)
      have py := part_none w h2 (ho ▸ hvy)
      have key : ∀ q : Bool, (Op.equalIn (d + 1) f.type vx vy).run P w = .ok q w → (∀ r', plainEq ks' az bs = some r' → r = (q && r')) → (plainEq ks' az bs).isSome → (Op.eqFields (d + 1) xs ys (f :: fs)).run P w = .ok r w := by
        intro q hq hr hs
        obtain ⟨r', hr'⟩ := Option.isSome_iff_exists.1 hs
        have := hr r' hr'
        simp only [Op.eqFields, hn, ne_eq, not_false_eq_true, if_true, Sem.run_bind, px, py, Result.andThen_ok, hq]
        cases q
        · simp at this; subst this; simp
        · simp at this; subst this; simpa using ih ks' (off + 1) az bs r h3 hr' hx' hy'
      cases k with
      | int =>
        cases x <;> cases y <;> simp only [plainEq] at hp <;> try (cases hp; done)
        split at hp
        · rename_i e; subst e
          obtain ⟨r', hr', hrr⟩ := Option.map_eq_some_iff.1 hp
          cases rx.int_inv; cases ry.int_inv
          exact key _ (e1 rfl _ _ _) (fun z hz => by rw [hr'] at hz; cases hz; rw [← hrr]; rfl) (by simp [hr'])
        · simp at hp
      | bool =>
        cases x <;> cases y <;> simp only [plainEq] at hp <;> try (cases hp; done)
        obtain ⟨r', hr', hrr⟩ := Option.map_eq_some_iff.1 hp
        cases rx.bool_inv; cases ry.bool_inv
        exact key _ (e2 rfl _ _) (fun z hz => by rw [hr'] at hz; cases hz; rw [← hrr]) (by simp [hr'])
      | str =>
        cases x <;> cases y <;> simp only [plainEq] at hp <;> try (cases hp; done)
        obtain ⟨r', hr', hrr⟩ := Option.map_eq_some_iff.1 hp
        cases rx.str_inv; cases ry.str_inv
        refine key _ (e3 rfl _ _) (fun z hz => ?_) (by simp [hr'])
        rw [hr'] at hz; cases hz; rw [← hrr, bytes_eq_iff]

theorem eqIn_ptr1 {t e : TypeId} {d : Nat} (hu : P.underlying t = some (.pointer e)) (a b : Option Addr) (h : a = none ∨ b = none) : (Op.equalIn (d + 1) t (.pointer a) (.pointer b)).run P w = .ok (a.isNone && b.isNone) w := by
  rcases h with rfl | rfl
  · simp [Op.equalIn, run_underlying hu]
  · cases a <;> simp [Op.equalIn, run_underlying hu]
theorem eqIn_sl {t e : TypeId} {d : Nat} (hu : P.underlying t = some (.slice e)) (a : Option Addr) (n c : Nat) : (Op.equalIn (d + 1) t (.slice a n c) (.slice none 0 0)).run P w = .ok a.isNone w := by
  cases a <;> simp [Op.equalIn, run_underlying hu]
def isNilF : Value → Bool
  | .nilFunc => true
  | _ => false
theorem eqIn_fn {t : TypeId} {ps rs : Array TypeId} {vd : Bool} {d : Nat} (hu : P.underlying t = some (.func ps rs vd)) (x y : Value) (hx : x = .nilFunc ∨ ∃ f a b, x = .func f a b) (hy : y = .nilFunc ∨ ∃ f a b, y = .func f a b)
    (h : x = .nilFunc ∨ y = .nilFunc) : (Op.equalIn (d + 1) t x y).run P w = .ok (isNilF x && isNilF y) w := by
  rcases hx with rfl | ⟨f, a, b, rfl⟩ <;> rcases hy with rfl | ⟨g, a', b', rfl⟩
  · simp [Op.equalIn, run_underlying hu, isNilF]
  · simp [Op.equalIn, run_underlying hu, isNilF]
  · simp [Op.equalIn, run_underlying hu, isNilF]
  · simp at h
theorem go_eql {t : TypeId} {x y : Value} {ox oy : Operand} {r : Bool} (hb : binOp .eql t x y = (do pure (.bool (← Op.equal t x y)))) (hg : (eqGuard .eql t ox oy x y).run P w = .ok () w) (h : (Op.equalIn (9999 + 1) t x y).run P w = .ok r w) :
    ((do eqGuard .eql t ox oy x y; binOp .eql t x y : Sem Value)).run P w = .ok (.bool r) w := by
  rw [Sem.run_bind, hg, hb]
  simp only [Result.andThen_ok, Sem.run_bind]
  rw [show (Op.equal t x y).run P w = .ok r w from h]
  rfl
theorem go_neq {t : TypeId} {x y : Value} {ox oy : Operand} {r : Bool} (hb : binOp .neq t x y = (do pure (.bool (!(← Op.equal t x y))))) (hg : (eqGuard .neq t ox oy x y).run P w = .ok () w) (h : (Op.equalIn (9999 + 1) t x y).run P w = .ok r w) :
    ((do eqGuard .neq t ox oy x y; binOp .neq t x y : Sem Value)).run P w = .ok (.bool (!r)) w := by
  rw [Sem.run_bind, hg, hb]
  simp only [Result.andThen_ok, Sem.run_bind]
  rw [show (Op.equal t x y).run P w = .ok r w from h]
  rfl
theorem bin_rel {op : BinOp} {t : TypeId} {ek : EqK} {x y : DV} {vx vy : Value} {v : DV} {ox oy : Operand} (hb : binD op ek x y = some v) (hx : VRel c x vx) (hy : VRel c y vy)
    (hk : (op = .eql ∨ op = .neq) → eqKind P t = some ek) :
    ∃ v', ((do eqGuard op t ox oy vx vy; binOp op t vx vy : Sem Value)).run P w = .ok v' w ∧ VRel c v v' := by
  cases x <;> cases y <;> simp only [binD] at hb <;> try (cases hb; done)
  case int.int k a l b =>
    cases hx.int_inv; cases hy.int_inv
    have hg : (eqGuard op t ox oy (.int k a) (.int l b)).run P w = .ok () w := by cases op <;> simp [eqGuard]
    simp only [Sem.run_bind, hg, Result.andThen_ok]
    split at hb
    · split at hb <;> simp at hb
      subst hb
      exact ⟨_, by simp [binOp, Op.shift, ‹¬ _›], .int _ _⟩
    · split at hb <;> simp at hb
      subst hb
      exact ⟨_, by simp [binOp, Op.shift, ‹¬ _›], .int _ _⟩
    · split at hb
      · rename_i e; subst e
        exact intBin_rel w hb
      · simp at hb
  case str.str a b =>
    cases hx.str_inv; cases hy.str_inv
    have hg : (eqGuard op t ox oy (.string ⟨a.toArray⟩) (.string ⟨b.toArray⟩)).run P w = .ok () w := by cases op <;> simp [eqGuard]
    simp only [Sem.run_bind, hg, Result.andThen_ok]
    exact strBin_rel w hb
  case bool.bool a b =>
    cases hx.bool_inv; cases hy.bool_inv
    have hg : (eqGuard op t ox oy (.bool a) (.bool b)).run P w = .ok () w := by cases op <;> simp [eqGuard]
    simp only [Sem.run_bind, hg, Result.andThen_ok]
    split at hb
    · rename_i e; subst e
      have hu : P.underlying t = some .bool := by
        have hk' := hk (eqBin_op hb)
        unfold eqKind at hk'
        split at hk' <;> simp at hk'
        assumption
      exact eqBin_rel w hb (fun e => by subst e; exact run_eql_bool w t a b hu) (fun e => by subst e; exact run_neq_bool w t a b hu)
    · simp at hb
  case agg.agg a b =>
    obtain ⟨va, ra, _, rfl⟩ := hx.agg_inv
    obtain ⟨vb, rb, _, rfl⟩ := hy.agg_inv
    split at hb
    · rename_i ks
      obtain ⟨r, hr, hb⟩ := Option.bind_eq_some_iff.1 hb
      have hk' := hk (eqBin_op hb)
      unfold eqKind at hk'
      split at hk' <;> simp at hk'
      rename_i fs hu
      obtain ⟨⟨g1, g2⟩, g3⟩ := hk'
      have hg : (eqGuard op t ox oy (.agg va.toArray) (.agg vb.toArray)).run P w = .ok () w := run_eqGuard_agg w op t ox oy _ _ g1
      simp only [Sem.run_bind, hg, Result.andThen_ok]
      have hfs : P.underlying t = some (.struct (P.fieldsOf t)) := by simp [Program.fieldsOf, hu]
      have heq : (Op.equalIn 10000 t (.agg va.toArray) (.agg vb.toArray)).run P w = .ok r w := by
        rw [run_equalIn_struct w 9999 t _ _ hfs g2]
        have : (P.fieldsOf t) = fs := by simp [Program.fieldsOf, hu]
        rw [this]
        refine eqFields_rel (c := c) w (d := 9998) fs.toList ks 0 a b r g3 hr (fun j x hj => ?_) (fun j x hj => ?_)
        · obtain ⟨v, h1, h2⟩ := ra.get j hj; exact ⟨v, by simpa using h1, h2⟩
        · obtain ⟨v, h1, h2⟩ := rb.get j hj; exact ⟨v, by simpa using h1, h2⟩
      exact eqBin_rel w hb (fun e => by subst e; rw [run_eql_struct, heq]; rfl) (fun e => by subst e; rw [run_neq_struct, heq]; rfl)
    · simp at hb
  case lst.lst t0 z0 xs u z1 ys =>
    by_cases hz : u = 0 ∧ ys = []
    · obtain ⟨rfl, rfl⟩ := hz
      simp only at hb
      split at hb
      · rename_i e; subst e
        have hk' := hk (eqBin_op hb)
        unfold eqKind at hk'
        split at hk' <;> simp at hk'
        rename_i hu
        obtain ⟨a, cap, vs, _, _, _, _, _, _, h0, h1, _, rfl⟩ := hx.lst_inv
        obtain ⟨a', cap', vs', _, _, _, _, _, _, h0', _, _, rfl⟩ := hy.lst_inv
        obtain ⟨rfl, rfl⟩ := h0' rfl
        have hn : a.isNone = (t0 == 0) := by
          by_cases e : t0 = 0
          · obtain ⟨rfl, _⟩ := h0 e; simp [e]
          · obtain ⟨b, o, sp, rfl, _⟩ := h1 e; simp [e]
        rw [← hn] at hb
        exact eqBin_rel w hb (fun e => by subst e; exact go_eql w rfl (by simp [eqGuard]) (eqIn_sl w hu _ _ _)) (fun e => by subst e; exact go_neq w rfl (by simp [eqGuard]) (eqIn_sl w hu _ _ _))
      · simp at hb
    · split at hb <;> simp_all
  case arr.lst i0 s0 o0 n0 u z1 ys =>
    by_cases hz : u = 0 ∧ ys = []
    · obtain ⟨rfl, rfl⟩ := hz
      simp only at hb
      split at hb
      · rename_i e; subst e
        have hk' := hk (eqBin_op hb)
        unfold eqKind at hk'
        split at hk' <;> simp at hk'
        rename_i hu
        obtain ⟨cap, b, o, lim, ab, ao, _, _, _, rfl⟩ := hx.arr_inv
        obtain ⟨a', cap', vs', _, _, _, _, _, _, h0', _, _, rfl⟩ := hy.lst_inv
        obtain ⟨rfl, rfl⟩ := h0' rfl
        exact eqBin_rel w hb (fun e => by subst e; exact go_eql w rfl (by simp [eqGuard]) (eqIn_sl w hu _ _ _)) (fun e => by subst e; exact go_neq w rfl (by simp [eqGuard]) (eqIn_sl w hu _ _ _))
      · simp at hb
    · split at hb <;> simp_all
  case nilp.nilp | nilp.ptr | ptr.nilp | nilp.elt | elt.nilp =>
    split at hb
    · rename_i e; subst e
      have hk' := hk (eqBin_op hb)
      unfold eqKind at hk'
      split at hk' <;> simp at hk'
      rename_i hu
      cases hx <;> cases hy
      exact eqBin_rel w hb (fun e => by subst e; exact go_eql w rfl (by simp [eqGuard]) (eqIn_ptr1 w hu _ _ (by simp))) (fun e => by subst e; exact go_neq w rfl (by simp [eqGuard]) (eqIn_ptr1 w hu _ _ (by simp)))
    · simp at hb
  case nilfn.nilfn | nilfn.fn | fn.nilfn =>
    split at hb
    · rename_i e; subst e
      have hk' := hk (eqBin_op hb)
      unfold eqKind at hk'
      split at hk' <;> simp at hk'
      rename_i hu
      cases hx <;> cases hy
      exact eqBin_rel w hb (fun e => by subst e; exact go_eql w rfl (by simp [eqGuard]) (eqIn_fn w hu _ _ (by simp) (by simp) (by simp))) (fun e => by subst e; exact go_neq w rfl (by simp [eqGuard]) (eqIn_fn w hu _ _ (by simp) (by simp) (by simp)))
    · simp at hb
end
end Go.Dm
/- The D-machine (7): the other operations that only compute. -/
namespace Go.Dm
set_option linter.unusedSimpArgs false
set_option linter.unusedVariables false
set_option linter.unnecessarySimpa false

section
variable {P : Program} {c : Cor} (w : World)
theorem un_rel {op : UnOp} {x : DV} {vx : Value} {v : DV} (h : unD op x = some v) (hx : VRel c x vx) : ∃ v', (Op.unary op vx).run P w = .ok v' w ∧ VRel c v v' := by
  cases x <;> simp [unD] at h
  case int k n =>
    cases hx.int_inv
    cases op <;> simp at h
    · subst h; exact ⟨_, by simp [Op.unary, Op.intArith], .int _ _⟩
    · simp [intBin] at h; subst h
      exact ⟨_, by simp [Op.unary, Op.intBits], .int _ _⟩
  case bool b =>
    cases hx.bool_inv
    cases op <;> simp at h
    subst h
    exact ⟨_, by simp [Op.unary], .bool _⟩

theorem byte?_some {x : DV} {b : UInt8} (h : byte? x = some b) : ∃ n : Int, x = .int .u8 n ∧ 0 ≤ n ∧ n < 256 ∧ b = UInt8.ofNat n.toNat := by
  unfold byte? at h
  split at h
  · split at h <;> simp at h
    exact ⟨_, rfl, by omega, by omega, h.symm⟩
  · simp at h
theorem rune?_some {x : DV} {r : Int} (h : rune? x = some r) : x = .int .i32 r := by
  unfold rune? at h
  split at h <;> simp at h
  subst h; rfl
theorem flat_scalar : ∀ (xs : List DV), (∀ x ∈ xs, ∀ cs, x ≠ .agg cs) → flat xs = xs
  | [], _ => rfl
  | x :: xs, h => by
    have h1 : x.cells = [x] := by
      have := h x (by simp)
      cases x <;> simp_all [DV.cells]
    simp only [flat, List.flatMap_cons, h1]
    have := flat_scalar xs fun y hy => h y (by simp [hy])
    simp only [flat] at this
    rw [this]; rfl
def nums (k : IntKind) (ns : List Int) : List DV := ns.map (DV.int k)
theorem nums_rel {k : IntKind} : ∀ {ns : List Int} {vs : List Value}, VRels c (nums k ns) vs → vs = ns.map (Value.int k)
  | [], vs, h => by cases h; rfl
  | n :: ns, vs, h => by
    cases h with
    | cons h hs => cases h.int_inv; rw [nums_rel hs]; rfl
theorem nums_flat (k : IntKind) (ns : List Int) : flat (nums k ns) = nums k ns := flat_scalar _ fun x hx cs e => by
  subst e; simp [nums] at hx
theorem toStr?_some : ∀ {xs : List DV} {s : List UInt8}, toStr? xs = some s → ∃ ns : List Int, xs = nums .u8 ns ∧ s = ns.map fun n => UInt8.ofNat n.toNat
  | [], s, h => by simp [toStr?] at h; subst h; exact ⟨[], rfl, rfl⟩
  | x :: xs, s, h => by
    simp only [toStr?] at h
    split at h <;> simp at h
    rename_i b s' hb hs
    subst h
    obtain ⟨n, rfl, h0, h1, rfl⟩ := byte?_some hb
    obtain ⟨ns, rfl, rfl⟩ := toStr?_some hs
    exact ⟨n :: ns, rfl, rfl⟩
theorem runesStr?_some : ∀ {xs : List DV} {s : List UInt8}, runesStr? xs = some s → ∃ ns : List Int, xs = nums .i32 ns ∧ s = ns.flatMap fun n => (Utf8.encode n).data.toList
  | [], s, h => by simp [runesStr?] at h; subst h; exact ⟨[], rfl, rfl⟩
  | x :: xs, s, h => by
    simp only [runesStr?] at h
    split at h <;> simp at h
    rename_i b s' hb hs
    subst h
    cases rune?_some hb
    obtain ⟨ns, rfl, rfl⟩ := runesStr?_some hs
    exact ⟨b :: ns, rfl, rfl⟩
theorem foldl_push : ∀ (ns : List Int) (acc : ByteArray), ns.foldl (fun (r : ByteArray) n => r.push (UInt8.ofNat n.toNat)) acc = ⟨(acc.data.toList ++ ns.map fun n => UInt8.ofNat n.toNat).toArray⟩
  | [], acc => by simp
  | n :: ns, acc => by
    simp only [List.foldl_cons]
    rw [foldl_push ns]
    simp
theorem foldl_encode : ∀ (ns : List Int) (acc : ByteArray), ns.foldl (fun (r : ByteArray) n => r ++ Utf8.encode n) acc = ⟨(acc.data.toList ++ ns.flatMap fun n => (Utf8.encode n).data.toList).toArray⟩
  | [], acc => by simp
  | n :: ns, acc => by
    simp only [List.foldl_cons]
    rw [foldl_encode ns]
    simp

def Kept (c : Cor) (w : World) : Prop := ∀ b o v, c.kp b o = some v → w.cell? ⟨b, o, none⟩ = some v
theorem add_plain (b o j : Nat) : (⟨b, o, none⟩ : Addr).add j = ⟨b, o + j, none⟩ := by unfold Addr.add; split <;> simp_all
theorem lst_cells (hk : Kept c w) {t sz : Nat} {xs : List DV} {a : Addr} {cap : Nat} (h : VRel c (.lst t sz xs) (.slice (some a) xs.length cap)) :
    ∃ vs, (∀ x ∈ xs, x.cells.length = sz) ∧ (∀ x ∈ flat xs, x.one = true) ∧ VRels c (flat xs) vs ∧ (xs ≠ [] → (loadCells a (xs.length * sz)).run P w = .ok vs.toArray w) ∧ vs.length = xs.length * sz := by
  cases h with
  | lst hsz hs hv ho hc hl h0 h1 ht =>
    rename_i vs
    have hlen : vs.length = xs.length * sz := by
      rw [← hv.length_eq]
      clear hv hc hl ht ho
      induction xs with
      | nil => simp [flat]
      | cons x xs ih =>
        have := ih fun y hy => hs y (by simp [hy])
        simp only [flat, List.flatMap_cons, List.length_append, hs x (by simp), List.length_cons] at this ⊢
        rw [this, Nat.succ_mul]; omega
    refine ⟨vs, hs, ho, hv, fun hne => ?_, hlen⟩
    obtain ⟨b, o, e, hp⟩ := hc hne
    cases e
    rw [← hlen]
    exact run_loadCells_list w ⟨b, o, none⟩ vs fun j x hj => by rw [add_plain]; exact hk _ _ _ (hp j x hj)
theorem str_nil : VRel c (.str []) (.string ByteArray.empty) := .str []
theorem bytesStr_rel (hk : Kept c w) {t sz : Nat} {xs : List DV} {s : List UInt8} {vx : Value} (h : toStr? xs = some s) (hx : VRel c (.lst t sz xs) vx) : ∃ v', (Conv.bytesToString vx).run P w = .ok v' w ∧ VRel c (.str s) v' := by
  obtain ⟨ns, rfl, rfl⟩ := toStr?_some h
  obtain ⟨a, cap, vs, q1, q2, q3, qo, q4, q5, q6, q7, q8, rfl⟩ := hx.lst_inv
  cases a with
  | none =>
    have : ns = [] := by
      cases ns with
      | nil => rfl
      | cons n ns => obtain ⟨b, o, e, _⟩ := q4 (by simp [nums]); cases e
    subst this
    exact ⟨_, rfl, str_nil⟩
  | some a =>
    obtain ⟨vs', r2, r1, r3, r4, r5⟩ := lst_cells (P := P) w hk hx
    cases ns with
    | nil =>
      have := run_bytesToString (P := P) w a 0 cap [] (by simp [loadCells, loadCellsFrom])
      exact ⟨_, this, str_nil⟩
    | cons n ns =>
      have hsz : sz = 1 := by
        have := r2 (.int .u8 n) (by simp [nums])
        simpa [DV.cells] using this.symm
      subst hsz
      rw [nums_flat] at r3
      have hv := nums_rel r3
      have hl := r4 (by simp [nums])
      rw [hv] at hl
      have := run_bytesToString (P := P) w a (nums .u8 (n :: ns)).length cap (n :: ns) (by simpa using hl)
      refine ⟨_, this, ?_⟩
      rw [foldl_push]
      exact .str _
theorem runesStr_rel (hk : Kept c w) {t sz : Nat} {xs : List DV} {s : List UInt8} {vx : Value} (h : runesStr? xs = some s) (hx : VRel c (.lst t sz xs) vx) : ∃ v', (Conv.runesToString vx).run P w = .ok v' w ∧ VRel c (.str s) v' := by
  obtain ⟨ns, rfl, rfl⟩ := runesStr?_some h
  obtain ⟨a, cap, vs, q1, q2, q3, qo, q4, q5, q6, q7, q8, rfl⟩ := hx.lst_inv
  cases a with
  | none =>
    have : ns = [] := by
      cases ns with
      | nil => rfl
      | cons n ns => obtain ⟨b, o, e, _⟩ := q4 (by simp [nums]); cases e
    subst this
    exact ⟨_, rfl, str_nil⟩
  | some a =>
    obtain ⟨vs', r2, r1, r3, r4, r5⟩ := lst_cells (P := P) w hk hx
    cases ns with
    | nil =>
      have := run_runesToString (P := P) w a 0 cap [] (by simp [loadCells, loadCellsFrom])
      exact ⟨_, this, str_nil⟩
    | cons n ns =>
      have hsz : sz = 1 := by
        have := r2 (.int .i32 n) (by simp [nums])
        simpa [DV.cells] using this.symm
      subst hsz
      rw [nums_flat] at r3
      have hv := nums_rel r3
      have hl := r4 (by simp [nums])
      rw [hv] at hl
      have := run_runesToString (P := P) w a (nums .i32 (n :: ns)).length cap (n :: ns) (by simpa using hl)
      refine ⟨_, this, ?_⟩
      rw [runesBytes, foldl_encode]
      exact .str _
/-- Bounds of a cut. -/
theorem bounds_rel {len cap : Nat} {lo hi : Option DV} {vlo vhi : Option Value} {l r : Nat} {sl : Bool} (hcap : len ≤ cap) (h : bounds len lo hi = some (l, r))
    (h1 : (lo = none ∧ vlo = none) ∨ ∃ d v, lo = some d ∧ vlo = some v ∧ VRel c d v) (h2 : (hi = none ∧ vhi = none) ∨ ∃ d v, hi = some d ∧ vhi = some v ∧ VRel c d v) :
    (Instr.sliceBounds sl len cap vlo vhi none).run P w = .ok (l, r, cap) w ∧ l ≤ r ∧ r ≤ len := by
  rcases h1 with ⟨rfl, rfl⟩ | ⟨d1, v1, rfl, rfl, r1⟩ <;> rcases h2 with ⟨rfl, rfl⟩ | ⟨d2, v2, rfl, rfl, r2⟩
  · simp [bounds] at h
    obtain ⟨rfl, rfl⟩ := h
    simp [Instr.sliceBounds]
  · cases d2 <;> simp [bounds] at h
    rename_i k n
    obtain ⟨hb, rfl, rfl⟩ := h
    cases r2.int_inv
    have := run_sliceBound (P := P) (w := w) k n cap (if sl then .sliceAcap else .sliceAlen) hb.1 (by omega)
    simp only [Instr.sliceBounds, Sem.run_bind, Sem.run_pure, Result.andThen_ok]
    rw [this]
    simp; omega
  · cases d1 <;> simp [bounds] at h
    rename_i k n
    obtain ⟨hb, rfl, rfl⟩ := h
    cases r1.int_inv
    have := run_sliceBound (P := P) (w := w) k n len .sliceB hb.1 (by omega)
    simp only [Instr.sliceBounds, Sem.run_bind, Sem.run_pure, Result.andThen_ok, Option.isSome_none, Bool.false_eq_true, if_false]
    rw [this]
    simp; omega
  · cases d1 <;> cases d2 <;> simp [bounds] at h
    rename_i k n k' n'
    obtain ⟨hb, rfl, rfl⟩ := h
    cases r1.int_inv; cases r2.int_inv
    have e1 := run_sliceBound (P := P) (w := w) k' n' cap (if sl then .sliceAcap else .sliceAlen) (by omega) (by omega)
    have e2 := run_sliceBound (P := P) (w := w) k n n'.toNat .sliceB hb.1 (by omega)
    simp only [Instr.sliceBounds, Sem.run_bind, Sem.run_pure, Result.andThen_ok, Option.isSome_none, Bool.false_eq_true, if_false]
    rw [e1]
    simp only [Result.andThen_ok]
    rw [e2]
    simp; omega
end
end Go.Dm
/- The D-machine (8): every operation that gives a value and leaves the heap alone. -/
namespace Go.Dm
set_option linter.unusedSimpArgs false
set_option linter.unusedVariables false
set_option linter.unnecessarySimpa false

/-- A world that a computation leaves: the same, but that a cell behind a block of ours may have been marked. -/
inductive Quiet (c : Cor) (w : World) : World → Prop where
  | same : Quiet c w w
  | mark {t b e lim sz : Nat} {vs : Array Value} {ty : TypeId} {f : Nat × Nat} (h : c.τ t = some (b, e, lim, sz)) (hb : w.heap[b]? = some (.cells vs ty f)) : Quiet c w (w.freeze ⟨b, vs.size, none⟩ 1)

section
variable {P : Program} {c : Cor} (w : World)
theorem loadCells_of {b o : Nat} {vs : List Value} (h : ∀ j x, vs[j]? = some x → w.cell? ⟨b, o + j, none⟩ = some x) : (loadCells ⟨b, o, none⟩ vs.length).run P w = .ok vs.toArray w :=
  run_loadCells_list w ⟨b, o, none⟩ vs fun j x hj => by rw [add_plain]; exact h j x hj
theorem loadVar_rel {t : TypeId} {sh : Shape} (hs : shapeOf P t = some sh) {b o : Nat} {ds : List DV} {vs : List Value} (hv : VRels c ds vs) (ho : ∀ x ∈ ds, x.one = true) (hl : ds.length = sh.size) (h : ∀ j x, vs[j]? = some x → w.cell? ⟨b, o + j, none⟩ = some x)
    {v : DV} (hm : mkv sh ds = some v) : ∃ v', (loadVar t ⟨b, o, none⟩).run P w = .ok v' w ∧ VRel c v v' := by
  rcases mkv_rel hv ho hm hl with ⟨n, rfl, hr⟩ | ⟨rfl, x, rfl, hr⟩
  · have h1 := loadCells_of (P := P) w h
    have hlen : vs.length = n := by rw [← hv.length_eq, hl]; rfl
    rw [hlen] at h1
    have h2 := run_sizeOf_shape (P := P) w hs
    simp only [Shape.size, Option.getD_some] at h2
    refine ⟨_, ?_, hr⟩
    simp [loadVar, run_isAgg_some w hs, h2, h1]
  · refine ⟨x, ?_, hr⟩
    have := h 0 x rfl
    simp only [Nat.add_zero] at this
    simp [loadVar, run_isAgg_none w hs, this]
theorem part_rel {t : TypeId} {sh : Shape} (hs : shapeOf P t = some sh) {cs : List DV} {vs : List Value} (hv : VRels c cs vs) (ho : ∀ x ∈ cs, x.one = true) {off : Nat} {r : List DV} {v : DV} (hc : cut cs off sh.size = some r) (hm : mkv sh r = some v) :
    ∃ v', (part t vs.toArray off).run P w = .ok v' w ∧ VRel c v v' := by
  obtain ⟨h1, rfl⟩ := cut_some hc
  have hr := (hv.drop off).take sh.size
  have hl := cut_length hc
  have hvl := hv.length_eq
  rcases mkv_rel hr (fun x hx => ho x (List.mem_of_mem_drop (List.mem_of_mem_take hx))) hm hl with ⟨n, rfl, hr'⟩ | ⟨rfl, x, hx, hr'⟩
  · refine ⟨_, ?_, hr'⟩
    have h2 := run_sizeOf_shape (P := P) w hs
    simp only [Shape.size, Option.getD_some] at h2
    have e : (vs.toArray.extract off (off + n)) = ((vs.drop off).take n).toArray := by
      simp [List.take_drop, Nat.add_comm]
    simp only [part, Sem.run_bind, run_isAgg_some w hs, Result.andThen_ok, if_true, h2, Sem.run_pure, Shape.size, Option.getD_some, e]
  · refine ⟨x, ?_, hr'⟩
    have : vs[off]? = some x := by
      have h3 : ((vs.drop off).take 1)[0]? = some x := by
        have : Shape.size none = 1 := rfl
        rw [this] at hx
        rw [hx]; rfl
      simpa using h3
    simp [part, run_isAgg_none w hs, this]

/-- A load at an address of ours. -/
theorem load_rel {CC : Code → DC → Prop} {base : Nat} {h : Heap} (hS : Sim CC base c h w.heap) {t : TypeId} {sh : Shape} (hs : shapeOf P t = some sh) {x v : DV} {vx : Value} (hx : VRel c x vx) (hl : loadD h sh x = some v) :
    ∃ v', (Instr.loadAt t vx).run P w = .ok v' w ∧ VRel c v v' := by
  cases x <;> simp only [loadD] at hl <;> try (cases hl; done)
  case ptr id off =>
    obtain ⟨b, o, lim, sz, hφ, rfl⟩ := hx.ptr_inv
    split at hl
    · rename_i cs sh' hob
      obtain ⟨r, hr, hm⟩ := Option.bind_eq_some_iff.1 hl
      obtain ⟨_, _, hlen, vs, e, f, hb, hsz, hf, hone, hcell⟩ := hS.objs id _ b o lim sz hob hφ
      obtain ⟨h1, rfl⟩ := cut_some hr
      have hx' : ∀ j x, cs[j]? = some x → ∃ v, vs[o + j]? = some v ∧ VRel c x v := hcell
      -- the cells that are read
      have : ∃ ws : List Value, VRels c ((cs.drop off).take sh.size) ws ∧ ∀ j x, ws[j]? = some x → vs[o + off + j]? = some x := by
        refine ⟨((vs.toList.drop (o + off)).take sh.size), VRels.of_get ?_ ?_, ?_⟩
        · simp; omega
        · intro i x v hi hv
          have hi1 : cs[off + i]? = some x := by
            have hlt : i < sh.size := by
              have := (List.getElem?_eq_some_iff.1 hi).1; simp at this; omega
            simpa [List.getElem?_take, hlt] using hi
          obtain ⟨u, hu, hr⟩ := hx' _ _ hi1
          have hv1 : vs[o + off + i]? = some v := by
            have hlt : i < sh.size := by
              have := (List.getElem?_eq_some_iff.1 hv).1; simp at this; omega
            simpa [List.getElem?_take, hlt] using hv
          rw [show o + (off + i) = o + off + i by omega, hv1] at hu
          cases hu; exact hr
        · intro j x hj
          have hlt : j < sh.size := by
            have := (List.getElem?_eq_some_iff.1 hj).1; simp at this; omega
          simpa [List.getElem?_take, hlt] using hj
      obtain ⟨ws, hw, hwc⟩ := this
      obtain ⟨v', h2, h3⟩ := loadVar_rel (P := P) w hs (b := b) (o := o + off) hw (fun x hx => hone x (List.mem_of_mem_drop (List.mem_of_mem_take hx))) (by simpa using cut_length hr) (fun j x hj => by
        have := hwc j x hj
        simp [World.cell?, hb, this]) hm
      exact ⟨v', by simpa [Instr.loadAt, Instr.sureAddr] using h2, h3⟩
    · simp at hl
  case elt cs =>
    obtain ⟨vs, b, o, hv, hone, hp, rfl⟩ := hx.elt_inv
    obtain ⟨r, hr, hm⟩ := Option.bind_eq_some_iff.1 hl
    obtain ⟨h1, rfl⟩ := cut_some hr
    have hw : VRels c ((cs.drop 0).take sh.size) (vs.take sh.size) := by simpa using hv.take sh.size
    obtain ⟨v', h2, h3⟩ := loadVar_rel (P := P) w hs (b := b) (o := o) hw (fun x hx => hone x (List.mem_of_mem_drop (List.mem_of_mem_take hx))) (by simpa using cut_length hr) (fun j x hj => by
      have hlt : j < sh.size := by
        have := (List.getElem?_eq_some_iff.1 hj).1; simp at this; omega
      have hj' : vs[j]? = some x := by simpa [List.getElem?_take, hlt] using hj
      obtain ⟨ws, e, f, hb, hc⟩ := hS.prot _ _ _ (hp j x hj')
      simp [World.cell?, hb, hc]) hm
    exact ⟨v', by simpa [Instr.loadAt, Instr.sureAddr] using h2, h3⟩
end
end Go.Dm
/- The D-machine (9): an operation that gives a value, in the model. -/
namespace Go.Dm
set_option linter.unusedSimpArgs false
set_option linter.unusedVariables false
set_option linter.unnecessarySimpa false

section
variable {P : Program} {cfg : Cfg} {mf : Bool} {D : DProg} {CC : Code → DC → Prop} {base : Nat} {c : Cor} {fr : Fr} {a : Act} {h G : Heap} (w : World)
/-- What 'execOp' does with an operation's own run. -/
theorem exec_val {s : Sem Value} {v : Value} {w' : World} (hs : s.run P w = .ok v w') : ((do pure (.value (← s)) : Sem Next)).run P w = .ok (.value v) w' := by
  simp [hs]

def ValOk (P : Program) (c : Cor) (w : World) (s : Sem Next) (v : DV) : Prop := ∃ v' w', s.run P w = .ok (.value v') w' ∧ VRel c v v' ∧ Quiet c w w'
theorem ValOk.of {s : Sem Value} {v : DV} (hs : ∃ v', s.run P w = .ok v' w ∧ VRel c v v') : ValOk P c w (do pure (.value (← s))) v :=
  let ⟨v', h1, h2⟩ := hs; ⟨v', w, exec_val w h1, h2, .same⟩

theorem VRel.zOf {c : Cor} {t z : Nat} {xs : List DV} {v : Value} (h : VRel c (.lst t z xs) v) : VRel c (.lst t (zOf t z) xs) v := by
  obtain ⟨a, cap, vs, q1, q2, q3, qo, q4, q5, q6, q7, q8, rfl⟩ := h.lst_inv
  cases t with
  | zero =>
    obtain ⟨rfl, rfl⟩ := q6 rfl
    obtain rfl : xs = [] := List.eq_nil_of_length_eq_zero (by omega)
    exact .lst (vs := vs) (fun e => absurd rfl e) (by simp) q3 qo (fun e => absurd rfl e) (Nat.le_refl _) (fun _ => ⟨rfl, rfl⟩) (fun e => absurd rfl e) (fun e => absurd e (by omega))
  | succ t => exact h
theorem val_slice {t e : TypeId} {n : Nat} {x v : DV} {vx : Value} {lo hi mx : Option DV} {vlo vhi vmx : Option Value} (ht : P.underlying t = some (.slice e)) (hn : sizeOfT P e = some n) (hx : VRel c x vx)
    (h1 : (lo = none ∧ vlo = none) ∨ ∃ d v, lo = some d ∧ vlo = some v ∧ VRel c d v) (h2 : (hi = none ∧ vhi = none) ∨ ∃ d v, hi = some d ∧ vhi = some v ∧ VRel c d v)
    (h3 : (mx = none ∧ vmx = none) ∨ ∃ d v, mx = some d ∧ vmx = some v ∧ VRel c d v)
    (he : sliceD n x lo hi mx = some (.val v)) : ValOk P c w (do pure (.value (← Instr.sliceAt t vx vlo vhi vmx))) v := by
  refine ValOk.of w ?_
  have hmx : mx = none := by
    unfold sliceD at he
    split at he <;> simp_all
  subst hmx
  obtain ⟨_, rfl⟩ : (none : Option DV) = none ∧ vmx = none := by
    rcases h3 with h | ⟨d, v, h, _⟩
    · exact h
    · cases h
  have hsz := run_sizeOfT (P := P) w hn
  cases x <;> simp only [sliceD] at he <;> try (cases he; done)
  case lst t0 sz xs =>
    split at he
    case isFalse => cases he
    rename_i hz
    obtain ⟨⟨l, r⟩, hb, hv⟩ := Option.map_eq_some_iff.1 he
    simp at hv; subst hv
    obtain ⟨a, cap, vs, q1, q2, q3, qo, q4, q5, q6, q7, q8, rfl⟩ := hx.lst_inv
    have hxs : ∀ y ∈ xs, y.cells.length = n := by
      rcases hz with h0 | h0
      · obtain ⟨_, hc0⟩ := q6 h0
        have : xs = [] := List.eq_nil_of_length_eq_zero (by omega)
        subst this; simp
      · subst h0; exact q2
    obtain ⟨hrun, hlr, hrl⟩ := bounds_rel (P := P) (c := c) w (sl := true) q5 hb h1 h2
    have hres : (Instr.sliceAt t (.slice a xs.length cap) vlo vhi none).run P w = .ok (.slice (if cap = l then a else a.map (·.add (l * n))) (r - l) (cap - l)) w := by
      simp only [Instr.sliceAt, Sem.run_bind, run_underlying ht, Result.andThen_ok, Instr.slice, hrun, hsz, Sem.run_pure]
    refine ⟨_, hres, ?_⟩
    -- the new slice
    have hA : l + (r - l) = r := by omega
    have hB : l + (cap - l) = cap := by omega
    have hlen : ((xs.drop l).take (r - l)).length = r - l := by simp; omega
    have hgoal : VRel c (.lst (if r = xs.length ∨ t0 = 0 then t0 else 1) n ((xs.drop l).take (r - l))) (.slice (if cap = l then a else a.map (·.add (l * n))) ((xs.drop l).take (r - l)).length (cap - l)) := by
      have hsub : ∀ y ∈ (xs.drop l).take (r - l), y ∈ xs := fun y hy => List.mem_of_mem_drop (List.mem_of_mem_take hy)
      have hfl : ∀ (ys : List DV), (∀ y ∈ ys, y.cells.length = n) → (flat ys).length = ys.length * n := by
        intro ys
        induction ys with
        | nil => simp [flat]
        | cons y ys ih =>
          intro hy
          have := ih fun z hz => hy z (by simp [hz])
          simp only [flat, List.flatMap_cons, List.length_append, hy y (by simp), List.length_cons] at this ⊢
          rw [this, Nat.succ_mul]; omega
      have hflat : flat ((xs.drop l).take (r - l)) = ((flat xs).drop (l * n)).take ((r - l) * n) := by
        have e1 : xs = xs.take l ++ ((xs.drop l).take (r - l) ++ (xs.drop l).drop (r - l)) := by rw [List.take_append_drop, List.take_append_drop]
        conv => rhs; rw [e1]
        simp only [flat, List.flatMap_append]
        have l1 := hfl (xs.take l) fun y hy => hxs y (List.mem_of_mem_take hy)
        have l2 := hfl ((xs.drop l).take (r - l)) fun y hy => hxs y (hsub y hy)
        have e2 : (xs.take l).length = l := by simp; omega
        rw [e2] at l1
        rw [hlen] at l2
        simp only [flat] at l1 l2
        rw [List.drop_append_of_le_length (Nat.le_of_eq l1.symm), List.drop_eq_nil_of_le (Nat.le_of_eq l1), List.nil_append, List.take_append_of_le_length (Nat.le_of_eq l2.symm), List.take_of_length_le (Nat.le_of_eq l2)]
      by_cases hemp : (xs.drop l).take (r - l) = []
      · -- nothing is left
        rw [hemp]
        have hrl0 : r = l := by
          have := congrArg List.length hemp
          rw [hlen] at this; simp at this; omega
        subst hrl0
        refine VRel.lst (vs := []) (sz := n) ?_ (by simp) (by simpa [flat] using VRels.nil) (by simp [flat]) (by simp) (by simp) ?_ ?_ ?_
        · intro ht0
          have h0 : t0 ≠ 0 := by
            intro e; subst e; simp at ht0
          rcases hz with h1 | h1
          · exact absurd h1 h0
          · subst h1; exact q1 h0
        · intro ht0
          have h0 : t0 = 0 := by
            by_cases e : r = xs.length ∨ t0 = 0
            · rw [if_pos e] at ht0; exact ht0
            · rw [if_neg e] at ht0; cases ht0
          obtain ⟨rfl, rfl⟩ := q6 h0
          refine ⟨by split <;> rfl, by omega⟩
        · intro ht1
          have h0 : t0 ≠ 0 := by
            intro e; subst e; simp at ht1
          obtain ⟨b, o, sp, rfl, hsp⟩ := q7 h0
          by_cases e : cap = r
          · exact ⟨b, o, sp, by simp [e], .inr (by omega)⟩
          · obtain rfl : sp = none := hsp.resolve_right (by omega)
            exact ⟨b, o + r * n, none, by simp [e, add_plain], .inl rfl⟩
        · intro ht2
          have hre : r = xs.length ∨ t0 = 0 := by
            by_cases e : r = xs.length ∨ t0 = 0
            · exact e
            · rw [if_neg e] at ht2; omega
          rw [if_pos hre] at ht2 ⊢
          obtain ⟨b, o, e, lim, rfl, hτ, hcap⟩ := q8 ht2
          have hszn : sz = n := hz.resolve_left (by omega)
          subst hszn
          have hre' : r = xs.length := hre.resolve_right (fun e => by subst e; simp at ht2)
          by_cases ec : cap = r
          · exact ⟨b, o, e, lim, by simp [ec], hτ, .inl (by omega)⟩
          · refine ⟨b, o + r * sz, e, lim, by simp [ec, add_plain], hτ, .inr ?_⟩
            rcases hcap with h0 | ⟨he', hl'⟩
            · omega
            · refine ⟨by rw [he', hre']; simp, ?_⟩
              have : o + r * sz + (cap - r) * sz = o + cap * sz := by
                rw [Nat.add_assoc, ← Nat.add_mul, hB]
              omega
      · -- something is left: the content lies further on
        have hne : xs ≠ [] := by
          intro e; subst e; simp at hemp
        obtain ⟨b, o, rfl, hcont⟩ := q4 hne
        have hszn : sz = n := by
          cases xs with
          | nil => exact absurd rfl hne
          | cons y ys => rw [← q2 y (by simp), hxs y (by simp)]
        have ht00 : t0 ≠ 0 := fun e => by
          obtain ⟨hn, _⟩ := q6 e
          cases hn
        subst hszn
        have hlt : l < r := by
          rcases Nat.lt_or_ge l r with h | h
          · exact h
          · exact absurd (List.eq_nil_of_length_eq_zero (by rw [hlen]; omega)) hemp
        have hcl : cap ≠ l := by omega
        refine VRel.lst (vs := (vs.drop (l * sz)).take ((r - l) * sz)) (sz := sz) (fun _ => q1 ht00) (fun y hy => q2 y (hsub y hy)) (by rw [hflat]; exact (q3.drop _).take _) (by rw [hflat]; exact fun x hx => qo x (List.mem_of_mem_drop (List.mem_of_mem_take hx))) ?_ (by rw [hlen]; omega) ?_ ?_ ?_
        · intro _
          refine ⟨b, o + l * sz, by simp [hcl, add_plain], fun j x hj => ?_⟩
          have hlt' : j < (r - l) * sz := by
            have := (List.getElem?_eq_some_iff.1 hj).1; simp at this; omega
          have hj' : vs[l * sz + j]? = some x := by simpa [List.getElem?_take, hlt'] using hj
          have := hcont _ _ hj'
          rwa [← Nat.add_assoc] at this
        · intro ht0
          have h0 : t0 = 0 := by
            by_cases e : r = xs.length ∨ t0 = 0
            · rw [if_pos e] at ht0; exact ht0
            · rw [if_neg e] at ht0; cases ht0
          obtain ⟨hn, _⟩ := q6 h0
          cases hn
        · intro _
          exact ⟨b, o + l * sz, none, by simp [hcl, add_plain], .inl rfl⟩
        · intro ht2
          have hre : r = xs.length ∨ t0 = 0 := by
            by_cases e : r = xs.length ∨ t0 = 0
            · exact e
            · rw [if_neg e] at ht2; omega
          rw [if_pos hre] at ht2 ⊢
          obtain ⟨b', o', e, lim, hab, hτ, hcap⟩ := q8 ht2
          cases hab
          have hre' : r = xs.length := hre.resolve_right (fun e => by subst e; simp at ht2)
          refine ⟨b, o + l * sz, e, lim, by simp [hcl, add_plain], hτ, .inr ?_⟩
          rcases hcap with h0 | ⟨he', hl'⟩
          · omega
          · rw [hlen]
            have e1 : o + l * sz + (r - l) * sz = o + r * sz := by rw [Nat.add_assoc, ← Nat.add_mul, hA]
            have e2 : o + l * sz + (cap - l) * sz = o + cap * sz := by rw [Nat.add_assoc, ← Nat.add_mul, hB]
            exact ⟨by rw [e1, he', hre'], by rw [e2]; exact hl'⟩
    rw [hlen] at hgoal
    exact hgoal.zOf
  case arr id sz off len =>
    split at he
    case isFalse => cases he
    rename_i hszn
    subst hszn
    obtain ⟨⟨l, r⟩, hb, hv⟩ := Option.map_eq_some_iff.1 he
    simp at hv; subst hv
    obtain ⟨cap, b, o, lim, ab, ao, hφ, hcap, hor, rfl⟩ := hx.arr_inv
    obtain ⟨hrun, hlr, hrl⟩ := bounds_rel (P := P) (c := c) w (sl := true) hcap hb h1 h2
    have hres : (Instr.sliceAt t (.slice (some ⟨ab, ao, none⟩) len cap) vlo vhi none).run P w = .ok (.slice (if cap = l then some ⟨ab, ao, none⟩ else some ⟨ab, ao + l * sz, none⟩) (r - l) (cap - l)) w := by
      simp only [Instr.sliceAt, Sem.run_bind, run_underlying ht, Result.andThen_ok, Instr.slice, hrun, hsz, Sem.run_pure]
      simp [add_plain]
    refine ⟨_, hres, ?_⟩
    by_cases ec : cap = l
    · rw [if_pos ec]
      exact .arr hφ (by omega) (.inl (by omega))
    · rw [if_neg ec]
      refine .arr hφ (by omega) ?_
      rcases hor with h0 | ⟨rfl, rfl, hl'⟩
      · omega
      · refine .inr ⟨rfl, by omega, ?_⟩
        have e2 : o + (off + l * sz) + (cap - l) * sz = o + off + cap * sz := by
          have : l * sz + (cap - l) * sz = cap * sz := by rw [← Nat.add_mul]; congr 1; omega
          omega
        omega

theorem kept_of_sim (hS : Sim CC base c G w.heap) : Kept c w := fun b o v h => by
  obtain ⟨vs, e, f, hb, hv⟩ := hS.prot b o v h
  simp [World.cell?, hb, hv]

theorem val_field {s : TypeId} {fs : Array Field} {f : Nat} {fd : Field} {sh : Shape} {cs r : List DV} {v : DV} {vx : Value} (hu : P.underlying s = some (.struct fs)) (hf : fs[f]? = some fd) (hs : shapeOf P fd.type = some sh)
    (hx : VRel c (.agg cs) vx) (hc : cut cs fd.offset sh.size = some r) (hm : mkv sh r = some v) : ∃ v', (Instr.field s vx f).run P w = .ok v' w ∧ VRel c v v' := by
  obtain ⟨vs, hv, ho, rfl⟩ := hx.agg_inv
  obtain ⟨v', h1, h2⟩ := part_rel (P := P) w hs hv ho hc hm
  exact ⟨v', by simp [Instr.field, run_underlying hu, hf, asAgg, h1], h2⟩
theorem val_idxArr {t e : TypeId} {len : Nat} {sh : Shape} {cs r : List DV} {v : DV} {vx : Value} {k : IntKind} {n : Int} (hu : P.underlying t = some (.array len e)) (hs : shapeOf P e = some sh)
    (hx : VRel c (.agg cs) vx) (h0 : 0 ≤ n ∧ n < len) (hc : cut cs (n.toNat * sh.size) sh.size = some r) (hm : mkv sh r = some v) : ∃ v', (Instr.index t vx (.int k n)).run P w = .ok v' w ∧ VRel c v v' := by
  obtain ⟨vs, hv, ho, rfl⟩ := hx.agg_inv
  obtain ⟨v', h1, h2⟩ := part_rel (P := P) w hs hv ho hc hm
  exact ⟨v', by simp [Instr.index, run_underlying hu, asIntOf, h0, run_sizeOf_shape w hs, h1], h2⟩
theorem val_iaddr {t e : TypeId} {sz : Nat} {x v : DV} {vx : Value} {k : IntKind} {n : Int} (hu : P.underlying t = some (.slice e)) (hs : sizeOfT P e = some sz) (hx : VRel c x vx)
    (he : (match x with
      | .lst t z xs => if 0 ≤ n ∧ (t = 0 ∨ z = sz) then (xs[n.toNat]?).map fun v => EvR.val (.elt v.cells) else none
      | .arr id z o len => if 0 ≤ n ∧ n < len ∧ z = sz then some (EvR.val (.ptr id (o + n.toNat * sz))) else none
      | _ => none) = some (.val v)) : ∃ v', (Instr.indexAt t vx (.int k n)).run P w = .ok v' w ∧ VRel c v v' := by
  have hz := run_sizeOfT (P := P) w hs
  cases x <;> simp only at he <;> try (cases he; done)
  case lst t0 z xs =>
    split at he
    case isFalse => cases he
    rename_i h0
    obtain ⟨x, hx', hv⟩ := Option.map_eq_some_iff.1 he
    simp at hv; subst hv
    obtain ⟨h0, hz0⟩ := h0
    obtain ⟨a, cap, vs, q1, q2, q3, qo, q4, q5, q6, q7, q8, rfl⟩ := hx.lst_inv
    have hne : xs ≠ [] := by intro e; subst e; simp at hx'
    obtain rfl : z = sz := hz0.resolve_left fun e => hne (List.eq_nil_of_length_eq_zero (by have := q6 e; omega))
    obtain ⟨b, o, rfl, hcont⟩ := q4 hne
    have hlt : n.toNat < xs.length := (List.getElem?_eq_some_iff.1 hx').1
    have hlt' : 0 ≤ n ∧ n < (xs.length : Int) := ⟨h0, by omega⟩
    refine ⟨.pointer (some ⟨b, o + n.toNat * z, none⟩), by simp [Instr.indexAt, asIntOf, run_underlying hu, hlt', hz, add_plain], ?_⟩
    -- the element's cells
    have hfl : ∀ (ys : List DV), (∀ y ∈ ys, y.cells.length = z) → (flat ys).length = ys.length * z := by
      intro ys
      induction ys with
      | nil => simp [flat]
      | cons y ys ih =>
        intro hy
        have := ih fun z hz => hy z (by simp [hz])
        simp only [flat, List.flatMap_cons, List.length_append, hy y (by simp), List.length_cons] at this ⊢
        rw [this, Nat.succ_mul]; omega
    have hsplit : xs = xs.take n.toNat ++ x :: xs.drop (n.toNat + 1) := by
      have h1 : xs[n.toNat] = x := by rw [List.getElem?_eq_getElem hlt] at hx'; simpa using hx'
      rw [← h1]; simp
    have hflat : (flat xs).drop (n.toNat * z) = x.cells ++ flat (xs.drop (n.toNat + 1)) := by
      have l1 := hfl (xs.take n.toNat) fun y hy => q2 y (List.mem_of_mem_take hy)
      have e2 : (xs.take n.toNat).length = n.toNat := by simp; omega
      rw [e2] at l1
      conv => lhs; rw [hsplit]
      simp only [flat, List.flatMap_append, List.flatMap_cons] at l1 ⊢
      rw [List.drop_append_of_le_length (Nat.le_of_eq l1.symm), List.drop_eq_nil_of_le (Nat.le_of_eq l1), List.nil_append]
    have hr := q3.drop (n.toNat * z)
    rw [hflat] at hr
    have hr' := hr.take x.cells.length
    rw [List.take_left] at hr'
    refine .elt hr' (fun y hy => qo y ?_) (fun j y hj => ?_)
    · have : y ∈ (flat xs).drop (n.toNat * z) := by rw [hflat]; exact List.mem_append_left _ hy
      exact List.mem_of_mem_drop this
    · have hlt2 : j < x.cells.length := by
        have := (List.getElem?_eq_some_iff.1 hj).1; simp at this; omega
      have hj' : vs[n.toNat * z + j]? = some y := by simpa [List.getElem?_take, hlt2] using hj
      have := hcont _ _ hj'
      rwa [← Nat.add_assoc] at this
  case arr id z o len =>
    split at he
    case isFalse => cases he
    rename_i h0
    simp at he; subst he
    obtain ⟨h0, h1, rfl⟩ := h0
    obtain ⟨cap, b, o', lim, ab, ao, hφ, hcap, hor, rfl⟩ := hx.arr_inv
    have hlt' : 0 ≤ n ∧ n < (len : Int) := ⟨h0, h1⟩
    rcases hor with h2 | ⟨rfl, rfl, h3⟩
    · omega
    · refine ⟨.pointer (some ⟨ab, o' + o + n.toNat * z, none⟩), by simp [Instr.indexAt, asIntOf, run_underlying hu, hlt', hz, add_plain], ?_⟩
      have := VRel.ptr (c := c) (off := o + n.toNat * z) hφ
      rwa [← Nat.add_assoc] at this
theorem val_iaddrArr {t e : TypeId} {sz len : Nat} {x v : DV} {vx : Value} {k : IntKind} {n : Int} (hu : P.underlying t = some (.array len e)) (hs : sizeOfT P e = some sz) (hx : VRel c x vx)
    (he : (match x with
      | .ptr id o => if 0 ≤ n ∧ n < len then some (EvR.val (.ptr id (o + n.toNat * sz))) else none
      | .elt cs => if 0 ≤ n ∧ n < len then some (EvR.val (.elt (cs.drop (n.toNat * sz)))) else none
      | _ => none) = some (.val v)) : ∃ v', (Instr.indexAt t vx (.int k n)).run P w = .ok v' w ∧ VRel c v v' := by
  have hz := run_sizeOfT (P := P) w hs
  cases x <;> simp only at he <;> try (cases he; done)
  case ptr id o =>
    split at he
    case isFalse => cases he
    rename_i h0
    simp at he; subst he
    obtain ⟨b, o', lim, sz', hφ, rfl⟩ := hx.ptr_inv
    refine ⟨.pointer (some ⟨b, o' + o + n.toNat * sz, none⟩), by simp [Instr.indexAt, asIntOf, run_underlying hu, Instr.sureAddr, h0, hz, add_plain], ?_⟩
    have := VRel.ptr (c := c) (off := o + n.toNat * sz) hφ
    rwa [← Nat.add_assoc] at this
  case elt cs =>
    split at he
    case isFalse => cases he
    rename_i h0
    simp at he; subst he
    obtain ⟨vs, b, o, hv, ho, hp, rfl⟩ := hx.elt_inv
    refine ⟨.pointer (some ⟨b, o + n.toNat * sz, none⟩), by simp [Instr.indexAt, asIntOf, run_underlying hu, Instr.sureAddr, h0, hz, add_plain], ?_⟩
    refine .elt (hv.drop _) (fun y hy => ho y (List.mem_of_mem_drop hy)) fun j y hj => ?_
    have : vs[n.toNat * sz + j]? = some y := by simpa using hj
    have := hp _ _ this
    rwa [← Nat.add_assoc] at this
theorem val_idxStr {t : TypeId} {s : List UInt8} {b : UInt8} {vx : Value} {k : IntKind} {n : Int} (hu : P.underlying t = some .string) (hx : VRel c (.str s) vx) (h0 : 0 ≤ n) (hb : s[n.toNat]? = some b) :
    ∃ v', (Instr.index t vx (.int k n)).run P w = .ok v' w ∧ VRel c (ofByte b) v' := by
  cases hx.str_inv
  refine ⟨.int .u8 b.toNat, ?_, .int _ _⟩
  have : (⟨s.toArray⟩ : ByteArray)[n.toNat]? = some b := by
    have hlt : n.toNat < s.length := (List.getElem?_eq_some_iff.1 hb).1
    have e : s[n.toNat] = b := by rw [List.getElem?_eq_getElem hlt] at hb; simpa using hb
    rw [getElem?_pos (⟨s.toArray⟩ : ByteArray) n.toNat (by simpa [ByteArray.size] using hlt)]
    rw [← e]; rfl
  simp [Instr.index, asIntOf, run_underlying hu, h0, this]
theorem val_sliceStr {t : TypeId} {s : List UInt8} {vx : Value} {lo hi : Option DV} {vlo vhi : Option Value} {l r : Nat} (hu : P.underlying t = some .string) (hx : VRel c (.str s) vx)
    (h1 : (lo = none ∧ vlo = none) ∨ ∃ d v, lo = some d ∧ vlo = some v ∧ VRel c d v) (h2 : (hi = none ∧ vhi = none) ∨ ∃ d v, hi = some d ∧ vhi = some v ∧ VRel c d v) (hb : bounds s.length lo hi = some (l, r)) :
    ∃ v', (Instr.sliceAt t vx vlo vhi none).run P w = .ok v' w ∧ VRel c (.str ((s.drop l).take (r - l))) v' := by
  cases hx.str_inv
  obtain ⟨hrun, hlr, hrl⟩ := bounds_rel (P := P) (c := c) w (sl := false) (Nat.le_refl _) hb h1 h2
  refine ⟨.string ((⟨s.toArray⟩ : ByteArray).extract l r), by simp [Instr.sliceAt, run_underlying hu, Instr.slice, bytes_size, hrun], ?_⟩
  have : (⟨s.toArray⟩ : ByteArray).extract l r = ⟨((s.drop l).take (r - l)).toArray⟩ := by
    apply ByteArray.ext
    simp [ByteArray.data_extract]
  rw [this]
  exact .str _
end
end Go.Dm
/- The D-machine (10): whatever operation gives a value here gives it in the model. -/
namespace Go.Dm
set_option linter.unusedSimpArgs false
set_option linter.unusedVariables false
set_option linter.unnecessarySimpa false

section
variable {P : Program} {cfg : Cfg} {mf : Bool} {D : DProg} {CC : Code → DC → Prop} {base : Nat} {c : Cor} {fr : Fr} {a : Act} {h G : Heap} (w : World)

theorem map_val {x : Option DV} {v : DV} (h : x.map EvR.val = some (.val v)) : x = some v := by
  obtain ⟨y, h1, h2⟩ := Option.map_eq_some_iff.1 h
  cases h2; exact h1

theorem val_build {t : TypeId} {fs : Array Field} {z : Value} {parts : Array (Nat × Operand)} {cs r : List DV} {ps : List (Nat × Nat × Opd)} (hg : GlobOk D c) (hf : VRels c fr.tmps a.tmps.toList)
    (hu : P.underlying t = some (.struct fs)) (hz : zeroOf P t = some (.agg cs)) (hp : partsS P fs parts.toList = some ps) (hall : fs.all (fun f => (P.info? f.type).isSome) = true)
    (hb : buildL cs (ps.map fun p => (p.1, p.2.1, ev D fr p.2.2)) = some r) :
    ∃ v', (Instr.build t (parts.map fun (i, x) => (i, a.eval x))).run P w = .ok v' w ∧ VRel c (.agg r) v' := by
  simp only [zeroOf, Option.bind_eq_some_iff] at hz
  obtain ⟨zv, ⟨i, hi, hiz⟩, hov⟩ := hz
  have hzr : VRel c (.agg cs) zv := ofVal_rel hov
  obtain ⟨vs, hvs, hvo, rfl⟩ := hzr.agg_inv
  -- the fields' places
  have hpl : ∃ places : Array (Nat × Nat), (fs.mapM (m := Sem) fun f => do pure (f.offset, ← sizeOf f.type)).run P w = .ok places w ∧ ∀ (i : Nat) (f : Field), fs[i]? = some f → ∃ n, sizeOfT P f.type = some n ∧ places[i]? = some (f.offset, n) := by
    have key : ∀ (l : List Field), (∀ f ∈ l, (P.info? f.type).isSome = true) → ∃ ps : List (Nat × Nat), (l.mapM (m := Sem) fun f => do pure (f.offset, ← sizeOf f.type)).run P w = .ok ps w ∧ ∀ (i : Nat) (f : Field), l[i]? = some f → ∃ n, sizeOfT P f.type = some n ∧ ps[i]? = some (f.offset, n) := by
      intro l
      induction l with
      | nil => intro _; exact ⟨[], by simp, by simp⟩
      | cons f l ih =>
        intro hl
        obtain ⟨ps, h1, h2⟩ := ih fun g hg => hl g (by simp [hg])
        obtain ⟨i, hi⟩ := Option.isSome_iff_exists.1 (hl f (by simp))
        refine ⟨(f.offset, i.size) :: ps, ?_, ?_⟩
        · simp only [List.mapM_cons, Sem.run_bind, sizeOf, typeInfo, run_program, hi, Sem.run_pure, Result.andThen_ok]
          simp only [sizeOf, typeInfo] at h1
          rw [h1]
          rfl
        · intro j g hj
          cases j with
          | zero => simp at hj; subst hj; exact ⟨i.size, by simp [sizeOfT, hi], rfl⟩
          | succ j => simp at hj; obtain ⟨n, h3, h4⟩ := h2 j g hj; exact ⟨n, h3, by simpa using h4⟩
    obtain ⟨ps, h1, h2⟩ := key fs.toList (fun f hf => by
      rw [Array.all_eq_true] at hall
      obtain ⟨i, hi, rfl⟩ := List.getElem_of_mem hf
      simpa using hall i (by simpa using hi))
    refine ⟨ps.toArray, ?_, fun i f hi => ?_⟩
    · rw [Array.mapM_eq_mapM_toList]
      simp only [Sem.run_map, h1, Result.andThen_ok]
    · obtain ⟨n, h3, h4⟩ := h2 i f (by simpa using hi)
      exact ⟨n, h3, by simpa using h4⟩
  obtain ⟨places, hrun, hpl⟩ := hpl
  have hall2 := partsS_rel hg hf hpl parts.toList ps hp
  obtain ⟨arr, hfill, hr, hro⟩ := fill_rel (place := (places[·]?)) parts.toList _ hall2 cs r vs.toArray (by simpa using hvs) hb hvo
  refine ⟨.agg arr, ?_, by simpa using VRel.agg hr hro⟩
  have hzero : (zeroValue t).run P w = .ok (.agg vs.toArray) w := by simp [zeroValue, typeInfo, hi, hiz]
  have hmap : (parts.map fun (x : Nat × Operand) => (x.1, a.eval x.2)).toList = parts.toList.map fun p => (p.1, a.eval p.2) := by simp
  simp only [Instr.build, Sem.run_bind, hzero, Result.andThen_ok, run_underlying hu, hrun, Value.cells]
  rw [show (Array.map (fun x => (x.fst, a.eval x.snd)) parts).toList = parts.toList.map fun p => (p.1, a.eval p.2) from hmap, hfill]
  simp

theorem opdO_cases (hg : GlobOk D c) (hf : VRels c fr.tmps a.tmps.toList) {x : Option Operand} {y : Option Opd} (h : opdO x = some y) :
    (evO D fr y = none ∧ x.map a.eval = none) ∨ ∃ d v, evO D fr y = some d ∧ x.map a.eval = some v ∧ VRel c d v := by
  rcases opdO_rel hg hf h with ⟨rfl, rfl⟩ | h
  · exact .inl ⟨rfl, rfl⟩
  · exact .inr h

theorem val_convert {s t : TypeId} {x : Operand} {d : DOp} {v : DV} (hc : compOp P cfg mf (.convert s t x) = some d) (hk : Kept c w) (hS : Sim CC base c G w.heap) (O : ∀ {y : Opd}, opd x = some y → VRel c (ev D fr y) (a.eval x))
    (hne : d.effect = false) (he : evalOp D fr h d = some (.val v)) : ValOk P c w (do pure (.value (← convert s t (a.eval x)))) v := by
  simp only [compOp] at hc
  split at hc <;> try (cases hc; done)
  · cases hc
    rename_i k x' hus hud hx
    have hr := O hx
    simp only [evalOp] at he
    generalize ev D fr x' = X at he hr
    cases X <;> simp [convD] at he
    subst he
    rw [hr.int_inv]
    exact ValOk.of w ⟨_, by simp [convert, run_underlying hus, run_underlying hud, Conv.intToInt], .int _ _⟩
  · cases hc
    rename_i x' hus hud hx
    have hr := O hx
    simp only [evalOp] at he
    generalize ev D fr x' = X at he hr
    cases X <;> simp [convD] at he
    subst he
    rw [hr.str_inv]
    exact ValOk.of w ⟨_, by simp [convert, run_underlying hus, run_underlying hud], .str _⟩
  · split at hc <;> try (cases hc; done)
    cases hc
    rename_i e x' hus hud hx _ _ _ hue hie
    simp only [evalOp] at he
    generalize ev D fr x' = X at he
    cases X <;> simp [convD] at he
    split at he <;> simp at he
  · split at hc <;> try (cases hc; done)
    · cases hc
      rename_i e x' hus hud hx _ hue
      have hr := O hx
      simp only [evalOp] at he
      generalize ev D fr x' = X at he hr
      simp [DOp.effect] at hne
      cases X <;> simp [convD, hne] at he
      obtain ⟨s', h1, rfl⟩ := he
      obtain ⟨v', h2, h3⟩ := bytesStr_rel (P := P) w hk h1 hr
      obtain ⟨_, _, _, _, _, _, _, _, _, _, _, _, hv⟩ := hr.lst_inv
      refine ValOk.of w ⟨v', ?_, h3⟩
      rw [← h2, hv]
      simp [convert, run_underlying hus, run_underlying hud, run_underlying hue]
    · cases hc
      rename_i e x' hus hud hx _ hue
      have hr := O hx
      simp only [evalOp] at he
      generalize ev D fr x' = X at he hr
      cases X <;> simp [convD] at he
      obtain ⟨s', h1, rfl⟩ := he
      obtain ⟨v', h2, h3⟩ := runesStr_rel (P := P) w hk h1 hr
      obtain ⟨_, _, _, _, _, _, _, _, _, _, _, _, hv⟩ := hr.lst_inv
      refine ValOk.of w ⟨v', ?_, h3⟩
      rw [← h2, hv]
      simp [convert, run_underlying hus, run_underlying hud, run_underlying hue]
  · cases hc
    rename_i k x' hus hud hx
    have hr := O hx
    simp only [evalOp] at he
    generalize ev D fr x' = X at he hr
    cases X <;> simp [convD] at he
    subst he
    rw [hr.int_inv]
    exact ValOk.of w ⟨_, by simp [convert, run_underlying hus, run_underlying hud, Conv.intToString], .str _⟩
  · split at hc <;> try (cases hc; done)
    split at hc <;> try (cases hc; done)
    cases hc
    rename_i e e' x' hus hud hx _ hue hst
    subst hst
    have hr := O hx
    simp only [evalOp] at he
    generalize ev D fr x' = X at he hr
    cases X <;> simp [convD] at he
    · obtain ⟨⟨ht2, hne'⟩, rfl⟩ := he
      obtain ⟨aa, cap, vs, q1, q2, q3, qo, q4, q5, q6, q7, q8, hv⟩ := hr.lst_inv
      obtain ⟨b, o, e1, lim, rfl, hτ, _⟩ := q8 ht2
      obtain ⟨b', o', e2, hp⟩ := q4 hne'
      cases e2
      have hvn : ∃ x0, vs[0]? = some x0 := by
        have hl := q3.length_eq
        cases vs with
        | cons x0 _ => exact ⟨x0, rfl⟩
        | nil =>
          exfalso
          obtain ⟨y, ys, rfl⟩ := List.exists_cons_of_ne_nil hne'
          · have h1 := q2 y (by simp)
            have h2 := q1 (by omega)
            simp only [flat, List.flatMap_cons, List.length_append, List.length_nil] at hl
            omega
      obtain ⟨x0, hx0⟩ := hvn
      obtain ⟨ws, ty, f, hb, _⟩ := hS.prot _ _ _ (hp 0 x0 hx0)
      refine ⟨_, w.freeze ⟨b, ws.size, none⟩ 1, ?_, hr, .mark hτ hb⟩
      rw [hv]
      have hshape : w.shape? b = some (ty, ws.size) := by simp [World.shape?, hb]
      simp [convert, run_underlying hus, run_underlying hud, run_underlying hue, markStringish, hshape]

theorem run_builtin {dst : Option Tmp} {ty : TypeId} {pos : String} {after : Array Edge} {guard : Option (Nat × Bool)} (b : Builtin) (args : Array Operand) (argTypes : Array TypeId) :
    execOp a.eval { dst, op := .call { callee := .builtin b, args, argTypes }, type := ty, pos, after, guard } = builtin b argTypes ty (args.map fun | .const _ => true | _ => false) (args.map a.eval) := rfl
theorem val_call {dst : Option Tmp} {ty : TypeId} {pos : String} {after : Array Edge} {guard : Option (Nat × Bool)} {cl : Call} {d : DOp} {v : DV} (hc : compOp P cfg mf (.call cl) = some d) (O : ∀ {x : Operand} {y : Opd}, opd x = some y → VRel c (ev D fr y) (a.eval x))
    (hne : d.effect = false) (he : evalOp D fr h d = some (.val v)) : ValOk P c w (execOp a.eval { dst, op := .call cl, type := ty, pos, after, guard }) v := by
  obtain ⟨callee, args, argTypes⟩ := cl
  simp only [compOp, compCall] at hc
  split at hc <;> try (cases hc; done)
  · split at hc <;> try (cases hc; done)
    cases hc
    simp [DOp.effect] at hne
  · rw [run_builtin]
    split at hc <;> try (cases hc; done)
    · -- len
      rename_i x t hA hT
      have hA' : args = #[x] := by rw [← Array.toArray_toList (xs := args), hA]
      have hT' : argTypes = #[t] := by rw [← Array.toArray_toList (xs := argTypes), hT]
      subst hA'; subst hT'
      refine ValOk.of w ?_
      split at hc <;> try (cases hc; done)
      · rename_i hu
        obtain ⟨y, hy, rfl⟩ := Option.map_eq_some_iff.1 hc
        have hr := O hy
        simp only [evalOp] at he
        generalize ev D fr y = X at he hr
        cases X <;> simp at he
        subst he
        rw [show Array.map a.eval #[x] = #[a.eval x] by simp, hr.str_inv]
        exact ⟨_, by simp [Builtin.len_, run_underlying hu, goInt]; rfl, by simpa [bytes_size] using VRel.int _ _⟩
      · rename_i hu
        obtain ⟨y, hy, rfl⟩ := Option.map_eq_some_iff.1 hc
        have hr := O hy
        simp only [evalOp] at he
        generalize ev D fr y = X at he hr
        cases X <;> simp at he <;> subst he
        · obtain ⟨_, _, _, _, _, _, _, _, _, _, _, _, hv⟩ := hr.lst_inv
          rw [show Array.map a.eval #[x] = #[a.eval x] by simp, hv]
          exact ⟨_, by simp [Builtin.len_, run_underlying hu, goInt], .int _ _⟩
        · obtain ⟨_, _, _, _, _, _, _, _, _, hv⟩ := hr.arr_inv
          rw [show Array.map a.eval #[x] = #[a.eval x] by simp, hv]
          exact ⟨_, by simp [Builtin.len_, run_underlying hu, goInt], .int _ _⟩
      · cases hc
        rename_i n e hu
        simp [evalOp, ev] at he
        subst he
        exact ⟨_, by simp [Builtin.len_, run_underlying hu, goInt], .int _ _⟩
    · -- append
      split at hc <;> try (cases hc; done)
      split at hc <;> try (cases hc; done)
      · split at hc <;> try (cases hc; done)
        cases hc; simp [DOp.effect] at hne
      · split at hc <;> try (cases hc; done)
        cases hc; simp [DOp.effect] at hne
    · -- copy
      split at hc <;> try (cases hc; done)
      split at hc <;> try (cases hc; done)
      split at hc <;> try (cases hc; done)
      cases hc; simp [DOp.effect] at hne
    · -- min
      rename_i ts x y hA
      have hA' : args = #[x, y] := by rw [← Array.toArray_toList (xs := args), hA]
      subst hA'
      split at hc <;> try (cases hc; done)
      cases hc
      rename_i x' y' hx hy
      have h1 := O hx
      have h2 := O hy
      simp only [evalOp] at he
      split at he <;> try (cases he; done)
      cases he
      rename_i hx' hy'
      rw [hx'] at h1; rw [hy'] at h2
      refine ValOk.of w ⟨_, ?_, .int _ _⟩
      rw [show Array.map a.eval #[x, y] = #[a.eval x, a.eval y] by simp, h1.int_inv, h2.int_inv]
      simp [Builtin.min_, Builtin.min2]
    · -- max
      rename_i ts x y hA
      have hA' : args = #[x, y] := by rw [← Array.toArray_toList (xs := args), hA]
      subst hA'
      split at hc <;> try (cases hc; done)
      cases hc
      rename_i x' y' hx hy
      have h1 := O hx
      have h2 := O hy
      simp only [evalOp] at he
      split at he <;> try (cases he; done)
      cases he
      rename_i hx' hy'
      rw [hx'] at h1; rw [hy'] at h2
      refine ValOk.of w ⟨_, ?_, .int _ _⟩
      rw [show Array.map a.eval #[x, y] = #[a.eval x, a.eval y] by simp, h1.int_inv, h2.int_inv]
      simp [Builtin.max_, Builtin.max2]
    · -- clear
      split at hc <;> try (cases hc; done)
      split at hc <;> try (cases hc; done)
      split at hc <;> try (cases hc; done)
      cases hc; simp [DOp.effect] at hne

set_option maxHeartbeats 1000000 in
theorem val_sound {o : Oper} {d : DOp} {v : DV} (hc : compOp P cfg mf o.op = some d) (hg : GlobOk D c) (hf : VRels c fr.tmps a.tmps.toList) (hS : Sim CC base c G w.heap) (hne : d.effect = false)
    (he : evalOp D fr h d = some (.val v)) (hld : ∀ sh x, d = .load sh x → loadD G sh (ev D fr x) = some v) : ValOk P c w (execOp a.eval o) v := by
  obtain ⟨dst, op, ty, pos, after, guard⟩ := o
  have O : ∀ {x : Operand} {y : Opd}, opd x = some y → VRel c (ev D fr y) (a.eval x) := fun h => opd_rel hg hf h
  have hk := kept_of_sim w hS
  cases op <;> simp only [compOp] at hc <;> try (cases hc; done)
  case move x =>
    simp at hc; obtain ⟨y, hy, rfl⟩ := hc
    simp [evalOp] at he; subst he
    exact ⟨_, w, by simp [execOp], O hy, .same⟩
  case assign x =>
    simp at hc; obtain ⟨y, hy, rfl⟩ := hc
    simp [evalOp] at he; subst he
    exact ⟨_, w, by simp [execOp], O hy, .same⟩
  case pick cc x y =>
    split at hc <;> simp at hc
    subst hc
    rename_i h1 h2 h3
    simp only [evalOp] at he
    have hcr := O h1
    split at he <;> simp at he <;> subst he <;> rename_i hb <;> rw [hb] at hcr <;> have hb' := hcr.bool_inv
    · exact ⟨_, w, by simp [execOp, hb', asBool], O h2, .same⟩
    · exact ⟨_, w, by simp [execOp, hb', asBool], O h3, .same⟩
  case alloc t =>
    simp [Option.bind_eq_some_iff] at hc
    obtain ⟨z, hz, hzz, rfl⟩ := hc
    simp [evalOp] at he
  case box t x =>
    split at hc <;> simp at hc
    subst hc
    simp only [evalOp] at he
    split at he <;> simp at he
  case build t parts =>
    split at hc <;> try (cases hc; done)
    split at hc <;> try (cases hc; done)
    split at hc <;> try (cases hc; done)
    cases hc
    simp only [evalOp] at he
    obtain ⟨r, hr, hv⟩ := Option.map_eq_some_iff.1 he
    cases hv
    refine ValOk.of w ?_
    exact val_build (z := default) w hg hf ‹_› ‹_› ‹_› ‹_› hr
  case buildSlice t len parts =>
    split at hc <;> try (cases hc; done)
    split at hc <;> try (cases hc; done)
    split at hc <;> try (cases hc; done)
    cases hc
    simp only [evalOp] at he
    split at he <;> simp at he
    split at he <;> simp at he
  case load t x =>
    split at hc <;> simp at hc
    subst hc
    rename_i sh y hsh hy
    have := hld sh y rfl
    exact ValOk.of w (load_rel (P := P) w hS hsh (O hy) this)
  case store t x y =>
    split at hc <;> simp at hc
    subst hc
    simp [DOp.effect] at hne
  case nilCheck x =>
    simp at hc; obtain ⟨y, hy, rfl⟩ := hc
    have hr := O hy
    simp only [evalOp] at he
    split at he <;> simp at he <;> subst he <;> rename_i hb <;> rw [hb] at hr
    · obtain ⟨b, o, lim, sz, hφ, hv⟩ := hr.ptr_inv
      exact ⟨_, w, by simp [execOp, hv], hv ▸ hr, .same⟩
    · obtain ⟨vs, b, o, h1, h2, h3, hv⟩ := hr.elt_inv
      exact ⟨_, w, by simp [execOp, hv], hv ▸ hr, .same⟩
  case binOp bop t x y yt =>
    split at hc <;> try (cases hc; done)
    rename_i x' y' hx hy
    obtain ⟨k, hk', rfl⟩ : ∃ k, ((bop = .eql ∨ bop = .neq) → eqKind P t = some k) ∧ d = .bin bop k x' y' := by
      split at hc
      · simp at hc; obtain ⟨k, h1, rfl⟩ := hc
        exact ⟨k, fun _ => h1, rfl⟩
      · simp at hc; obtain ⟨k, h1, rfl⟩ := hc
        exact ⟨k, fun _ => h1, rfl⟩
      · rename_i hn1 hn2
        simp at hc; subst hc
        exact ⟨.any, fun e => by rcases e with e | e; exact (hn1 e).elim; exact (hn2 e).elim, rfl⟩
    simp only [evalOp] at he
    have he' := map_val he
    exact ValOk.of w (bin_rel w he' (O hx) (O hy) hk')
  case unOp uop t x =>
    simp at hc; obtain ⟨y, hy, rfl⟩ := hc
    simp only [evalOp] at he
    exact ValOk.of w (un_rel w (map_val he) (O hy))
  case convert s t x => exact val_convert w hc hk hS (fun h => O h) hne he
  case makeFunc fn first caps =>
    split at hc <;> try (cases hc; done)
    cases hc
    rename_i f' _ _ hA hB
    simp [evalOp] at he; subst he
    have h1 := opds_rel hg hf hA
    have h2 := opds_rel hg hf hB
    refine ⟨_, w, by simp [execOp, Instr.makeFunc]; rfl, ?_, .same⟩
    have := VRel.fn (c := c) (.func f') h1 h2
    simpa only [List.map_toArray, Array.toArray_toList, ← Array.toList_map] using this
  case makeSlice t l cp =>
    split at hc <;> try (cases hc; done)
    split at hc <;> try (cases hc; done)
    split at hc <;> try (cases hc; done)
    cases hc
    simp only [evalOp] at he
    split at he <;> try (cases he; done)
    split at he <;> simp at he
    split at he <;> simp at he
  case slice t x lo hi mx =>
    split at hc <;> try (cases hc; done)
    · cases hc
      rename_i x' lo' hi' hu hx hlo hhi hmx
      simp only [evalOp] at he
      split at he <;> try (cases he; done)
      rename_i s hs
      obtain ⟨⟨l, r⟩, hb, hv⟩ := Option.map_eq_some_iff.1 he
      cases hv
      have hmx' : mx = none := by
        cases mx with
        | none => rfl
        | some m => simp [opdO] at hmx
      subst hmx'
      refine ValOk.of w ?_
      exact val_sliceStr (P := P) w hu (hs ▸ O hx) (opdO_cases hg hf hlo) (opdO_cases hg hf hhi) hb
    · obtain ⟨n, hn, rfl⟩ := Option.map_eq_some_iff.1 hc
      rename_i hu hx hlo hhi hmx
      simp only [evalOp] at he
      exact val_slice (P := P) w hu hn (O hx) (opdO_cases hg hf hlo) (opdO_cases hg hf hhi) (opdO_cases hg hf hmx) he
  case fieldAddr s x f =>
    split at hc <;> try (cases hc; done)
    split at hc <;> try (cases hc; done)
    split at hc <;> try (cases hc; done)
    cases hc
    rename_i fs y hu hy _ fd hfd _ n hn
    have hr := O hy
    have hz := run_sizeOfT (P := P) w hn
    simp only [evalOp] at he
    refine ValOk.of w ?_
    split at he <;> simp at he <;> subst he <;> rename_i hb <;> rw [hb] at hr
    · obtain ⟨b, o, lim, sz, hφ, hv⟩ := hr.ptr_inv
      rename_i off
      refine ⟨.pointer (some ⟨b, o + off + fd.offset, none⟩), by simp [Instr.fieldAt, run_underlying hu, hfd, hv, Instr.sureAddr, fieldPlace, hz, add_plain], ?_⟩
      have := VRel.ptr (c := c) (off := off + fd.offset) hφ
      rwa [← Nat.add_assoc] at this
    · obtain ⟨vs, b, o, h1, h2, h3, hv⟩ := hr.elt_inv
      refine ⟨.pointer (some ⟨b, o + fd.offset, none⟩), by simp [Instr.fieldAt, run_underlying hu, hfd, hv, Instr.sureAddr, fieldPlace, hz, add_plain], ?_⟩
      refine .elt (h1.drop _) (fun y hy => h2 y (List.mem_of_mem_drop hy)) fun j y hj => ?_
      have : vs[fd.offset + j]? = some y := by simpa using hj
      have := h3 _ _ this
      rwa [← Nat.add_assoc] at this
  case field s x f =>
    split at hc <;> try (cases hc; done)
    split at hc <;> try (cases hc; done)
    obtain ⟨sh, hsh, rfl⟩ := Option.map_eq_some_iff.1 hc
    rename_i fs y hu hy _ fd hfd
    have hr := O hy
    simp only [evalOp] at he
    split at he <;> try (cases he; done)
    rename_i cs hb
    rw [hb] at hr
    obtain ⟨r, hr1, hr2⟩ := Option.bind_eq_some_iff.1 (map_val he)
    exact ValOk.of w (val_field w hu hfd hsh hr hr1 hr2)
  case indexAddr t x i =>
    split at hc <;> try (cases hc; done)
    · obtain ⟨n, hn, rfl⟩ := Option.map_eq_some_iff.1 hc
      rename_i e x' i' hu hx hi
      have hr := O hx
      have hri := O hi
      simp only [evalOp] at he
      refine ValOk.of w ?_
      have hint : ∃ k m, ev D fr i' = .int k m := by
        split at he <;> first | exact ⟨_, _, ‹_›⟩ | (cases he; done)
      obtain ⟨k, m, hm⟩ := hint
      rw [hm] at hri he
      rw [hri.int_inv]
      refine val_iaddr w hu hn hr ?_
      generalize ev D fr x' = X at he hr
      cases X <;> first | (simp at he; done) | exact he | simpa using he
    · obtain ⟨n, hn, rfl⟩ := Option.map_eq_some_iff.1 hc
      rename_i len e x' i' hu hx hi
      have hr := O hx
      have hri := O hi
      simp only [evalOp] at he
      refine ValOk.of w ?_
      have hint : ∃ k m, ev D fr i' = .int k m := by
        split at he <;> first | exact ⟨_, _, ‹_›⟩ | (cases he; done)
      obtain ⟨k, m, hm⟩ := hint
      rw [hm] at hri he
      rw [hri.int_inv]
      refine val_iaddrArr w hu hn hr ?_
      generalize ev D fr x' = X at he hr
      cases X <;> first | (simp at he; done) | exact he | simpa using he
  case index t x i =>
    split at hc <;> try (cases hc; done)
    · cases hc
      rename_i x' i' hu hx hi
      have hr := O hx
      have hri := O hi
      simp only [evalOp] at he
      split at he <;> try (cases he; done)
      rename_i s k n hs hn
      rw [hs] at hr; rw [hn] at hri
      split at he <;> try (cases he; done)
      rename_i h0
      obtain ⟨b, hb, hv⟩ := Option.map_eq_some_iff.1 he
      cases hv
      refine ValOk.of w ?_
      rw [hri.int_inv]
      exact val_idxStr w hu hr h0 hb
    · obtain ⟨sh, hsh, rfl⟩ := Option.map_eq_some_iff.1 hc
      rename_i len e x' i' hu hx hi
      have hr := O hx
      have hri := O hi
      simp only [evalOp] at he
      split at he <;> try (cases he; done)
      rename_i cs k n hs hn
      rw [hs] at hr; rw [hn] at hri
      split at he <;> try (cases he; done)
      rename_i h0
      obtain ⟨r, hr1, hr2⟩ := Option.bind_eq_some_iff.1 (map_val he)
      refine ValOk.of w ?_
      rw [hri.int_inv]
      exact val_idxArr w hu hsh hr h0 hr1 hr2
  case extract x i =>
    simp at hc; obtain ⟨y, hy, rfl⟩ := hc
    have hr := O hy
    simp only [evalOp] at he
    split at he <;> try (cases he; done)
    rename_i vs hb
    rw [hb] at hr
    obtain ⟨ws, hw, hv⟩ := hr.tup_inv
    obtain ⟨u, hu1, hu2⟩ := hw.get i (map_val he)
    exact ValOk.of w ⟨u, by simp [Instr.extract, hv, hu1], hu2⟩
  case range t x =>
    split at hc <;> try (cases hc; done)
    cases hc
    simp only [evalOp] at he
    split at he <;> simp at he
  case next x s =>
    cases s <;> simp only [compOp] at hc
    · cases hc
    · obtain ⟨y, hy, rfl⟩ := Option.map_eq_some_iff.1 hc
      simp [DOp.effect] at hne
  case call cl => exact val_call w hc O hne he
  case defer cl =>
    split at hc <;> try (cases hc; done)
    split at hc <;> try (cases hc; done)
    cases hc
    simp [DOp.effect] at hne
end
end Go.Dm
/- The D-machine (11): what keeps the two heaps together. -/
namespace Go.Dm
set_option linter.unusedSimpArgs false
set_option linter.unusedVariables false
set_option linter.unnecessarySimpa false

def upd {α : Type} (f : Nat → Option α) (i : Nat) (x : α) : Nat → Option α := fun j => if j = i then some x else f j
theorem upd_same {α : Type} (f : Nat → Option α) (i : Nat) (x : α) : upd f i x i = some x := by simp [upd]
theorem upd_ne {α : Type} (f : Nat → Option α) {i j : Nat} (x : α) (h : j ≠ i) : upd f i x j = f j := by simp [upd, h]
theorem upd_some {α : Type} {f : Nat → Option α} {i j : Nat} {x y : α} (h : upd f i x j = some y) : (j = i ∧ y = x) ∨ (j ≠ i ∧ f j = some y) := by
  unfold upd at h
  split at h
  · cases h; exact .inl ⟨‹_›, rfl⟩
  · exact .inr ⟨‹_›, h⟩

/-- What lay below stays, and nothing is seen outside. -/
structure Keeps (base : Nat) (w w' : World) : Prop where
  size : w.heap.size ≤ w'.heap.size
  old : ∀ b, b < base → w'.heap[b]? = w.heap[b]?
  os : w'.os = w.os
  output : w'.output = w.output
  tape : w'.tape = w.tape
theorem Keeps.refl {base : Nat} (w : World) : Keeps base w w := ⟨Nat.le_refl _, fun _ _ => rfl, rfl, rfl, rfl⟩
theorem Keeps.trans {base : Nat} {a b c : World} (h : Keeps base a b) (k : Keeps base b c) : Keeps base a c :=
  ⟨Nat.le_trans h.size k.size, fun i hi => (k.old i hi).trans (h.old i hi), k.os.trans h.os, k.output.trans h.output, k.tape.trans h.tape⟩
theorem Keeps.drew {base : Nat} (w : World) (n : Nat) : Keeps base w { w with drawn := n } := ⟨Nat.le_refl _, fun _ _ => rfl, rfl, rfl, rfl⟩

theorem LoopRel.mono {CC : Code → DC → Prop} {c d : Cor} {r : LRec} {l : Loop} (h : LoopRel CC c r l) (hle : c.le d) : LoopRel CC d r l :=
  ⟨h.tmps.mono hle, h.ps, h.asg, h.body, h.st, h.pend, h.pn⟩
theorem ORel.mono {CC : Code → DC → Prop} {c d : Cor} {H H' : Array Obj} {b o lim sz : Nat} {ob : HObj} (h : ORel CC c H b o lim sz ob) (hle : c.le d) (hb : H'[b]? = H[b]?) : ORel CC d H' b o lim sz ob := by
  cases ob with
  | cells cs sh =>
    obtain ⟨h1, h2, vs, e, f, h3, h4, h5, h6, h7⟩ := h
    exact ⟨h1, h2, vs, e, f, hb.trans h3, h4, h5, h6, fun j x hj => let ⟨v, p, q⟩ := h7 j x hj; ⟨v, p, q.mono hle⟩⟩
  | siter s p => exact ⟨h.1, hb.trans h.2⟩
  | loop r =>
    obtain ⟨l, h1, h2⟩ := h
    exact ⟨l, hb.trans h1, h2.mono hle⟩
  | mark => exact hb.trans h
theorem ORel.lt {CC : Code → DC → Prop} {c : Cor} {H : Array Obj} {b o lim sz : Nat} {ob : HObj} (h : ORel CC c H b o lim sz ob) : b < H.size := by
  have : ∃ x, H[b]? = some x := by
    cases ob with
    | cells cs sh => obtain ⟨h1, h2, vs, e, f, h3, _⟩ := h; exact ⟨_, h3⟩
    | siter s p => exact ⟨_, h.2⟩
    | loop r => obtain ⟨l, h1, h2⟩ := h; exact ⟨_, h1⟩
    | mark => exact ⟨_, h⟩
  obtain ⟨x, hx⟩ := this
  exact (Array.getElem?_eq_some_iff.1 hx).1

section
variable {CC : Code → DC → Prop} {base : Nat} {c : Cor} {h : Heap} {H : Array Obj}

theorem Sim.kp_lt (hS : Sim CC base c h H) {b o : Nat} {v : Value} (hk : c.kp b o = some v) : b < H.size := by
  obtain ⟨vs, e, f, h1, _⟩ := hS.prot b o v hk
  exact (Array.getElem?_eq_some_iff.1 h1).1
theorem Sim.tag_lt (hS : Sim CC base c h H) {t sz b e lim sz' : Nat} (h1 : h.tags.get t = some sz) (h2 : c.τ t = some (b, e, lim, sz')) : b < H.size := by
  obtain ⟨_, _, ⟨vs, ty, f, h3, _⟩, _⟩ := hS.tags t sz b e lim sz' h1 h2
  exact (Array.getElem?_eq_some_iff.1 h3).1
theorem Sim.obj_lt (hS : Sim CC base c h H) {id b o lim sz : Nat} {ob : HObj} (h1 : h.objs.get id = some ob) (h2 : c.φ id = some (b, o, lim, sz)) : b < H.size := (hS.objs id ob b o lim sz h1 h2).2.lt
theorem Sim.φnext (hS : Sim CC base c h H) : c.φ h.next = none := by
  cases hx : c.φ h.next with
  | none => rfl
  | some x => exact absurd (hS.dφ _ _ hx) (Nat.lt_irrefl _)
theorem Sim.τnext (hS : Sim CC base c h H) : c.τ h.next = none := by
  cases hx : c.τ h.next with
  | none => rfl
  | some x => exact absurd (hS.dτ _ _ hx) (Nat.lt_irrefl _)

/-- An object that the model does not hold yet. -/
theorem Sim.add (hS : Sim CC base c h H) (ob : HObj) : Sim CC base c (h.add ob) H := by
  have hg : ∀ id x, c.φ id = some x → (h.add ob).objs.get id = h.objs.get id := fun id x hx => by
    have := hS.dφ id x hx
    simp only [Heap.add]
    exact Tr.get_set_ne _ _ (by omega)
  have ht : ∀ t, (h.add ob).tags.get t = h.tags.get t := fun t => rfl
  refine ⟨?_, ?_, hS.prot, ?_, ?_, ?_, ?_, ?_, ?_, hS.bτ, Nat.le_succ_of_le hS.next, hS.size, ?_⟩
  · intro id ob' b o lim sz h1 h2; rw [hg _ _ h2] at h1; exact hS.objs id ob' b o lim sz h1 h2
  · intro id id' ob1 ob2 b o lim sz o' lim' sz' h1 h2 h3 h4
    rw [hg _ _ h3] at h1; rw [hg _ _ h4] at h2
    exact hS.uniq _ _ _ _ _ _ _ _ _ _ _ h1 h2 h3 h4
  · intro id ob' b o lim sz h1 h2; rw [hg _ _ h2] at h1; exact hS.sep id ob' b o lim sz h1 h2
  · exact hS.tags
  · intro t sz b e lim sz' id ob' b' o' lim' sz'' h1 h2 h3 h4; rw [hg _ _ h4] at h3; exact hS.tagobj _ _ _ _ _ _ _ _ _ _ _ _ h1 h2 h3 h4
  · exact hS.tagtag
  · intro id x hx; exact Nat.lt_succ_of_lt (hS.dφ id x hx)
  · intro id x hx; exact Nat.lt_succ_of_lt (hS.dτ id x hx)
  · intro id hid
    have hid' : h.next + 1 ≤ id := hid
    obtain ⟨h1, h2⟩ := hS.fresh id (by omega)
    exact ⟨by simp only [Heap.add]; rw [Tr.get_set_ne _ _ (by omega)]; exact h1, h2⟩
theorem Sim.addTag (hS : Sim CC base c h H) (sz : Nat) : Sim CC base c (h.addTag sz) H := by
  have hg : ∀ id x, c.τ id = some x → (h.addTag sz).tags.get id = h.tags.get id := fun id x hx => by
    have := hS.dτ id x hx
    simp only [Heap.addTag]
    exact Tr.get_set_ne _ _ (by omega)
  refine ⟨hS.objs, hS.uniq, hS.prot, hS.sep, ?_, ?_, ?_, ?_, ?_, hS.bτ, Nat.le_succ_of_le hS.next, hS.size, ?_⟩
  · intro t sz b e lim sz' h1 h2; rw [hg _ _ h2] at h1; exact hS.tags _ _ _ _ _ _ h1 h2
  · intro t sz b e lim sz' id ob' b' o' lim' sz'' h1 h2 h3 h4; rw [hg _ _ h2] at h1; exact hS.tagobj _ _ _ _ _ _ _ _ _ _ _ _ h1 h2 h3 h4
  · intro t sz b e lim sz' u sz2 e' lim' sz'' h1 h2 h3 h4; rw [hg _ _ h2] at h1; rw [hg _ _ h4] at h3; exact hS.tagtag _ _ _ _ _ _ _ _ _ _ _ h1 h2 h3 h4
  · intro id x hx; exact Nat.lt_succ_of_lt (hS.dφ id x hx)
  · intro id x hx; exact Nat.lt_succ_of_lt (hS.dτ id x hx)
  · intro id hid
    have hid' : h.next + 1 ≤ id := hid
    obtain ⟨h1, h2⟩ := hS.fresh id (by omega)
    exact ⟨h1, by simp only [Heap.addTag]; rw [Tr.get_set_ne _ _ (by omega)]; exact h2⟩
theorem Sim.drop (hS : Sim CC base c h H) (id : Nat) : Sim CC base c (h.drop id) H := by
  have hg : ∀ i ob, (h.drop id).objs.get i = some ob → h.objs.get i = some ob := fun i ob hi => by
    simp only [Heap.drop, Tr.get_set] at hi
    split at hi
    · cases hi
    · exact hi
  refine ⟨?_, ?_, hS.prot, ?_, hS.tags, ?_, hS.tagtag, hS.dφ, hS.dτ, hS.bτ, hS.next, hS.size, ?_⟩
  · intro id ob' b o lim sz h1 h2; exact hS.objs id ob' b o lim sz (hg _ _ h1) h2
  · intro id id' ob1 ob2 b o lim sz o' lim' sz' h1 h2 h3 h4
    exact hS.uniq _ _ _ _ _ _ _ _ _ _ _ (hg _ _ h1) (hg _ _ h2) h3 h4
  · intro id ob' b o lim sz h1 h2; exact hS.sep id ob' b o lim sz (hg _ _ h1) h2
  · intro t sz b e lim sz' id ob' b' o' lim' sz'' h1 h2 h3 h4; exact hS.tagobj _ _ _ _ _ _ _ _ _ _ _ _ h1 h2 (hg _ _ h3) h4
  · intro i hi
    obtain ⟨h1, h2⟩ := hS.fresh i hi
    refine ⟨?_, h2⟩
    simp only [Heap.drop, Tr.get_set]
    split
    · rfl
    · exact h1
theorem Sim.spend (hS : Sim CC base c h H) (t : Nat) : Sim CC base c (h.spend t) H := by
  have hg : ∀ i sz, (h.spend t).tags.get i = some sz → h.tags.get i = some sz := fun i ob hi => by
    simp only [Heap.spend, Tr.get_set] at hi
    split at hi
    · cases hi
    · exact hi
  refine ⟨hS.objs, hS.uniq, hS.prot, hS.sep, ?_, ?_, ?_, hS.dφ, hS.dτ, hS.bτ, hS.next, hS.size, ?_⟩
  · intro t sz b e lim sz' h1 h2; exact hS.tags _ _ _ _ _ _ (hg _ _ h1) h2
  · intro t sz b e lim sz' id ob' b' o' lim' sz'' h1 h2 h3 h4; exact hS.tagobj _ _ _ _ _ _ _ _ _ _ _ _ (hg _ _ h1) h2 h3 h4
  · intro t sz b e lim sz' u sz2 e' lim' sz'' h1 h2 h3 h4; exact hS.tagtag _ _ _ _ _ _ _ _ _ _ _ (hg _ _ h1) h2 (hg _ _ h3) h4
  · intro i hi
    obtain ⟨h1, h2⟩ := hS.fresh i hi
    refine ⟨h1, ?_⟩
    simp only [Heap.spend, Tr.get_set]
    split
    · rfl
    · exact h2

theorem getElem?_push_lt' {H : Array Obj} {x : Obj} {b : Nat} (hb : b < H.size) : (H.push x)[b]? = H[b]? := by
  rw [Array.getElem?_push]; simp [Nat.ne_of_lt hb]
def Cor.obj (c : Cor) (id b o lim sz : Nat) : Cor := { c with φ := upd c.φ id (b, o, lim, sz) }
theorem Cor.le_obj {c : Cor} {id : Nat} (hn : c.φ id = none) (b o lim sz : Nat) : c.le (c.obj id b o lim sz) :=
  ⟨fun i x hx => by
    have : i ≠ id := fun e => by subst e; rw [hn] at hx; cases hx
    simpa [Cor.obj, upd, this] using hx, fun _ _ h => h, fun _ _ _ h => h⟩

/-- Something else is laid in the model's heap. -/
theorem Sim.push (hS : Sim CC base c h H) (x : Obj) : Sim CC base c h (H.push x) := by
  refine ⟨?_, hS.uniq, ?_, hS.sep, ?_, hS.tagobj, hS.tagtag, hS.dφ, hS.dτ, hS.bτ, hS.next, ?_, hS.fresh⟩
  · intro id ob b o lim sz h1 h2
    obtain ⟨h3, h4⟩ := hS.objs id ob b o lim sz h1 h2
    exact ⟨h3, h4.mono (Cor.le.refl c) (getElem?_push_lt' h4.lt)⟩
  · intro b o v hk
    obtain ⟨vs, e, f, h1, h2⟩ := hS.prot b o v hk
    exact ⟨vs, e, f, by rw [getElem?_push_lt' (hS.kp_lt hk)]; exact h1, h2⟩
  · intro t sz b e lim sz' h1 h2
    obtain ⟨h3, h4, ⟨vs, ty, f, h5, h6⟩, h7⟩ := hS.tags t sz b e lim sz' h1 h2
    exact ⟨h3, h4, ⟨vs, ty, f, by rw [getElem?_push_lt' (hS.tag_lt h1 h2)]; exact h5, h6⟩, h7⟩
  · have := hS.size; simp; omega

theorem Sim.obj (hS : Sim CC base c h H) {id : Nat} {ob : HObj} (hn : c.φ id = none) (hi : id < h.next) (hg : h.objs.get id = some ob) {x : Obj} {lim sz : Nat}
    (ho : ORel CC (c.obj id H.size 0 lim sz) (H.push x) H.size 0 lim sz ob) : Sim CC base (c.obj id H.size 0 lim sz) h (H.push x) := by
  have hP := hS.push x
  have hle := Cor.le_obj hn H.size 0 lim sz
  have hφ : ∀ i y, (c.obj id H.size 0 lim sz).φ i = some y → (i = id ∧ y = (H.size, 0, lim, sz)) ∨ (i ≠ id ∧ c.φ i = some y) := fun i y hy => upd_some hy
  refine ⟨?_, ?_, hP.prot, ?_, hP.tags, ?_, hS.tagtag, ?_, hS.dτ, hS.bτ, hS.next, hP.size, hS.fresh⟩
  · intro i ob' b o lim' sz' h1 h2
    rcases hφ _ _ h2 with ⟨rfl, e⟩ | ⟨_, e⟩
    · cases e
      rw [hg] at h1; cases h1
      exact ⟨hS.size, ho⟩
    · obtain ⟨h3, h4⟩ := hP.objs i ob' b o lim' sz' h1 e
      exact ⟨h3, h4.mono hle rfl⟩
  · intro i j ob1 ob2 b o lim1 sz1 o' lim' sz' h1 h2 h3 h4
    rcases hφ _ _ h3 with ⟨rfl, e3⟩ | ⟨n3, e3⟩ <;> rcases hφ _ _ h4 with ⟨rfl, e4⟩ | ⟨n4, e4⟩
    · rfl
    · cases e3
      have := hS.obj_lt h2 e4
      omega
    · cases e4
      have := hS.obj_lt h1 e3
      omega
    · exact hS.uniq _ _ _ _ _ _ _ _ _ _ _ h1 h2 e3 e4
  · intro i ob' b o lim' sz' h1 h2 j
    rcases hφ _ _ h2 with ⟨rfl, e⟩ | ⟨_, e⟩
    · cases e
      cases hk : (c.obj i H.size 0 lim sz).kp H.size j with
      | none => rfl
      | some v => have := hS.kp_lt (b := H.size) (o := j) (v := v) hk; omega
    · exact hS.sep i ob' b o lim' sz' h1 e j
  · intro t sz1 b e lim1 sz' i ob' b' o' lim' sz'' h1 h2 h3 h4
    rcases hφ _ _ h4 with ⟨rfl, e'⟩ | ⟨_, e'⟩
    · cases e'
      have := hS.tag_lt h1 h2
      omega
    · exact hS.tagobj _ _ _ _ _ _ _ _ _ _ _ _ h1 h2 h3 e'
  · intro i y hy
    rcases hφ _ _ hy with ⟨rfl, e⟩ | ⟨_, e⟩
    · exact hi
    · exact hS.dφ _ _ e

def Cor.tag (c : Cor) (t b e lim sz : Nat) (k : Nat → Nat → Option Value) : Cor := { c with τ := upd c.τ t (b, e, lim, sz), kp := k }
/-- Cells that stay: those of a list, at a block's place. -/
def keep (k : Nat → Nat → Option Value) (b o : Nat) (vs : List Value) : Nat → Nat → Option Value := fun b' j => if b' = b ∧ o ≤ j ∧ j < o + vs.length then vs[j - o]? else k b' j
theorem keep_in (k : Nat → Nat → Option Value) (b o : Nat) (vs : List Value) {j : Nat} {v : Value} (h : vs[j]? = some v) : keep k b o vs b (o + j) = some v := by
  have := (List.getElem?_eq_some_iff.1 h).1
  unfold keep
  rw [if_pos ⟨rfl, by omega, by omega⟩, show o + j - o = j by omega, h]
theorem keep_out (k : Nat → Nat → Option Value) (b o : Nat) (vs : List Value) {b' j : Nat} (h : b' ≠ b ∨ j < o ∨ o + vs.length ≤ j) : keep k b o vs b' j = k b' j := by
  unfold keep
  rw [if_neg (by omega)]
theorem keep_some {k : Nat → Nat → Option Value} {b o : Nat} {vs : List Value} {b' j : Nat} {v : Value} (h : keep k b o vs b' j = some v) : (b' = b ∧ o ≤ j ∧ vs[j - o]? = some v) ∨ k b' j = some v := by
  unfold keep at h
  split at h
  · rename_i hc; exact .inl ⟨hc.1, hc.2.1, h⟩
  · exact .inr h

theorem Sim.tag (hS : Sim CC base c h H) {t sz : Nat} (hn : c.τ t = none) (hi : t < h.next) (hg : h.tags.get t = some sz) {vs : List Value} {cs : Array Value} {ty : TypeId} {f : Nat × Nat} (hf : FOk cs.size f)
    (hv : ∀ (j : Nat) (v : Value), vs[j]? = some v → cs[j]? = some v) :
    let c' := c.tag t H.size vs.length cs.size sz (keep c.kp H.size 0 vs)
    c.le c' ∧ Sim CC base c' h (H.push (.cells cs ty f)) := by
  intro c'
  have hP := hS.push (.cells cs ty f)
  have hle : c.le c' := ⟨fun _ _ h => h, fun i x hx => by
    have : i ≠ t := fun e => by subst e; rw [hn] at hx; cases hx
    simpa [c', Cor.tag, upd, this] using hx, fun b o x hx => by
    have := hS.kp_lt hx
    simp only [c', Cor.tag]
    rw [keep_out _ _ _ _ (.inl (by omega))]; exact hx⟩
  have hτ : ∀ i y, c'.τ i = some y → (i = t ∧ y = (H.size, vs.length, cs.size, sz)) ∨ (i ≠ t ∧ c.τ i = some y) := fun i y hy => upd_some hy
  refine ⟨hle, ?_, hS.uniq, ?_, ?_, ?_, ?_, ?_, hS.dφ, ?_, ?_, hS.next, hP.size, hS.fresh⟩
  · intro i ob' b o lim' sz' h1 h2
    obtain ⟨h3, h4⟩ := hP.objs i ob' b o lim' sz' h1 h2
    exact ⟨h3, h4.mono hle rfl⟩
  · intro b o v hk
    rcases keep_some hk with ⟨rfl, _, h2⟩ | h2
    · exact ⟨cs, ty, f, by simp, by simpa using hv _ _ h2⟩
    · exact hP.prot b o v h2
  · intro i ob' b o lim' sz' h1 h2 j
    have := hS.obj_lt h1 h2
    simp only [c', Cor.tag]
    rw [keep_out _ _ _ _ (.inl (by omega))]
    exact hS.sep i ob' b o lim' sz' h1 h2 j
  · intro u sz1 b e lim sz' h1 h2
    rcases hτ _ _ h2 with ⟨rfl, e'⟩ | ⟨_, e'⟩
    · cases e'
      rw [hg] at h1; cases h1
      refine ⟨rfl, hS.size, ⟨cs, ty, f, by simp, rfl, hf⟩, fun j hj => ?_⟩
      simp only [c', Cor.tag]
      rw [keep_out _ _ _ _ (.inr (.inr (by omega)))]
      cases hk : c.kp H.size j with
      | none => rfl
      | some v => have := hS.kp_lt hk; omega
    · obtain ⟨h3, h4, h5, h6⟩ := hP.tags u sz1 b e lim sz' h1 e'
      refine ⟨h3, h4, h5, fun j hj => ?_⟩
      have := hS.tag_lt h1 e'
      simp only [c', Cor.tag]
      rw [keep_out _ _ _ _ (.inl (by omega))]
      exact h6 j hj
  · intro u sz1 b e lim sz' id ob' b' o' lim' sz'' h1 h2 h3 h4
    rcases hτ _ _ h2 with ⟨rfl, e'⟩ | ⟨_, e'⟩
    · cases e'
      have := hS.obj_lt h3 h4
      omega
    · exact hS.tagobj _ _ _ _ _ _ _ _ _ _ _ _ h1 e' h3 h4
  · intro u sz1 b e lim sz' u' sz2 e' lim' sz'' h1 h2 h3 h4
    rcases hτ _ _ h2 with ⟨rfl, e2⟩ | ⟨_, e2⟩ <;> rcases hτ _ _ h4 with ⟨rfl, e4⟩ | ⟨_, e4⟩
    · rfl
    · cases e2
      have := hS.tag_lt h3 e4
      omega
    · cases e4
      have := hS.tag_lt h1 e2
      omega
    · exact hS.tagtag _ _ _ _ _ _ _ _ _ _ _ h1 e2 h3 e4
  · intro i y hy
    rcases hτ _ _ hy with ⟨rfl, e⟩ | ⟨_, e⟩
    · exact hi
    · exact hS.dτ _ _ e
  · intro i b e lim sz' hy
    rcases hτ _ _ hy with ⟨rfl, e⟩ | ⟨_, e⟩
    · cases e; exact hS.size
    · exact hS.bτ _ _ _ _ _ e

/-- An object of ours is turned into another, in its own block. -/
theorem Sim.put (hS : Sim CC base c h H) {id b o lim sz : Nat} {ob ob' : HObj} {H' : Array Obj} (hg : h.objs.get id = some ob) (hφ : c.φ id = some (b, o, lim, sz)) (ho : ORel CC c H' b o lim sz ob')
    (hH : ∀ i, i ≠ b → H'[i]? = H[i]?) (hs : H'.size = H.size) : Sim CC base c (h.put id ob') H' := by
  have hp : ∀ i ob1, (h.put id ob').objs.get i = some ob1 → (i = id ∧ ob1 = ob') ∨ (i ≠ id ∧ h.objs.get i = some ob1) := fun i ob1 hi => by
    simp only [Heap.put, Tr.get_set] at hi
    split at hi
    · cases hi; exact .inl ⟨‹_›, rfl⟩
    · exact .inr ⟨‹_›, hi⟩
  have hlive : ∀ i ob1, (h.put id ob').objs.get i = some ob1 → ∃ ob2, h.objs.get i = some ob2 := fun i ob1 hi => by
    rcases hp _ _ hi with ⟨rfl, _⟩ | ⟨_, e⟩
    · exact ⟨_, hg⟩
    · exact ⟨_, e⟩
  refine ⟨?_, ?_, ?_, ?_, ?_, ?_, hS.tagtag, hS.dφ, hS.dτ, hS.bτ, hS.next, by rw [hs]; exact hS.size, ?_⟩
  · intro i ob1 b1 o1 lim1 sz1 h1 h2
    rcases hp _ _ h1 with ⟨rfl, rfl⟩ | ⟨n, e⟩
    · rw [hφ] at h2; cases h2
      exact ⟨(hS.objs _ _ _ _ _ _ hg hφ).1, ho⟩
    · obtain ⟨h3, h4⟩ := hS.objs i ob1 b1 o1 lim1 sz1 e h2
      refine ⟨h3, h4.mono (Cor.le.refl c) (hH _ fun eb => n ?_)⟩
      subst eb
      exact hS.uniq _ _ _ _ _ _ _ _ _ _ _ e hg h2 hφ
  · intro i j ob1 ob2 b o lim1 sz1 o' lim' sz' h1 h2 h3 h4
    obtain ⟨_, h1'⟩ := hlive _ _ h1
    obtain ⟨_, h2'⟩ := hlive _ _ h2
    exact hS.uniq _ _ _ _ _ _ _ _ _ _ _ h1' h2' h3 h4
  · intro b1 o1 v hk
    obtain ⟨vs, e, f, h1, h2⟩ := hS.prot b1 o1 v hk
    refine ⟨vs, e, f, ?_, h2⟩
    rw [hH _ fun eb => ?_]; exact h1
    subst eb
    have := hS.sep id ob _ o lim sz hg hφ o1
    rw [this] at hk; cases hk
  · intro i ob1 b o lim1 sz1 h1 h2
    obtain ⟨_, h1'⟩ := hlive _ _ h1
    exact hS.sep _ _ _ _ _ _ h1' h2
  · intro t sz1 b1 e lim1 sz' h1 h2
    obtain ⟨h3, h4, ⟨vs, ty, f, h5, h6⟩, h7⟩ := hS.tags t sz1 b1 e lim1 sz' h1 h2
    refine ⟨h3, h4, ⟨vs, ty, f, ?_, h6⟩, h7⟩
    rw [hH _ fun eb => ?_]; exact h5
    exact hS.tagobj _ _ _ _ _ _ _ _ _ _ _ _ h1 h2 hg hφ eb
  · intro t sz1 b1 e lim1 sz' i ob1 b' o' lim' sz'' h1 h2 h3 h4
    obtain ⟨_, h3'⟩ := hlive _ _ h3
    exact hS.tagobj _ _ _ _ _ _ _ _ _ _ _ _ h1 h2 h3' h4
  · intro i hi
    obtain ⟨h1, h2⟩ := hS.fresh i hi
    refine ⟨?_, h2⟩
    simp only [Heap.put, Tr.get_set]
    split
    · rename_i e; subst e; rw [hg] at h1; cases h1
    · exact h1
end
end Go.Dm
/- The D-machine (12): blocks that are turned, taken over, kept. -/
namespace Go.Dm
set_option linter.unusedSimpArgs false
set_option linter.unusedVariables false
set_option linter.unnecessarySimpa false

section
variable {CC : Code → DC → Prop} {base : Nat} {c : Cor} {h : Heap} {H H' : Array Obj}

/-- No live object of ours lies in the block. -/
def NoObj (c : Cor) (h : Heap) (b : Nat) : Prop := ∀ id ob b' o lim sz, h.objs.get id = some ob → c.φ id = some (b', o, lim, sz) → b' ≠ b
def NoTag (c : Cor) (h : Heap) (b : Nat) : Prop := ∀ t sz b' e lim sz', h.tags.get t = some sz → c.τ t = some (b', e, lim, sz') → b' ≠ b

theorem Sim.frost (hS : Sim CC base c h H) {b : Nat} {vs : Array Value} {ty : TypeId} {f f' : Nat × Nat} (hb : H[b]? = some (.cells vs ty f)) (hf : FOk vs.size f → FOk vs.size f') (hb' : H'[b]? = some (.cells vs ty f'))
    (hH : ∀ i, i ≠ b → H'[i]? = H[i]?) (hs : H'.size = H.size) : Sim CC base c h H' := by
  refine ⟨?_, hS.uniq, ?_, hS.sep, ?_, hS.tagobj, hS.tagtag, hS.dφ, hS.dτ, hS.bτ, hS.next, by rw [hs]; exact hS.size, hS.fresh⟩
  · intro id ob b1 o lim sz h1 h2
    obtain ⟨h3, h4⟩ := hS.objs id ob b1 o lim sz h1 h2
    refine ⟨h3, ?_⟩
    by_cases e : b1 = b
    · subst e
      cases ob with
      | cells cs sh =>
        obtain ⟨q1, q2, vs1, e1, f1, q3, q4, q5, q6, q7⟩ := h4
        rw [hb] at q3
        cases q3
        subst q4
        exact ⟨q1, q2, vs, ty, f', hb', rfl, hf q5, q6, q7⟩
      | siter s p => have := h4.2; rw [hb] at this; cases this
      | loop r => obtain ⟨l, q1, q2⟩ := h4; rw [hb] at q1; cases q1
      | mark => have h5 : H[b1]? = some (.deferred (some [])) := h4; rw [hb] at h5; cases h5
    · exact h4.mono (Cor.le.refl c) (hH _ e)
  · intro b1 o v hk
    obtain ⟨vs1, e, f1, h1, h2⟩ := hS.prot b1 o v hk
    by_cases eb : b1 = b
    · subst eb
      rw [hb] at h1; cases h1
      exact ⟨_, _, _, hb', h2⟩
    · exact ⟨vs1, e, f1, by rw [hH _ eb]; exact h1, h2⟩
  · intro t sz b1 e lim sz' h1 h2
    obtain ⟨h3, h4, ⟨vs1, ty1, f1, h5, h6, h8⟩, h7⟩ := hS.tags t sz b1 e lim sz' h1 h2
    refine ⟨h3, h4, ?_, h7⟩
    by_cases eb : b1 = b
    · subst eb
      rw [hb] at h5; cases h5
      subst h6
      exact ⟨_, _, _, hb', rfl, hf h8⟩
    · exact ⟨vs1, ty1, f1, by rw [hH _ eb]; exact h5, h6, h8⟩

theorem Sim.quiet {w w' : World} (hS : Sim CC base c h w.heap) (hq : Quiet c w w') : Sim CC base c h w'.heap ∧ Keeps base w w' := by
  cases hq with
  | same => exact ⟨hS, Keeps.refl w⟩
  | mark hτ hb =>
    rename_i t b e lim sz vs ty f
    have hlt := (Array.getElem?_eq_some_iff.1 hb).1
    have hbase := hS.bτ _ _ _ _ _ hτ
    have hself : (w.freeze ⟨b, vs.size, none⟩ 1).heap[b]? = some (.cells vs ty (if f.1 == f.2 then (vs.size, vs.size + 1) else (min f.1 vs.size, max f.2 (vs.size + 1)))) := by
      simp only [World.freeze, Nat.one_ne_zero, if_false]
      rw [Array.getElem?_modify, if_pos rfl, hb]
      rfl
    have hoth : ∀ i, i ≠ b → (w.freeze ⟨b, vs.size, none⟩ 1).heap[i]? = w.heap[i]? := fun i hi => by
      simp only [World.freeze, Nat.one_ne_zero, if_false]
      rw [Array.getElem?_modify, if_neg (Ne.symm hi)]
    have hsz : (w.freeze ⟨b, vs.size, none⟩ 1).heap.size = w.heap.size := by
      simp [World.freeze]
    refine ⟨hS.frost hb ?_ hself hoth hsz, by omega, fun i hi => hoth i (by omega), rfl, rfl, rfl⟩
    intro hf
    unfold FOk at hf ⊢
    split
    · right; exact Nat.le_refl _
    · rename_i hne
      have hne' : f.1 ≠ f.2 := by simpa using hne
      right
      rcases hf with h1 | h1
      · exact absurd h1 hne'
      · simp; omega

theorem Sim.alter (hS : Sim CC base c h H) {b : Nat} (hH : ∀ i, i ≠ b → H'[i]? = H[i]?) (hs : H'.size = H.size) (ho : NoObj c h b) (ht : NoTag c h b)
    (hk : ∀ j v, c.kp b j = some v → ∃ vs e f, H'[b]? = some (.cells vs e f) ∧ vs[j]? = some v) : Sim CC base c h H' := by
  refine ⟨?_, hS.uniq, ?_, hS.sep, ?_, hS.tagobj, hS.tagtag, hS.dφ, hS.dτ, hS.bτ, hS.next, by rw [hs]; exact hS.size, hS.fresh⟩
  · intro id ob b1 o lim sz h1 h2
    obtain ⟨h3, h4⟩ := hS.objs id ob b1 o lim sz h1 h2
    exact ⟨h3, h4.mono (Cor.le.refl c) (hH _ (ho _ _ _ _ _ _ h1 h2))⟩
  · intro b1 o v hk1
    by_cases eb : b1 = b
    · subst eb; exact hk _ _ hk1
    · obtain ⟨vs1, e, f1, h1, h2⟩ := hS.prot b1 o v hk1
      exact ⟨vs1, e, f1, by rw [hH _ eb]; exact h1, h2⟩
  · intro t sz b1 e lim sz' h1 h2
    obtain ⟨h3, h4, ⟨vs1, ty1, f1, h5, h6, h8⟩, h7⟩ := hS.tags t sz b1 e lim sz' h1 h2
    exact ⟨h3, h4, ⟨vs1, ty1, f1, by rw [hH _ (ht _ _ _ _ _ _ h1 h2)]; exact h5, h6, h8⟩, h7⟩

theorem Sim.objAt (hS : Sim CC base c h H) {id b o lim sz : Nat} {ob : HObj} (hn : c.φ id = none) (hi : id < h.next) (hg : h.objs.get id = some ob) (hb : base ≤ b) (h1' : NoObj c h b) (h2' : NoTag c h b) (h3' : ∀ j, c.kp b j = none)
    (ho : ORel CC (c.obj id b o lim sz) H b o lim sz ob) : Sim CC base (c.obj id b o lim sz) h H := by
  have hle := Cor.le_obj hn b o lim sz
  have hφ : ∀ i y, (c.obj id b o lim sz).φ i = some y → (i = id ∧ y = (b, o, lim, sz)) ∨ (i ≠ id ∧ c.φ i = some y) := fun i y hy => upd_some hy
  refine ⟨?_, ?_, hS.prot, ?_, hS.tags, ?_, hS.tagtag, ?_, hS.dτ, hS.bτ, hS.next, hS.size, hS.fresh⟩
  · intro i ob' b1 o1 lim' sz' h1 h2
    rcases hφ _ _ h2 with ⟨rfl, e⟩ | ⟨_, e⟩
    · cases e
      rw [hg] at h1; cases h1
      exact ⟨hb, ho⟩
    · obtain ⟨h3, h4⟩ := hS.objs i ob' b1 o1 lim' sz' h1 e
      exact ⟨h3, h4.mono hle rfl⟩
  · intro i j ob1 ob2 b1 o1 lim1 sz1 o' lim' sz' h1 h2 h3 h4
    rcases hφ _ _ h3 with ⟨rfl, e3⟩ | ⟨n3, e3⟩ <;> rcases hφ _ _ h4 with ⟨rfl, e4⟩ | ⟨n4, e4⟩
    · rfl
    · cases e3
      exact absurd rfl (h1' _ _ _ _ _ _ h2 e4)
    · cases e4
      exact absurd rfl (h1' _ _ _ _ _ _ h1 e3)
    · exact hS.uniq _ _ _ _ _ _ _ _ _ _ _ h1 h2 e3 e4
  · intro i ob' b1 o1 lim' sz' h1 h2 j
    rcases hφ _ _ h2 with ⟨rfl, e⟩ | ⟨_, e⟩
    · cases e
      exact h3' j
    · exact hS.sep i ob' b1 o1 lim' sz' h1 e j
  · intro t sz1 b1 e lim1 sz' i ob' b' o' lim' sz'' h1 h2 h3 h4
    rcases hφ _ _ h4 with ⟨rfl, e'⟩ | ⟨_, e'⟩
    · cases e'
      exact h2' _ _ _ _ _ _ h1 h2
    · exact hS.tagobj _ _ _ _ _ _ _ _ _ _ _ _ h1 h2 h3 e'
  · intro i y hy
    rcases hφ _ _ hy with ⟨rfl, e⟩ | ⟨_, e⟩
    · exact hi
    · exact hS.dφ _ _ e

theorem Sim.tagAt (hS : Sim CC base c h H) {t sz b e0 : Nat} (hn : c.τ t = none) (hi : t < h.next) (hg : h.tags.get t = some sz) (hbase : base ≤ b) {vs : List Value} {cs : Array Value} {ty : TypeId} {f : Nat × Nat} (hb : H[b]? = some (.cells cs ty f)) (hf : FOk cs.size f)
    (h1' : NoObj c h b) (h2' : NoTag c h b) (h3' : ∀ j, e0 ≤ j → c.kp b j = none) (hv : ∀ (j : Nat) (v : Value), vs[j]? = some v → cs[e0 + j]? = some v) :
    let c' := c.tag t b (e0 + vs.length) cs.size sz (keep c.kp b e0 vs)
    c.le c' ∧ Sim CC base c' h H := by
  intro c'
  have hkk : ∀ b1 o x, c.kp b1 o = some x → c'.kp b1 o = some x := fun b1 o x hx => by
    simp only [c', Cor.tag]
    rw [keep_out]; exact hx
    by_cases eb : b1 = b
    · subst eb
      right; left
      by_cases hlt : o < e0
      · exact hlt
      · rw [h3' o (by omega)] at hx; cases hx
    · exact .inl eb
  have hle : c.le c' := ⟨fun _ _ h => h, fun i x hx => by
    have : i ≠ t := fun e => by subst e; rw [hn] at hx; cases hx
    simpa [c', Cor.tag, upd, this] using hx, hkk⟩
  have hτ : ∀ i y, c'.τ i = some y → (i = t ∧ y = (b, e0 + vs.length, cs.size, sz)) ∨ (i ≠ t ∧ c.τ i = some y) := fun i y hy => upd_some hy
  refine ⟨hle, ?_, hS.uniq, ?_, ?_, ?_, ?_, ?_, hS.dφ, ?_, ?_, hS.next, hS.size, hS.fresh⟩
  · intro i ob' b1 o lim' sz' h1 h2
    obtain ⟨h3, h4⟩ := hS.objs i ob' b1 o lim' sz' h1 h2
    exact ⟨h3, h4.mono hle rfl⟩
  · intro b1 o v hk
    rcases keep_some hk with ⟨rfl, ho, h2⟩ | h2
    · refine ⟨cs, ty, f, hb, ?_⟩
      have := hv _ _ h2
      rwa [show e0 + (o - e0) = o by omega] at this
    · exact hS.prot b1 o v h2
  · intro i ob' b1 o lim' sz' h1 h2 j
    simp only [c', Cor.tag]
    rw [keep_out _ _ _ _ (.inl (h1' _ _ _ _ _ _ h1 h2))]
    exact hS.sep i ob' b1 o lim' sz' h1 h2 j
  · intro u sz1 b1 e lim sz' h1 h2
    rcases hτ _ _ h2 with ⟨rfl, e'⟩ | ⟨_, e'⟩
    · cases e'
      rw [hg] at h1; cases h1
      refine ⟨rfl, hbase, ⟨cs, ty, f, hb, rfl, hf⟩, fun j hj => ?_⟩
      simp only [c', Cor.tag]
      rw [keep_out _ _ _ _ (.inr (.inr (by omega)))]
      exact h3' j (by omega)
    · obtain ⟨h3, h4, h5, h6⟩ := hS.tags u sz1 b1 e lim sz' h1 e'
      refine ⟨h3, h4, h5, fun j hj => ?_⟩
      simp only [c', Cor.tag]
      rw [keep_out _ _ _ _ (.inl (h2' _ _ _ _ _ _ h1 e'))]
      exact h6 j hj
  · intro u sz1 b1 e lim sz' id ob' b' o' lim' sz'' h1 h2 h3 h4
    rcases hτ _ _ h2 with ⟨rfl, e'⟩ | ⟨_, e'⟩
    · cases e'
      exact Ne.symm (h1' _ _ _ _ _ _ h3 h4)
    · exact hS.tagobj _ _ _ _ _ _ _ _ _ _ _ _ h1 e' h3 h4
  · intro u sz1 b1 e lim sz' u' sz2 e' lim' sz'' h1 h2 h3 h4
    rcases hτ _ _ h2 with ⟨rfl, e2⟩ | ⟨_, e2⟩ <;> rcases hτ _ _ h4 with ⟨rfl, e4⟩ | ⟨_, e4⟩
    · rfl
    · cases e2
      exact absurd rfl (h2' _ _ _ _ _ _ h3 e4)
    · cases e4
      exact absurd rfl (h2' _ _ _ _ _ _ h1 e2)
    · exact hS.tagtag _ _ _ _ _ _ _ _ _ _ _ h1 e2 h3 e4
  · intro i y hy
    rcases hτ _ _ hy with ⟨rfl, e⟩ | ⟨_, e⟩
    · exact hi
    · exact hS.dτ _ _ e
  · intro i b1 e lim sz' hy
    rcases hτ _ _ hy with ⟨rfl, e⟩ | ⟨_, e⟩
    · cases e; exact hbase
    · exact hS.bτ _ _ _ _ _ e

theorem Sim.protect (hS : Sim CC base c h H) {b : Nat} {cs : Array Value} {ty : TypeId} {f : Nat × Nat} (hb : H[b]? = some (.cells cs ty f)) (h1' : NoObj c h b) (h2' : NoTag c h b) (h3' : ∀ j, c.kp b j = none) :
    let c' : Cor := { c with kp := keep c.kp b 0 cs.toList }
    c.le c' ∧ Sim CC base c' h H := by
  intro c'
  have hle : c.le c' := ⟨fun _ _ h => h, fun _ _ h => h, fun b1 o x hx => by
    simp only [c']
    rw [keep_out]; exact hx
    by_cases eb : b1 = b
    · subst eb; rw [h3'] at hx; cases hx
    · exact .inl eb⟩
  refine ⟨hle, ?_, hS.uniq, ?_, ?_, ?_, hS.tagobj, hS.tagtag, hS.dφ, hS.dτ, hS.bτ, hS.next, hS.size, hS.fresh⟩
  · intro i ob' b1 o lim' sz' h1 h2
    obtain ⟨h3, h4⟩ := hS.objs i ob' b1 o lim' sz' h1 h2
    exact ⟨h3, h4.mono hle rfl⟩
  · intro b1 o v hk
    rcases keep_some hk with ⟨rfl, ho, h2⟩ | h2
    · exact ⟨cs, ty, f, hb, by simpa using h2⟩
    · exact hS.prot b1 o v h2
  · intro i ob' b1 o lim' sz' h1 h2 j
    simp only [c']
    rw [keep_out _ _ _ _ (.inl (h1' _ _ _ _ _ _ h1 h2))]
    exact hS.sep i ob' b1 o lim' sz' h1 h2 j
  · intro u sz1 b1 e lim sz' h1 h2
    obtain ⟨h3, h4, h5, h6⟩ := hS.tags u sz1 b1 e lim sz' h1 h2
    refine ⟨h3, h4, h5, fun j hj => ?_⟩
    simp only [c']
    rw [keep_out _ _ _ _ (.inl (h2' _ _ _ _ _ _ h1 h2))]
    exact h6 j hj

/-- When an object is dropped its block is free; and likewise for what was spent. -/
theorem Sim.noObj_drop (hS : Sim CC base c h H) {id b o lim sz : Nat} {ob : HObj} (hg : h.objs.get id = some ob) (hφ : c.φ id = some (b, o, lim, sz)) : NoObj c (h.drop id) b := by
  intro i ob1 b1 o1 lim1 sz1 h1 h2 e
  subst e
  simp only [Heap.drop, Tr.get_set] at h1
  split at h1
  · cases h1
  · rename_i hne
    exact hne (hS.uniq _ _ _ _ _ _ _ _ _ _ _ h1 hg h2 hφ)
theorem Sim.noTag_obj (hS : Sim CC base c h H) {id b o lim sz : Nat} {ob : HObj} (hg : h.objs.get id = some ob) (hφ : c.φ id = some (b, o, lim, sz)) : NoTag c h b := fun t sz1 b1 e lim1 sz' h1 h2 =>
  hS.tagobj _ _ _ _ _ _ _ _ _ _ _ _ h1 h2 hg hφ
theorem Sim.noTag_spend (hS : Sim CC base c h H) {t sz b e lim sz' : Nat} (hg : h.tags.get t = some sz) (hτ : c.τ t = some (b, e, lim, sz')) : NoTag c (h.spend t) b := by
  intro u sz1 b1 e1 lim1 sz1' h1 h2 eb
  subst eb
  simp only [Heap.spend, Tr.get_set] at h1
  split at h1
  · cases h1
  · rename_i hne
    exact hne (hS.tagtag _ _ _ _ _ _ _ _ _ _ _ h1 h2 hg hτ)
theorem Sim.noObj_tag (hS : Sim CC base c h H) {t sz b e lim sz' : Nat} (hg : h.tags.get t = some sz) (hτ : c.τ t = some (b, e, lim, sz')) : NoObj c h b := fun i ob1 b1 o1 lim1 sz1 h1 h2 =>
  Ne.symm (hS.tagobj _ _ _ _ _ _ _ _ _ _ _ _ hg hτ h1 h2)
end
end Go.Dm
/- The D-machine (13): what is laid anew. -/
namespace Go.Dm
set_option linter.unusedSimpArgs false
set_option linter.unusedVariables false
set_option linter.unnecessarySimpa false

theorem flat_length {sz : Nat} : ∀ (xs : List DV), (∀ x ∈ xs, x.cells.length = sz) → (flat xs).length = xs.length * sz
  | [], _ => by simp [flat]
  | x :: xs, h => by
    have := flat_length xs fun y hy => h y (by simp [hy])
    simp only [flat, List.flatMap_cons, List.length_append, h x (by simp), List.length_cons] at this ⊢
    rw [this, Nat.succ_mul]; omega
theorem flat_append (xs ys : List DV) : flat (xs ++ ys) = flat xs ++ flat ys := by simp [flat]

def NewOk (P : Program) (CC : Code → DC → Prop) (base : Nat) (c : Cor) (G : Heap) (w : World) (id : Nat) (s : Sem Next) (v : DV) : Prop :=
  ∃ v' w' c', s.run P w = .ok (.value v') w' ∧ c.le c' ∧ Sim CC base c' G w'.heap ∧ VRel c' v v' ∧ Keeps base w w' ∧ ∀ i, i ≠ id → c'.φ i = c.φ i ∧ c'.τ i = c.τ i

section
variable {P : Program} {CC : Code → DC → Prop} {base : Nat} {c : Cor} {G : Heap} (w : World) {id : Nat}

theorem Keeps.alloc' (hs : base ≤ w.heap.size) (x : Obj) (n : Nat) (w' : World) (h : w'.heap = w.heap.push x) (h1 : w'.os = w.os) (h2 : w'.output = w.output) (h3 : w'.tape = w.tape) : Keeps base w w' :=
  ⟨by rw [h]; simp, fun b hb => by rw [h]; exact getElem?_push_lt' (by omega), h1, h2, h3⟩

/-- A new row of ours that is written into. -/
theorem new_cells (hS : Sim CC base c G w.heap) (hn : c.φ id = none) (hi : id < G.next) {ds : List DV} {sh : Shape} (hg : G.objs.get id = some (.cells ds sh)) {cs : Array Value} {ty : TypeId} {f : Nat × Nat} (hf : FOk cs.size f)
    (hlen : ds.length ≤ cs.size) (hv : ∀ (j : Nat) x, ds[j]? = some x → ∃ v, cs[j]? = some v ∧ VRel c x v) (ho : ∀ x ∈ ds, x.one = true) :
    let c' := c.obj id w.heap.size 0 cs.size sh.size
    c.le c' ∧ Sim CC base c' G (w.heap.push (.cells cs ty f)) ∧ c'.φ id = some (w.heap.size, 0, cs.size, sh.size) ∧ ∀ i, i ≠ id → c'.φ i = c.φ i ∧ c'.τ i = c.τ i := by
  intro c'
  have hle := Cor.le_obj hn w.heap.size 0 cs.size sh.size
  refine ⟨hle, hS.obj hn hi hg ?_, upd_same _ _ _, fun i hne => ⟨upd_ne _ _ hne, rfl⟩⟩
  refine ⟨rfl, by omega, cs, ty, f, by simp, rfl, hf, ho, fun j x hj => ?_⟩
  obtain ⟨v, h1, h2⟩ := hv j x hj
  exact ⟨v, by simpa using h1, h2.mono hle⟩

/-- A new list. -/
theorem new_list (hS : Sim CC base c G w.heap) (hn : c.τ id = none) (hi : id < G.next) (h2 : 2 ≤ id) {sz : Nat} (hsz : 0 < sz) (hg : G.tags.get id = some sz) {xs : List DV} {vs : List Value} {cs : Array Value} {ty : TypeId} {f : Nat × Nat} {cap : Nat} (hf : FOk cs.size f)
    (hs : ∀ x ∈ xs, x.cells.length = sz) (hv : VRels c (flat xs) vs) (ho : ∀ x ∈ flat xs, x.one = true) (hcs : ∀ (j : Nat) (v : Value), vs[j]? = some v → cs[j]? = some v) (hcap : xs.length ≤ cap) (hlim : cap * sz ≤ cs.size) :
    let c' := c.tag id w.heap.size vs.length cs.size sz (keep c.kp w.heap.size 0 vs)
    c.le c' ∧ Sim CC base c' G (w.heap.push (.cells cs ty f)) ∧ VRel c' (.lst id sz xs) (.slice (some ⟨w.heap.size, 0, none⟩) xs.length cap) ∧ ∀ i, i ≠ id → c'.φ i = c.φ i ∧ c'.τ i = c.τ i := by
  intro c'
  obtain ⟨hle, hS'⟩ := hS.tag hn hi hg (vs := vs) (cs := cs) (ty := ty) (f := f) hf hcs
  have hl : vs.length = xs.length * sz := by rw [← hv.length_eq, flat_length xs hs]
  refine ⟨hle, hS', ?_, fun i hne => ⟨rfl, upd_ne _ _ hne⟩⟩
  refine .lst (vs := vs) (fun _ => hsz) hs (hv.mono hle) ho (fun _ => ⟨_, _, rfl, fun j x hj => keep_in _ _ _ _ hj⟩) hcap (by omega) (fun _ => ⟨_, _, _, rfl, .inl rfl⟩) fun _ => ?_
  exact ⟨_, _, _, _, rfl, upd_same _ _ _, .inr ⟨by omega, by omega⟩⟩

/-! ### rows of zeros -/
theorem flat_replicate_get {z : DV} {sz : Nat} (hz : z.cells.length = sz) (hsz : 0 < sz) : ∀ (n j : Nat), j < n * sz → (flat (List.replicate n z))[j]? = z.cells[j % sz]?
  | 0, j, h => by simp at h
  | n + 1, j, h => by
    simp only [List.replicate_succ, flat, List.flatMap_cons]
    by_cases hj : j < sz
    · rw [List.getElem?_append_left (by omega), Nat.mod_eq_of_lt hj]
    · rw [List.getElem?_append_right (by omega), hz]
      have := flat_replicate_get hz hsz n (j - sz) (by rw [Nat.succ_mul] at h; omega)
      simp only [flat] at this
      rw [this]
      rw [Nat.mod_eq_sub_mod (by omega : j ≥ sz)]
theorem zeros_rel {z : DV} {vz : Value} {sz : Nat} (hz : z.cells.length = sz) (hsz : 0 < sz) (hr : VRel c z vz) (n : Nat) :
    VRels c (flat (List.replicate n z)) ((Array.range (n * sz)).map (vz.cells[· % vz.cells.size]!)).toList := by
  have hvs : vz.cells.size = sz := by rw [hr.cells_size, hz]
  refine VRels.of_get ?_ fun i x v hx hv => ?_
  · rw [flat_length (sz := sz) _ (by intro x hx; rw [List.eq_of_mem_replicate hx]; exact hz)]; simp
  · have hi : i < n * sz := by
      have := (List.getElem?_eq_some_iff.1 hv).1; simpa using this
    rw [flat_replicate_get hz hsz n i hi] at hx
    have hm : i % sz < sz := Nat.mod_lt _ hsz
    obtain ⟨u, h1, h2⟩ := hr.cells.get _ hx
    have h3 : v = u := by
      simp [List.getElem?_eq_some_iff] at hv
      obtain ⟨_, ⟨_, rfl⟩, rfl⟩ := hv
      have h4 : vz.cells[i % sz]? = some u := by simpa using h1
      rw [hvs, getElem!_def, h4]
    rw [h3]; exact h2

end
end Go.Dm
/- The D-machine (14): operations that lay something anew. -/
namespace Go.Dm
set_option linter.unusedSimpArgs false
set_option linter.unusedVariables false
set_option linter.unnecessarySimpa false

theorem flat_set {sz : Nat} : ∀ (xs : List DV) (i : Nat) (v : DV), (∀ x ∈ xs, x.cells.length = sz) → v.cells.length = sz → i < xs.length → flat (xs.set i v) = ovl (flat xs) (i * sz) v.cells
  | [], i, v, _, _, h => by simp at h
  | x :: xs, 0, v, h, hv, _ => by
    have hx := h x (by simp)
    simp only [List.set_cons_zero, flat, List.flatMap_cons, ovl, Nat.zero_mul, List.take_zero, List.nil_append, Nat.zero_add, hv]
    rw [List.drop_left' hx]
  | x :: xs, i + 1, v, h, hv, hi => by
    have hx := h x (by simp)
    have ih := flat_set xs i v (fun y hy => h y (by simp [hy])) hv (by simpa using hi)
    simp only [List.set_cons_succ, flat, List.flatMap_cons] at ih ⊢
    rw [ih]
    simp only [ovl]
    have e : (i + 1) * sz = x.cells.length + i * sz := by rw [hx, Nat.succ_mul]; omega
    rw [e, List.take_length_add_append, Nat.add_assoc, List.drop_length_add_append]
    simp

section
variable {c : Cor}
theorem fillS_rel {sz : Nat} {ρ : Operand → Value} : ∀ (ps : List (Nat × Operand)) (qs : List (Nat × DV)),
    All2 (fun (p : Nat × Operand) (q : Nat × DV) => p.1 = q.1 ∧ VRel c q.2 (ρ p.2)) ps qs →
    ∀ (xs : List DV) (arr : Array Value), VRels c (flat xs) arr.toList → (∀ x ∈ xs, x.cells.length = sz) → (∀ q ∈ qs, q.1 < xs.length ∧ q.2.cells.length = sz ∧ q.2.okv = true) → (∀ x ∈ flat xs, x.one = true) →
    ∃ arr', Instr.fill (fun i => some (i * sz, sz)) arr (ps.map fun p => (p.1, ρ p.2)) = some arr' ∧ VRels c (flat (fillL xs qs)) arr'.toList ∧ (∀ x ∈ fillL xs qs, x.cells.length = sz) ∧ (∀ x ∈ flat (fillL xs qs), x.one = true) ∧ (fillL xs qs).length = xs.length := by
  intro ps
  induction ps with
  | nil =>
    intro qs hq xs arr hv hs _ ho
    cases hq
    exact ⟨arr, rfl, hv, hs, ho, rfl⟩
  | cons p ps ih =>
    intro qs hq xs arr hv hs hb ho
    cases hq with
    | cons h hr =>
      rename_i q qs
      obtain ⟨hp, hx⟩ := h
      obtain ⟨i, d⟩ := q
      simp only at hp hx
      obtain ⟨hb1, hb2, hb3⟩ := hb (i, d) (by simp)
      simp only at hb1 hb2 hb3
      have hsz := hx.cells_size
      have hl := hv.length_eq
      rw [flat_length xs hs] at hl
      have hfit : i * sz + sz ≤ xs.length * sz := by
        have : (i + 1) * sz ≤ xs.length * sz := Nat.mul_le_mul_right _ hb1
        rw [Nat.succ_mul] at this; exact this
      simp only [List.map_cons, Instr.fill, hp]
      have hn : ¬ (((ρ p.2).cells.size ≠ sz || decide (i * sz + (ρ p.2).cells.size > arr.size)) = true) := by
        simp at hl ⊢
        exact ⟨by omega, by omega⟩
      rw [if_neg hn]
      have hset := flat_set xs i d hs hb2 hb1
      have harr := foldl_set_array (ρ p.2).cells arr (i * sz) (by simp at hl; omega)
      obtain ⟨arr', h1, h2, h3, h4, h5⟩ := ih qs hr (xs.set i d) _ (by rw [harr, hset]; exact VRels.ovl hv hx.cells (i * sz))
        (fun y hy => by
          rcases List.mem_or_eq_of_mem_set hy with h | h
          · exact hs y h
          · subst h; exact hb2)
        (fun q hq => by
          have := hb q (by simp [hq])
          simpa using this)
        (fun y hy => by
          rw [hset] at hy
          simp only [ovl, List.mem_append] at hy
          rcases hy with (h | h) | h
          · exact ho y (List.mem_of_mem_take h)
          · exact hx.okv_one hb3 y h
          · exact ho y (List.mem_of_mem_drop h))
      exact ⟨arr', h1, h2, h3, h4, by rw [fillL, h5]; simp⟩
end

section
variable {P : Program} {cfg : Cfg} {mf : Bool} {D : DProg} {CC : Code → DC → Prop} {base : Nat} {c : Cor} {fr : Fr} {a : Act} {h G : Heap} (w : World) {id : Nat}

theorem partsL_rel (hg : GlobOk D c) (hf : VRels c fr.tmps a.tmps.toList) : ∀ (ps : List (Nat × Operand)) (qs : List (Nat × Opd)), partsL ps = some qs →
    All2 (fun (p : Nat × Operand) (q : Nat × DV) => p.1 = q.1 ∧ VRel c q.2 (a.eval p.2)) ps (qs.map fun q => (q.1, ev D fr q.2)) := by
  intro ps
  induction ps with
  | nil => intro qs h; simp [partsL] at h; subst h; exact .nil
  | cons p ps ih =>
    intro qs h
    obtain ⟨i, x⟩ := p
    simp only [partsL] at h
    split at h <;> simp at h
    subst h
    rename_i h1 h2
    exact .cons ⟨rfl, opd_rel hg hf h1⟩ (ih _ h2)
theorem zeroOf_some {t : TypeId} {z : DV} (h : zeroOf P t = some z) : ∃ i v, P.info? t = some i ∧ i.zero = some v ∧ ofVal v = some z ∧ (zeroValue t).run P w = .ok v w := by
  simp only [zeroOf, Option.bind_eq_some_iff] at h
  obtain ⟨v, ⟨i, hi, hz⟩, ho⟩ := h
  exact ⟨i, v, hi, hz, ho, by simp [zeroValue, typeInfo, hi, hz]⟩

theorem exec_valN {s : Sem Value} {v : DV} (hs : ∃ v' w' c', s.run P w = .ok v' w' ∧ c.le c' ∧ Sim CC base c' G w'.heap ∧ VRel c' v v' ∧ Keeps base w w' ∧ ∀ i, i ≠ id → c'.φ i = c.φ i ∧ c'.τ i = c.τ i) : NewOk P CC base c G w id (do pure (.value (← s))) v :=
  let ⟨v', w', c', h1, h2⟩ := hs; ⟨v', w', c', exec_val w h1, h2⟩

/-- A row of a buildSlice, a make: of whatever use. -/
theorem new_row (hS : Sim CC base c G w.heap) (hi : id < G.next) (h2 : 2 ≤ id) {mu : Bool} {sh : Shape} (hsz : 0 < sh.size) {xs : List DV} {cs : Array Value} {ty : TypeId} {w' : World} {len : Nat} {v : DV} (hlen : xs.length = len)
    (hs : ∀ x ∈ xs, x.cells.length = sh.size) (hv : VRels c (flat xs) cs.toList) (ho : ∀ x ∈ flat xs, x.one = true) (hw : w'.heap = w.heap.push (.cells cs ty)) (hk : Keeps base w w') {cap : Nat} (hcap : len = cap)
    (hm : if mu then v = .arr id sh.size 0 len ∧ c.φ id = none ∧ G.objs.get id = some (.cells (flat xs) sh) else v = .lst id sh.size xs ∧ c.τ id = none ∧ G.tags.get id = some sh.size) :
    ∃ c', c.le c' ∧ Sim CC base c' G w'.heap ∧ VRel c' v (.slice (some ⟨w.heap.size, 0, none⟩) len cap) ∧ Keeps base w w' ∧ ∀ i, i ≠ id → c'.φ i = c.φ i ∧ c'.τ i = c.τ i := by
  have hcl : cs.size = len * sh.size := by
    have := hv.length_eq
    rw [flat_length xs hs, hlen] at this; simpa using this.symm
  subst hcap
  cases mu with
  | false =>
    simp only [Bool.false_eq_true, if_false] at hm
    obtain ⟨rfl, hn, hg⟩ := hm
    subst hlen
    obtain ⟨q1, q2, q3, q4⟩ := new_list w hS hn hi h2 hsz hg (xs := xs) (vs := cs.toList) (cs := cs) (ty := ty) (f := (0, 0)) (cap := xs.length) (.inl rfl) hs hv ho (fun j v hj => by simpa using hj) (Nat.le_refl _) (by omega)
    exact ⟨_, q1, by rw [hw]; exact q2, q3, hk, q4⟩
  | true =>
    simp only [if_true] at hm
    obtain ⟨rfl, hn, hg⟩ := hm
    obtain ⟨q1, q2, q3, q4⟩ := new_cells w hS hn hi hg (cs := cs) (ty := ty) (f := (0, 0)) (.inl rfl) (by rw [flat_length xs hs, hlen]; omega) (fun j x hj => by
      obtain ⟨u, h3, h4⟩ := hv.get j hj
      exact ⟨u, by simpa using h3, h4⟩) ho
    exact ⟨_, q1, by rw [hw]; exact q2, .arr q3 (Nat.le_refl _) (.inr ⟨rfl, rfl, by omega⟩), hk, q4⟩

/-- What the machine of ours lays: an object, or a tag. -/
def Lays (c : Cor) (G : Heap) (id : Nat) : EvR → DV → Prop
  | .newO ob mk, v => v = mk id ∧ c.φ id = none ∧ G.objs.get id = some ob
  | .newT sz mk, v => v = mk id ∧ c.τ id = none ∧ G.tags.get id = some sz
  | _, _ => False

theorem alloc_run (w : World) (t : TypeId) (v : Value) : (newVar t v).run P w = .ok ⟨w.heap.size, 0, none⟩ (w.alloc (.cells v.cells t)) := rfl
theorem Keeps.alloc (hs : base ≤ w.heap.size) (x : Obj) : Keeps base w (w.alloc x) := Keeps.alloc' w hs x 0 _ rfl rfl rfl rfl
theorem Keeps.drewAlloc (hs : base ≤ w.heap.size) (x : Obj) : Keeps base w (w.drew.alloc x) := Keeps.alloc' w hs x 0 _ rfl rfl rfl rfl

theorem new_alloc (hS : Sim CC base c G w.heap) (hi : id < G.next) {t : TypeId} {z : DV} (hz : zeroOf P t = some z) (hok : z.okv = true) {v : DV} (hl : Lays c G id (.newO (.cells z.cells none) (fun i => .ptr i 0)) v) :
    NewOk P CC base c G w id (do pure (.value (← Instr.alloc t true (.tuple #[])))) v := by
  obtain ⟨i, zv, h1, h2, h3, h4⟩ := zeroOf_some w hz
  obtain ⟨rfl, hn, hg⟩ := hl
  have hr : VRel c z zv := ofVal_rel h3
  obtain ⟨q1, q2, q3, q4⟩ := new_cells w hS hn hi hg (cs := zv.cells) (ty := t) (f := (0, 0)) (.inl rfl) (by rw [hr.cells_size]; exact Nat.le_refl _) (fun j x hj => by
      obtain ⟨u, h3, h4⟩ := hr.cells.get j hj
      exact ⟨u, by simpa using h3, h4⟩) (hr.okv_one hok)
  refine exec_valN w ⟨_, w.alloc (.cells zv.cells t), _, ?_, q1, q2, .ptr q3, Keeps.alloc w hS.size _, q4⟩
  simp only [Instr.alloc, Sem.run_bind, h4, Result.andThen_ok, alloc_run, Sem.run_pure]
theorem new_box (hS : Sim CC base c G w.heap) (hi : id < G.next) {t : TypeId} {x : DV} {vx : Value} (hr : VRel c x vx) (hok : x.okv = true) {v : DV} (hl : Lays c G id (.newO (.cells x.cells none) (fun i => .ptr i 0)) v) :
    NewOk P CC base c G w id (do pure (.value (← Instr.box t vx))) v := by
  obtain ⟨rfl, hn, hg⟩ := hl
  obtain ⟨q1, q2, q3, q4⟩ := new_cells w hS hn hi hg (cs := vx.cells) (ty := t) (f := (0, 0)) (.inl rfl) (by rw [hr.cells_size]; exact Nat.le_refl _) (fun j x hj => by
      obtain ⟨u, h3, h4⟩ := hr.cells.get j hj
      exact ⟨u, by simpa using h3, h4⟩) (hr.okv_one hok)
  refine exec_valN w ⟨_, w.alloc (.cells vx.cells t), _, ?_, q1, q2, .ptr q3, Keeps.alloc w hS.size _, q4⟩
  simp only [Instr.box, Sem.run_bind, alloc_run, Result.andThen_ok, Sem.run_pure]
theorem new_buildSlice (hS : Sim CC base c G w.heap) (hi : id < G.next) (h2 : 2 ≤ id) (hg : GlobOk D c) (hf : VRels c fr.tmps a.tmps.toList) {t e : TypeId} {sh : Shape} {z : DV} {len : Nat} {parts : Array (Nat × Operand)} {ps : List (Nat × Opd)} {mu : Bool}
    (hu : P.underlying t = some (.slice e)) (hsh : shapeOf P e = some sh) (hz : zeroOf P e = some z) (hps : partsL parts.toList = some ps) (hzc : z.cells.length = sh.size) (hzo : z.okv = true) {r : EvR} {v : DV}
    (he : evalOp D fr h (.mks mu sh z len ps) = some r) (hl : Lays c G id r v) :
    NewOk P CC base c G w id (do pure (.value (← Instr.buildSlice t len (parts.map fun (i, x) => (i, a.eval x))))) v := by
  obtain ⟨i, zv, h1, h2', h3, h4⟩ := zeroOf_some w hz
  have hr : VRel c z zv := ofVal_rel h3
  obtain ⟨_, hpos⟩ := shapeOf_size hsh
  have hso := run_sizeOf_shape w hsh
  simp only [evalOp] at he
  split at he
  case isFalse => cases he
  rename_i hcond
  obtain ⟨hc1, hc2⟩ := hcond
  have hzr := zeros_rel (n := len) hzc hpos hr
  obtain ⟨arr, f1, f2, f3, f4, f5⟩ := fillS_rel (c := c) (sz := sh.size) (ρ := a.eval) parts.toList _ (partsL_rel hg hf _ _ hps) (List.replicate len z) _ hzr
    (fun x hx => by rw [List.eq_of_mem_replicate hx]; exact hzc)
    (fun q hq => by
      obtain ⟨p, hp, rfl⟩ := List.mem_map.1 hq
      have := hc2 p hp
      simpa using this)
    (fun x hx => by
      simp only [flat, List.mem_flatMap] at hx
      obtain ⟨y, hy, hxy⟩ := hx
      rw [List.eq_of_mem_replicate hy] at hxy
      exact hr.okv_one hzo x hxy)
  have hrun : (Instr.buildSlice t len (parts.map fun (i, x) => (i, a.eval x))).run P w = .ok (.slice (some ⟨w.heap.size, 0, none⟩) len len) (w.alloc (.cells arr e)) := by
    have hmap : (parts.map fun (x : Nat × Operand) => (x.1, a.eval x.2)).toList = parts.toList.map fun p => (p.1, a.eval p.2) := by simp
    have hbig : ¬ (len * sh.size > 2 ^ 24) := by simp; omega
    simp only [Instr.buildSlice, Sem.run_bind, run_underlying hu, Result.andThen_ok, hso, hbig, if_false]
    by_cases h0 : len * sh.size = 0
    · have hl0 : len = 0 := by
        rcases Nat.mul_eq_zero.1 h0 with h | h <;> omega
      have hnil : parts.toList.map (fun p => (p.1, a.eval p.2)) = [] := by
        cases hpt : parts.toList with
        | nil => rfl
        | cons p pt =>
          rw [hpt] at hps
          simp only [partsL] at hps
          split at hps <;> simp at hps
          subst hps
          have := (hc2 _ (List.mem_cons_self ..)).1
          omega
      have hnone : ∀ g : Nat → Value, (Array.range (len * sh.size)).map g = #[] := fun g => by rw [h0]; simp
      rw [hnone, hnil] at f1
      cases f1
      rw [hmap, hnil]
      simp only [h0, if_true, Sem.run_pure, Result.andThen_ok]
      simp [Instr.fill, newRow, hl0]
      rw [show (Array.range 0) = #[] from rfl]
      simp
    · rw [hmap]
      simp only [h0, if_false, Sem.run_bind, h4, Result.andThen_ok, Sem.run_pure, f1]
      rfl
  have hmain := new_row (mu := mu) w hS hi h2 hpos (xs := fillL (List.replicate len z) (ps.map fun q => (q.1, ev D fr q.2))) (cs := arr) (ty := e) (w' := w.alloc (.cells arr e)) (len := len) (v := v) (by rw [f5]; simp) f3 f2 f4 rfl (Keeps.alloc w hS.size _) rfl
    (by
      cases he
      cases mu with
      | true => exact hl
      | false => exact hl)
  obtain ⟨c', m1, m2, m3, m4, m5⟩ := hmain
  exact exec_valN w ⟨_, _, c', hrun, m1, m2, m3, m4, m5⟩
theorem askRoom_run (n : Nat) (w : World) : (askRoom n).run P w = .ok () w := by
  unfold askRoom; first | rfl | (split <;> rfl) | simp
theorem new_makeSlice (hS : Sim CC base c G w.heap) (hi : id < G.next) (h2 : 2 ≤ id) {t e : TypeId} {sh : Shape} {z : DV} {mu : Bool} {i : TypeInfo} {x y : DV} {vx vy : Value} (hx : VRel c x vx) (hy : VRel c y vy)
    (hu : P.underlying t = some (.slice e)) (hsh : shapeOf P e = some sh) (hz : zeroOf P e = some z) (hie : P.info? e = some i) (hzc : z.cells.length = sh.size) (hzo : z.okv = true) {k1 k2 : IntKind} {l cp : Int} (ex : x = .int k1 l) (ey : y = .int k2 cp)
    (hb : 0 ≤ l ∧ l ≤ cp ∧ cp * i.bytes ≤ 140737488355328 ∧ cp ≤ 9223372036854775807) {v : DV}
    (hl : Lays c G id (if mu then .newO (.cells (flat (List.replicate l.toNat z)) sh) (fun i => .arr i sh.size 0 l.toNat) else .newT sh.size (fun t => .lst t sh.size (List.replicate l.toNat z))) v) :
    NewOk P CC base c G w id (do pure (.value (← Instr.makeSlice t vx vy))) v := by
  obtain ⟨i', zv, h1, h2', h3, h4⟩ := zeroOf_some w hz
  have hr : VRel c z zv := ofVal_rel h3
  obtain ⟨_, hpos⟩ := shapeOf_size hsh
  have hso := run_sizeOf_shape w hsh
  rw [hie] at h1; cases h1
  subst ex; subst ey
  have ex := hx.int_inv
  have ey := hy.int_inv
  subst ex; subst ey
  obtain ⟨hb1, hb2, hb3, hb4⟩ := hb
  have wl : IntKind.i64.wrap l = l := by rw [IntKind.wrap_i64]; omega
  have wc : IntKind.i64.wrap cp = cp := by rw [IntKind.wrap_i64]; omega
  have hbc : (i.bytes : Int) * cp ≤ 140737488355328 := by rw [Int.mul_comm]; exact hb3
  have n1 : ¬ cp < 0 := by omega
  have n2 : ¬ (281474976710656 < (i.bytes : Int) * cp) := by omega
  have n3 : ¬ l < 0 := by omega
  have n4 : ¬ cp < l := by omega
  have hzr := zeros_rel (n := cp.toNat) hzc hpos hr
  let cs : Array Value := (Array.range (cp.toNat * sh.size)).map (zv.cells[· % zv.cells.size]!)
  have hrun : (Instr.makeSlice t (.int k1 l) (.int k2 cp)).run P w = .ok (.slice (some ⟨w.heap.size, 0, none⟩) l.toNat cp.toNat) (w.alloc (.cells cs e)) := by
    have hai : ∀ (k : IntKind) (n : Int) (w : World), (asInt (.int k n)).run P w = .ok n w := fun k n w => by simp [asInt, asIntOf]
    simp only [Instr.makeSlice, Sem.run_bind, run_underlying hu, hai, typeInfo, run_program, hie, Sem.run_pure, Result.andThen_ok, wl, wc]
    rw [if_neg (by simp; omega)]
    by_cases h0 : cp.toNat * sh.size = 0
    · have hnone : ∀ g : Nat → Value, (Array.range (cp.toNat * sh.size)).map g = #[] := fun g => by rw [h0]; simp
      simp only [Sem.run_bind, askRoom_run, Result.andThen_ok, hso, h0, if_true, Sem.run_pure]
      simp only [h0] at hnone
      simp [cs, newRow, h0]
      rw [show (Array.range 0) = #[] from rfl]
      simp
    · simp only [Sem.run_bind, askRoom_run, Result.andThen_ok, hso, h0, if_false, Sem.run_pure, h4]
      rfl
  have hcl : cs.size = cp.toNat * sh.size := by simp [cs]
  have hlc : l.toNat ≤ cp.toNat := by omega
  have hle : l.toNat * sh.size ≤ cp.toNat * sh.size := Nat.mul_le_mul_right _ hlc
  have hsx : ∀ n, ∀ x ∈ List.replicate n z, x.cells.length = sh.size := fun n x hx => by rw [List.eq_of_mem_replicate hx]; exact hzc
  have hone : ∀ n, ∀ x ∈ flat (List.replicate n z), x.one = true := fun n x hx => by
      simp only [flat, List.mem_flatMap] at hx
      obtain ⟨y, hy, hxy⟩ := hx
      rw [List.eq_of_mem_replicate hy] at hxy
      exact hr.okv_one hzo x hxy
  have hpre : flat (List.replicate l.toNat z) = (flat (List.replicate cp.toNat z)).take (l.toNat * sh.size) := by
    have e : List.replicate cp.toNat z = List.replicate l.toNat z ++ List.replicate (cp.toNat - l.toNat) z := by rw [List.replicate_append_replicate]; congr 1; omega
    rw [e, flat_append, List.take_left' (by rw [flat_length _ (hsx _)]; simp)]
  have hv : VRels c (flat (List.replicate l.toNat z)) (cs.toList.take (l.toNat * sh.size)) := by
    rw [hpre]; exact hzr.take _
  have hcs : ∀ (j : Nat) (v : Value), (cs.toList.take (l.toNat * sh.size))[j]? = some v → cs[j]? = some v := fun j v hj => by
    have hlt := (List.getElem?_eq_some_iff.1 hj).1
    simp only [List.length_take] at hlt
    rw [List.getElem?_take, if_pos (by omega)] at hj
    simpa using hj
  cases mu with
  | false =>
    simp only [Bool.false_eq_true, if_false] at hl
    obtain ⟨rfl, hn, hg⟩ := hl
    obtain ⟨q1, q2, q3, q4⟩ := new_list w hS hn hi h2 hpos hg (xs := List.replicate l.toNat z) (vs := cs.toList.take (l.toNat * sh.size)) (cs := cs) (ty := e) (f := (0, 0)) (cap := cp.toNat) (.inl rfl) (hsx _) hv (hone _) hcs (by simpa using hlc) (by omega)
    refine exec_valN w ⟨_, _, _, hrun, q1, q2, ?_, Keeps.alloc w hS.size _, q4⟩
    simpa using q3
  | true =>
    simp only [if_true] at hl
    obtain ⟨rfl, hn, hg⟩ := hl
    obtain ⟨q1, q2, q3, q4⟩ := new_cells w hS hn hi hg (cs := cs) (ty := e) (f := (0, 0)) (.inl rfl) (by rw [flat_length _ (hsx _)]; simp; omega) (fun j x hj => by
      obtain ⟨u, h3, h4⟩ := hv.get j hj
      exact ⟨u, hcs _ _ h3, h4⟩) (hone _)
    exact exec_valN w ⟨_, _, _, hrun, q1, q2, .arr q3 hlc (.inr ⟨rfl, rfl, by omega⟩), Keeps.alloc w hS.size _, q4⟩

theorem new_range (hS : Sim CC base c G w.heap) (hi : id < G.next) {t : TypeId} {s : List UInt8} {vx : Value} (hu : P.underlying t = some .string) (hx : VRel c (.str s) vx) {v : DV} (hl : Lays c G id (.newO (.siter s 0) (fun i => .ptr i 0)) v) :
    NewOk P CC base c G w id (do pure (.value (← Instr.range t vx))) v := by
  obtain ⟨rfl, hn, hg⟩ := hl
  have := hx.str_inv
  subst this
  have q2 := hS.obj hn hi hg (x := .stringIter ⟨s.toArray⟩ 0) (lim := 0) (sz := 0) ⟨rfl, by simp⟩
  refine exec_valN w ⟨.pointer (some ⟨w.heap.size, 0, none⟩), w.alloc (.stringIter ⟨s.toArray⟩ 0), c.obj id w.heap.size 0 0 0, ?_, Cor.le_obj hn _ _ _ _, q2, .ptr (upd_same _ _ _), Keeps.alloc w hS.size _, fun i hne => ⟨upd_ne _ _ hne, rfl⟩⟩
  simp only [Instr.range, Sem.run_bind, run_underlying hu, Result.andThen_ok, Sem.run_pure]
  rfl

theorem bytesV_cells (s : List UInt8) : ∀ x ∈ bytesV s, x.cells.length = 1 := by
  intro x hx
  simp only [bytesV, List.mem_map] at hx
  obtain ⟨b, _, rfl⟩ := hx
  rfl
theorem bytesV_flat (s : List UInt8) : flat (bytesV s) = bytesV s := flat_scalar _ fun x hx cs e => by
  subst e; simp [bytesV, ofByte] at hx
theorem bytesV_one (s : List UInt8) : ∀ x ∈ bytesV s, x.one = true := by
  intro x hx
  simp only [bytesV, List.mem_map] at hx
  obtain ⟨b, _, rfl⟩ := hx
  rfl
theorem bytesV_rel (s : List UInt8) : VRels c (bytesV s) (s.map fun b => Value.int .u8 b.toNat) := by
  induction s with
  | nil => exact .nil
  | cons b s ih => exact .cons (.int _ _) ih
theorem new_strBytes (hS : Sim CC base c G w.heap) (hi : id < G.next) (h2 : 2 ≤ id) {st t e : TypeId} {s : List UInt8} {vx : Value} {mu : Bool} (hus : P.underlying st = some .string) (hu : P.underlying t = some (.slice e)) (hue : P.underlying e = some (.int .u8)) (hx : VRel c (.str s) vx) {v : DV}
    (hl : Lays c G id (if mu then .newO (.cells (bytesV s) none) (fun i => .arr i 1 0 s.length) else .newT 1 (fun t => .lst t 1 (bytesV s))) v) :
    NewOk P CC base c G w id (do pure (.value (← convert st t vx))) v := by
  have := hx.str_inv
  subst this
  let cap := grownCap w s.length 0 e
  have hge : s.length ≤ cap := grownCap_ge w s.length 0 e
  let cs : Array Value := (s.map fun b => Value.int .u8 b.toNat).toArray ++ Array.replicate (cap - s.length) (.int .u8 0)
  have hcs : cs.size = cap := by simp [cs]; omega
  let w1 : World := w.drew.alloc (.cells cs e)
  have hw1 : w1.heap = w.heap.push (.cells cs e) := rfl
  let w2 : World := w1.freeze ⟨w.heap.size, cs.size, none⟩ 1
  have hw2 : w2.heap = w.heap.push (.cells cs e (cs.size, cs.size + 1)) := by
    have : w2.heap = w1.heap.modify w.heap.size fun
      | .cells c elem (lo, hi) => .cells c elem (if lo == hi then (cs.size, cs.size + 1) else (min lo cs.size, max hi (cs.size + 1)))
      | o => o := rfl
    rw [this, hw1]
    apply Array.ext
    · simp
    · intro i hi1 hi2
      rw [Array.getElem_modify]
      by_cases hi3 : w.heap.size = i
      · subst hi3; simp
      · simp only [hi3, if_false]
        simp at hi1
        rw [Array.getElem_push, Array.getElem_push]
        simp [show i < w.heap.size by omega]
  have hrun : (convert st t (.string ⟨s.toArray⟩)).run P w = .ok (.slice (some ⟨w.heap.size, 0, none⟩) s.length cap) w2 := by
    have hsize : (⟨s.toArray⟩ : ByteArray).size = s.length := by simp [bytes_size]
    have hshape : w1.shape? w.heap.size = some (e, cs.size) := by simp [World.shape?, hw1]
    simp [convert, run_underlying hus, run_underlying hu, run_underlying hue, Conv.stringToBytes, hsize, newRow, markStringish, Question.forced]
    change (Sem.run P (match w1.shape? w.heap.size with
      | some (_, n) => freeze { block := w.heap.size, off := n } 1
      | _ => pure ()) w1).andThen _ = _
    rw [hshape]
    rfl
  have hf : FOk cs.size (cs.size, cs.size + 1) := .inr (Nat.le_refl _)
  have hk : Keeps base w w2 := Keeps.alloc' w hS.size _ 0 w2 hw2 rfl rfl rfl
  have hpre : ∀ (j : Nat) (v : Value), (s.map fun b => Value.int .u8 b.toNat)[j]? = some v → cs[j]? = some v := fun j v hj => by
    have hlt := (List.getElem?_eq_some_iff.1 hj).1
    simp only [cs]
    rw [Array.getElem?_append_left (by simpa using hlt)]
    simpa using hj
  have hv := bytesV_rel (c := c) s
  cases mu with
  | false =>
    simp only [Bool.false_eq_true, if_false] at hl
    obtain ⟨rfl, hn, hg⟩ := hl
    obtain ⟨q1, q2, q3, q4⟩ := new_list w hS hn hi h2 (by omega) hg (xs := bytesV s) (vs := s.map fun b => Value.int .u8 b.toNat) (cs := cs) (ty := e) (cap := cap) hf (bytesV_cells s) (by rw [bytesV_flat]; exact hv) (by rw [bytesV_flat]; exact bytesV_one s) hpre
      (by simpa [bytesV] using hge) (by omega)
    refine exec_valN w ⟨_, _, _, hrun, q1, by rw [hw2]; exact q2, ?_, hk, q4⟩
    simpa [bytesV] using q3
  | true =>
    simp only [if_true] at hl
    obtain ⟨rfl, hn, hg⟩ := hl
    obtain ⟨q1, q2, q3, q4⟩ := new_cells w hS hn hi hg (cs := cs) (ty := e) hf (by simp [bytesV]; omega) (fun j x hj => by
      obtain ⟨u, h3, h4⟩ := hv.get j hj
      exact ⟨u, hpre _ _ h3, h4⟩) (bytesV_one s)
    exact exec_valN w ⟨_, _, _, hrun, q1, by rw [hw2]; exact q2, .arr q3 hge (.inr ⟨rfl, rfl, by simp [Nat.mul_one]; omega⟩), hk, q4⟩
end
end Go.Dm
/- The D-machine (15): what lays something anew, together; what the effects read. -/
namespace Go.Dm
set_option linter.unusedSimpArgs false
set_option linter.unusedVariables false
set_option linter.unnecessarySimpa false

theorem setCells_heap {b : Nat} : ∀ (vs : List Value) (o : Nat) (w : World) (cur : Array Value) (e : TypeId) (f : Nat × Nat), w.heap[b]? = some (.cells cur e f) → o + vs.length ≤ cur.size →
    (w.setCells b o vs).heap[b]? = some (.cells (ovl cur.toList o vs).toArray e f) ∧ (∀ i, i ≠ b → (w.setCells b o vs).heap[i]? = w.heap[i]?) ∧ (w.setCells b o vs).heap.size = w.heap.size ∧
      (w.setCells b o vs).os = w.os ∧ (w.setCells b o vs).output = w.output ∧ (w.setCells b o vs).tape = w.tape
  | [], o, w, cur, e, f, h, _ => by
    refine ⟨?_, fun _ _ => rfl, rfl, rfl, rfl, rfl⟩
    simpa [World.setCells, ovl] using h
  | v :: vs, o, w, cur, e, f, h, hl => by
    have h1 : (w.setCell ⟨b, o, none⟩ v).heap[b]? = some (.cells (cur.setIfInBounds o v) e f) := by
      simp only [World.setCell]
      rw [Array.getElem?_modify, if_pos rfl, h]
      rfl
    have h2 : ∀ i, i ≠ b → (w.setCell ⟨b, o, none⟩ v).heap[i]? = w.heap[i]? := fun i hi => by
      simp only [World.setCell]
      rw [Array.getElem?_modify, if_neg (Ne.symm hi)]
    have h3 : (w.setCell ⟨b, o, none⟩ v).heap.size = w.heap.size := by simp [World.setCell]
    obtain ⟨q1, q2, q3, q4, q5, q6⟩ := setCells_heap vs (o + 1) _ _ e f h1 (by simp at hl ⊢; omega)
    refine ⟨?_, fun i hi => (q2 i hi).trans (h2 i hi), q3.trans h3, q4, q5, q6⟩
    rw [World.setCells, q1]
    have hlt : o < cur.toList.length := by simp at hl ⊢; omega
    congr 3
    simp only [ovl, Array.toList_setIfInBounds, List.length_cons]
    rw [List.take_set, List.drop_set_of_lt (by omega), List.take_add_one, List.getElem?_eq_getElem hlt]
    simp only [Option.toList_some]
    rw [List.set_append_right _ _ (by simp; omega)]
    have hl2 : (List.take o cur.toList).length = o := by simp; simp at hlt; omega
    simp [hl2]
    rw [show o + 1 + vs.length = o + (vs.length + 1) by omega]
theorem ovl_get_out {α : Type} {cs xs : List α} {off j : Nat} (hl : off + xs.length ≤ cs.length) (h : j < off ∨ off + xs.length ≤ j) : (ovl cs off xs)[j]? = cs[j]? := by
  unfold ovl
  rcases h with h | h
  · rw [List.append_assoc, List.getElem?_append_left (by simp; omega), List.getElem?_take, if_pos h]
  · rw [List.getElem?_append_right (by simp; omega), List.getElem?_drop]
    congr 1
    simp; omega
theorem ovl_get_in {α : Type} {cs xs : List α} {off j : Nat} (hl : off + xs.length ≤ cs.length) (h : j < xs.length) : (ovl cs off xs)[off + j]? = xs[j]? := by
  unfold ovl
  have h1 : (List.take off cs).length = off := by simp; omega
  rw [List.append_assoc, List.getElem?_append_right (by omega), h1, List.getElem?_append_left (by omega)]
  congr 1; omega

section
variable {P : Program} {cfg : Cfg} {mf : Bool} {D : DProg} {CC : Code → DC → Prop} {base : Nat} {c : Cor} {fr : Fr} {a : Act} {h G : Heap} (w : World) {id : Nat}

/-- Whatever lays something and turns nothing else. -/
theorem new_sound {o : Oper} {d : DOp} {v : DV} {r : EvR} (hc : compOp P cfg mf o.op = some d) (hg : GlobOk D c) (hf : VRels c fr.tmps a.tmps.toList) (hS : Sim CC base c G w.heap) (hne : d.effect = false)
    (he : evalOp D fr h d = some r) (hi : id < G.next) (h2 : 2 ≤ id) (hl : Lays c G id r v) : NewOk P CC base c G w id (execOp a.eval o) v := by
  obtain ⟨dst, op, ty, pos, after, guard⟩ := o
  have O : ∀ {x : Operand} {y : Opd}, opd x = some y → VRel c (ev D fr y) (a.eval x) := fun h => opd_rel hg hf h
  have noVal : ∀ {x : DV}, r = .val x → False := fun e => by subst e; exact hl
  have noMap : ∀ {x : Option DV}, x.map EvR.val = some r → False := fun e => by
    obtain ⟨y, _, h2⟩ := Option.map_eq_some_iff.1 e
    exact noVal h2.symm
  cases op <;> simp only [compOp] at hc <;> try (cases hc; done)
  case move x => obtain ⟨y, hy, rfl⟩ := Option.map_eq_some_iff.1 hc; simp only [evalOp] at he; cases he; exact (noVal rfl).elim
  case assign x => obtain ⟨y, hy, rfl⟩ := Option.map_eq_some_iff.1 hc; simp only [evalOp] at he; cases he; exact (noVal rfl).elim
  case pick cc x y =>
    split at hc <;> try (cases hc; done)
    cases hc
    simp only [evalOp] at he
    split at he <;> cases he <;> exact (noVal rfl).elim
  case alloc t =>
    obtain ⟨z, hz, hz2⟩ := Option.bind_eq_some_iff.1 hc
    split at hz2 <;> cases hz2
    rename_i hok
    simp only [evalOp] at he; cases he
    exact new_alloc w hS hi hz hok hl
  case box t x =>
    split at hc <;> try (cases hc; done)
    cases hc
    rename_i hx hn
    simp only [evalOp] at he
    split at he <;> cases he
    rename_i hcond
    exact new_box w hS hi (O hx) hcond.2 hl
  case build t parts =>
    split at hc <;> try (cases hc; done)
    split at hc <;> try (cases hc; done)
    split at hc <;> try (cases hc; done)
    cases hc
    simp only [evalOp] at he
    obtain ⟨r', _, hv⟩ := Option.map_eq_some_iff.1 he
    exact (noVal hv.symm).elim
  case buildSlice t len parts =>
    split at hc <;> try (cases hc; done)
    split at hc <;> try (cases hc; done)
    split at hc <;> try (cases hc; done)
    cases hc
    rename_i e hu _ _ _ sh z ps hsh hz hps hcond
    exact new_buildSlice w hS hi h2 hg hf hu hsh hz hps hcond.1 hcond.2 he hl
  case load t x =>
    split at hc <;> try (cases hc; done)
    cases hc
    simp only [evalOp] at he
    exact (noMap he).elim
  case store t x y =>
    split at hc <;> try (cases hc; done)
    cases hc
    simp [DOp.effect] at hne
  case nilCheck x =>
    obtain ⟨y, hy, rfl⟩ := Option.map_eq_some_iff.1 hc
    simp only [evalOp] at he
    split at he <;> cases he <;> exact (noVal rfl).elim
  case binOp bop t x y yt =>
    split at hc <;> try (cases hc; done)
    rename_i x' y' hx hy
    obtain ⟨k, rfl⟩ : ∃ k, d = .bin bop k x' y' := by
      split at hc
      · simp at hc; obtain ⟨k, h1, rfl⟩ := hc
        exact ⟨k, rfl⟩
      · simp at hc; obtain ⟨k, h1, rfl⟩ := hc
        exact ⟨k, rfl⟩
      · simp at hc; subst hc
        exact ⟨.any, rfl⟩
    simp only [evalOp] at he
    exact (noMap he).elim
  case unOp uop t x =>
    obtain ⟨y, hy, rfl⟩ := Option.map_eq_some_iff.1 hc
    simp only [evalOp] at he
    exact (noMap he).elim
  case convert s t x =>
    split at hc <;> try (cases hc; done)
    · cases hc
      simp only [evalOp] at he
      generalize ev D fr _ = X at he
      cases X <;> simp [convD] at he
      exact (noVal he.symm).elim
    · cases hc
      simp only [evalOp] at he
      generalize ev D fr _ = X at he
      cases X <;> simp [convD] at he
      exact (noVal he.symm).elim
    · split at hc <;> try (cases hc; done)
      cases hc
      rename_i e x' hus hud hx _ _ _ hue hie
      have hr := O hx
      simp only [evalOp] at he
      generalize ev D fr x' = X at he hr
      cases X <;> simp only [convD] at he <;> try (cases he; done)
      split at he <;> cases he
      exact new_strBytes w hS hi h2 hus hud hue hr hl
    · split at hc <;> try (cases hc; done)
      · cases hc
        simp [DOp.effect] at hne
        simp only [evalOp] at he
        generalize ev D fr _ = X at he
        cases X <;> simp [convD, hne] at he
        obtain ⟨_, _, he⟩ := he
        exact (noVal he.symm).elim
      · cases hc
        simp only [evalOp] at he
        generalize ev D fr _ = X at he
        cases X <;> simp [convD] at he
        obtain ⟨_, _, he⟩ := he
        exact (noVal he.symm).elim
    · cases hc
      simp only [evalOp] at he
      generalize ev D fr _ = X at he
      cases X <;> simp [convD] at he
      exact (noVal he.symm).elim
    · split at hc <;> try (cases hc; done)
      split at hc <;> try (cases hc; done)
      cases hc
      simp only [evalOp] at he
      generalize ev D fr _ = X at he
      cases X <;> simp [convD] at he
      exact (noVal he.2.symm).elim
  case makeFunc fn first caps =>
    split at hc <;> try (cases hc; done)
    cases hc
    simp only [evalOp] at he; cases he
    exact (noVal rfl).elim
  case makeSlice t l cp =>
    split at hc <;> try (cases hc; done)
    split at hc <;> try (cases hc; done)
    split at hc <;> try (cases hc; done)
    cases hc
    rename_i e x' y' hu hx hy _ _ _ sh z i hsh hz hie hcond
    simp only [evalOp] at he
    split at he <;> try (cases he; done)
    rename_i ex ey
    split at he <;> try (cases he; done)
    rename_i hb
    cases he
    exact new_makeSlice w hS hi h2 (O hx) (O hy) hu hsh hz hie hcond.1 hcond.2 ex ey hb hl
  case slice t x lo hi mx =>
    split at hc <;> try (cases hc; done)
    · cases hc
      simp only [evalOp] at he
      split at he <;> try (cases he; done)
      obtain ⟨_, _, hv⟩ := Option.map_eq_some_iff.1 he
      exact (noVal hv.symm).elim
    · obtain ⟨n, hn, rfl⟩ := Option.map_eq_some_iff.1 hc
      simp only [evalOp, sliceD] at he
      split at he <;> try (cases he; done)
      · split at he <;> try (cases he; done)
        obtain ⟨_, _, hv⟩ := Option.map_eq_some_iff.1 he
        exact (noVal hv.symm).elim
      · split at he <;> try (cases he; done)
        obtain ⟨_, _, hv⟩ := Option.map_eq_some_iff.1 he
        exact (noVal hv.symm).elim
  case fieldAddr s x f =>
    split at hc <;> try (cases hc; done)
    split at hc <;> try (cases hc; done)
    split at hc <;> try (cases hc; done)
    cases hc
    simp only [evalOp] at he
    split at he <;> cases he <;> exact (noVal rfl).elim
  case field s x f =>
    split at hc <;> try (cases hc; done)
    split at hc <;> try (cases hc; done)
    obtain ⟨sh, hsh, rfl⟩ := Option.map_eq_some_iff.1 hc
    simp only [evalOp] at he
    split at he <;> try (cases he; done)
    exact (noMap he).elim
  case indexAddr t x i =>
    split at hc <;> try (cases hc; done)
    · obtain ⟨n, hn, rfl⟩ := Option.map_eq_some_iff.1 hc
      simp only [evalOp] at he
      split at he <;> try (cases he; done)
      · split at he <;> try (cases he; done)
        obtain ⟨_, _, hv⟩ := Option.map_eq_some_iff.1 he
        exact (noVal hv.symm).elim
      · split at he <;> cases he
        exact (noVal rfl).elim
    · obtain ⟨n, hn, rfl⟩ := Option.map_eq_some_iff.1 hc
      simp only [evalOp] at he
      split at he <;> try (cases he; done)
      · split at he <;> cases he
        exact (noVal rfl).elim
      · split at he <;> cases he
        exact (noVal rfl).elim
  case index t x i =>
    split at hc <;> try (cases hc; done)
    · cases hc
      simp only [evalOp] at he
      split at he <;> try (cases he; done)
      split at he <;> try (cases he; done)
      obtain ⟨_, _, hv⟩ := Option.map_eq_some_iff.1 he
      exact (noVal hv.symm).elim
    · obtain ⟨sh, hsh, rfl⟩ := Option.map_eq_some_iff.1 hc
      simp only [evalOp] at he
      split at he <;> try (cases he; done)
      split at he <;> try (cases he; done)
      exact (noMap he).elim
  case extract x i =>
    obtain ⟨y, hy, rfl⟩ := Option.map_eq_some_iff.1 hc
    simp only [evalOp] at he
    split at he <;> try (cases he; done)
    exact (noMap he).elim
  case range t x =>
    split at hc <;> try (cases hc; done)
    cases hc
    rename_i x' hu hx
    have hr := O hx
    simp only [evalOp] at he
    split at he <;> try (cases he; done)
    rename_i s hs
    rw [hs] at hr
    cases he
    exact new_range w hS hi hu hr hl
  case next x s =>
    cases s <;> simp only [compOp] at hc
    · cases hc
    · obtain ⟨y, hy, rfl⟩ := Option.map_eq_some_iff.1 hc
      simp [DOp.effect] at hne
  case call cl =>
    obtain ⟨callee, args, argTypes⟩ := cl
    simp only [compCall] at hc
    split at hc <;> try (cases hc; done)
    · split at hc <;> try (cases hc; done)
      cases hc
      simp [DOp.effect] at hne
    · split at hc <;> try (cases hc; done)
      · split at hc <;> try (cases hc; done)
        · obtain ⟨y, hy, rfl⟩ := Option.map_eq_some_iff.1 hc
          simp only [evalOp] at he
          split at he <;> cases he <;> exact (noVal rfl).elim
        · obtain ⟨y, hy, rfl⟩ := Option.map_eq_some_iff.1 hc
          simp only [evalOp] at he
          split at he <;> cases he <;> exact (noVal rfl).elim
        · cases hc
          simp only [evalOp] at he; cases he; exact (noVal rfl).elim
      · split at hc <;> try (cases hc; done)
        split at hc <;> try (cases hc; done)
        · split at hc <;> try (cases hc; done)
          cases hc; simp [DOp.effect] at hne
        · split at hc <;> try (cases hc; done)
          cases hc; simp [DOp.effect] at hne
      · split at hc <;> try (cases hc; done)
        split at hc <;> try (cases hc; done)
        split at hc <;> try (cases hc; done)
        cases hc; simp [DOp.effect] at hne
      · split at hc <;> try (cases hc; done)
        cases hc
        simp only [evalOp] at he
        split at he <;> cases he
        exact (noVal rfl).elim
      · split at hc <;> try (cases hc; done)
        cases hc
        simp only [evalOp] at he
        split at he <;> cases he
        exact (noVal rfl).elim
      · split at hc <;> try (cases hc; done)
        split at hc <;> try (cases hc; done)
        split at hc <;> try (cases hc; done)
        cases hc; simp [DOp.effect] at hne
  case defer cl =>
    split at hc <;> try (cases hc; done)
    split at hc <;> try (cases hc; done)
    cases hc
    simp [DOp.effect] at hne
end
end Go.Dm
