/- FindLinks returns true for every input: part 1 of the proof (several texts joined). -/
import Derived.WalkKit
/- The D-machine (1): values, heap, operations and runs of a deterministic machine of our own, which the model's machine follows. -/
namespace Go.Dm
set_option linter.unusedSimpArgs false
set_option linter.unusedVariables false
set_option linter.unnecessarySimpa false

/-- Values: slices that nobody writes into hold what they read az; the others, and pointers, name an object of the heap. -/
inductive DV where
  | undef
  | bool (b : Bool)
  | int (k : IntKind) (n : Int)
  | str (s : List UInt8)
  | nilp
  | ptr (id off : Nat)
  | elt (cs : List DV)
  | lst (t sz : Nat) (xs : List DV)
  | arr (id sz off len : Nat)
  | fn (f : Fn) (first caps : List DV)
  | nilfn
  | agg (cs : List DV)
  | tup (vs : List DV)
  deriving Inhabited

def DV.cells : DV → List DV
  | .agg cs => cs
  | v => [v]
/-- One cell's value. -/
def DV.one : DV → Bool
  | .agg _ | .tup _ | .undef => false
  | _ => true
/-- A value that a variable holds. -/
def DV.okv : DV → Bool
  | .tup _ | .undef => false
  | _ => true
def flat (xs : List DV) : List DV := xs.flatMap DV.cells

mutual
def DV.beq : DV → DV → Bool
  | .undef, .undef => true
  | .bool a, .bool b => a == b
  | .int k a, .int l b => decide (k = l) && decide (a = b)
  | .str a, .str b => decide (a = b)
  | .nilp, .nilp => true
  | .ptr a b, .ptr c d => decide (a = c) && decide (b = d)
  | .elt a, .elt b => DV.beqs a b
  | .lst t y a, .lst u z b => decide (t = u) && decide (y = z) && DV.beqs a b
  | .arr a b c w, .arr d e f x => decide (a = d) && decide (b = e) && decide (c = f) && decide (w = x)
  | .fn f a b, .fn g c d => decide (f = g) && DV.beqs a c && DV.beqs b d
  | .nilfn, .nilfn => true
  | .agg a, .agg b => DV.beqs a b
  | .tup a, .tup b => DV.beqs a b
  | _, _ => false
def DV.beqs : List DV → List DV → Bool
  | [], [] => true
  | a :: x, b :: y => DV.beq a b && DV.beqs x y
  | _, _ => false
end
mutual
theorem DV.eq_of_beq : ∀ (a b : DV), DV.beq a b = true → a = b
  | .undef, b, h => by cases b <;> simp_all [DV.beq]
  | .bool a, b, h => by cases b <;> simp_all [DV.beq]
  | .int k a, b, h => by cases b <;> simp_all [DV.beq]
  | .str a, b, h => by cases b <;> simp_all [DV.beq]
  | .nilp, b, h => by cases b <;> simp_all [DV.beq]
  | .ptr a c, b, h => by cases b <;> simp_all [DV.beq]
  | .elt a, b, h => by
    cases b <;> simp [DV.beq] at h
    rw [DV.eq_of_beqs _ _ h]
  | .lst t y a, b, h => by
    cases b <;> simp [DV.beq] at h
    rw [h.1.1, h.1.2, DV.eq_of_beqs _ _ h.2]
  | .arr a c d w, b, h => by cases b <;> simp_all [DV.beq]
  | .fn f a c, b, h => by
    cases b <;> simp [DV.beq] at h
    rw [h.1.1, DV.eq_of_beqs _ _ h.1.2, DV.eq_of_beqs _ _ h.2]
  | .nilfn, b, h => by cases b <;> simp_all [DV.beq]
  | .agg a, b, h => by
    cases b <;> simp [DV.beq] at h
    rw [DV.eq_of_beqs _ _ h]
  | .tup a, b, h => by
    cases b <;> simp [DV.beq] at h
    rw [DV.eq_of_beqs _ _ h]
theorem DV.eq_of_beqs : ∀ (a b : List DV), DV.beqs a b = true → a = b
  | [], b, h => by cases b <;> simp_all [DV.beqs]
  | x :: a, b, h => by
    cases b <;> simp [DV.beqs] at h
    rw [DV.eq_of_beq _ _ h.1, DV.eq_of_beqs _ _ h.2]
end
mutual
theorem DV.beq_refl : ∀ a : DV, DV.beq a a = true
  | .undef => by simp [DV.beq]
  | .bool a => by simp [DV.beq]
  | .int k a => by simp [DV.beq]
  | .str a => by simp [DV.beq]
  | .nilp => by simp [DV.beq]
  | .ptr a c => by simp [DV.beq]
  | .elt a => by simp [DV.beq, DV.beqs_refl a]
  | .lst t y a => by simp [DV.beq, DV.beqs_refl a]
  | .arr a c d w => by simp [DV.beq]
  | .fn f a c => by simp [DV.beq, DV.beqs_refl a, DV.beqs_refl c]
  | .nilfn => by simp [DV.beq]
  | .agg a => by simp [DV.beq, DV.beqs_refl a]
  | .tup a => by simp [DV.beq, DV.beqs_refl a]
theorem DV.beqs_refl : ∀ a : List DV, DV.beqs a a = true
  | [] => by simp [DV.beqs]
  | x :: a => by simp [DV.beqs, DV.beq_refl x, DV.beqs_refl a]
end

/-- A table by numbers that the kernel can reckon with. -/
inductive Tr (α : Type) where
  | nil
  | node (l : Tr α) (v : Option α) (r : Tr α)
  deriving Inhabited
namespace Tr
variable {α : Type}
def get : Tr α → Nat → Option α
  | .nil, _ => none
  | .node l v r, n => match Nat.beq n 0 with
    | true => v
    | false => match Nat.beq (Nat.mod n 2) 1 with
      | true => l.get (Nat.div n 2)
      | false => r.get (Nat.sub (Nat.div n 2) 1)
def setF : Nat → Tr α → Nat → Option α → Tr α
  | 0, t, _, _ => t
  | f + 1, .nil, n, x => match Nat.beq n 0 with
    | true => .node .nil x .nil
    | false => match Nat.beq (Nat.mod n 2) 1 with
      | true => .node (setF f .nil (Nat.div n 2) x) none .nil
      | false => .node .nil none (setF f .nil (Nat.sub (Nat.div n 2) 1) x)
  | f + 1, .node l v r, n, x => match Nat.beq n 0 with
    | true => .node l x r
    | false => match Nat.beq (Nat.mod n 2) 1 with
      | true => .node (setF f l (Nat.div n 2) x) v r
      | false => .node l v (setF f r (Nat.sub (Nat.div n 2) 1) x)
def set (t : Tr α) (n : Nat) (x : Option α) : Tr α := setF (Nat.succ n) t n x
theorem beq_if {β : Type} (a b : Nat) (x y : β) : (match Nat.beq a b with | true => x | false => y) = if a = b then x else y := by
  cases h : Nat.beq a b with
  | true => rw [if_pos (Nat.eq_of_beq_eq_true h)]
  | false => rw [if_neg (Nat.ne_of_beq_eq_false h)]
theorem get_node (l : Tr α) (v : Option α) (r : Tr α) (n : Nat) : (Tr.node l v r).get n = if n = 0 then v else if n % 2 = 1 then l.get (n / 2) else r.get (n / 2 - 1) := by
  simp only [get, beq_if]; rfl
theorem setF_nil (f n : Nat) (x : Option α) : setF (f + 1) .nil n x = if n = 0 then .node .nil x .nil else if n % 2 = 1 then .node (setF f .nil (n / 2) x) none .nil else .node .nil none (setF f .nil (n / 2 - 1) x) := by
  simp only [setF, beq_if]; rfl
theorem setF_node (f : Nat) (l : Tr α) (v : Option α) (r : Tr α) (n : Nat) (x : Option α) : setF (f + 1) (.node l v r) n x = if n = 0 then .node l x r else if n % 2 = 1 then .node (setF f l (n / 2) x) v r else .node l v (setF f r (n / 2 - 1) x) := by
  simp only [setF, beq_if]; rfl
theorem get_none (n : Nat) : (Tr.nil : Tr α).get n = none := rfl
theorem get_setF : ∀ (f : Nat) (t : Tr α) (n : Nat) (x : Option α) (m : Nat), n < f → (setF f t n x).get m = if m = n then x else t.get m
  | 0, t, n, x, m, h => absurd h (Nat.not_lt_zero _)
  | f + 1, .nil, n, x, m, h => by
    rw [setF_nil]
    split
    · rename_i h0; subst h0; by_cases hm : m = 0 <;> simp [get_node, get_none, hm]
    · split
      · rename_i h0 h1
        simp only [get_node, get_none, get_setF f .nil (n / 2) x _ (by omega)]
        by_cases hm : m = 0
        · simp [hm]; omega
        · by_cases h2 : m % 2 = 1
          · simp only [hm, h2, if_true, if_false]
            by_cases e : m = n
            · subst e; simp
            · simp only [e, if_false]; rw [if_neg (by omega)]
          · simp only [hm, h2, if_false]; rw [if_neg (by omega)]
      · rename_i h0 h1
        simp only [get_node, get_none, get_setF f .nil (n / 2 - 1) x _ (by omega)]
        by_cases hm : m = 0
        · simp [hm]; omega
        · by_cases h2 : m % 2 = 1
          · simp only [hm, h2, if_true, if_false]; rw [if_neg (by omega)]
          · simp only [hm, h2, if_false]
            by_cases e : m = n
            · subst e; simp
            · simp only [e, if_false]; rw [if_neg (by omega)]
  | f + 1, .node l v r, n, x, m, h => by
    rw [setF_node]
    split
    · rename_i h0; subst h0; by_cases hm : m = 0 <;> simp [get_node, hm]
    · split
      · rename_i h0 h1
        simp only [get_node, get_setF f l (n / 2) x _ (by omega)]
        by_cases hm : m = 0
        · subst hm; simp; omega
        · by_cases h2 : m % 2 = 1
          · simp only [hm, h2, if_true, if_false]
            by_cases e : m = n
            · subst e; simp
            · simp only [e, if_false]; rw [if_neg (by omega)]
          · simp only [hm, h2, if_false]; rw [if_neg (by omega)]
      · rename_i h0 h1
        simp only [get_node, get_setF f r (n / 2 - 1) x _ (by omega)]
        by_cases hm : m = 0
        · subst hm; simp; omega
        · by_cases h2 : m % 2 = 1
          · simp only [hm, h2, if_true, if_false]; rw [if_neg (by omega)]
          · simp only [hm, h2, if_false]
            by_cases e : m = n
            · subst e; simp
            · simp only [e, if_false]; rw [if_neg (by omega)]
theorem get_set (t : Tr α) (n : Nat) (x : Option α) (m : Nat) : (t.set n x).get m = if m = n then x else t.get m := get_setF (n + 1) t n x m (by omega)
theorem get_set_same (t : Tr α) (n : Nat) (x : Option α) : (t.set n x).get n = x := by simp [get_set]
theorem get_set_ne (t : Tr α) {n m : Nat} (x : Option α) (h : m ≠ n) : (t.set n x).get m = t.get m := by simp [get_set, h]
end Tr

inductive Opd where
  | t (n : Nat)
  | c (v : DV)
  | g (n : Nat)
  | f (n : Nat)
  deriving Inhabited

/-- An element's shape: one cell, or so many. -/
abbrev Shape := Option Nat
def Shape.size (s : Shape) : Nat := s.getD 1

inductive ConvK where
  | int (k : IntKind)
  | same | sameB
  | strBytes | bytesStr | runesStr | strRunes | intStr
  deriving DecidableEq, Inhabited

inductive SK where
  | int | bool | str
  deriving DecidableEq, Inhabited
/-- Of which kind what is compared is. -/
inductive EqK where
  | any | bool | fn | ptr | sl
  | st (ks : List SK)
  deriving DecidableEq, Inhabited
/-- The operations, types looked up. 'mu': the slices that come of it are written into. -/
inductive DOp where
  | mv (x : Opd)
  | pick (c a b : Opd)
  | alloc (zero : List DV) (sh : Shape)
  | box (x : Opd) (n : Nat)
  | build (zero : List DV) (parts : List (Nat × Nat × Opd))
  | mks (mu : Bool) (sh : Shape) (zero : DV) (len : Nat) (parts : List (Nat × Opd))
  | load (sh : Shape) (a : Opd)
  | store (n : Nat) (a x : Opd)
  | nilc (x : Opd)
  | bin (op : BinOp) (k : EqK) (x y : Opd)
  | un (op : UnOp) (x : Opd)
  | conv (k : ConvK) (mu : Bool) (x : Opd)
  | mkfn (f : Fn) (first caps : List Opd)
  | mkslice (mu : Bool) (sh : Shape) (zero : DV) (bytes : Nat) (len cap : Opd)
  | sliceStr (x : Opd) (lo hi : Option Opd)
  | slice (sz : Nat) (x : Opd) (lo hi mx : Option Opd)
  | faddr (off : Nat) (x : Opd)
  | field (off : Nat) (sh : Shape) (x : Opd)
  | iaddr (sz : Nat) (x i : Opd)
  | iaddrArr (sz len : Nat) (x i : Opd)
  | idxStr (x i : Opd)
  | idxArr (sh : Shape) (len : Nat) (x i : Opd)
  | extract (x : Opd) (i : Nat)
  | range (x : Opd)
  | next (x : Opd)
  | call (f : Opd) (args : List Opd) (frz : Bool)
  | len (sl : Bool) (x : Opd)
  | append (mu : Bool) (sh : Shape) (bytes : Nat) (x y : Opd)
  | copy (sh : Shape) (x y : Opd)
  | minmax (mx : Bool) (x y : Opd)
  | clear (zero : List DV) (x : Opd)
  | defr (f : Opd) (args : List Opd)
  deriving Inhabited

structure ROp where
  dst : Option Nat
  op : DOp
  guard : Option (Nat × Bool)
  /-- Loads that may az well come behind this one: their address, their shape, the slot that they wrote, their guard. -/
  chk : List (Opd × Shape × Nat × Option (Nat × Bool))
  deriving Inhabited

inductive DC where
  | skip
  | region (ops : List ROp)
  | seq (a b : DC)
  | cond (c : Opd) (a b : DC)
  | block (id : Nat) (b : DC)
  | loop (b : DC)
  | range (f : Opd) (ps : List Nat) (asg body : DC)
  | exit (id : Nat)
  | ret
  deriving Inhabited

inductive DX where
  | normal
  | exit (id : Nat)
  | ret
  deriving DecidableEq, Inhabited

inductive LState where
  | ready | busy | done | over
  deriving DecidableEq, Inhabited
structure LRec where
  tmps : List DV
  ps : List Nat
  asg : DC
  body : DC
  st : LState
  pend : Option DX
  deriving Inhabited

inductive HObj where
  | cells (cs : List DV) (sh : Shape)
  | siter (s : List UInt8) (pos : Nat)
  | loop (r : LRec)
  | mark
  deriving Inhabited

structure Heap where
  next : Nat
  objs : Tr HObj
  tags : Tr Nat
  deriving Inhabited
namespace Heap
def add (h : Heap) (o : HObj) : Heap := { h with next := h.next + 1, objs := h.objs.set h.next (some o) }
def addTag (h : Heap) (sz : Nat) : Heap := { h with next := h.next + 1, tags := h.tags.set h.next (some sz) }
def put (h : Heap) (id : Nat) (o : HObj) : Heap := { h with objs := h.objs.set id (some o) }
def drop (h : Heap) (id : Nat) : Heap := { h with objs := h.objs.set id none }
def spend (h : Heap) (t : Nat) : Heap := { h with tags := h.tags.set t none }
end Heap

inductive DDef where
  | mark (id : Nat)
  | call (f : Nat) (args : List DV)
  deriving Inhabited
structure Fr where
  tmps : List DV
  defers : List DDef
  inr : Option Nat
  deriving Inhabited
def Fr.put (fr : Fr) (dst : Option Nat) (v : DV) : Fr :=
  match dst with
  | some d => { fr with tmps := fr.tmps.set d v }
  | none => fr

inductive DRes where
  | tmp (t : Nat)
  | cell (t : Nat) (sh : Shape)
  deriving Inhabited
structure DFunc where
  nt : Nat
  body : DC
  res : List DRes
  deriving Inhabited
structure DProg where
  fn : Nat → Option DFunc
  glob : Nat → Option (List DV)
  prim : Nat → Option (List DV → Heap → Option (DV × Heap))

inductive EvR where
  | val (v : DV)
  | newO (o : HObj) (mk : Nat → DV)
  | newT (sz : Nat) (mk : Nat → DV)
  | eff (v : DV) (h : Heap)
  | call (f : Nat) (args : List DV) (frz : Bool)
  | yield (l : Nat) (args : List DV)
  | defr (f : Nat) (args : List DV)

def cut (cs : List DV) (off n : Nat) : Option (List DV) := if off + n ≤ cs.length then some ((cs.drop off).take n) else none
def mkv (sh : Shape) (cs : List DV) : Option DV :=
  match sh with
  | some _ => some (.agg cs)
  | none => cs.head?
/-- Cells az elements. -/
def group (sh : Shape) : Nat → List DV → List DV
  | 0, _ => []
  | n + 1, cs => ((mkv sh (cs.take sh.size)).getD .undef) :: group sh n (cs.drop sh.size)

def loadD (h : Heap) (sh : Shape) : DV → Option DV
  | .ptr id off => match h.objs.get id with
    | some (.cells cs _) => (cut cs off sh.size).bind (mkv sh)
    | _ => none
  | .elt cs => (cut cs 0 sh.size).bind (mkv sh)
  | _ => none
def overwrite (cs : List DV) (off : Nat) (xs : List DV) : List DV := cs.take off ++ xs ++ cs.drop (off + xs.length)
def storeD (h : Heap) (n : Nat) (a x : DV) : Option Heap :=
  match a with
  | .ptr id off => match h.objs.get id with
    | some (.cells cs sh) => if x.cells.length = n ∧ off + n ≤ cs.length ∧ x.okv = true then some (h.put id (.cells (overwrite cs off x.cells) sh)) else none
    | _ => none
  | _ => none

def byte? : DV → Option UInt8
  | .int .u8 n => if 0 ≤ n ∧ n < 256 then some (UInt8.ofNat n.toNat) else none
  | _ => none
def rune? : DV → Option Int
  | .int .i32 n => some n
  | _ => none
def ofByte (b : UInt8) : DV := .int .u8 b.toNat
def bytesV (s : List UInt8) : List DV := s.map ofByte

/-- What a slice, or a string, holds, element by element. -/
def elems (h : Heap) (sh : Shape) : DV → Option (List DV)
  | .lst t sz xs => if t = 0 ∨ sz = sh.size then some xs else none
  | .str s => if sh.size = 1 then some (bytesV s) else none
  | .arr id sz off n => match h.objs.get id with
    | some (.cells cs sh') => if sh' = sh ∧ sz = sh.size then (cut cs off (n * sh.size)).map (group sh n) else none
    | _ => none
  | _ => none

def strLess : List UInt8 → List UInt8 → Bool := Op.bytesLess
def intBin (op : BinOp) (k : IntKind) (a b : Int) : Option DV :=
  match op with
  | .add => some (.int k (k.wrap (a + b)))
  | .sub => some (.int k (k.wrap (a - b)))
  | .mul => some (.int k (k.wrap (a * b)))
  | .quo => if b = 0 then none else some (.int k (k.wrap (a.tdiv b)))
  | .rem => if b = 0 then none else some (.int k (a.tmod b))
  | .and => some (.int k (k.wrap (BitVec.ofInt k.bits a &&& BitVec.ofInt k.bits b).toNat))
  | .or => some (.int k (k.wrap (BitVec.ofInt k.bits a ||| BitVec.ofInt k.bits b).toNat))
  | .xor => some (.int k (k.wrap (BitVec.ofInt k.bits a ^^^ BitVec.ofInt k.bits b).toNat))
  | .andNot => some (.int k (k.wrap (BitVec.ofInt k.bits a &&& ~~~ BitVec.ofInt k.bits b).toNat))
  | .eql => some (.bool (a == b))
  | .neq => some (.bool (a != b))
  | .lss => some (.bool (decide (a < b)))
  | .leq => some (.bool (decide (a ≤ b)))
  | .gtr => some (.bool (decide (a > b)))
  | .geq => some (.bool (decide (a ≥ b)))
  | _ => none
def strBin (op : BinOp) (a b : List UInt8) : Option DV :=
  match op with
  | .add => if a.length + b.length ≤ 9223372036854775807 then some (.str (a ++ b)) else none
  | .eql => some (.bool (decide (a = b)))
  | .neq => some (.bool (!decide (a = b)))
  | .lss => some (.bool (strLess a b))
  | .leq => some (.bool (strLess a b || decide (a = b)))
  | .gtr => some (.bool (!(strLess a b || decide (a = b))))
  | .geq => some (.bool (!strLess a b))
  | _ => none
def eqBin (op : BinOp) (r : Bool) : Option DV :=
  match op with
  | .eql => some (.bool r)
  | .neq => some (.bool (!r))
  | _ => none
/-- '==' of structs of plain fields. -/
def plainEq : List SK → List DV → List DV → Option Bool
  | [], [], [] => some true
  | .int :: ks, .int k a :: xs, .int l b :: ys => if k = l then (plainEq ks xs ys).map (decide (a = b) && ·) else none
  | .bool :: ks, .bool a :: xs, .bool b :: ys => (plainEq ks xs ys).map (a == b && ·)
  | .str :: ks, .str a :: xs, .str b :: ys => (plainEq ks xs ys).map (decide (a = b) && ·)
  | _, _, _ => none
def binD (op : BinOp) (ek : EqK) (x y : DV) : Option DV :=
  match x, y with
  | .int k a, .int l b =>
    match op with
    | .shl => if b < 0 then none else some (.int k (k.wrap (a * 2 ^ (min b.toNat k.bits))))
    | .shr => if b < 0 then none else some (.int k (a.fdiv (2 ^ (min b.toNat k.bits))))
    | _ => if k = l then intBin op k a b else none
  | .str a, .str b => strBin op a b
  | .bool a, .bool b => if ek = .bool then eqBin op (a == b) else none
  | .nilp, .nilp => if ek = .ptr then eqBin op true else none
  | .nilp, .ptr _ _ => if ek = .ptr then eqBin op false else none
  | .ptr _ _, .nilp => if ek = .ptr then eqBin op false else none
  | .nilp, .elt _ => if ek = .ptr then eqBin op false else none
  | .elt _, .nilp => if ek = .ptr then eqBin op false else none
  | .nilfn, .nilfn => if ek = .fn then eqBin op true else none
  | .fn _ _ _, .nilfn => if ek = .fn then eqBin op false else none
  | .nilfn, .fn _ _ _ => if ek = .fn then eqBin op false else none
  | .agg a, .agg b => match ek with
    | .st ks => (plainEq ks a b).bind (eqBin op)
    | _ => none
  | .lst t _ _, .lst 0 _ [] => if ek = .sl then eqBin op (t == 0) else none
  | .arr _ _ _ _, .lst 0 _ [] => if ek = .sl then eqBin op false else none
  | _, _ => none
def unD (op : UnOp) : DV → Option DV
  | .int k n =>
    match op with
    | .neg => some (.int k (k.wrap (0 - n)))
    | .xor => intBin .xor k (if k.signed then -1 else k.max) n
    | _ => none
  | .bool b => match op with | .not => some (.bool !b) | _ => none
  | _ => none

def toStr? : List DV → Option (List UInt8)
  | [] => some []
  | x :: xs => match byte? x, toStr? xs with
    | some b, some s => some (b :: s)
    | _, _ => none
def runesStr? : List DV → Option (List UInt8)
  | [] => some []
  | x :: xs => match rune? x, runesStr? xs with
    | some r, some s => some ((Utf8.encode r).data.toList ++ s)
    | _, _ => none
def convD (h : Heap) (k : ConvK) (mu : Bool) (x : DV) : Option EvR :=
  match k, x with
  | .int k, .int _ n => some (.val (.int k (k.wrap n)))
  | .same, .str s => some (.val (.str s))
  | .sameB, .lst t sz xs => if 2 ≤ t ∧ xs ≠ [] then some (.val (.lst t sz xs)) else none
  | .strBytes, .str s => if s.length ≤ 140737488355328 then some (if mu then .newO (.cells (bytesV s) none) (fun i => .arr i 1 0 s.length) else .newT 1 (fun t => .lst t 1 (bytesV s))) else none
  | .bytesStr, .lst _ _ xs => if mu then none else (toStr? xs).map fun s => .val (.str s)
  | .bytesStr, .arr i sz o n => if mu then ((elems h none (.arr i sz o n)).bind toStr?).map fun s => .eff (.str s) h else none
  | .runesStr, .lst _ _ xs => (runesStr? xs).map fun s => .val (.str s)
  | .intStr, .int _ n => some (.val (.str (Utf8.encode n).data.toList))
  | _, _ => none

def bounds (len : Nat) (lo hi : Option DV) : Option (Nat × Nat) :=
  match lo, hi with
  | none, none => some (0, len)
  | some (.int _ l), none => if 0 ≤ l ∧ l ≤ len then some (l.toNat, len) else none
  | none, some (.int _ h) => if 0 ≤ h ∧ h ≤ len then some (0, h.toNat) else none
  | some (.int _ l), some (.int _ h) => if 0 ≤ l ∧ l ≤ h ∧ h ≤ len then some (l.toNat, h.toNat) else none
  | _, _ => none
/-- An element's size, at nil none. -/
def zOf (t sz : Nat) : Nat := match t with
  | 0 => 0
  | _ + 1 => sz
def cutT (t r n : Nat) : Nat := if r = n ∨ t = 0 then t else 1
def sliceD (sz : Nat) (x : DV) (lo hi mx : Option DV) : Option EvR :=
  match x, mx with
  | .lst t z xs, none => if t = 0 ∨ z = sz then (bounds xs.length lo hi).map fun (l, r) => .val (.lst (cutT t r xs.length) (zOf (cutT t r xs.length) sz) ((xs.drop l).take (r - l))) else none
  | .arr i z o n, none => if z = sz then (bounds n lo hi).map fun (l, r) => .val (.arr i sz (o + l * sz) (r - l)) else none
  | _, _ => none

def appendD (h : Heap) (mu : Bool) (sh : Shape) (bytes : Nat) (x y : DV) : Option EvR :=
  match x, elems h sh y with
  | .lst t z xs, some ys =>
    if ys = [] then some (.val (.lst t z xs)) else
    if (t = 0 ∨ z = sh.size) ∧ (xs.length + ys.length) * bytes ≤ 140737488355328 ∧ xs.length + ys.length ≤ 9223372036854775807 then
      if mu then (if t = 0 then some (.newO (.cells (flat ys) sh) (fun i => .arr i sh.size 0 ys.length)) else none)
      else if t = 0 then some (.newT sh.size (fun u => .lst u sh.size ys))
      else if 2 ≤ t ∧ h.tags.get t = some sh.size then some (.eff (.lst h.next sh.size (xs ++ ys)) ((h.spend t).addTag sh.size)) else none
    else none
  | .arr i z o n, some ys =>
    if ys = [] then some (.val (.arr i z o n)) else
    match h.objs.get i with
    | some (.cells cs sh') =>
      match cut cs o (n * sh.size) with
      | some old =>
        if sh' = sh ∧ z = sh.size ∧ mu = true ∧ (n + ys.length) * bytes ≤ 140737488355328 ∧ n + ys.length ≤ 9223372036854775807 then
          some (.eff (.arr h.next sh.size 0 (n + ys.length)) ((h.drop i).add (.cells (old ++ flat ys) sh)))
        else none
      | none => none
    | _ => none
  | _, _ => none

def copyD (h : Heap) (sh : Shape) (x y : DV) : Option EvR :=
  match x with
  | .arr i z o n => match h.objs.get i, elems h sh y with
    | some (.cells cs sh'), some ys =>
      let new := flat (ys.take n)
      if sh' = sh ∧ z = sh.size ∧ o + n * sh.size ≤ cs.length then some (.eff (.int .i64 ((min ys.length n : Nat) : Int)) (h.put i (.cells (overwrite cs o new) sh'))) else none
    | _, _ => none
  | _ => none

def fillL (xs : List DV) : List (Nat × DV) → List DV
  | [] => xs
  | (i, v) :: r => fillL (xs.set i v) r
/-- Parts laid into a struct's cells. -/
def buildL (cs : List DV) : List (Nat × Nat × DV) → Option (List DV)
  | [] => some cs
  | (off, n, v) :: r => if v.cells.length = n ∧ off + n ≤ cs.length ∧ v.okv = true then buildL (overwrite cs off v.cells) r else none

section
variable (D : DProg) (fr : Fr) (h : Heap)
def ev : Opd → DV
  | .t n => fr.tmps.getD n .undef
  | .c v => v
  | .g n => match D.glob n with
    | some cs => .elt cs
    | none => .elt []
  | .f n => .fn (.func n) [] []
def evs (xs : List Opd) : List DV := xs.map (ev D fr)
def evO (x : Option Opd) : Option DV := x.map (ev D fr)

def callV (f : DV) (args : List DV) (frz : Bool) : Option EvR :=
  match f with
  | .fn (.func g) first caps => some (.call g (first ++ args ++ caps) frz)
  | .fn (.yield l) [] [] => some (.yield l args)
  | _ => none

def evalOp : DOp → Option EvR
  | .mv x => some (.val (ev D fr x))
  | .pick c a b => match ev D fr c with
    | .bool true => some (.val (ev D fr a))
    | .bool false => some (.val (ev D fr b))
    | _ => none
  | .alloc zero sh => some (.newO (.cells zero sh) (fun i => .ptr i 0))
  | .box x n => let v := ev D fr x; if v.cells.length = n ∧ v.okv = true then some (.newO (.cells v.cells none) (fun i => .ptr i 0)) else none
  | .build zero parts => (buildL zero (parts.map fun p => (p.1, p.2.1, ev D fr p.2.2))).map fun cs => .val (.agg cs)
  | .mks mu sh zero len parts =>
    if len * sh.size ≤ 16777216 ∧ (∀ p ∈ parts, p.1 < len ∧ (ev D fr p.2).cells.length = sh.size ∧ (ev D fr p.2).okv = true) then
      let xs := fillL (List.replicate len zero) (parts.map fun p => (p.1, ev D fr p.2))
      some (if mu then .newO (.cells (flat xs) sh) (fun i => .arr i sh.size 0 len) else .newT sh.size (fun t => .lst t sh.size xs))
    else none
  | .load sh a => (loadD h sh (ev D fr a)).map .val
  | .store n a x => (storeD h n (ev D fr a) (ev D fr x)).map fun h' => .eff .undef h'
  | .nilc x => match ev D fr x with
    | .ptr i o => some (.val (.ptr i o))
    | .elt cs => some (.val (.elt cs))
    | _ => none
  | .bin op k x y => (binD op k (ev D fr x) (ev D fr y)).map .val
  | .un op x => (unD op (ev D fr x)).map .val
  | .conv k mu x => convD h k mu (ev D fr x)
  | .mkfn f first caps => some (.val (.fn f (evs D fr first) (evs D fr caps)))
  | .mkslice mu sh zero bytes len cap => match ev D fr len, ev D fr cap with
    | .int _ l, .int _ c =>
      if 0 ≤ l ∧ l ≤ c ∧ c * bytes ≤ 140737488355328 ∧ c ≤ 9223372036854775807 then
        some (if mu then .newO (.cells (flat (List.replicate l.toNat zero)) sh) (fun i => .arr i sh.size 0 l.toNat) else .newT sh.size (fun t => .lst t sh.size (List.replicate l.toNat zero)))
      else none
    | _, _ => none
  | .sliceStr x lo hi => match ev D fr x with
    | .str s => (bounds s.length (evO D fr lo) (evO D fr hi)).map fun (l, r) => .val (.str ((s.drop l).take (r - l)))
    | _ => none
  | .slice sz x lo hi mx => sliceD sz (ev D fr x) (evO D fr lo) (evO D fr hi) (evO D fr mx)
  | .faddr off x => match ev D fr x with
    | .ptr i o => some (.val (.ptr i (o + off)))
    | .elt cs => some (.val (.elt (cs.drop off)))
    | _ => none
  | .field off sh x => match ev D fr x with
    | .agg cs => ((cut cs off sh.size).bind (mkv sh)).map .val
    | _ => none
  | .iaddr sz x i => match ev D fr x, ev D fr i with
    | .lst t z xs, .int _ n => if 0 ≤ n ∧ (t = 0 ∨ z = sz) then (xs[n.toNat]?).map fun v => .val (.elt v.cells) else none
    | .arr id z o len, .int _ n => if 0 ≤ n ∧ n < len ∧ z = sz then some (.val (.ptr id (o + n.toNat * sz))) else none
    | _, _ => none
  | .iaddrArr sz len x i => match ev D fr x, ev D fr i with
    | .ptr id o, .int _ n => if 0 ≤ n ∧ n < len then some (.val (.ptr id (o + n.toNat * sz))) else none
    | .elt cs, .int _ n => if 0 ≤ n ∧ n < len then some (.val (.elt (cs.drop (n.toNat * sz)))) else none
    | _, _ => none
  | .idxStr x i => match ev D fr x, ev D fr i with
    | .str s, .int _ n => if 0 ≤ n then (s[n.toNat]?).map fun b => .val (ofByte b) else none
    | _, _ => none
  | .idxArr sh len x i => match ev D fr x, ev D fr i with
    | .agg cs, .int _ n => if 0 ≤ n ∧ n < len then ((cut cs (n.toNat * sh.size) sh.size).bind (mkv sh)).map .val else none
    | _, _ => none
  | .extract x i => match ev D fr x with
    | .tup vs => (vs[i]?).map .val
    | _ => none
  | .range x => match ev D fr x with
    | .str s => some (.newO (.siter s 0) (fun i => .ptr i 0))
    | _ => none
  | .next x => match ev D fr x with
    | .ptr i 0 => match h.objs.get i with
      | some (.siter s pos) =>
        if pos < s.length then
          let (c, w) := Utf8.decode ⟨s.toArray⟩ pos
          some (.eff (.tup [.bool true, .int .i64 pos, .int .i32 c]) (h.put i (.siter s (pos + w))))
        else some (.eff (.tup [.bool false]) h)
      | _ => none
    | _ => none
  | .call f args frz => callV (ev D fr f) (evs D fr args) frz
  | .len sl x => match sl, ev D fr x with
    | false, .str s => some (.val (.int .i64 s.length))
    | true, .lst _ _ xs => some (.val (.int .i64 xs.length))
    | true, .arr _ _ _ n => some (.val (.int .i64 n))
    | _, _ => none
  | .append mu sh bytes x y => appendD h mu sh bytes (ev D fr x) (ev D fr y)
  | .copy sh x y => copyD h sh (ev D fr x) (ev D fr y)
  | .minmax mx x y => match ev D fr x, ev D fr y with
    | .int k a, .int _ b => some (.val (.int k (if mx then (if b > a then b else a) else (if b < a then b else a))))
    | _, _ => none
  | .clear zero x => match ev D fr x with
    | .lst _ _ [] => some (.val (.tup []))
    | .arr i z o n => if n = 0 then some (.val (.tup [])) else match h.objs.get i with
      | some (.cells cs sh) => if o + n * zero.length ≤ cs.length ∧ z = zero.length then some (.eff (.tup []) (h.put i (.cells (overwrite cs o (List.replicate n zero).flatten) sh))) else none
      | _ => none
    | _ => none
  | .defr f args => if fr.inr.isSome then none else match ev D fr f with
    | .fn (.func g) first caps => some (.defr g (first ++ evs D fr args ++ caps))
    | _ => none
end

/-- Which operations turn the heap, beyond what is new. -/
def DOp.effect : DOp → Bool
  | .store .. | .next .. | .call .. | .append .. | .copy .. | .clear .. | .defr .. => true
  | .conv .bytesStr mu _ => mu
  | _ => false

abbrev Ex := DC → Fr → Heap → Option (DX × Fr × Heap)

def frzV (h : Heap) : DV → Option (DV × Heap)
  | .arr i z o n => match h.objs.get i with
    | some (.cells cs sh) => if z = sh.size ∧ 0 < sh.size then (cut cs o (n * sh.size)).map fun c => (.lst 1 sh.size (group sh n c), h.drop i) else none
    | _ => none
  | v => some (v, h)

section
variable (D : DProg) (E : Ex)
def leaveD : List DDef → Heap → (Nat → List DV → Heap → Option (Heap)) → Option Heap
  | [], h, _ => some h
  | .mark m :: r, h, C => match h.objs.get m with
    | some .mark => leaveD r (h.drop m) C
    | _ => none
  | .call f args :: r, h, C => (C f args h).bind fun h' => leaveD r h' C
def resD (fr : Fr) (h : Heap) : List DRes → Option (List DV)
  | [] => some []
  | .tmp t :: r => (resD fr h r).map (fr.tmps.getD t .undef :: ·)
  | .cell t sh :: r => match loadD h sh (fr.tmps.getD t .undef), resD fr h r with
    | some v, some vs => some (v :: vs)
    | _, _ => none
def tupD : List DV → DV
  | [v] => v
  | vs => .tup vs
/-- A body that defers nothing. -/
def bodyD (f : Nat) (args : List DV) (h : Heap) : Option (DFunc × Fr × Heap) :=
  match D.fn f with
  | some d =>
    match E d.body { tmps := args ++ List.replicate (d.nt - args.length) .undef, defers := [], inr := none } h with
    | some (.normal, fr, h') => some (d, fr, h')
    | some (.ret, fr, h') => some (d, fr, h')
    | _ => none
  | none => none
def callDef (f : Nat) (args : List DV) (h : Heap) : Option Heap :=
  match bodyD D E f args h with
  | some (d, fr, h') => match fr.defers with
    | [] => match resD fr h' d.res with
      | some _ => some h'
      | none => none
    | _ => none
  | none => none
def callD (f : Nat) (args : List DV) (h : Heap) : Option (DV × Heap) :=
  match D.prim f with
  | some p => p args h
  | none =>
    match bodyD D E f args h with
    | some (d, fr, h') =>
      match leaveD fr.defers h' (callDef D E) with
      | some h'' => (resD fr h'' d.res).map fun vs => (tupD vs, h'')
      | none => none
    | none => none
/-- A round of a range over a function. -/
def yieldD (l : Nat) (args : List DV) (h : Heap) : Option (DV × Heap) :=
  match h.objs.get l with
  | some (.loop r) =>
    if r.st = .ready ∧ args.length = r.ps.length then
      match E r.asg { tmps := (r.ps.zip args).foldl (fun ts (t, a) => ts.set t a) r.tmps, defers := [], inr := some l } h with
      | some (.normal, fr1, h1) =>
        match h1.objs.get l with
        | some (.loop r1) =>
          if r1.st = .ready then
            match E r.body fr1 (h1.put l (.loop { r1 with st := .busy })) with
            | some (x, fr2, h2) =>
              match fr2.defers, h2.objs.get l with
              | [], some (.loop r2) =>
                match x with
                | .normal => some (.bool true, h2.put l (.loop { r2 with st := .ready, pend := none }))
                | x => some (.bool false, h2.put l (.loop { r2 with st := .done, pend := some x }))
              | _, _ => none
            | none => none
          else none
        | _ => none
      | _ => none
    else none
  | _ => none
def runOp (o : ROp) (fr : Fr) (h : Heap) : Option (Fr × Heap) :=
  match evalOp D fr h o.op with
  | some (.val v) => some (fr.put o.dst v, h)
  | some (.newO b mk) => some (fr.put o.dst (mk h.next), h.add b)
  | some (.newT sz mk) => some (fr.put o.dst (mk h.next), h.addTag sz)
  | some (.eff v h') => some (fr.put o.dst v, h')
  | some (.call f args frz) =>
    match callD D E f args h with
    | some (v, h') => if frz then (frzV h' v).map fun (v, h'') => (fr.put o.dst v, h'') else some (fr.put o.dst v, h')
    | none => none
  | some (.yield l args) => (yieldD E l args h).map fun (v, h') => (fr.put o.dst v, h')
  | some (.defr f args) => some ({ fr with defers := .call f args :: fr.defers }.put o.dst .undef, h)
  | none => none
def wantedG (g : Option (Nat × Bool)) (fr : Fr) : Bool :=
  match g with
  | none => true
  | some (t, b) => match fr.tmps.getD t .undef with
    | .bool c => c == b
    | _ => false
def chkOk (fr : Fr) (h : Heap) (l : List (Opd × Shape × Nat × Option (Nat × Bool))) : Bool :=
  l.all fun (a, sh, t, g) => !wantedG g fr || match loadD h sh (ev D fr a), fr.tmps[t]? with
    | some v, some u => DV.beq v u
    | _, _ => false
def wantedD (o : ROp) (fr : Fr) : Bool := wantedG o.guard fr
def runOps : List ROp → Fr → Heap → Option (Fr × Heap)
  | [], fr, h => some (fr, h)
  | o :: r, fr, h =>
    if wantedD o fr then
      match runOp D E o fr h with
      | some (fr', h') => if chkOk D fr' h' o.chk then runOps r fr' h' else none
      | none => none
    else runOps r (fr.put o.dst .undef) h
/-- Where a range over a function starts: its mark is laid, if it is an outermost one. -/
def startD (fr : Fr) (h : Heap) : Option (Fr × Heap) :=
  match fr.inr with
  | some l0 => match h.objs.get l0 with
    | some (.loop _) => some (fr, h)
    | _ => none
  | none => some ({ fr with defers := .mark h.next :: fr.defers }, h.add .mark)
def rangeD (f : Opd) (ps : List Nat) (asg body : DC) (fr : Fr) (h : Heap) : Option (DX × Fr × Heap) :=
  match ev D fr f with
  | .fn (.func g) first caps =>
    match startD fr h with
    | none => none
    | some (fr1, h1) =>
    let l := h1.next
    match callD D E g (first ++ [.fn (.yield l) [] []] ++ caps) (h1.add (.loop { tmps := fr.tmps, ps, asg, body, st := .ready, pend := none })) with
    | some (_, h2) =>
      match h2.objs.get l with
      | some (.loop r) =>
        if r.st = .busy then none else
        match r.pend with
        | none => some (.normal, fr1, h2.put l (.loop { r with st := .over }))
        | some x => some (x, fr1, h2.put l (.loop { r with st := .over }))
      | _ => none
    | none => none
  | _ => none
def stepD : DC → Fr → Heap → Option (DX × Fr × Heap)
  | .skip, fr, h => some (.normal, fr, h)
  | .region ops, fr, h => (runOps D E ops fr h).map fun (fr', h') => (.normal, fr', h')
  | .seq a b, fr, h => match E a fr h with
    | some (.normal, fr', h') => E b fr' h'
    | r => r
  | .cond c a b, fr, h => match ev D fr c with
    | .bool true => E a fr h
    | .bool false => E b fr h
    | _ => none
  | .block id b, fr, h => match E b fr h with
    | some (.exit i, fr', h') => if i = id then some (.normal, fr', h') else some (.exit i, fr', h')
    | r => r
  | .loop b, fr, h => match E b fr h with
    | some (.normal, fr', h') => E (.loop b) fr' h'
    | r => r
  | .range f ps asg body, fr, h => rangeD D E f ps asg body fr h
  | .exit id, fr, h => some (.exit id, fr, h)
  | .ret, fr, h => some (.ret, fr, h)
end
def exec (D : DProg) : Nat → Ex
  | 0 => fun _ _ _ => none
  | n + 1 => stepD D (exec D n)
def run (D : DProg) (n : Nat) (f : Nat) (args : List DV) (h : Heap) : Option (DV × Heap) := callD D (exec D n) f args h
end Go.Dm
/- The D-machine (2): from the model's code to ours, types looked up once. -/
namespace Go.Dm
set_option linter.unusedSimpArgs false
set_option linter.unusedVariables false
set_option linter.unnecessarySimpa false

def ofVal1 : Value → Option DV
  | .bool b => some (.bool b)
  | .int k n => some (.int k n)
  | .string s => some (.str s.data.toList)
  | .pointer none => some .nilp
  | .slice none 0 0 => some (.lst 0 0 [])
  | .nilFunc => some .nilfn
  | _ => none
def ofVals : List Value → Option (List DV)
  | [] => some []
  | v :: r => match ofVal1 v, ofVals r with
    | some d, some ds => some (d :: ds)
    | _, _ => none
def ofVal : Value → Option DV
  | .agg cs => (ofVals cs.toList).map .agg
  | v => ofVal1 v
def opd : Operand → Option Opd
  | .tmp t => some (.t t)
  | .const v => (ofVal v).map .c
  | .global g => some (.g g)
  | .func f => some (.f f)
def opds : List Operand → Option (List Opd)
  | [] => some []
  | x :: r => match opd x, opds r with
    | some y, some ys => some (y :: ys)
    | _, _ => none
def opdO : Option Operand → Option (Option Opd)
  | none => some none
  | some x => (opd x).map some

structure Cfg where
  mutTy : TypeId → Bool
  mutFn : FuncId → Bool

def shapeOf (P : Program) (t : TypeId) : Option Shape :=
  match P.info? t, P.underlying t with
  | some i, some (.struct _) => if i.size = 0 then none else some (some i.size)
  | some i, some (.array _ _) => if i.size = 0 then none else some (some i.size)
  | some i, some _ => if i.size = 1 then some none else none
  | _, _ => none
def zeroOf (P : Program) (t : TypeId) : Option DV := ((P.info? t).bind (·.zero)).bind ofVal
def sizeOfT (P : Program) (t : TypeId) : Option Nat := (P.info? t).map (·.size)

def partsS (P : Program) (fs : Array Field) : List (Nat × Operand) → Option (List (Nat × Nat × Opd))
  | [] => some []
  | (i, x) :: r => match fs[i]?, opd x, partsS P fs r with
    | some f, some y, some ys => (sizeOfT P f.type).map fun n => (f.offset, n, y) :: ys
    | _, _, _ => none
def partsL : List (Nat × Operand) → Option (List (Nat × Opd))
  | [] => some []
  | (i, x) :: r => match opd x, partsL r with
    | some y, some ys => some ((i, y) :: ys)
    | _, _ => none
def scalarK (P : Program) (t : TypeId) : Option SK :=
  match P.underlying t with
  | some .bool => some .bool
  | some (.int _) => some .int
  | some .string => some .str
  | _ => none
def fieldKs (P : Program) : Nat → List Field → Option (List SK)
  | _, [] => some []
  | off, f :: r => if f.name != "_" && f.offset == off then
      match scalarK P f.type, shapeOf P f.type, fieldKs P (off + 1) r with
      | some k, some none, some ks => some (k :: ks)
      | _, _, _ => none
    else none
/-- How '==' goes at a type. -/
def eqKind (P : Program) (t : TypeId) : Option EqK :=
  match P.underlying t with
  | some .bool => some .bool
  | some (.int _) | some .string => some .any
  | some (.func _ _ _) => some .fn
  | some (.pointer _) => some .ptr
  | some (.slice _) => some .sl
  | some (.struct fs) => if P.eqGuardType P.depth t = false ∧ P.stoodInHeld t = false then (fieldKs P 0 fs.toList).map .st else none
  | _ => none

def compCall (P : Program) (cfg : Cfg) (mf : Bool) (c : Call) : Option DOp :=
  match c.callee with
  | .value f => match opd f, opds c.args.toList with
    | some g, some az => some (.call g az (match f with | .func k => cfg.mutFn k && !mf | _ => false))
    | _, _ => none
  | .invoke _ _ => none
  | .builtin b => match b, c.args.toList, c.argTypes.toList with
    | .len, [x], [t] => match P.underlying t with
      | some .string => (opd x).map (.len false)
      | some (.slice _) => (opd x).map (.len true)
      | some (.array n _) => some (.mv (.c (.int .i64 n)))
      | _ => none
    | .append, [x, y], [t, u] => match P.underlying t, opd x, opd y with
      | some (.slice e), some x, some y => match shapeOf P e, P.info? e, zeroOf P e, P.underlying u with
        | some sh, some i, some z, some (.slice e') => if e' = e ∧ z.cells.length = sh.size then some (.append (mf || cfg.mutTy e) sh i.bytes x y) else none
        | some none, some i, some z, some .string => if z.cells.length = 1 then some (.append (mf || cfg.mutTy e) none i.bytes x y) else none
        | _, _, _, _ => none
      | _, _, _ => none
    | .copy, [x, y], [t, u] => match P.underlying t, opd x, opd y with
      | some (.slice e), some x, some y => match shapeOf P e, P.underlying u with
        | some sh, some (.slice e') => if e' = e then some (.copy sh x y) else none
        | _, _ => none
      | _, _, _ => none
    | .min, [x, y], _ => match opd x, opd y with
      | some x, some y => some (.minmax false x y)
      | _, _ => none
    | .max, [x, y], _ => match opd x, opd y with
      | some x, some y => some (.minmax true x y)
      | _, _ => none
    | .clear, [x], [t] => match P.underlying t, opd x with
      | some (.slice e), some x => match shapeOf P e, zeroOf P e with
        | some sh, some z => if z.cells.length = sh.size ∧ z.okv = true then some (.clear z.cells x) else none
        | _, _ => none
      | _, _ => none
    | _, _, _ => none

def compOp (P : Program) (cfg : Cfg) (mf : Bool) (op : Op) : Option DOp :=
  match op with
  | .move x => (opd x).map .mv
  | .assign x => (opd x).map .mv
  | .pick c a b => match opd c, opd a, opd b with
    | some c, some a, some b => some (.pick c a b)
    | _, _, _ => none
  | .alloc t => (zeroOf P t).bind fun z => if z.okv then some (.alloc z.cells none) else none
  | .box t x => match opd x, sizeOfT P t with
    | some x, some n => some (.box x n)
    | _, _ => none
  | .build t parts => match P.underlying t, zeroOf P t with
    | some (.struct fs), some z => match z, partsS P fs parts.toList with
      | .agg cs, some ps => if fs.all (fun f => (P.info? f.type).isSome) then some (.build cs ps) else none
      | _, _ => none
    | _, _ => none
  | .buildSlice t len parts => match P.underlying t with
    | some (.slice e) => match shapeOf P e, zeroOf P e, partsL parts.toList with
      | some sh, some z, some ps => if z.cells.length = sh.size ∧ z.okv = true then some (.mks (mf || cfg.mutTy e) sh z len ps) else none
      | _, _, _ => none
    | _ => none
  | .load t a => match shapeOf P t, opd a with
    | some sh, some a => some (.load sh a)
    | _, _ => none
  | .store t a x => match shapeOf P t, opd a, opd x with
    | some sh, some a, some x => some (.store sh.size a x)
    | _, _, _ => none
  | .nilCheck x => (opd x).map .nilc
  | .binOp op t x y _ => match opd x, opd y with
    | some x, some y => if (op matches .eql | .neq) then (eqKind P t).map fun k => .bin op k x y else some (.bin op .any x y)
    | _, _ => none
  | .unOp op _ x => (opd x).map (.un op)
  | .convert s d x => match P.underlying s, P.underlying d, opd x with
    | some (.int _), some (.int k), some x => some (.conv (.int k) false x)
    | some .string, some .string, some x => some (.conv .same false x)
    | some .string, some (.slice e), some x => match P.underlying e, P.info? e with
      | some (.int .u8), some _ => some (.conv .strBytes (mf || cfg.mutTy e) x)
      | _, _ => none
    | some (.slice e), some .string, some x => match P.underlying e with
      | some (.int .u8) => some (.conv .bytesStr (mf || cfg.mutTy e) x)
      | some (.int .i32) => some (.conv .runesStr false x)
      | _ => none
    | some (.int _), some .string, some x => some (.conv .intStr false x)
    | some (.slice e), some (.slice _), some x => match P.underlying e with
      | some (.int .u8) => if s = d then some (.conv .sameB false x) else none
      | _ => none
    | _, _, _ => none
  | .makeFunc fn first caps => match fn, opds first.toList, opds caps.toList with
    | .func f, some a, some b => some (.mkfn (.func f) a b)
    | _, _, _ => none
  | .makeSlice t len cap => match P.underlying t, opd len, opd cap with
    | some (.slice e), some len, some cap => match shapeOf P e, zeroOf P e, P.info? e with
      | some sh, some z, some i => if z.cells.length = sh.size ∧ z.okv = true then some (.mkslice (mf || cfg.mutTy e) sh z i.bytes len cap) else none
      | _, _, _ => none
    | _, _, _ => none
  | .slice t x lo hi mx => match P.underlying t, opd x, opdO lo, opdO hi, opdO mx with
    | some .string, some x, some lo, some hi, some none => some (.sliceStr x lo hi)
    | some (.slice e), some x, some lo, some hi, some mx => (sizeOfT P e).map fun n => .slice n x lo hi mx
    | _, _, _, _, _ => none
  | .fieldAddr s x f => match P.underlying s, opd x with
    | some (.struct fs), some x => match fs[f]? with
      | some fd => match sizeOfT P fd.type with
        | some (_ + 1) => some (.faddr fd.offset x)
        | _ => none
      | none => none
    | _, _ => none
  | .field s x f => match P.underlying s, opd x with
    | some (.struct fs), some x => match fs[f]? with
      | some fd => (shapeOf P fd.type).map fun sh => .field fd.offset sh x
      | none => none
    | _, _ => none
  | .indexAddr t x i => match P.underlying t, opd x, opd i with
    | some (.slice e), some x, some i => (sizeOfT P e).map fun n => .iaddr n x i
    | some (.array len e), some x, some i => (sizeOfT P e).map fun n => .iaddrArr n len x i
    | _, _, _ => none
  | .index t x i => match P.underlying t, opd x, opd i with
    | some .string, some x, some i => some (.idxStr x i)
    | some (.array len e), some x, some i => (shapeOf P e).map fun sh => .idxArr sh len x i
    | _, _, _ => none
  | .extract x i => (opd x).map fun x => .extract x i
  | .range t x => match P.underlying t, opd x with
    | some .string, some x => some (.range x)
    | _, _ => none
  | .next x true => (opd x).map .next
  | .call c => compCall P cfg mf c
  | .defer c => match c.callee with
    | .value f => match opd f, opds c.args.toList with
      | some g, some az => some (.defr g az)
      | _, _ => none
    | _ => none
  | _ => none

def compRop (P : Program) (cfg : Cfg) (mf : Bool) (ops : Array Oper) (o : Oper) : Option ROp :=
  match compOp P cfg mf o.op with
  | some op => match o.guard with
    | none => some { dst := o.dst, op, guard := none, chk := [] }
    | some (j, b) => match (ops[j]?).bind (·.dst) with
      | some d => some { dst := o.dst, op, guard := some (d, b), chk := [] }
      | none => none
  | none => none
def compRops (P : Program) (cfg : Cfg) (mf : Bool) (ops : Array Oper) : List Oper → Option (List ROp)
  | [] => some []
  | o :: r => match compRop P cfg mf ops o, compRops P cfg mf ops r with
    | some x, some xs => some (x :: xs)
    | _, _ => none

/-- An order in which nothing that turns the heap comes ahead of what may come ahead of it. -/
def canonGo (ops : Array Oper) (eff : Nat → Bool) : Nat → List Nat → List Nat
  | 0, acc => acc.reverse
  | k + 1, acc =>
    let rs := (List.range ops.size).filter fun i => !acc.contains i && ((ops[i]?).map (·.after.all fun e => !Region.binds .any e || acc.contains e.on)).getD false
    match rs.find? (fun i => !eff i) with
    | some i => canonGo ops eff k (i :: acc)
    | none => match rs with
      | i :: _ => canonGo ops eff k (i :: acc)
      | [] => acc.reverse

def Opd.slot? : Opd → Option Nat
  | .t n => some n
  | _ => none
/-- What an operation looks at. -/
def DOp.opds : DOp → List Opd
  | .mv x => [x]
  | .pick c a b => [c, a, b]
  | .alloc _ _ => []
  | .box x _ => [x]
  | .build _ ps => ps.map (·.2.2)
  | .mks _ _ _ _ ps => ps.map (·.2)
  | .load _ a => [a]
  | .store _ a x => [a, x]
  | .nilc x => [x]
  | .bin _ _ x y => [x, y]
  | .un _ x => [x]
  | .conv _ _ x => [x]
  | .mkfn _ a b => a ++ b
  | .mkslice _ _ _ _ x y => [x, y]
  | .sliceStr x lo hi => x :: lo.toList ++ hi.toList
  | .slice _ x lo hi mx => x :: lo.toList ++ hi.toList ++ mx.toList
  | .faddr _ x => [x]
  | .field _ _ x => [x]
  | .iaddr _ x i => [x, i]
  | .iaddrArr _ _ x i => [x, i]
  | .idxStr x i => [x, i]
  | .idxArr _ _ x i => [x, i]
  | .extract x _ => [x]
  | .range x => [x]
  | .next x => [x]
  | .call f args _ => f :: args
  | .len _ x => [x]
  | .append _ _ _ x y => [x, y]
  | .copy _ x y => [x, y]
  | .minmax _ x y => [x, y]
  | .clear _ x => [x]
  | .defr f args => f :: args
def ROp.slots (r : ROp) : List Nat := r.dst.toList ++ r.op.opds.filterMap Opd.slot? ++ (r.guard.map (·.1)).toList
def ROp.load? (r : ROp) : Option (Opd × Shape × Nat × Option (Nat × Bool)) :=
  match r.op, r.dst with
  | .load sh a, some d => some (a, sh, d, r.guard)
  | _, _ => none
/-- A load that may be looked at again. -/
def loadOk (r : ROp) : Bool := match r.op with
  | .load _ a => match r.dst with
    | some d => decide (a.slot? ≠ some d) && decide (r.guard.map (·.1) ≠ some d)
    | none => false
  | _ => true
def isDefr (r : ROp) : Bool := match r.op with | .defr .. => true | _ => false
def writesIn (d : Option Nat) (l : List Nat) : Bool := match d with
  | some t => l.contains t
  | none => false
section
variable (rs : Array ROp) (bef : Array Nat)
/-- i ahead of j, by the program's order. -/
def ordered (i j : Nat) : Bool := (bef.getD j 0).testBit i
def slotConf (a b : ROp) : Bool := writesIn a.dst b.slots || writesIn b.dst a.slots
/-- Of the operation at i and a later one at j, in our order. -/
def pairOk (i j : Nat) : Bool :=
  !ordered bef j i && match rs[i]?, rs[j]? with
    | some a, some b => !(a.op.effect || slotConf a b) || ordered bef i j
    | _, _ => false
def pairsOk : List Nat → Bool
  | [] => true
  | i :: r => r.all (pairOk rs bef i) && pairsOk r
/-- The loads ahead of j that may az well come behind it; 'ws': what is written between. -/
def chkOf (j : Nat) : List Nat → List Nat → Option (List (Opd × Shape × Nat × Option (Nat × Bool)))
  | _, [] => some []
  | ws, i :: r => match rs[i]? with
    | some a => match chkOf j (a.dst.toList ++ ws) r with
      | some l => match a.load? with
        | some e => if ordered bef i j then some l else if ws.any (fun t => a.slots.contains t) then none else some (e :: l)
        | none => some l
      | none => none
    | none => none
/-- The operations in our order, each with the loads that must be looked at again behind it; 'done': those that are laid, the last first. -/
def lay : List Nat → List Nat → Option (List ROp)
  | _, [] => some []
  | done, j :: r => match rs[j]? with
    | some o => match (if o.op.effect then chkOf rs bef j o.dst.toList done else some []), lay (j :: done) r with
      | some k, some os => some ({ o with chk := k } :: os)
      | _, _ => none
    | none => none
end
def edgesOk (ops : Array Oper) : Bool := ops.toList.zipIdx.all fun (o, i) => o.after.all fun e => !Region.binds .any e || decide (e.on < i)
def effAt (rs : Array ROp) (i : Nat) : Bool := ((rs[i]?).map (·.op.effect)).getD true
def compRegion (P : Program) (cfg : Cfg) (mf : Bool) (ops : Array Oper) (draw : Bool) : Option (List ROp) :=
  match compRops P cfg mf ops ops.toList with
  | some rs =>
    if draw = false then some rs else
    let ra := rs.toArray
    let κ := canonGo ops (effAt ra) ops.size []
    let bef := Region.before ops
    if κ.length = ops.size ∧ κ.all (fun i => decide (i < ops.size)) = true ∧ (List.range ops.size).all (fun i => κ.contains i) = true ∧ κ.Nodup ∧ pairsOk ra bef κ = true ∧ edgesOk ops = true ∧ (rs.all fun r => !isDefr r && loadOk r) = true then lay ra bef [] κ else none
  | none => none

def compC (P : Program) (cfg : Cfg) (mf : Bool) : Code → Option DC
  | .skip => some .skip
  | .region _ ops draw => match compRegion P cfg mf ops draw with
    | some rs => some (.region rs)
    | none => some (.loop .skip)   -- what is not taken: it never ends here, and so says nothing
  | .seq a b => match compC P cfg mf a, compC P cfg mf b with
    | some x, some y => some (.seq x y)
    | _, _ => none
  | .cond c a b => match opd c, compC P cfg mf a, compC P cfg mf b with
    | some c, some x, some y => some (.cond c x y)
    | _, _, _ => none
  | .block id b => (compC P cfg mf b).map (.block id)
  | .loop b => (compC P cfg mf b).map .loop
  | .rangeFunc f ps a b => match opd f, compC P cfg mf a, compC P cfg mf b with
    | some f, some x, some y => some (.range f ps.toList x y)
    | _, _, _ => none
  | .exit id => some (.exit id)
  | .ret => some .ret
  | _ => none
def compRes (P : Program) : List ResultVar → Option (List DRes)
  | [] => some []
  | .tmp t :: r => (compRes P r).map (.tmp t :: ·)
  | .cell t ty :: r => match shapeOf P ty, compRes P r with
    | some sh, some xs => some (.cell t sh :: xs)
    | _, _ => none
def compF (P : Program) (cfg : Cfg) (f : FuncId) : Option DFunc :=
  match P.funcs[f]? with
  | some fn => if fn.name == "runtime.NumGoroutine" then none else match fn.body with
    | some c => match compC P cfg (cfg.mutFn f) c, compRes P fn.results.toList with
      | some b, some rs => some { nt := fn.ntmps, body := b, res := rs }
      | _, _ => none
    | none => none
  | none => none
end Go.Dm
/- The D-machine (42): code az numbers, two digits a sign. -/
namespace Go.Dm.Nu
/-- A sign, and the rest. -/
def sg (n : Nat) : Nat × Nat := (n % 100, n / 100)
def digs : Nat → Nat → Nat × Nat
  | 0, n => (0, n)
  | k + 1, n => match sg n with | (d, n) => match digs k n with | (r, n) => (r * 100 + d, n)
/-- A number: below 99 one sign; else 99, how many signs, these. -/
def nu (n : Nat) : Nat × Nat := match sg n with
  | (99, n) => match sg n with | (k, n) => digs k n
  | r => r
def many {α : Type} (f : Nat → α × Nat) : Nat → Nat → List α × Nat
  | 0, n => ([], n)
  | k + 1, n => match f n with | (a, n) => match many f k n with | (r, n) => (a :: r, n)
def lst {α : Type} (f : Nat → α × Nat) (n : Nat) : List α × Nat := match nu n with | (k, n) => many f k n
def bl (n : Nat) : Bool × Nat := match sg n with | (k, n) => (k == 1, n)
def kd (n : Nat) : IntKind × Nat := match sg n with | (k, n) => (match k with | 0 => .i8 | 1 => .i16 | 2 => .i32 | 3 => .i64 | 4 => .u8 | 5 => .u16 | 6 => .u32 | _ => .u64, n)
def it (n : Nat) : Int × Nat := match sg n with
  | (0, n) => match nu n with | (k, n) => (Int.ofNat k, n)
  | (_, n) => match nu n with | (k, n) => (Int.negSucc k, n)
def by8 (n : Nat) : UInt8 × Nat := match nu n with | (k, n) => (UInt8.ofNat k, n)
def fn (n : Nat) : Fn × Nat := match nu n with | (k, n) => (.func k, n)
def dv : Nat → Nat → DV × Nat
  | 0, n => (.undef, n)
  | f + 1, n => match sg n with
    | (0, n) => match bl n with | (b, n) => (.bool b, n)
    | (1, n) => match nu n with | (k, n) => (.int .i64 (Int.ofNat k), n)
    | (2, n) => match kd n with | (k, n) => match it n with | (i, n) => (.int k i, n)
    | (3, n) => match lst by8 n with | (s, n) => (.str s, n)
    | (4, n) => (.nilp, n)
    | (5, n) => (.lst 0 0 [], n)
    | (6, n) => (.nilfn, n)
    | (7, n) => match lst (dv f) n with | (l, n) => (.agg l, n)
    | (8, n) => match lst (dv f) n with | (l, n) => (.tup l, n)
    | (_, n) => (.undef, n)
def op (n : Nat) : Opd × Nat := match sg n with
  | (97, n) => match dv 9 n with | (v, n) => (.c v, n)
  | (96, n) => match nu n with | (k, n) => (.g k, n)
  | (95, n) => match nu n with | (k, n) => (.f k, n)
  | (99, n) => match sg n with | (k, n) => match digs k n with | (m, n) => (.t m, n)
  | (k, n) => (.t k, n)
def sh (n : Nat) : Shape × Nat := match nu n with
  | (0, n) => (none, n)
  | (k + 1, n) => (some k, n)
def opt {α : Type} (f : Nat → α × Nat) (n : Nat) : Option α × Nat := match sg n with
  | (0, n) => (none, n)
  | (_, n) => match f n with | (a, n) => (some a, n)
def bo (n : Nat) : BinOp × Nat := match sg n with | (k, n) => (match k with | 0 => .add | 1 => .sub | 2 => .mul | 3 => .quo | 4 => .rem | 5 => .and | 6 => .or | 7 => .xor | 8 => .andNot | 9 => .shl | 10 => .shr | 11 => .eql | 12 => .neq | 13 => .lss | 14 => .leq | 15 => .gtr | _ => .geq, n)
def sk (n : Nat) : SK × Nat := match sg n with | (k, n) => (match k with | 0 => .int | 1 => .bool | _ => .str, n)
def ek (n : Nat) : EqK × Nat := match sg n with
  | (0, n) => (.any, n)
  | (1, n) => (.bool, n)
  | (2, n) => (.fn, n)
  | (3, n) => (.ptr, n)
  | (4, n) => (.sl, n)
  | (_, n) => match lst sk n with | (l, n) => (.st l, n)
def p2 (n : Nat) : (Nat × Opd) × Nat := match nu n with | (a, n) => match op n with | (x, n) => ((a, x), n)
def p3 (n : Nat) : (Nat × Nat × Opd) × Nat := match nu n with | (a, n) => match nu n with | (b, n) => match op n with | (x, n) => ((a, b, x), n)
def o1 {α : Type} (f : Opd → α) (n : Nat) : α × Nat := match op n with | (x, n) => (f x, n)
def o2 {α : Type} (f : Opd → Opd → α) (n : Nat) : α × Nat := match op n with | (x, n) => match op n with | (y, n) => (f x y, n)
def dop (n : Nat) : DOp × Nat := match sg n with
  | (0, n) => o1 .mv n
  | (1, n) => match op n with | (x, n) => o2 (.pick x) n
  | (2, n) => match lst (dv 9) n with | (z, n) => match sh n with | (s, n) => (.alloc z s, n)
  | (3, n) => match op n with | (x, n) => match nu n with | (k, n) => (.box x k, n)
  | (4, n) => match lst (dv 9) n with | (z, n) => match lst p3 n with | (ps, n) => (.build z ps, n)
  | (5, n) => match bl n with | (m, n) => match sh n with | (s, n) => match dv 9 n with | (z, n) => match nu n with | (k, n) => match lst p2 n with | (ps, n) => (.mks m s z k ps, n)
  | (6, n) => match sh n with | (s, n) => o1 (.load s) n
  | (7, n) => match nu n with | (k, n) => o2 (.store k) n
  | (8, n) => o1 .nilc n
  | (9, n) => match bo n with | (b, n) => match ek n with | (k, n) => o2 (.bin b k) n
  | (10, n) => match sg n with | (k, n) => o1 (.un (match k with | 0 => .neg | 1 => .not | _ => .xor)) n
  | (11, n) => match sg n with | (c, n) => match kd n with | (k, n) => match bl n with | (m, n) => o1 (.conv (match c with | 0 => .int k | 1 => .same | 2 => .sameB | 3 => .strBytes | 4 => .bytesStr | 5 => .runesStr | 6 => .strRunes | _ => .intStr) m) n
  | (12, n) => match fn n with | (f, n) => match lst op n with | (a, n) => match lst op n with | (b, n) => (.mkfn f a b, n)
  | (13, n) => match bl n with | (m, n) => match sh n with | (s, n) => match dv 9 n with | (z, n) => match nu n with | (b, n) => o2 (.mkslice m s z b) n
  | (14, n) => match op n with | (x, n) => match opt op n with | (a, n) => match opt op n with | (b, n) => (.sliceStr x a b, n)
  | (15, n) => match nu n with | (k, n) => match op n with | (x, n) => match opt op n with | (a, n) => match opt op n with | (b, n) => match opt op n with | (c, n) => (.slice k x a b c, n)
  | (16, n) => match nu n with | (k, n) => o1 (.faddr k) n
  | (17, n) => match nu n with | (k, n) => match sh n with | (s, n) => o1 (.field k s) n
  | (18, n) => match nu n with | (k, n) => o2 (.iaddr k) n
  | (19, n) => match nu n with | (k, n) => match nu n with | (l, n) => o2 (.iaddrArr k l) n
  | (20, n) => o2 .idxStr n
  | (21, n) => match sh n with | (s, n) => match nu n with | (l, n) => o2 (.idxArr s l) n
  | (22, n) => match op n with | (x, n) => match nu n with | (k, n) => (.extract x k, n)
  | (23, n) => o1 .range n
  | (24, n) => o1 .next n
  | (25, n) => match op n with | (f, n) => match lst op n with | (a, n) => match bl n with | (z, n) => (.call f a z, n)
  | (26, n) => match bl n with | (s, n) => o1 (.len s) n
  | (27, n) => match bl n with | (m, n) => match sh n with | (s, n) => match nu n with | (b, n) => o2 (.append m s b) n
  | (28, n) => match sh n with | (s, n) => o2 (.copy s) n
  | (29, n) => match bl n with | (m, n) => o2 (.minmax m) n
  | (30, n) => match lst (dv 9) n with | (z, n) => o1 (.clear z) n
  | (_, n) => match op n with | (f, n) => match lst op n with | (a, n) => (.defr f a, n)
def gd (n : Nat) : (Nat × Bool) × Nat := match nu n with | (t, n) => match bl n with | (b, n) => ((t, b), n)
def ck (n : Nat) : (Opd × Shape × Nat × Option (Nat × Bool)) × Nat := match op n with | (x, n) => match sh n with | (s, n) => match nu n with | (t, n) => match opt gd n with | (g, n) => ((x, s, t, g), n)
/-- An operation: how its place is told, then itself. -/
def rop (n : Nat) : ROp × Nat := match sg n with
  | (0, n) => match nu n with | (d, n) => match dop n with | (o, n) => (⟨some d, o, none, []⟩, n)
  | (1, n) => match nu n with | (d, n) => match op n with | (x, n) => (⟨some d, .mv x, none, []⟩, n)
  | (2, n) => match nu n with | (d, n) => match dop n with | (o, n) => match gd n with | (g, n) => (⟨some d, o, some g, []⟩, n)
  | (3, n) => match dop n with | (o, n) => (⟨none, o, none, []⟩, n)
  | (_, n) => match opt nu n with | (d, n) => match dop n with | (o, n) => match opt gd n with | (g, n) => match lst ck n with | (c, n) => (⟨d, o, g, c⟩, n)
/-- A region: read where it is reached. -/
@[cbv_opaque] def rg (r : Nat) : List ROp := (lst rop r).1
theorem rg_eq {r : Nat} : rg r = (lst rop r).1 := rfl
attribute [irreducible] rg
def dc : Nat → Nat → List Nat → DC × Nat × List Nat
  | 0, n, l => (.skip, n, l)
  | f + 1, n, l => match sg n with
    | (0, n) => (.skip, n, l)
    | (1, n) => match l with
      | [] => (.skip, n, [])
      | r :: l => (.region (rg r), n, l)
    | (2, n) => match dc f n l with | (a, n, l) => match dc f n l with | (b, n, l) => (.seq a b, n, l)
    | (3, n) => match op n with | (c, n) => match dc f n l with | (a, n, l) => match dc f n l with | (b, n, l) => (.cond c a b, n, l)
    | (4, n) => match nu n with | (k, n) => match dc f n l with | (b, n, l) => (.block k b, n, l)
    | (5, n) => match dc f n l with | (b, n, l) => (.loop b, n, l)
    | (6, n) => match op n with | (x, n) => match lst nu n with | (p, n) => match dc f n l with | (a, n, l) => match dc f n l with | (b, n, l) => (.range x p a b, n, l)
    | (7, n) => match nu n with | (k, n) => (.exit k, n, l)
    | (_, n) => (.ret, n, l)
def rs (n : Nat) : DRes × Nat := match sg n with
  | (0, n) => match nu n with | (t, n) => (.tmp t, n)
  | (_, n) => match nu n with | (t, n) => match sh n with | (s, n) => (.cell t s, n)
/-- A function: its frame, and its regions, each a number. -/
def df : List Nat → DFunc
  | [] => ⟨0, .skip, []⟩
  | n :: l => match nu n with | (t, n) => match dc 200 n l with | (b, n, _) => match lst rs n with | (r, _) => ⟨t, b, r⟩
end Go.Dm.Nu
namespace Go.Dm
/-- Functions by their numbers, each az a number. -/
inductive NT where
  | nil
  | node (l : NT) (k : Nat) (v : List Nat) (r : NT)
namespace NT
def get : NT → Nat → Option (List Nat)
  | .nil, _ => none
  | .node l k v r, f => match Nat.beq f k with
    | true => some v
    | false => match Nat.ble f k with
      | true => l.get f
      | false => r.get f
def list : NT → List (Nat × List Nat)
  | .nil => []
  | .node l k v r => l.list ++ (k, v) :: r.list
theorem mem : ∀ {t : NT} {f : Nat} {v : List Nat}, t.get f = some v → (f, v) ∈ t.list
  | .nil, _, _, h => by cases h
  | .node l k v r, f, w, h => by
    simp only [get] at h
    simp only [list, List.mem_append, List.mem_cons]
    cases hb : Nat.beq f k with
    | true => rw [hb] at h; have := Nat.eq_of_beq_eq_true hb; subst this; cases h; exact .inr (.inl rfl)
    | false =>
      rw [hb] at h
      cases hl : Nat.ble f k with
      | true => rw [hl] at h; exact .inl (mem h)
      | false => rw [hl] at h; exact .inr (.inr (mem h))
/-- They are what the program's own compile to. -/
def Ok (P : Program) (cfg : Cfg) (t : NT) : Prop := ∀ p ∈ t.list, compF P cfg p.1 = some (Nu.df p.2)
theorem Ok.of {P : Program} {cfg : Cfg} {t : NT} (h : t.list.map (fun p => compF P cfg p.1) = t.list.map (fun p => some (Nu.df p.2))) : t.Ok P cfg := by
  unfold Ok
  generalize t.list = l at h
  induction l with
  | nil => intro p hp; cases hp
  | cons x l ih =>
    simp only [List.map_cons, List.cons.injEq] at h
    intro p hp
    rcases List.mem_cons.1 hp with rfl | hp
    · exact h.1
    · exact ih h.2 p hp
theorem Ok.node {P : Program} {cfg : Cfg} {l r : NT} {k : Nat} {v : List Nat} (hl : l.Ok P cfg) (h : compF P cfg k = some (Nu.df v)) (hr : r.Ok P cfg) : (NT.node l k v r).Ok P cfg := fun p hp => by
  simp only [list, List.mem_append, List.mem_cons] at hp
  rcases hp with hp | rfl | hp
  · exact hl p hp
  · exact h
  · exact hr p hp
theorem Ok.get {P : Program} {cfg : Cfg} {t : NT} (h : t.Ok P cfg) {f : Nat} {d : DFunc} (hg : (t.get f).map Nu.df = some d) : compF P cfg f = some d := by
  obtain ⟨v, h1, rfl⟩ := Option.map_eq_some_iff.1 hg
  exact h _ (mem h1)
end NT
end Go.Dm
