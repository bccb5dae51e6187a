/- What the text, chars, token and lex layers compute, as plain functions (no program in sight). -/
namespace Go.Md
set_option linter.unusedVariables false

/-! ### text -/
def blank (r : Int) : Bool := r == 9 || r == 10 || r == 12 || r == 13 || r == 32
def letter (r : Int) : Bool := (decide (r ≥ 97) && decide (r ≤ 122)) || (decide (r ≥ 65) && decide (r ≤ 90))
def digit (r : Int) : Bool := decide (r ≥ 48) && decide (r ≤ 57)
def hex (r : Int) : Int := if 48 ≤ r ∧ r ≤ 57 then r - 48 else if 97 ≤ r ∧ r ≤ 102 then r - 87 else if 65 ≤ r ∧ r ≤ 70 then r - 55 else -1
def small (r : Int) : Int := if 65 ≤ r ∧ r ≤ 90 then r + 32 else r
def need (b : Nat) : Nat × Nat × Nat :=
  if 0xc2 ≤ b ∧ b ≤ 0xdf then (1, 0x80, 0xbf)
  else if b = 0xe0 then (2, 0xa0, 0xbf)
  else if b = 0xed then (2, 0x80, 0x9f)
  else if 0xe1 ≤ b ∧ b ≤ 0xef then (2, 0x80, 0xbf)
  else if b = 0xf0 then (3, 0x90, 0xbf)
  else if 0xf1 ≤ b ∧ b ≤ 0xf3 then (3, 0x80, 0xbf)
  else if b = 0xf4 then (3, 0x80, 0x8f)
  else (0, 0, 0)
/-- The bytes that follow a first one: 'k' are wanted, the first of them from lo to hi. -/
def oneGo : Nat → List UInt8 → Nat → Int → Nat → Nat → Int × Nat
  | 0, _, i, r, _, _ => (r, i)
  | _ + 1, [], i, _, _, _ => (65533, i)
  | k + 1, c :: rest, i, r, lo, hi => if c.toNat < lo ∨ hi < c.toNat then (65533, i) else oneGo k rest (i + 1) (r * 64 + (c.toNat % 64 : Nat)) 0x80 0xbf
def one : List UInt8 → Int × Nat
  | [] => (0, 0)
  | b :: rest => if b.toNat < 0x80 then (b.toNat, 1) else
    let n := (need b.toNat).1
    if n = 0 then (65533, 1) else oneGo n rest 1 (b.toNat % (64 / 2 ^ n) : Nat) (need b.toNat).2.1 (need b.toNat).2.2
/-- The signs that bytes are; 'fuel' bytes at most. -/
def signs : Nat → List UInt8 → List Int
  | 0, _ => []
  | _ + 1, [] => []
  | f + 1, b => (one b).1 :: signs f (b.drop (one b).2)
/-- Ends of lines as one sign. -/
def lines : Int → List Int → List Int
  | _, [] => []
  | last, r :: rs => if r = 13 then 10 :: lines r rs else if r = 10 ∧ last = 13 then lines r rs else r :: lines r rs
def unmark (b : List UInt8) : List UInt8 := match b with
  | 0xef :: 0xbb :: 0xbf :: r => r
  | _ => b
def decode (b : List UInt8) : List Int := lines 0 (signs (unmark b).length (unmark b))
def byteN (n : Nat) : UInt8 := UInt8.ofNat n
/-- A sign as bytes. -/
def putR (r : Int) : List UInt8 :=
  let n := if r < 0 ∨ r > 0x10ffff ∨ (r ≥ 0xd800 ∧ r ≤ 0xdfff) then 0xfffd else r.toNat
  if n < 0x80 then [byteN n]
  else if n < 0x800 then [byteN (0xc0 + n / 64), byteN (0x80 + n % 64)]
  else if n < 0x10000 then [byteN (0xe0 + n / 4096), byteN (0x80 + n / 64 % 64), byteN (0x80 + n % 64)]
  else [byteN (0xf0 + n / 262144), byteN (0x80 + n / 4096 % 64), byteN (0x80 + n / 64 % 64), byteN (0x80 + n % 64)]
def encode (rs : List Int) : List UInt8 := rs.flatMap putR

/-! ### chars -/
structure Entry where
  name : List UInt8
  sign : Int
  bare : Bool
  deriving Inhabited
/-- All names. -/
def table : List Entry := [
  ⟨[97, 109, 112], 38, true⟩,
  ⟨[108, 116], 60, true⟩,
  ⟨[103, 116], 62, true⟩,
  ⟨[113, 117, 111, 116], 34, true⟩,
  ⟨[65, 77, 80], 38, true⟩,
  ⟨[76, 84], 60, true⟩,
  ⟨[71, 84], 62, true⟩,
  ⟨[110, 98, 115, 112], 160, true⟩,
  ⟨[105, 101, 120, 99, 108], 161, true⟩,
  ⟨[99, 101, 110, 116], 162, true⟩,
  ⟨[112, 111, 117, 110, 100], 163, true⟩,
  ⟨[121, 101, 110], 165, true⟩,
  ⟨[115, 101, 99, 116], 167, true⟩,
  ⟨[99, 111, 112, 121], 169, true⟩,
  ⟨[108, 97, 113, 117, 111], 171, true⟩,
  ⟨[110, 111, 116], 172, true⟩,
  ⟨[115, 104, 121], 173, true⟩,
  ⟨[114, 101, 103], 174, true⟩,
  ⟨[100, 101, 103], 176, true⟩,
  ⟨[112, 108, 117, 115, 109, 110], 177, true⟩,
  ⟨[115, 117, 112, 50], 178, true⟩,
  ⟨[109, 105, 99, 114, 111], 181, true⟩,
  ⟨[112, 97, 114, 97], 182, true⟩,
  ⟨[109, 105, 100, 100, 111, 116], 183, true⟩,
  ⟨[114, 97, 113, 117, 111], 187, true⟩,
  ⟨[102, 114, 97, 99, 49, 50], 189, true⟩,
  ⟨[105, 113, 117, 101, 115, 116], 191, true⟩,
  ⟨[65, 117, 109, 108], 196, true⟩,
  ⟨[69, 97, 99, 117, 116, 101], 201, true⟩,
  ⟨[79, 117, 109, 108], 214, true⟩,
  ⟨[116, 105, 109, 101, 115], 215, true⟩,
  ⟨[85, 117, 109, 108], 220, true⟩,
  ⟨[115, 122, 108, 105, 103], 223, true⟩,
  ⟨[97, 103, 114, 97, 118, 101], 224, true⟩,
  ⟨[97, 117, 109, 108], 228, true⟩,
  ⟨[99, 99, 101, 100, 105, 108], 231, true⟩,
  ⟨[101, 97, 99, 117, 116, 101], 233, true⟩,
  ⟨[110, 116, 105, 108, 100, 101], 241, true⟩,
  ⟨[111, 117, 109, 108], 246, true⟩,
  ⟨[100, 105, 118, 105, 100, 101], 247, true⟩,
  ⟨[117, 117, 109, 108], 252, true⟩,
  ⟨[97, 112, 111, 115], 39, false⟩,
  ⟨[104, 101, 108, 108, 105, 112], 8230, false⟩,
  ⟨[109, 100, 97, 115, 104], 8212, false⟩,
  ⟨[110, 100, 97, 115, 104], 8211, false⟩,
  ⟨[101, 117, 114, 111], 8364, false⟩,
  ⟨[116, 114, 97, 100, 101], 8482, false⟩,
  ⟨[108, 97, 114, 114], 8592, false⟩,
  ⟨[114, 97, 114, 114], 8594, false⟩,
  ⟨[110, 111, 116, 105, 110], 8713, false⟩,
  ⟨[97, 108, 112, 104, 97], 945, false⟩,
  ⟨[111, 109, 101, 103, 97], 969, false⟩,
  ⟨[105, 110, 102, 105, 110], 8734, false⟩,
  ⟨[98, 117, 108, 108], 8226, false⟩,
  ⟨[108, 115, 113, 117, 111], 8216, false⟩,
  ⟨[114, 115, 113, 117, 111], 8217, false⟩,
  ⟨[108, 100, 113, 117, 111], 8220, false⟩,
  ⟨[114, 100, 113, 117, 111], 8221, false⟩,
  ⟨[110, 101], 8800, false⟩,
  ⟨[108, 101], 8804, false⟩,
  ⟨[110, 118, 108, 116], 60, false⟩]
def windows : List Int := [8364, 129, 8218, 402, 8222, 8230, 8224, 8225, 710, 8240, 352, 8249, 338, 141, 381, 143, 144, 8216, 8217, 8220, 8221, 8226, 8211, 8212, 732, 8482, 353, 8250, 339, 157, 382, 376]
def numeric (n : Int) : Int := if n ≤ 0 ∨ n > 1114111 ∨ (n ≥ 55296 ∧ n ≤ 57343) then 65533 else if n ≥ 128 ∧ n < 160 then windows.getD (n - 128).toNat 0 else n
/-- Digits in front: the number, at most 0x110000, and how many they are. -/
def number (base : Int) : List Int → Int → Nat → Int × Nat
  | [], n, k => (n, k)
  | r :: rs, n, k => if hex r < 0 ∨ hex r ≥ base then (n, k) else number base rs (min (n * base + hex r) 0x110000) (k + 1)
/-- A round of the look for the longest name. -/
def matchStep (runeBytes : List Int → List UInt8) (rs : List Int) (a : Int × Nat × Bool) (i : Nat) (e : Entry) : Int × Nat × Bool :=
  if e.name.length > rs.length ∨ runeBytes (rs.take e.name.length) ≠ e.name then a else
  let n := e.name.length
  let fin := decide (n < rs.length) && rs.getD n 0 == 59
  let n' := if fin then n + 1 else n
  if (fin || e.bare) && decide (n' > a.2.1) then (i, n', fin) else a
def matchAll (rb : List Int → List UInt8) (rs : List Int) : Int × Nat × Bool := (table.zipIdx).foldl (fun a p => matchStep rb rs a p.2 p.1) (-1, 0, false)
/-- The longest name with which signs begin: what it means, how many it takes, whether its end is there. -/
def matchT (rb : List Int → List UInt8) (rs : List Int) : List Int × Nat × Bool :=
  let a := matchAll rb rs
  if a.1 < 0 then ([], 0, false) else
  let e := table.getD a.1.toNat default
  (if e.name = [110, 118, 108, 116] then [e.sign, 8402] else [e.sign], a.2.1, a.2.2)
end Go.Md
