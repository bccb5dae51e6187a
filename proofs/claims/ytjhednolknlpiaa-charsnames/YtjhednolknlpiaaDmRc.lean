/- The D-machine (33): symbolic runs are runs. -/
import Derived.Test.YtjhednolknlpiaaDmRb
namespace Go.Dm
set_option linter.unusedSimpArgs false
set_option linter.unusedVariables false
set_option linter.unnecessarySimpa false

theorem wrap_i64_in {x : Int} (h : -9223372036854775808 ≤ x ∧ x ≤ 9223372036854775807) : IntKind.i64.wrap x = x := by rw [IntKind.wrap_i64]; omega
theorem wrap_i32_in {x : Int} (h : -2147483648 ≤ x ∧ x ≤ 2147483647) : IntKind.i32.wrap x = x := by rw [IntKind.wrap_i32]; omega
section
variable {D : DProg} {es : List En} {cs : List Ck} {A : List (Nat × Bool)} {p : Bool} {fr : Fr} {h : Heap}
abbrev Tags (fr : Fr) (A : List (Nat × Bool)) : Prop := ∀ t b, (t, b) ∈ A → fr.tmps.getD t .undef = .bool b
theorem Tags.nil : Tags fr [] := fun _ _ h => by cases h
theorem lo_ok (ha : Ag fr.tmps [] es) (hA : Tags fr A) {x : Opd} {v : DV} (hl : lo D es A x = some v) : ev D fr x = v := by
  cases x with
  | t n => exact lk_ok hA ha rfl hl
  | c w => exact Option.some.inj hl
  | g n =>
    simp only [lo] at hl
    simp only [ev]
    cases hg : D.glob n with
    | none => rw [hg] at hl; cases hl
    | some cs => rw [hg] at hl; simpa using hl
  | f n => exact Option.some.inj hl
theorem LoS.ok (ha : Ag fr.tmps [] es) (hA : Tags fr A) {xs : List Opd} {vs : List DV} (hl : LoS D es A xs vs) : evs D fr xs = vs := by
  induction hl with
  | nil => rfl
  | cons h1 _ ih => simp only [evs, List.map_cons, lo_ok ha hA h1] at ih ⊢; rw [ih]
theorem LoO.ok (ha : Ag fr.tmps [] es) (hA : Tags fr A) {x : Option Opd} {v : Option DV} (hl : LoO D es A x v) : evO D fr x = v := by
  cases hl with
  | none => rfl
  | some h1 => simp only [evO, Option.map_some, lo_ok ha hA h1]
theorem top_wrap {k : IntKind} {x : Int} (h0 : 0 ≤ x) (h1 : x ≤ top k) : k.wrap x = x := by
  cases k <;> simp only [top] at h1
  · omega
  · omega
  · rw [IntKind.wrap_i32]; omega
  · rw [IntKind.wrap_i64]; omega
  · show x % 256 = x; omega
  · show x % 65536 = x; omega
  · show x % 4294967296 = x; omega
  · show x % 18446744073709551616 = x; omega
theorem top_bits (k : IntKind) : top k < 2 ^ k.bits ∧ wid k = k.bits ∧ (∀ a b : Nat, (a : Int) ≤ top k → (b : Int) ≤ top k → ((a ||| b : Nat) : Int) ≤ top k) := by
  have aux : ∀ n (t : Int), t = 2 ^ n - 1 → ∀ a b : Nat, (a : Int) ≤ t → (b : Int) ≤ t → ((a ||| b : Nat) : Int) ≤ t := by
    intro n t ht a b ha hb
    have e : (2 ^ n : Int) = ((2 ^ n : Nat) : Int) := by simp
    have hp : 0 < 2 ^ n := Nat.pow_pos (by omega)
    have := Nat.or_lt_two_pow (x := a) (y := b) (n := n) (by omega) (by omega)
    omega
  cases k
  · exact ⟨by decide, rfl, fun a b ha _ => by simp only [top] at ha; omega⟩
  · exact ⟨by decide, rfl, fun a b ha _ => by simp only [top] at ha; omega⟩
  · exact ⟨by decide, rfl, aux 31 _ rfl⟩
  · exact ⟨by decide, rfl, aux 63 _ rfl⟩
  · exact ⟨by decide, rfl, aux 8 _ rfl⟩
  · exact ⟨by decide, rfl, aux 16 _ rfl⟩
  · exact ⟨by decide, rfl, aux 32 _ rfl⟩
  · exact ⟨by decide, rfl, aux 64 _ rfl⟩
theorem ofInt_top {k : IntKind} {a : Int} (h0 : 0 ≤ a) (h1 : a ≤ top k) : (BitVec.ofInt k.bits a).toNat = a.toNat := by
  have h2 := (top_bits k).1
  rw [BitVec.toNat_ofInt]
  have e : (2 ^ k.bits : Int) = ((2 ^ k.bits : Nat) : Int) := by simp
  congr 1
  apply Int.emod_eq_of_lt h0
  omega
theorem BI.ok (hp : p = true) {op : BinOp} {k : EqK} {a b v : DV} (hb : BI p op k a b v) : binD op k a b = some v := by
  cases hb with
  | addL h1 => simp [binD, intBin, wrap_i64_in (h1.out hp)]
  | subL h1 => simp [binD, intBin, wrap_i64_in (h1.out hp)]
  | mulL h1 => simp [binD, intBin, wrap_i64_in (h1.out hp)]
  | addI h1 => simp [binD, intBin, wrap_i32_in (h1.out hp)]
  | subI h1 => simp [binD, intBin, wrap_i32_in (h1.out hp)]
  | addS h1 => have := h1.out hp; simp [binD, strBin, this]
  | @and q k a b h1 =>
    obtain ⟨⟨a0, a1⟩, b0, b1⟩ := h1.out hp
    have e : (BitVec.ofInt k.bits a &&& BitVec.ofInt k.bits b).toNat = a.toNat &&& b.toNat := by
      rw [BitVec.toNat_and, ofInt_top a0 a1, ofInt_top b0 b1]
    have hle : a.toNat &&& b.toNat ≤ a.toNat := Nat.and_le_left
    simp only [binD, if_true, intBin, e]
    rw [top_wrap (by omega) (by omega)]
  | @or q k a b h1 =>
    obtain ⟨⟨a0, a1⟩, b0, b1⟩ := h1.out hp
    have e : (BitVec.ofInt k.bits a ||| BitVec.ofInt k.bits b).toNat = a.toNat ||| b.toNat := by
      rw [BitVec.toNat_or, ofInt_top a0 a1, ofInt_top b0 b1]
    have hle := (top_bits k).2.2 a.toNat b.toNat (by omega) (by omega)
    simp only [binD, if_true, intBin, e]
    rw [top_wrap (by omega) hle]
  | @shl q k k' a b h1 =>
    obtain ⟨b0, b1, a0, h2⟩ := h1.out hp
    have hb := (top_bits k).2.1
    have hm : min b.toNat k.bits = b.toNat := by omega
    simp only [binD]
    rw [if_neg (by omega), hm, top_wrap (Int.mul_nonneg a0 (Int.pow_nonneg (by omega))) h2]
  | @shr q k k' a b h1 =>
    obtain ⟨b0, b1, a0⟩ := h1.out hp
    have hb := (top_bits k).2.1
    have hm : min b.toNat k.bits = b.toNat := by omega
    simp only [binD]
    rw [if_neg (by omega), hm, Int.fdiv_eq_ediv_of_nonneg _ (Int.pow_nonneg (by omega))]
  | offL h1 => exact (h1.out hp).elim
  | offR h1 => exact (h1.out hp).elim
  | gen h1 => exact h1
theorem byte_ofByte (b : UInt8) : byte? (ofByte b) = some b := by
  have := b.toNat_lt
  simp only [ofByte, byte?]
  rw [if_pos (by omega)]
  simp
theorem toStr_bytesV (s : List UInt8) : toStr? (bytesV s) = some s := by
  induction s with
  | nil => rfl
  | cons b s ih => simp only [bytesV, List.map_cons, toStr?] at ih ⊢; rw [byte_ofByte, ih]
theorem toStr_append {a b : List DV} {s t : List UInt8} (h1 : toStr? a = some s) (h2 : toStr? b = some t) : toStr? (a ++ b) = some (s ++ t) := by
  induction a generalizing s with
  | nil => simp only [toStr?, Option.some.injEq] at h1; subst h1; exact h2
  | cons x a ih =>
    simp only [toStr?] at h1
    split at h1 <;> try (cases h1; done)
    rename_i b1 s1 hb hs
    simp only [Option.some.injEq] at h1; subst h1
    simp only [List.cons_append, toStr?, hb, ih hs]
theorem toStr_len {a : List DV} {s : List UInt8} (h1 : toStr? a = some s) : a = bytesV s := by
  induction a generalizing s with
  | nil => simp only [toStr?, Option.some.injEq] at h1; subst h1; rfl
  | cons x a ih =>
    simp only [toStr?] at h1
    split at h1 <;> try (cases h1; done)
    rename_i b1 s1 hb hs
    simp only [Option.some.injEq] at h1; subst h1
    have := ih hs
    subst this
    unfold byte? at hb
    split at hb <;> try (cases hb; done)
    rename_i n
    split at hb <;> try (cases hb; done)
    rename_i hn
    simp only [Option.some.injEq] at hb; subst hb
    simp only [bytesV, List.map_cons, ofByte]
    congr 2
    rw [UInt8.toNat_ofNat']
    omega
theorem BL.ok {xs : List DV} {s : List UInt8} (hb : BL xs s) : toStr? xs = some s := by
  induction hb with
  | bytes => exact toStr_bytesV _
  | map => exact toStr_bytesV _
  | nil => rfl
  | app _ _ h1 h2 => exact toStr_append h1 h2
  | drop _ h1 => rw [toStr_len h1]; simp only [bytesV, ← List.map_drop]; exact toStr_bytesV _
  | take _ h1 => rw [toStr_len h1]; simp only [bytesV, ← List.map_take]; exact toStr_bytesV _
  | @cons b a s _ h1 => have := byte_ofByte b; simp only [ofByte] at this; simp only [toStr?, this, h1]
  | lit hn _ h1 => have hn := hn.out; simp only [toStr?, byte?, hn, and_self, if_true, h1]
theorem runes_ok (rs : List Int) : runesStr? (rs.map I32) = some (runeBytes rs) := by
  induction rs with
  | nil => rfl
  | cons r rs ih => simp only [List.map_cons, runesStr?, rune?, ih]; rfl
theorem CV.ok (hp : p = true) {k : ConvK} {mu : Bool} {a v : DV} (hc : CV p k mu a v) : convD h k mu a = some (.val v) := by
  cases hc with
  | @iBb _ b => have := b.toNat_lt; simp [convD, wrap_i32_in (x := (b.toNat : Int)) (by omega)]
  | @lBb _ b => have := b.toNat_lt; simp [convD, wrap_i64_in (x := (b.toNat : Int)) (by omega)]
  | lI h1 => simp [convD, wrap_i64_in (h1.out hp)]
  | lB h1 => simp [convD, wrap_i64_in (h1.out hp)]
  | lU h1 => simp [convD, wrap_i64_in (h1.out hp)]
  | iB h1 => simp [convD, wrap_i32_in (h1.out hp)]
  | ii h1 => simp [convD, wrap_i32_in (h1.out hp)]
  | ll h1 => simp [convD, wrap_i64_in (h1.out hp)]
  | wrap => rfl
  | same => rfl
  | bytesStr h1 => simp [convD, h1.ok]
  | runesStr => simp [convD, runes_ok]
theorem Cut.ok {cs : List DV} {o n : Nat} {r : List DV} (hc : Cut cs o n r) : cut cs o n = some r := by
  induction hc with
  | zero => simp [cut]
  | take _ ih =>
    unfold cut at ih ⊢
    split at ih <;> cases ih
    rename_i hl
    rw [if_pos (by simp only [List.length_cons]; omega)]
    simp
  | skip _ ih =>
    unfold cut at ih ⊢
    split at ih <;> cases ih
    rename_i hl
    rw [if_pos (by simp only [List.length_cons]; omega)]
    simp
theorem LDv.ok {c : List DV} {off : Nat} {sh : Shape} {v : DV} (hl : LDv c off sh v) : (cut c off sh.size).bind (mkv sh) = some v := by
  cases hl with
  | one h1 =>
    have hlt := (List.getElem?_eq_some_iff.1 h1).1
    have hv := (List.getElem?_eq_some_iff.1 h1).2
    have hc : cut c off 1 = some [v] := by
      unfold cut
      rw [if_pos (by omega), List.drop_eq_getElem_cons hlt, hv]; rfl
    show (cut c off 1).bind (mkv none) = some v
    rw [hc]; rfl
  | agg h1 => simp only [Shape.size, Option.getD_some, h1.ok, Option.bind_some, mkv]
theorem LD.ok (hs : Sat h cs) {sh : Shape} {a v : DV} (hl : LD cs sh a v) : loadD h sh a = some v := by
  cases hl with
  | ptr hm hv => simp only [loadD, hs.obj hm, hv.ok]
  | elt hv => simp only [loadD, hv.ok]
theorem ZK.ok {t z sz : Nat} (hz : ZK t z sz) : t = 0 ∨ z = sz := by
  cases hz with
  | lit => exact .inr rfl
  | zof => cases t with
    | zero => exact .inl rfl
    | succ t => exact .inr rfl
theorem zOf_two {t sz : Nat} (h : 2 ≤ t) : zOf t sz = sz := by
  cases t with
  | zero => omega
  | succ t => rfl
theorem take_drop_all {α : Type} (xs : List α) (n : Nat) : (xs.drop n).take (xs.length - n) = xs.drop n := List.take_of_length_le (by simp)
theorem bounds_lo {n : Nat} {k : IntKind} {l : Int} (h1 : 0 ≤ l ∧ l ≤ n) : bounds n (some (.int k l)) none = some (l.toNat, n) := by simp only [bounds]; rw [if_pos h1]
theorem bounds_hi {n : Nat} {k : IntKind} {r : Int} (h1 : 0 ≤ r ∧ r ≤ n) : bounds n none (some (.int k r)) = some (0, r.toNat) := by simp only [bounds]; rw [if_pos h1]
theorem bounds_both {n : Nat} {k k' : IntKind} {l r : Int} (h1 : 0 ≤ l ∧ l ≤ r ∧ r ≤ n) : bounds n (some (.int k l)) (some (.int k' r)) = some (l.toNat, r.toNat) := by simp only [bounds]; rw [if_pos h1]
theorem SL.ok (hp : p = true) {sz : Nat} {s v : DV} {a b : Option DV} (hl : SL cs p sz s a b v) : sliceD sz s a b none = some (.val v) := by
  have hc : ∀ t n : Nat, cutT t n n = t := fun t n => by simp [cutT]
  cases hl with
  | loM hz h1 =>
    have h1 := h1.out hp
    simp only [sliceD]
    rw [if_pos hz.ok, List.length_map, bounds_lo h1]
    simp [Option.map_some, hc, List.take_of_length_le]
  | hiM hz h1 =>
    have h1 := h1.out hp
    simp only [sliceD]
    rw [if_pos hz.ok, List.length_map, bounds_hi h1]
    simp [Option.map_some]
  | bothM hz h1 =>
    have h1 := h1.out hp
    simp only [sliceD]
    rw [if_pos hz.ok, List.length_map, bounds_both h1]
    simp [Option.map_some]
  | lo hz h1 =>
    have h1 := h1.out hp
    simp only [sliceD]
    rw [if_pos hz.ok, bounds_lo h1]
    simp [Option.map_some, take_drop_all, hc]
  | hi hz h1 =>
    have h1 := h1.out hp
    simp only [sliceD]
    rw [if_pos hz.ok, bounds_hi h1]
    simp [Option.map_some]
  | both hz h1 =>
    have h1 := h1.out hp
    simp only [sliceD]
    rw [if_pos hz.ok, bounds_both h1]
    simp [Option.map_some]
  | arrLo h1 => have h1 := h1.out hp; simp only [sliceD, if_true]; rw [bounds_lo h1]; simp
  | arrHi h1 => have h1 := h1.out hp; simp only [sliceD, if_true]; rw [bounds_hi h1]; simp
  | arrBoth h1 => have h1 := h1.out hp; simp only [sliceD, if_true]; rw [bounds_both h1]; simp
theorem SS.ok (hp : p = true) {s r : List UInt8} {a b : Option DV} (hl : SS p s a b r) : (bounds s.length a b).map (fun (l, r) => EvR.val (.str ((s.drop l).take (r - l)))) = some (.val (.str r)) := by
  cases hl with
  | all => simp [bounds]
  | lo h1 => rw [bounds_lo (h1.out hp)]; simp [take_drop_all]
  | hi h1 => rw [bounds_hi (h1.out hp)]; simp
  | both h1 => rw [bounds_both (h1.out hp)]; simp
theorem BP.ok (ha : Ag fr.tmps [] es) (hA : Tags fr A) {ps : List (Nat × Nat × Opd)} {vs : List (Nat × Nat × DV)} (hb : BP D es A ps vs) : (ps.map fun q => (q.1, q.2.1, ev D fr q.2.2)) = vs := by
  induction hb with
  | nil => rfl
  | cons h1 _ ih => simp only [List.map_cons, lo_ok ha hA h1, ih]
theorem CL.ok {n : Nat} {v : DV} {c : List DV} (hc : CL n v c) : v.cells = c ∧ c.length = n ∧ v.okv = true := by
  cases hc with
  | agg h1 => exact ⟨rfl, h1, rfl⟩
  | gen h1 h2 => exact ⟨rfl, h1, h2⟩
  | _ => exact ⟨rfl, rfl, rfl⟩
theorem Ow.ok {cs xs r : List DV} {o : Nat} (ho : Ow cs o xs r) : overwrite cs o xs = r ∧ o + xs.length ≤ cs.length := by
  induction ho with
  | nil => simp [overwrite]
  | put _ ih =>
    obtain ⟨h1, h2⟩ := ih
    simp only [overwrite, List.take_zero, List.nil_append, Nat.zero_add] at h1
    constructor
    · simp only [overwrite, List.take_zero, List.nil_append, List.length_cons, Nat.zero_add, List.drop_succ_cons, List.cons_append, h1]
    · simp only [List.length_cons]; omega
  | skip _ ih =>
    obtain ⟨h1, h2⟩ := ih
    constructor
    · have : ∀ (c : DV) (cs xs : List DV) (o : Nat), overwrite (c :: cs) (o + 1) xs = c :: overwrite cs o xs := by
        intro c cs xs o
        simp only [overwrite, List.take_succ_cons, List.cons_append]
        rw [show o + 1 + xs.length = (o + xs.length) + 1 by omega, List.drop_succ_cons]
      rw [this, h1]
    · simp only [List.length_cons]; omega
theorem BLd.ok {cs out : List DV} {ps : List (Nat × Nat × DV)} (hb : BLd cs ps out) : buildL cs ps = some out := by
  induction hb with
  | nil => rfl
  | cons hc ho _ ih =>
    obtain ⟨h1, h2, h3⟩ := hc.ok
    obtain ⟨h4, h5⟩ := ho.ok
    simp only [buildL]
    rw [if_pos ⟨by rw [h1, h2], by omega, h3⟩, h1, h4, ih]
theorem VO.ok (ha : Ag fr.tmps [] es) (hs : Sat h cs) (hA : Tags fr A) (hp : p = true) {op : DOp} {v : DV} (hv : VO D es cs A p op v) : evalOp D fr h op = some (.val v) := by
  cases hv with
  | mv h1 => simp only [evalOp, lo_ok ha hA h1]
  | load h1 h2 => simp only [evalOp, lo_ok ha hA h1, h2.ok hs, Option.map_some]
  | nilc h1 h2 => simp only [evalOp, lo_ok ha hA h1]; cases h2 <;> rfl
  | faddr h1 h2 => simp only [evalOp, lo_ok ha hA h1]; cases h2 <;> simp
  | bin h1 h2 h3 => simp only [evalOp, lo_ok ha hA h1, lo_ok ha hA h2, h3.ok hp, Option.map_some]
  | @or t y q b A1 q1 h1 h2 h3 =>
    have e1 : ev D fr (.t t) = .bool q := lo_ok ha hA h1
    cases q with
    | true => simp only [evalOp, e1]; rfl
    | false =>
      have hw : wantedG (some (t, false)) fr = true := wanted_bool.2 e1
      have hA1 := ((gate_ok ha h2).1 hw).2
      have e3 : ev D fr y = .bool b := lo_ok (A := A1 ++ A) ha (fun t b hm => (List.mem_append.1 hm).elim (hA1 t b) (hA t b)) h3
      simp only [evalOp, e1, e3, Bool.false_or]
  | @and t y q b A1 q1 h1 h2 h3 =>
    have e1 : ev D fr (.t t) = .bool q := lo_ok ha hA h1
    cases q with
    | false => simp only [evalOp, e1]; rfl
    | true =>
      have hw : wantedG (some (t, true)) fr = true := wanted_bool.2 e1
      have hA1 := ((gate_ok ha h2).1 hw).2
      have e3 : ev D fr y = .bool b := lo_ok (A := A1 ++ A) ha (fun t b hm => (List.mem_append.1 hm).elim (hA1 t b) (hA t b)) h3
      simp only [evalOp, e1, e3, Bool.true_and]
  | un h1 h2 => simp only [evalOp, lo_ok ha hA h1, h2, Option.map_some]
  | iaddr h1 h2 h3 =>
    simp only [evalOp, lo_ok ha hA h1, lo_ok ha hA h2]
    cases h3 with
    | @map α _ t z f ys k n hz hb =>
      have hb := hb.out hp
      have hn : n.toNat < ys.length := by omega
      have hget : (ys.map f)[n.toNat]? = some (f (ys.getD n.toNat default)) := by
        rw [List.getElem?_map, List.getD_eq_getElem?_getD, List.getElem?_eq_getElem hn]; rfl
      dsimp only
      rw [if_pos ⟨hb.1, hz.ok⟩, hget]; rfl
    | @gen t z xs k n w hz hb =>
      have hb := hb.out hp
      dsimp only
      rw [if_pos ⟨hb.1, hz.ok⟩, hb.2]; rfl
    | arr hb => have hb := hb.out hp; dsimp only; rw [if_pos ⟨hb.1, hb.2, rfl⟩]
  | len h1 h2 => simp only [evalOp, lo_ok ha hA h1]; cases h2 <;> simp
  | extract h1 h2 => simp only [evalOp, lo_ok ha hA h1, h2, Option.map_some]
  | field h1 h2 => simp only [evalOp, lo_ok ha hA h1, h2.ok, Option.map_some]
  | conv h1 h2 => simp only [evalOp, lo_ok ha hA h1]; exact h2.ok hp
  | @idxStr x i s k n h1 h2 hb =>
    have hb := hb.out hp
    have hn : n.toNat < s.length := by omega
    simp only [evalOp, lo_ok ha hA h1, lo_ok ha hA h2]
    rw [if_pos hb.1, List.getElem?_eq_getElem hn, List.getD_eq_getElem?_getD, List.getElem?_eq_getElem hn]
    rfl
  | sliceStr h1 h2 h3 h4 => simp only [evalOp, lo_ok ha hA h1, h2.ok ha hA, h3.ok ha hA]; exact h4.ok hp
  | slice h1 h2 h3 h4 => simp only [evalOp, lo_ok ha hA h1, h2.ok ha hA, h3.ok ha hA]; exact h4.ok hp
  | build h1 h2 => simp only [evalOp, h1.ok ha hA, h2.ok, Option.map_some]
  | mkfn h1 h2 => simp only [evalOp, h1.ok ha hA, h2.ok ha hA]
  | iaddrArrE h1 h2 hb => have hb := hb.out hp; simp only [evalOp, lo_ok ha hA h1, lo_ok ha hA h2]; rw [if_pos hb]
  | idxArr h1 h2 hb => have hb := hb.out hp; simp only [evalOp, lo_ok ha hA h1, lo_ok ha hA h2]; rw [if_pos ⟨hb.1, hb.2.1⟩, hb.2.2.ok]; rfl
  | @min x y k k' a b h1 h2 =>
    simp only [evalOp, lo_ok ha hA h1, lo_ok ha hA h2]
    simp only [Bool.false_eq_true, if_false, Option.some.injEq, EvR.val.injEq, DV.int.injEq, true_and]
    split <;> omega
  | @max x y k k' a b h1 h2 =>
    simp only [evalOp, lo_ok ha hA h1, lo_ok ha hA h2]
    simp only [if_true, Option.some.injEq, EvR.val.injEq, DV.int.injEq, true_and]
    split <;> omega
  | @pick t x y q a b h1 h2 h3 =>
    have e1 : ev D fr (.t t) = .bool q := lo_ok ha hA h1
    cases q with
    | true => simp only [evalOp, e1, lo_ok ha hA h2, cond_true]
    | false => simp only [evalOp, e1, lo_ok ha hA h3, cond_false]
end
end Go.Dm
