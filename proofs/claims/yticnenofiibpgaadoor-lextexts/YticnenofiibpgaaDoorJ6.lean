/- LexTexts returns true for every input: part 6 of the proof (several texts joined). -/
import Derived.Test.YticnenofiibpgaaDoorJ5
/- What the lexer's closes, reference, value do. -/
namespace Go.Proofs.YticnenofiibpgaaDoor.Code
open Go.Dm Go.Dm.C
set_option linter.unusedSimpArgs false
set_option linter.unusedVariables false
set_option linter.unnecessarySimpa false
set_option maxRecDepth 10000
attribute [local irreducible] Go.Dm.F Go.Dm.RS Go.Dm.Y Go.Dm.FD Go.Dm.FZ1 Go.Dm.Hold
variable {id : Nat} {s : Md.Lx} {g : Nat × Nat} {cs : List Ck}
theorem runesGo_fuel : ∀ (n : Nat) (w : List UInt8) (i f k : Nat), w.length - i ≤ n → w.length - i ≤ f → w.length - i ≤ k → Md.runesGo f w i = Md.runesGo k w i := by
  intro n
  induction n with
  | zero => intro w i f k h _ _; cases f <;> cases k <;> simp only [Md.runesGo] <;> first | rfl | rw [if_neg (by omega), if_neg (by omega)] | rw [if_neg (by omega)]
  | succ n ih =>
    intro w i f k h hf hk
    by_cases hi : i < w.length
    · obtain ⟨f, rfl⟩ : ∃ f', f = f' + 1 := ⟨f - 1, by omega⟩
      obtain ⟨k, rfl⟩ : ∃ k', k = k' + 1 := ⟨k - 1, by omega⟩
      have hp := dec_pos ⟨w.toArray⟩ i
      simp only [Md.runesGo, if_pos hi]
      congr 1
      exact ih w _ f k (by omega) (by omega) (by omega)
    · cases f <;> cases k <;> simp only [Md.runesGo] <;> first | rfl | rw [if_neg hi, if_neg hi] | rw [if_neg hi]
def runesAt (w : List UInt8) (i : Nat) : List Int := Md.runesGo (w.length - i) w i
theorem runesAt_zero (w : List UInt8) : runesAt w 0 = Md.runes w := rfl
theorem runesAt_cons {w : List UInt8} {i : Nat} (h : i < w.length) : runesAt w i = ((Utf8.decode ⟨w.toArray⟩ i).1 : Int) :: runesAt w (i + (Utf8.decode ⟨w.toArray⟩ i).2) := by
  have hp := dec_pos ⟨w.toArray⟩ i
  have e : w.length - i = (w.length - i - 1) + 1 := by omega
  unfold runesAt
  rw [e]
  simp only [Md.runesGo, if_pos h]
  congr 1
  exact runesGo_fuel w.length w _ _ _ (by omega) (by omega) (by omega)
theorem runesAt_nil {w : List UInt8} {i : Nat} (h : w.length ≤ i) : runesAt w i = [] := by
  unfold runesAt; rw [show w.length - i = 0 by omega]; rfl
theorem runesAt_len (w : List UInt8) : ∀ (n i : Nat), w.length - i ≤ n → (runesAt w i).length ≤ w.length - i := by
  intro n
  induction n with
  | zero => intro i h; rw [runesAt_nil (by omega)]; simp
  | succ n ih =>
    intro i h
    by_cases hi : i < w.length
    · have hp := dec_pos ⟨w.toArray⟩ i
      have := ih (i + (Utf8.decode ⟨w.toArray⟩ i).2) (by omega)
      rw [runesAt_cons hi]; simp only [List.length_cons]; omega
    · rw [runesAt_nil (by omega)]; simp
theorem runes_len (w : List UInt8) : (Md.runes w).length ≤ w.length := runesAt_len w w.length 0 (by omega)
theorem closes_F (hm : Me (LX id s g) cs) (hb : s.inp.length ≤ 1000000000 ∧ s.pos ≤ 20000000000 ∧ s.last.length ≤ 10000000000) : F D 93 [.ptr id 0] cs (fun v cs' => v = .int .i64 (Md.closes s.last s.rest : Nat) ∧ cs = cs') := by
  refine F.atM hm fun R => F.of rfl rfl rfl ?_
  repeat' first | (show LD _ _ _ _; first | exact LX.ldPos (by (repeat' constructor); first | done | fail) | exact LX.ldWay (by (repeat' constructor); first | done | fail) | exact LX.ldLast (by (repeat' constructor); first | done | fail) | exact LX.ldRoom (by (repeat' constructor); first | done | fail) | exact LX.ldDone (by (repeat' constructor); first | done | fail) | exact LX.ldText (by (repeat' constructor); first | done | fail)) | (apply RR.lxIn; exact rfl; exact rfl; exact rfl; exact (by (repeat' constructor); first | done | fail); refine fun _ => ?_) | (apply RR.lxOut; exact rfl; exact rfl; exact rfl; exact (by (repeat' constructor); first | done | fail); refine fun _ => ?_) | (apply RR.storeS; exact rfl; exact rfl; first | exact LX.stPos 1 rfl (by (repeat' constructor); first | done | fail) | exact LX.stPos 2 rfl (by (repeat' constructor); first | done | fail) | exact LX.stPos 3 rfl (by (repeat' constructor); first | done | fail) | exact LX.stPos 6 rfl (by (repeat' constructor); first | done | fail) | exact LX.stPos 7 rfl (by (repeat' constructor); first | done | fail) | exact LX.stPos _ rfl (by (repeat' constructor); first | done | fail) | exact LX.stPos2 1 _ (by (repeat' constructor); first | done | fail) | exact LX.stPos2 2 _ (by (repeat' constructor); first | done | fail) | exact LX.stWay (by (repeat' constructor); first | done | fail) | exact LX.stLast (by (repeat' constructor); first | done | fail) | exact LX.stRoom (by (repeat' constructor); first | done | fail) | exact LX.stDone (by (repeat' constructor); first | done | fail); exact rfl) | (show FC _ _ _ _ _; first | exact peek0_F (by (repeat' constructor); first | done | fail) (by first | omega | ((simp only [Md.Lx.adv, Md.Lx.say, Md.Lx.clr, List.nil_append, List.length_append, List.length_cons, List.length_nil]); omega)) | exact peek1_F (by (repeat' constructor); first | done | fail) (by first | omega | ((simp only [Md.Lx.adv, Md.Lx.say, Md.Lx.clr, List.nil_append, List.length_append, List.length_cons, List.length_nil]); omega)) | exact peek6_F (by (repeat' constructor); first | done | fail) (by first | omega | ((simp only [Md.Lx.adv, Md.Lx.say, Md.Lx.clr, List.nil_append, List.length_append, List.length_cons, List.length_nil]); omega)) | exact next_F (by (repeat' constructor); first | done | fail) (by first | omega | ((simp only [Md.Lx.adv, Md.Lx.say, Md.Lx.clr, List.nil_append, List.length_append, List.length_cons, List.length_nil]); omega)) | exact back_F (by (repeat' constructor); first | done | fail) (by first | omega | ((simp only [Md.Lx.adv, Md.Lx.say, Md.Lx.clr, List.nil_append, List.length_append, List.length_cons, List.length_nil]); omega)) | exact blank_F | exact letter_F | exact small_F | exact encode_F rfl (by first | omega | ((simp only [Md.Lx.adv, Md.Lx.say, Md.Lx.clr, List.nil_append, List.length_append, List.length_cons, List.length_nil]); omega)) | exact say_F rfl (by (repeat' constructor); first | done | fail) (by (repeat' constructor); first | done | fail) (by first | omega | ((simp only [Md.Lx.adv, Md.Lx.say, Md.Lx.clr, List.nil_append, List.length_append, List.length_cons, List.length_nil]); omega)) | exact stands_F (by (repeat' constructor); first | done | fail) (by first | omega | ((simp only [Md.Lx.adv, Md.Lx.say, Md.Lx.clr, List.nil_append, List.length_append, List.length_cons, List.length_nil]); omega)) (by decide) (by first | omega | ((simp only [Md.Lx.adv, Md.Lx.say, Md.Lx.clr, List.nil_append, List.length_append, List.length_cons, List.length_nil]); omega)) | exact exact_F (by (repeat' constructor); first | done | fail) (by first | omega | ((simp only [Md.Lx.adv, Md.Lx.say, Md.Lx.clr, List.nil_append, List.length_append, List.length_cons, List.length_nil]); omega)) (by decide) (by first | omega | ((simp only [Md.Lx.adv, Md.Lx.say, Md.Lx.clr, List.nil_append, List.length_append, List.length_cons, List.length_nil]); omega))) | (refine fun (hc : _ = _) => ?_; (try simp only [BB] at hc); (try (first | contradiction | (exfalso; omega)))) | (refine Arith.mk ?_; (try intro _); simp only [Md.Lx.adv, Md.Lx.say, Md.Lx.clr, List.nil_append, List.length_append, List.length_cons, List.length_nil]; omega) | exact arI | refine Pst.mk ⟨?_, rfl⟩ (by (repeat' constructor); first | done | fail) | constructor | (refine fun _ _ (hq : Hold _) => ?_; replace hq := hq.out; obtain ⟨_, rfl, rfl⟩ := hq) | (refine fun _ _ (hq : Hold _) => ?_; replace hq := hq.out; obtain ⟨_, _, rfl, rfl⟩ := hq) | rintro _ _ ⟨rfl, rfl⟩ | rintro _ _ ⟨_, rfl, rfl⟩ | rintro _ _ ⟨_, _, rfl, rfl⟩ | (refine fun (hc : _ = _) => ?_; (try simp only [BB] at hc)) | refine fun (_ : Nat) => ?_ | refine fun (_ : _ ≤ _) => ?_ | refine fun (_ : _ < _) => ?_
  · unfold Md.closes
    rw [← pk_rest, ← pk_rest, if_pos]
    · rfl
    · rcases hc with (hc | hc) | hc
      · exact .inl hc
      · exact .inr (.inl hc)
      · exact .inr (.inr hc)
  rotate_left
  · unfold Md.closes
    rw [← pk_rest, ← pk_rest, if_pos (.inl (by assumption))]; rfl
  rename_i q hq
  have hcl : Md.closes s.last s.rest = if Md.goesOn (Md.runes s.last) (s.adv 1).rest = true ∧ Md.over (s.pk (1 + (Md.runes s.last).length)) = true then 1 + (Md.runes s.last).length else 0 := by
    unfold Md.closes
    rw [← pk_rest, ← pk_rest, ← pk_rest, if_neg, ← tail_adv 0]; rfl
    rintro (h | h | h)
    · exact h hc.1.1
    · rw [hc.1.2] at h; cases h
    · exact hc.2 h
  have hrl := runes_len s.last
  refine RS.loopW (α := Nat × Nat) (fun a => [(0, .ptr id 0), (3, .int .i64 (a.2 : Nat)), (27, .ptr q 0)]) (fun a => .obj q (.siter s.last a.1) :: LX id s g :: R)
    (fun a => a.2 + (runesAt s.last a.1).length = 1 + (Md.runes s.last).length ∧ Md.goesOn (runesAt s.last a.1) (s.adv a.2).rest = Md.goesOn (Md.runes s.last) (s.adv 1).rest) (fun a => s.last.length - a.1) (0, 1) ⟨by simp [runesAt_zero], by simp [runesAt_zero]⟩ ⟨rfl, rfl, rfl, trivial⟩ .refl ?_
  rintro ⟨i, n⟩ ⟨h1, h2⟩ ih
  dsimp only [ents] at *
  have hrc := fun h => runesAt_cons (w := s.last) (i := i) h
  have hrn := fun h => runesAt_nil (w := s.last) (i := i) h
  repeat' first | (show LD _ _ _ _; first | exact LX.ldPos (by (repeat' constructor); first | done | fail) | exact LX.ldWay (by (repeat' constructor); first | done | fail) | exact LX.ldLast (by (repeat' constructor); first | done | fail) | exact LX.ldRoom (by (repeat' constructor); first | done | fail) | exact LX.ldDone (by (repeat' constructor); first | done | fail) | exact LX.ldText (by (repeat' constructor); first | done | fail)) | (apply RR.lxIn; exact rfl; exact rfl; exact rfl; exact (by (repeat' constructor); first | done | fail); refine fun _ => ?_) | (apply RR.lxOut; exact rfl; exact rfl; exact rfl; exact (by (repeat' constructor); first | done | fail); refine fun _ => ?_) | (apply RR.storeS; exact rfl; exact rfl; first | exact LX.stPos 1 rfl (by (repeat' constructor); first | done | fail) | exact LX.stPos 2 rfl (by (repeat' constructor); first | done | fail) | exact LX.stPos 3 rfl (by (repeat' constructor); first | done | fail) | exact LX.stPos 6 rfl (by (repeat' constructor); first | done | fail) | exact LX.stPos 7 rfl (by (repeat' constructor); first | done | fail) | exact LX.stPos _ rfl (by (repeat' constructor); first | done | fail) | exact LX.stPos2 1 _ (by (repeat' constructor); first | done | fail) | exact LX.stPos2 2 _ (by (repeat' constructor); first | done | fail) | exact LX.stWay (by (repeat' constructor); first | done | fail) | exact LX.stLast (by (repeat' constructor); first | done | fail) | exact LX.stRoom (by (repeat' constructor); first | done | fail) | exact LX.stDone (by (repeat' constructor); first | done | fail); exact rfl) | (show FC _ _ _ _ _; first | exact peek_F (n := n) (by (repeat' constructor); first | done | fail) (by first | omega | ((simp only [Md.Lx.adv, Md.Lx.say, Md.Lx.clr, List.nil_append, List.length_append, List.length_cons, List.length_nil]); omega)) (by omega) | exact peek0_F (by (repeat' constructor); first | done | fail) (by first | omega | ((simp only [Md.Lx.adv, Md.Lx.say, Md.Lx.clr, List.nil_append, List.length_append, List.length_cons, List.length_nil]); omega)) | exact peek1_F (by (repeat' constructor); first | done | fail) (by first | omega | ((simp only [Md.Lx.adv, Md.Lx.say, Md.Lx.clr, List.nil_append, List.length_append, List.length_cons, List.length_nil]); omega)) | exact peek6_F (by (repeat' constructor); first | done | fail) (by first | omega | ((simp only [Md.Lx.adv, Md.Lx.say, Md.Lx.clr, List.nil_append, List.length_append, List.length_cons, List.length_nil]); omega)) | exact next_F (by (repeat' constructor); first | done | fail) (by first | omega | ((simp only [Md.Lx.adv, Md.Lx.say, Md.Lx.clr, List.nil_append, List.length_append, List.length_cons, List.length_nil]); omega)) | exact back_F (by (repeat' constructor); first | done | fail) (by first | omega | ((simp only [Md.Lx.adv, Md.Lx.say, Md.Lx.clr, List.nil_append, List.length_append, List.length_cons, List.length_nil]); omega)) | exact blank_F | exact letter_F | exact small_F | exact encode_F rfl (by first | omega | ((simp only [Md.Lx.adv, Md.Lx.say, Md.Lx.clr, List.nil_append, List.length_append, List.length_cons, List.length_nil]); omega)) | exact say_F rfl (by (repeat' constructor); first | done | fail) (by (repeat' constructor); first | done | fail) (by first | omega | ((simp only [Md.Lx.adv, Md.Lx.say, Md.Lx.clr, List.nil_append, List.length_append, List.length_cons, List.length_nil]); omega)) | exact stands_F (by (repeat' constructor); first | done | fail) (by first | omega | ((simp only [Md.Lx.adv, Md.Lx.say, Md.Lx.clr, List.nil_append, List.length_append, List.length_cons, List.length_nil]); omega)) (by decide) (by first | omega | ((simp only [Md.Lx.adv, Md.Lx.say, Md.Lx.clr, List.nil_append, List.length_append, List.length_cons, List.length_nil]); omega)) | exact exact_F (by (repeat' constructor); first | done | fail) (by first | omega | ((simp only [Md.Lx.adv, Md.Lx.say, Md.Lx.clr, List.nil_append, List.length_append, List.length_cons, List.length_nil]); omega)) (by decide) (by first | omega | ((simp only [Md.Lx.adv, Md.Lx.say, Md.Lx.clr, List.nil_append, List.length_append, List.length_cons, List.length_nil]); omega))) | (refine fun (hc : _ = _) => ?_; (try simp only [BB] at hc); (try (first | contradiction | (exfalso; omega)))) | exact arI | refine Pst.mk ⟨?_, rfl⟩ (by (repeat' constructor); first | done | fail) | constructor | (refine fun _ _ (hq : Hold _) => ?_; replace hq := hq.out; obtain ⟨_, rfl, rfl⟩ := hq) | (refine fun _ _ (hq : Hold _) => ?_; replace hq := hq.out; obtain ⟨_, _, rfl, rfl⟩ := hq) | rintro _ _ ⟨rfl, rfl⟩ | rintro _ _ ⟨_, rfl, rfl⟩ | rintro _ _ ⟨_, _, rfl, rfl⟩ | (refine fun (hc : _ = _) => ?_; (try simp only [BB] at hc)) | refine fun (_ : Nat) => ?_ | refine fun (_ : _ ≤ _) => ?_ | refine fun (_ : _ < _) => ?_
  · rw [hrc (by omega)] at h2
    simp only [Md.goesOn, headD_adv, beq_false_of_ne hc, Bool.false_and] at h2
    rw [hcl, if_neg (by rw [← h2]; simp)]; rfl
  · rw [hrc (by omega)] at h1 h2
    simp only [Md.goesOn, headD_adv, tail_adv, List.length_cons, beq_iff_eq.2 hc, Bool.true_and] at h1 h2
    have hp := dec_pos ⟨s.last.toArray⟩ i
    exact ih _ _ (_, n + 1) ⟨by dsimp only; omega, h2⟩ (by dsimp only; omega) ⟨rfl, rfl, rfl, trivial⟩ (by (repeat' constructor); first | done | fail)
  all_goals
    rw [hrn (by omega)] at h1 h2
    simp only [List.length_nil, Nat.add_zero] at h1
    rw [hcl, ← h2, ← h1]
  · rw [if_pos ⟨rfl, by rw [over_t]; exact hc⟩]
  · rw [if_neg (fun h => by have h3 := h.2; rw [over_t] at h3; simp_all)]; rfl
theorem number_pos : ∀ (base : Int) (l : List Int) (n : Int) (k : Nat), k ≤ (Md.number base l n k).2 ∧ (Md.number base l n k).2 ≤ k + l.length
  | _, [], n, k => by simp [Md.number]
  | base, r :: l, n, k => by
    have := number_pos base l (min (n * base + Md.hex r) 0x110000) (k + 1)
    simp only [Md.number]
    split
    · simp
    · simp only [List.length_cons]; omega
theorem number_le : ∀ (base : Int) (l : List Int) (n : Int) (k : Nat), n ≤ 1114112 → (Md.number base l n k).1 ≤ 1114112
  | _, [], n, k, h => by simpa [Md.number] using h
  | base, r :: l, n, k, h => by
    simp only [Md.number]
    split
    · exact h
    · exact number_le base l _ _ (by omega)
theorem min_rest : s.inp.drop (min (s.pos : Int) (s.inp.length : Int)).toNat = s.rest := by
  unfold Md.Lx.rest
  by_cases h : s.pos ≤ s.inp.length
  · rw [Int.min_eq_left (by omega)]; simp
  · rw [Int.min_eq_right (by omega), List.drop_eq_nil_of_le (by simp), List.drop_eq_nil_of_le (by omega)]
theorem refer_hex {l : List Int} {v : Bool} (h0 : l.getD 0 (-1) = 35) (h1 : l.getD 1 (-1) = 120 ∨ l.getD 1 (-1) = 88) : Md.refer v l = if (Md.number 16 (l.drop 2) 0 0).2 = 0 then ([38], 0) else
    ([Md.numeric (Md.number 16 (l.drop 2) 0 0).1], if l.getD (2 + (Md.number 16 (l.drop 2) 0 0).2) (-1) = 59 then 2 + (Md.number 16 (l.drop 2) 0 0).2 + 1 else 2 + (Md.number 16 (l.drop 2) 0 0).2) := by
  simp only [Md.refer, if_pos h0, if_pos h1]
theorem refer_dec {l : List Int} {v : Bool} (h0 : l.getD 0 (-1) = 35) (h1 : ¬(l.getD 1 (-1) = 120 ∨ l.getD 1 (-1) = 88)) : Md.refer v l = if (Md.number 10 (l.drop 1) 0 0).2 = 0 then ([38], 0) else
    ([Md.numeric (Md.number 10 (l.drop 1) 0 0).1], if l.getD (1 + (Md.number 10 (l.drop 1) 0 0).2) (-1) = 59 then 1 + (Md.number 10 (l.drop 1) 0 0).2 + 1 else 1 + (Md.number 10 (l.drop 1) 0 0).2) := by
  simp only [Md.refer, if_pos h0, if_neg h1]
theorem refer_name {l : List Int} {v : Bool} (h0 : ¬l.getD 0 (-1) = 35) : Md.refer v l = if (Md.matchT runeBytes l).2.1 = 0 then ([38], 0) else
    if (v = true ∧ (Md.matchT runeBytes l).2.2 = false ∧ (Md.matchT runeBytes l).2.1 < l.length) ∧ (l.getD (Md.matchT runeBytes l).2.1 (-1) = 61 ∨ Md.letter (l.getD (Md.matchT runeBytes l).2.1 (-1)) = true ∨ Md.digit (l.getD (Md.matchT runeBytes l).2.1 (-1)) = true) then ([38], 0) else ((Md.matchT runeBytes l).1, (Md.matchT runeBytes l).2.1) := by
  simp only [Md.refer, if_neg h0]
theorem getD_some {l : List Int} {n : Nat} {x : Int} (h : (l.length : Int) > (n : Int) ∧ l.getD n default = x) : l.getD n (-1) = x := by
  rw [← getD_eof (by omega)]; exact h.2
theorem getD_none {l : List Int} {n : Nat} {x : Int} (hx : x ≠ -1) (h : (l.length : Int) > (n : Int) → ¬l.getD n default = x) : ¬l.getD n (-1) = x := by
  by_cases hl : n < l.length
  · rw [← getD_eof hl]; exact h (by omega)
  · rw [List.getD_eq_getElem?_getD, List.getElem?_eq_none (by omega)]; exact fun e => hx e.symm
def refA (s : Md.Lx) (value : Bool) : Md.Lx := (s.adv (Md.refer value s.rest).2).say (Md.refer value s.rest).1
set_option maxHeartbeats 1000000 in
theorem reference_F {value : Bool} {cs2 : Nat → List Ck} (hu : Upd (LX id s g) (fun a => LX id (refA s value) (g.1, a)) cs cs2) (hb : s.inp.length ≤ 1000000000 ∧ s.pos ≤ 20000000000 ∧ s.text.length ≤ 80000000000) :
    F D 70 [.ptr id 0, .bool value] cs (fun v cs' => Hold (∃ a, v = .tup [] ∧ cs2 a = cs')) := by
  refine F.atG hu fun R => F.of rfl rfl rfl ?_
  have hrl := rest_len (s := s)
  have hdl : (s.inp.drop (min (s.pos : Int) (s.inp.length : Int)).toNat).length ≤ 1000000000 := by rw [min_rest]; omega
  have hk1 := number_pos 16 ((s.inp.drop (min (s.pos : Int) (s.inp.length : Int)).toNat).drop (Int.toNat 2)) 0 0
  have hk2 := number_pos 10 ((s.inp.drop (min (s.pos : Int) (s.inp.length : Int)).toNat).drop (Int.toNat 1)) 0 0
  have hk3 := number_le 16 ((s.inp.drop (min (s.pos : Int) (s.inp.length : Int)).toNat).drop (Int.toNat 2)) 0 0 (by omega)
  have hk4 := number_le 10 ((s.inp.drop (min (s.pos : Int) (s.inp.length : Int)).toNat).drop (Int.toNat 1)) 0 0 (by omega)
  have hk5 := Md.matchT_le (s.inp.drop (min (s.pos : Int) (s.inp.length : Int)).toNat)
  have hk6 := Md.matchT_len (s.inp.drop (min (s.pos : Int) (s.inp.length : Int)).toNat)
  have hd1 : ((s.inp.drop (min (s.pos : Int) (s.inp.length : Int)).toNat).drop (Int.toNat 1)).length ≤ 1000000000 := by rw [List.length_drop]; omega
  have hd2 : ((s.inp.drop (min (s.pos : Int) (s.inp.length : Int)).toNat).drop (Int.toNat 2)).length ≤ 1000000000 := by rw [List.length_drop]; omega
  repeat' first | (show LD _ _ _ _; first | exact LX.ldPos (by (repeat' constructor); first | done | fail) | exact LX.ldWay (by (repeat' constructor); first | done | fail) | exact LX.ldLast (by (repeat' constructor); first | done | fail) | exact LX.ldRoom (by (repeat' constructor); first | done | fail) | exact LX.ldDone (by (repeat' constructor); first | done | fail) | exact LX.ldText (by (repeat' constructor); first | done | fail)) | (apply RR.lxIn; exact rfl; exact rfl; exact rfl; exact (by (repeat' constructor); first | done | fail); refine fun _ => ?_) | (apply RR.lxOut; exact rfl; exact rfl; exact rfl; exact (by (repeat' constructor); first | done | fail); refine fun _ => ?_) | (apply RR.storeS; exact rfl; exact rfl; first | exact LX.stPos 1 rfl (by (repeat' constructor); first | done | fail) | exact LX.stPos 2 rfl (by (repeat' constructor); first | done | fail) | exact LX.stPos 3 rfl (by (repeat' constructor); first | done | fail) | exact LX.stPos 6 rfl (by (repeat' constructor); first | done | fail) | exact LX.stPos 7 rfl (by (repeat' constructor); first | done | fail) | exact LX.stPos _ rfl (by (repeat' constructor); first | done | fail) | exact LX.stPos2 1 _ (by (repeat' constructor); first | done | fail) | exact LX.stPos2 2 _ (by (repeat' constructor); first | done | fail) | exact LX.stWay (by (repeat' constructor); first | done | fail) | exact LX.stLast (by (repeat' constructor); first | done | fail) | exact LX.stRoom (by (repeat' constructor); first | done | fail) | exact LX.stDone (by (repeat' constructor); first | done | fail); exact rfl) | (show FC _ _ _ _ _; first | exact number_F rfl (by omega) (by omega) | exact numeric_F (by omega) | exact match_F rfl (by omega) | exact digit_F | exact peek0_F (by (repeat' constructor); first | done | fail) (by first | omega | ((simp only [Md.Lx.adv, Md.Lx.say, Md.Lx.clr, List.nil_append, List.length_append, List.length_cons, List.length_nil]); omega)) | exact peek1_F (by (repeat' constructor); first | done | fail) (by first | omega | ((simp only [Md.Lx.adv, Md.Lx.say, Md.Lx.clr, List.nil_append, List.length_append, List.length_cons, List.length_nil]); omega)) | exact peek6_F (by (repeat' constructor); first | done | fail) (by first | omega | ((simp only [Md.Lx.adv, Md.Lx.say, Md.Lx.clr, List.nil_append, List.length_append, List.length_cons, List.length_nil]); omega)) | exact next_F (by (repeat' constructor); first | done | fail) (by first | omega | ((simp only [Md.Lx.adv, Md.Lx.say, Md.Lx.clr, List.nil_append, List.length_append, List.length_cons, List.length_nil]); omega)) | exact back_F (by (repeat' constructor); first | done | fail) (by first | omega | ((simp only [Md.Lx.adv, Md.Lx.say, Md.Lx.clr, List.nil_append, List.length_append, List.length_cons, List.length_nil]); omega)) | exact blank_F | exact letter_F | exact small_F | exact encode_F rfl (by first | omega | ((simp only [Md.Lx.adv, Md.Lx.say, Md.Lx.clr, List.nil_append, List.length_append, List.length_cons, List.length_nil]); omega)) | exact say_F rfl (by (repeat' constructor); first | done | fail) (by (repeat' constructor); first | done | fail) (by first | omega | ((simp only [Md.Lx.adv, Md.Lx.say, Md.Lx.clr, List.nil_append, List.length_append, List.length_cons, List.length_nil]); omega)) | exact stands_F (by (repeat' constructor); first | done | fail) (by first | omega | ((simp only [Md.Lx.adv, Md.Lx.say, Md.Lx.clr, List.nil_append, List.length_append, List.length_cons, List.length_nil]); omega)) (by decide) (by first | omega | ((simp only [Md.Lx.adv, Md.Lx.say, Md.Lx.clr, List.nil_append, List.length_append, List.length_cons, List.length_nil]); omega)) | exact exact_F (by (repeat' constructor); first | done | fail) (by first | omega | ((simp only [Md.Lx.adv, Md.Lx.say, Md.Lx.clr, List.nil_append, List.length_append, List.length_cons, List.length_nil]); omega)) (by decide) (by first | omega | ((simp only [Md.Lx.adv, Md.Lx.say, Md.Lx.clr, List.nil_append, List.length_append, List.length_cons, List.length_nil]); omega))) | (refine fun (hc : _ = _) => ?_; (try simp only [BB] at hc); (try (first | contradiction | (exfalso; omega)))) | exact arI | refine Pst.mk ⟨?_, rfl⟩ (by (repeat' constructor); first | done | fail) | constructor | (refine fun _ _ (hq : Hold _) => ?_; replace hq := hq.out; obtain ⟨_, rfl, rfl⟩ := hq) | (refine fun _ _ (hq : Hold _) => ?_; replace hq := hq.out; obtain ⟨_, _, rfl, rfl⟩ := hq) | rintro _ _ ⟨rfl, rfl⟩ | rintro _ _ ⟨_, rfl, rfl⟩ | rintro _ _ ⟨_, _, rfl, rfl⟩ | (refine fun (hc : _ = _) => ?_; (try simp only [BB] at hc)) | refine fun (_ : Nat) => ?_ | refine fun (_ : _ ≤ _) => ?_ | refine fun (_ : _ < _) => ?_
  all_goals simp only [min_rest, show Int.toNat 2 = 2 from rfl, show Int.toNat 1 = 1 from rfl] at *
  all_goals (try simp only [pk_adv, pk_say, Nat.add_zero, adv_adv, say_say, say_adv, pk_clr, adv_clr] at *)
  · rename_i h0 h1
    rw [refA, refer_hex (getD_some h0) (h1.2.imp (fun h => getD_some ⟨h1.1, h⟩) (fun h => getD_some ⟨h1.1, h⟩)), if_pos (Int.ofNat.inj hc)]
    exact Pst.mk (.mk ⟨_, trivial, rfl⟩) (by (repeat' constructor); first | done | fail)
  · rename_i h0 h1 h2
    rw [refA, refer_hex (getD_some h0) (h1.2.imp (fun h => getD_some ⟨h1.1, h⟩) (fun h => getD_some ⟨h1.1, h⟩)), if_neg (fun h => h2 (congrArg Int.ofNat h))]
    dsimp only
    rw [← pk_rest, if_pos hc]
    exact Pst.mk (.mk ⟨_, trivial, rfl⟩) (by (repeat' constructor); first | done | fail)
  · rename_i h0 h1 h2
    rw [refA, refer_hex (getD_some h0) (h1.2.imp (fun h => getD_some ⟨h1.1, h⟩) (fun h => getD_some ⟨h1.1, h⟩)), if_neg (fun h => h2 (congrArg Int.ofNat h))]
    dsimp only
    rw [← pk_rest, if_neg hc]
    exact Pst.mk (.mk ⟨_, trivial, rfl⟩) (by (repeat' constructor); first | done | fail)
  · rename_i h0 h1
    rw [refA, refer_dec (getD_some h0) (fun h => h.elim (getD_none (by decide) (fun a => (h1 a).1)) (getD_none (by decide) (fun a => (h1 a).2))), if_pos (Int.ofNat.inj hc)]
    exact Pst.mk (.mk ⟨_, trivial, rfl⟩) (by (repeat' constructor); first | done | fail)
  · rename_i h0 h1 h2
    rw [refA, refer_dec (getD_some h0) (fun h => h.elim (getD_none (by decide) (fun a => (h1 a).1)) (getD_none (by decide) (fun a => (h1 a).2))), if_neg (fun h => h2 (congrArg Int.ofNat h))]
    dsimp only
    rw [← pk_rest, if_pos hc]
    exact Pst.mk (.mk ⟨_, trivial, rfl⟩) (by (repeat' constructor); first | done | fail)
  · rename_i h0 h1 h2
    rw [refA, refer_dec (getD_some h0) (fun h => h.elim (getD_none (by decide) (fun a => (h1 a).1)) (getD_none (by decide) (fun a => (h1 a).2))), if_neg (fun h => h2 (congrArg Int.ofNat h))]
    dsimp only
    rw [← pk_rest, if_neg hc]
    exact Pst.mk (.mk ⟨_, trivial, rfl⟩) (by (repeat' constructor); first | done | fail)
  · rename_i h0
    rw [refA, refer_name (getD_none (by decide) h0), if_pos (Int.ofNat.inj hc)]
    exact Pst.mk (.mk ⟨_, trivial, rfl⟩) (by (repeat' constructor); first | done | fail)
  · rename_i h0 h1 h2 h3 h4
    have h5 : (Md.matchT runeBytes s.rest).2.1 < s.rest.length := by omega
    rw [refA, refer_name (getD_none (by decide) h0), if_neg (fun h => h1 (congrArg Int.ofNat h)), if_pos ⟨⟨h2.1.1, h2.1.2, h5⟩, by rw [← getD_eof h5]; exact or_assoc.1 hc⟩]
    exact Pst.mk (.mk ⟨_, trivial, rfl⟩) (by (repeat' constructor); first | done | fail)
  · rename_i h0 h1 h2 h3 h4
    have h5 : (Md.matchT runeBytes s.rest).2.1 < s.rest.length := by omega
    rw [refA, refer_name (getD_none (by decide) h0), if_neg (fun h => h1 (congrArg Int.ofNat h)), if_neg (fun h => by
      have h6 := h.2
      rw [← getD_eof h5, hc.1.2, hc.2] at h6
      simp at h6
      exact hc.1.1 h6)]
    exact Pst.mk (.mk ⟨_, trivial, rfl⟩) (by (repeat' constructor); first | done | fail)
  · rename_i h0 h1 h2 h3 h4
    have h5 : (Md.matchT runeBytes s.rest).2.1 < s.rest.length := by omega
    rw [refA, refer_name (getD_none (by decide) h0), if_neg (fun h => h1 (congrArg Int.ofNat h)), if_pos ⟨⟨h2.1.1, h2.1.2, h5⟩, by rw [← getD_eof h5]; exact h4.imp (fun h => h) .inl⟩]
    exact Pst.mk (.mk ⟨_, trivial, rfl⟩) (by (repeat' constructor); first | done | fail)
  · rename_i h0 h1 h2 h3 h4
    rcases h4 with h4 | h4
    · exact absurd h4 hc.1
    · rw [hc.2] at h4; cases h4
  · rename_i h0 h1 h2 h3 h4
    have h5 : (Md.matchT runeBytes s.rest).2.1 < s.rest.length := by omega
    rw [refA, refer_name (getD_none (by decide) h0), if_neg (fun h => h1 (congrArg Int.ofNat h)), if_pos ⟨⟨h2.1.1, h2.1.2, h5⟩, by rw [← getD_eof h5]; exact .inl h3⟩]
    exact Pst.mk (.mk ⟨_, trivial, rfl⟩) (by (repeat' constructor); first | done | fail)
  · rename_i h0 h1
    rw [refA, refer_name (getD_none (by decide) h0), if_neg (fun h => h1 (congrArg Int.ofNat h)), if_neg (fun h => hc ⟨h.1.1, h.1.2.1⟩ (by have := h.1.2.2; omega))]
    exact Pst.mk (.mk ⟨_, trivial, rfl⟩) (by (repeat' constructor); first | done | fail)
end Go.Proofs.YticnenofiibpgaaDoor.Code
/- What the lexer's value does. -/
namespace Go.Proofs.YticnenofiibpgaaDoor.Code
open Go.Dm Go.Dm.C
set_option linter.unusedSimpArgs false
set_option linter.unusedVariables false
set_option linter.unnecessarySimpa false
set_option maxRecDepth 10000
attribute [local irreducible] Go.Dm.F Go.Dm.RS Go.Dm.Y Go.Dm.FD Go.Dm.FZ1 Go.Dm.Hold
variable {id : Nat} {s : Md.Lx} {g : Nat × Nat} {cs : List Ck}
theorem numeric_nn (n : Int) : 0 ≤ Md.numeric n := by
  unfold Md.numeric
  split
  · omega
  · split
    · have h : ∀ i, i < 32 → 0 ≤ Md.windows.getD i 0 := by decide
      exact h _ (by omega)
    · omega
theorem refer_facts (v : Bool) (l : List Int) : (Md.refer v l).1.length ≤ 2 ∧ (Md.refer v l).2 ≤ l.length ∧ ∀ r ∈ (Md.refer v l).1, 0 ≤ r := by
  have hm1 := Md.matchT_le l
  have hm2 := Md.matchT_len l
  have hm3 := Md.matchT_nn l
  by_cases h0 : l.getD 0 (-1) = 35
  · by_cases h1 : l.getD 1 (-1) = 120 ∨ l.getD 1 (-1) = 88
    · rw [refer_hex h0 h1]
      have hl : 1 < l.length := by
        by_cases h : 1 < l.length
        · exact h
        · rw [List.getD_eq_getElem?_getD, List.getElem?_eq_none (by omega)] at h1; simp at h1
      have hn := numeric_nn (Md.number 16 (l.drop 2) 0 0).1
      have hk := number_pos 16 (l.drop 2) 0 0
      rw [List.length_drop] at hk
      split
      · simp
      · refine ⟨by simp, ?_, by simpa using hn⟩
        dsimp only
        split
        · rename_i h2
          by_cases h : 2 + (Md.number 16 (l.drop 2) 0 0).2 < l.length
          · omega
          · rw [List.getD_eq_getElem?_getD, List.getElem?_eq_none (by omega)] at h2; simp at h2
        · omega
    · rw [refer_dec h0 h1]
      have hl : 0 < l.length := by
        by_cases h : 0 < l.length
        · exact h
        · rw [List.getD_eq_getElem?_getD, List.getElem?_eq_none (by omega)] at h0; simp at h0
      have hn := numeric_nn (Md.number 10 (l.drop 1) 0 0).1
      have hk := number_pos 10 (l.drop 1) 0 0
      rw [List.length_drop] at hk
      split
      · simp
      · refine ⟨by simp, ?_, by simpa using hn⟩
        dsimp only
        split
        · rename_i h2
          by_cases h : 1 + (Md.number 10 (l.drop 1) 0 0).2 < l.length
          · omega
          · rw [List.getD_eq_getElem?_getD, List.getElem?_eq_none (by omega)] at h2; simp at h2
        · omega
  · rw [refer_name h0]
    split
    · simp
    · split
      · simp
      · exact ⟨hm2, hm1, hm3⟩
theorem valueGo_nil (q : Int) (acc : List Int) : Md.valueGo q [] acc = (acc, false, 0) := by rw [Md.valueGo]
theorem valueGo_cons (q r : Int) (l acc : List Int) : Md.valueGo q (r :: l) acc = if q ≠ 0 ∧ r = q then (acc, true, 1) else if q = 0 ∧ (Md.blank r = true ∨ r = 62) then (acc, true, 0) else if r = 38 then
    ((Md.valueGo q (l.drop (Md.refer true l).2) (acc ++ (Md.refer true l).1)).1, (Md.valueGo q (l.drop (Md.refer true l).2) (acc ++ (Md.refer true l).1)).2.1, (Md.valueGo q (l.drop (Md.refer true l).2) (acc ++ (Md.refer true l).1)).2.2 + (Md.refer true l).2 + 1)
    else ((Md.valueGo q l (acc ++ [Md.fixr r])).1, (Md.valueGo q l (acc ++ [Md.fixr r])).2.1, (Md.valueGo q l (acc ++ [Md.fixr r])).2.2 + 1) := by rw [Md.valueGo]
theorem value1_FD {q t5 tt : Nat} {text : List Int} {c1 cs2 : List Ck} (h1 : Me (.obj t5 (.cells [.lst tt (zOf tt 1) (text.map I32)] none)) cs) (h2 : Me (.obj q (.cells [.ptr id 0] none)) cs) (hr : Rem (.own tt 1 (text.map I32)) cs c1) (hu : Upd1 (LX id s g) (LX id { s with text := text } (g.1, tt)) c1 cs2) :
    FD D 120 [.ptr t5 0, .ptr q 0] cs (fun cs' => cs2 = cs') := by
  refine FD.of rfl rfl ?_
  repeat' first | (show LD _ _ _ _; first | exact .ptr h1 (.one rfl) | exact .ptr h2 (.one rfl)) | (apply RR.storeS; exact rfl; exact rfl; exact LX.stTextBack hr hu; exact rfl) | exact arI | refine Pst.mk ⟨?_, rfl⟩ (by (repeat' constructor); first | done | fail) | constructor | (refine fun _ _ (hq : Hold _) => ?_; replace hq := hq.out; obtain ⟨_, rfl, rfl⟩ := hq) | (refine fun _ _ (hq : Hold _) => ?_; replace hq := hq.out; obtain ⟨_, _, rfl, rfl⟩ := hq) | rintro _ _ ⟨rfl, rfl⟩ | rintro _ _ ⟨_, rfl, rfl⟩ | rintro _ _ ⟨_, _, rfl, rfl⟩ | (refine fun (hc : _ = _) => ?_; (try simp only [BB] at hc)) | refine fun (_ : Nat) => ?_ | refine fun (_ : _ ≤ _) => ?_ | refine fun (_ : _ < _) => ?_
  exact Pst.mk rfl .refl
theorem rest_say (a : List Int) : (s.say a).rest = s.rest := rfl
theorem filter_nn {l : List Int} (h : ∀ r ∈ l, 0 ≤ r) : l.filter (· != -1) = l := by
  rw [List.filter_eq_self]; intro r hr; have := h r hr; simp; omega
theorem value_eq : Md.value s.rest = if s.pk (Md.blanksN s.rest) = 62 then ([], true, Md.blanksN s.rest) else if s.pk (Md.blanksN s.rest) = 34 ∨ s.pk (Md.blanksN s.rest) = 39 then
    (Md.encode (Md.valueGo (s.pk (Md.blanksN s.rest)) (s.adv (Md.blanksN s.rest + 1)).rest []).1, (Md.valueGo (s.pk (Md.blanksN s.rest)) (s.adv (Md.blanksN s.rest + 1)).rest []).2.1, Md.blanksN s.rest + 1 + (Md.valueGo (s.pk (Md.blanksN s.rest)) (s.adv (Md.blanksN s.rest + 1)).rest []).2.2)
    else (Md.encode (Md.valueGo 0 (s.adv (Md.blanksN s.rest)).rest []).1, (Md.valueGo 0 (s.adv (Md.blanksN s.rest)).rest []).2.1, Md.blanksN s.rest + (Md.valueGo 0 (s.adv (Md.blanksN s.rest)).rest []).2.2) := by
  simp only [Md.value, pk_rest, rest_adv]
theorem refA_eq {k : Nat} {acc : List Int} {v : Bool} : refA ((s.adv k).clr.say acc) v = ((s.adv (k + (Md.refer v (s.adv k).rest).2)).clr.say (acc ++ (Md.refer v (s.adv k).rest).1)) := by
  simp only [refA, rest_say, rest_clr, say_adv, adv_clr, adv_adv, say_say]
set_option maxHeartbeats 1000000 in
theorem value_F {cs2 : List Ck} (hu : Upd1 (LX id s g) (LX id (s.adv (Md.value s.rest).2.2) g) cs cs2) (hb : s.inp.length ≤ 1000000000 ∧ s.pos ≤ s.inp.length) (hn : ∀ r ∈ s.inp, 0 ≤ r) :
    F D 118 [.ptr id 0] cs (fun v cs' => v = .tup [.str (Md.value s.rest).1, .bool (Md.value s.rest).2.1] ∧ cs2 = cs') := by
  refine F.at1 hu fun R => F.of rfl rfl rfl ?_
  repeat' first | (show LD _ _ _ _; first | exact LX.ldPos (by (repeat' constructor); first | done | fail) | exact LX.ldWay (by (repeat' constructor); first | done | fail) | exact LX.ldLast (by (repeat' constructor); first | done | fail) | exact LX.ldRoom (by (repeat' constructor); first | done | fail) | exact LX.ldDone (by (repeat' constructor); first | done | fail) | exact LX.ldText (by (repeat' constructor); first | done | fail)) | (apply RR.lxIn; exact rfl; exact rfl; exact rfl; exact (by (repeat' constructor); first | done | fail); refine fun _ => ?_) | (apply RR.lxOut; exact rfl; exact rfl; exact rfl; exact (by (repeat' constructor); first | done | fail); refine fun _ => ?_) | (apply RR.storeS; exact rfl; exact rfl; first | exact LX.stPos 1 rfl (by (repeat' constructor); first | done | fail) | exact LX.stPos 2 rfl (by (repeat' constructor); first | done | fail) | exact LX.stPos 3 rfl (by (repeat' constructor); first | done | fail) | exact LX.stPos 6 rfl (by (repeat' constructor); first | done | fail) | exact LX.stPos 7 rfl (by (repeat' constructor); first | done | fail) | exact LX.stPos _ rfl (by (repeat' constructor); first | done | fail) | exact LX.stPos2 1 _ (by (repeat' constructor); first | done | fail) | exact LX.stPos2 2 _ (by (repeat' constructor); first | done | fail) | exact LX.stWay (by (repeat' constructor); first | done | fail) | exact LX.stLast (by (repeat' constructor); first | done | fail) | exact LX.stRoom (by (repeat' constructor); first | done | fail) | exact LX.stDone (by (repeat' constructor); first | done | fail); exact rfl) | (show FC _ _ _ _ _; first | exact peek0_F (by (repeat' constructor); first | done | fail) (by first | omega | ((simp only [Md.Lx.adv, Md.Lx.say, Md.Lx.clr, List.nil_append, List.length_append, List.length_cons, List.length_nil]); omega)) | exact peek1_F (by (repeat' constructor); first | done | fail) (by first | omega | ((simp only [Md.Lx.adv, Md.Lx.say, Md.Lx.clr, List.nil_append, List.length_append, List.length_cons, List.length_nil]); omega)) | exact peek6_F (by (repeat' constructor); first | done | fail) (by first | omega | ((simp only [Md.Lx.adv, Md.Lx.say, Md.Lx.clr, List.nil_append, List.length_append, List.length_cons, List.length_nil]); omega)) | exact next_F (by (repeat' constructor); first | done | fail) (by first | omega | ((simp only [Md.Lx.adv, Md.Lx.say, Md.Lx.clr, List.nil_append, List.length_append, List.length_cons, List.length_nil]); omega)) | exact back_F (by (repeat' constructor); first | done | fail) (by first | omega | ((simp only [Md.Lx.adv, Md.Lx.say, Md.Lx.clr, List.nil_append, List.length_append, List.length_cons, List.length_nil]); omega)) | exact blank_F | exact letter_F | exact small_F | exact encode_F rfl (by first | omega | ((simp only [Md.Lx.adv, Md.Lx.say, Md.Lx.clr, List.nil_append, List.length_append, List.length_cons, List.length_nil]); omega)) | exact say_F rfl (by (repeat' constructor); first | done | fail) (by (repeat' constructor); first | done | fail) (by first | omega | ((simp only [Md.Lx.adv, Md.Lx.say, Md.Lx.clr, List.nil_append, List.length_append, List.length_cons, List.length_nil]); omega)) | exact stands_F (by (repeat' constructor); first | done | fail) (by first | omega | ((simp only [Md.Lx.adv, Md.Lx.say, Md.Lx.clr, List.nil_append, List.length_append, List.length_cons, List.length_nil]); omega)) (by decide) (by first | omega | ((simp only [Md.Lx.adv, Md.Lx.say, Md.Lx.clr, List.nil_append, List.length_append, List.length_cons, List.length_nil]); omega)) | exact exact_F (by (repeat' constructor); first | done | fail) (by first | omega | ((simp only [Md.Lx.adv, Md.Lx.say, Md.Lx.clr, List.nil_append, List.length_append, List.length_cons, List.length_nil]); omega)) (by decide) (by first | omega | ((simp only [Md.Lx.adv, Md.Lx.say, Md.Lx.clr, List.nil_append, List.length_append, List.length_cons, List.length_nil]); omega))) | (refine fun (hc : _ = _) => ?_; (try simp only [BB] at hc); (try (first | contradiction | (exfalso; omega)))) | (refine Arith.mk ?_; (try intro _); simp only [Md.Lx.adv, Md.Lx.say, Md.Lx.clr, List.nil_append, List.length_append, List.length_cons, List.length_nil]; omega) | exact arI | refine Pst.mk ⟨?_, rfl⟩ (by (repeat' constructor); first | done | fail) | constructor | (refine fun _ _ (hq : Hold _) => ?_; replace hq := hq.out; obtain ⟨_, rfl, rfl⟩ := hq) | (refine fun _ _ (hq : Hold _) => ?_; replace hq := hq.out; obtain ⟨_, _, rfl, rfl⟩ := hq) | rintro _ _ ⟨rfl, rfl⟩ | rintro _ _ ⟨_, rfl, rfl⟩ | rintro _ _ ⟨_, _, rfl, rfl⟩ | (refine fun (hc : _ = _) => ?_; (try simp only [BB] at hc)) | refine fun (_ : Nat) => ?_ | refine fun (_ : _ ≤ _) => ?_ | refine fun (_ : _ < _) => ?_
  rename_i q hq
  refine RS.loopW (α := Nat) (fun i => [(1, .ptr q 0), (2, .str []), (3, .bool false)]) (fun i => .obj q (.cells [.ptr id 0] none) :: LX id (s.adv i) g :: R)
    (fun i => i + Md.blanksN (s.adv i).rest = Md.blanksN s.rest ∧ (i = 0 ∨ s.pos + i ≤ s.inp.length)) (fun i => s.inp.length - (s.pos + i)) 0 ⟨by simp [adv_zero], .inl rfl⟩ ⟨rfl, rfl, rfl, trivial⟩ .refl ?_
  rintro i ⟨h1, h2⟩ ih
  dsimp only [ents] at *
  (have hst := fun h => rest_adv_cons (s := s) (i := i) h; have hnil := fun h => rest_adv_nil (s := s) (i := i) h; have hpn := fun h => pk_out (s := s) (i := i) h; have hpi := fun h => pk_in (s := s) (i := i) hn h)
  have hbs := fun h => blanksN_step (s := s.adv i) h
  rw [adv_adv] at hbs
  repeat' first | (show LD _ _ _ _; first | exact LX.ldText (by (repeat' constructor); first | done | fail)) | (apply RR.storeS; exact rfl; exact rfl; exact LX.stTextNil (by (repeat' constructor); first | done | fail); exact rfl) | (show FC _ _ _ _ _; first | exact peek0_F (by (repeat' constructor); first | done | fail) (by first | omega | ((simp only [Md.Lx.adv, Md.Lx.say, Md.Lx.clr, List.nil_append, List.length_append, List.length_cons, List.length_nil]); omega)) | exact peek1_F (by (repeat' constructor); first | done | fail) (by first | omega | ((simp only [Md.Lx.adv, Md.Lx.say, Md.Lx.clr, List.nil_append, List.length_append, List.length_cons, List.length_nil]); omega)) | exact peek6_F (by (repeat' constructor); first | done | fail) (by first | omega | ((simp only [Md.Lx.adv, Md.Lx.say, Md.Lx.clr, List.nil_append, List.length_append, List.length_cons, List.length_nil]); omega)) | exact next_F (by (repeat' constructor); first | done | fail) (by first | omega | ((simp only [Md.Lx.adv, Md.Lx.say, Md.Lx.clr, List.nil_append, List.length_append, List.length_cons, List.length_nil]); omega)) | exact back_F (by (repeat' constructor); first | done | fail) (by first | omega | ((simp only [Md.Lx.adv, Md.Lx.say, Md.Lx.clr, List.nil_append, List.length_append, List.length_cons, List.length_nil]); omega)) | exact blank_F | exact letter_F | exact small_F | exact encode_F rfl (by first | omega | ((simp only [Md.Lx.adv, Md.Lx.say, Md.Lx.clr, List.nil_append, List.length_append, List.length_cons, List.length_nil]); omega)) | exact say_F rfl (by (repeat' constructor); first | done | fail) (by (repeat' constructor); first | done | fail) (by first | omega | ((simp only [Md.Lx.adv, Md.Lx.say, Md.Lx.clr, List.nil_append, List.length_append, List.length_cons, List.length_nil]); omega)) | exact stands_F (by (repeat' constructor); first | done | fail) (by first | omega | ((simp only [Md.Lx.adv, Md.Lx.say, Md.Lx.clr, List.nil_append, List.length_append, List.length_cons, List.length_nil]); omega)) (by decide) (by first | omega | ((simp only [Md.Lx.adv, Md.Lx.say, Md.Lx.clr, List.nil_append, List.length_append, List.length_cons, List.length_nil]); omega)) | exact exact_F (by (repeat' constructor); first | done | fail) (by first | omega | ((simp only [Md.Lx.adv, Md.Lx.say, Md.Lx.clr, List.nil_append, List.length_append, List.length_cons, List.length_nil]); omega)) (by decide) (by first | omega | ((simp only [Md.Lx.adv, Md.Lx.say, Md.Lx.clr, List.nil_append, List.length_append, List.length_cons, List.length_nil]); omega))) | (refine fun (hc : _ = _) => ?_; (try simp only [BB] at hc); (try (first | contradiction | (exfalso; omega)))) | exact arI | refine Pst.mk ⟨?_, rfl⟩ (by (repeat' constructor); first | done | fail) | constructor | (refine fun _ _ (hq : Hold _) => ?_; replace hq := hq.out; obtain ⟨_, rfl, rfl⟩ := hq) | (refine fun _ _ (hq : Hold _) => ?_; replace hq := hq.out; obtain ⟨_, _, rfl, rfl⟩ := hq) | rintro _ _ ⟨rfl, rfl⟩ | rintro _ _ ⟨_, rfl, rfl⟩ | rintro _ _ ⟨_, _, rfl, rfl⟩ | (refine fun (hc : _ = _) => ?_; (try simp only [BB] at hc)) | refine fun (_ : Nat) => ?_ | refine fun (_ : _ ≤ _) => ?_ | refine fun (_ : _ < _) => ?_
  · have hlt : s.pos + i < s.inp.length := by
      by_cases h : s.pos + i < s.inp.length
      · exact h
      · have e : (s.adv i).pk 0 = -1 := by rw [pk_adv, Nat.add_zero]; exact hpn (by omega)
        rw [e] at hc; cases hc
    have h3 := hbs hlt
    rw [if_pos hc] at h3
    exact ih _ _ (i + 1) ⟨by omega, .inr (by omega)⟩ (by omega) ⟨rfl, rfl, rfl, trivial⟩ (by (repeat' constructor); first | done | fail)
  all_goals
    have hib : i = Md.blanksN s.rest := by
      by_cases h : s.pos + i < s.inp.length
      · have h3 := hbs h
        rw [if_neg (by simp_all)] at h3; omega
      · have h3 := hnil (by omega); rw [h3] at h1; simpa [Md.blanksN] using h1
    have e0 : (s.adv i).pk 0 = s.pk i := by rw [pk_adv, Nat.add_zero]
    have hve := value_eq (s := s)
    rw [← hib] at hve
  · rename_i t5 _
    generalize i = i0 at *
    rw [if_neg (by omega), if_pos (by omega)] at hve
    refine RS.loopW (α := Nat × Nat × List Int) (fun a => [(1, .ptr q 0), (4, .int .i32 (s.pk i0))]) (fun a => .own g.2 1 (s.text.map I32) :: .obj t5 (.cells [.lst g.2 (zOf g.2 1) (s.text.map I32)] none) :: .obj q (.cells [.ptr id 0] none) :: LX id ((s.adv a.1).clr.say a.2.2) (g.1, a.2.1) :: R)
      (fun a => (Md.valueGo (s.pk i0) (s.adv a.1).rest a.2.2).1 = (Md.valueGo (s.pk i0) (s.adv (i0 + 1)).rest []).1 ∧ (Md.valueGo (s.pk i0) (s.adv a.1).rest a.2.2).2.1 = (Md.valueGo (s.pk i0) (s.adv (i0 + 1)).rest []).2.1 ∧ a.1 + (Md.valueGo (s.pk i0) (s.adv a.1).rest a.2.2).2.2 = i0 + 1 + (Md.valueGo (s.pk i0) (s.adv (i0 + 1)).rest []).2.2 ∧ (∀ r ∈ a.2.2, 0 ≤ r) ∧ a.2.2.length ≤ 2 * a.1 ∧ s.pos + a.1 ≤ s.inp.length) (fun a => s.inp.length - (s.pos + a.1)) (i0 + 1, 0, []) ⟨rfl, rfl, rfl, by simp, by simp, by dsimp only; omega⟩ ⟨rfl, rfl, trivial⟩ .refl ?_
    clear hst hnil hpn hpi hbs
    rintro ⟨i, tt, acc⟩ ⟨k1, k2, k3, k4, k5, k6⟩ ih
    dsimp only [ents] at *
    (have hst := fun h => rest_adv_cons (s := s) (i := i) h; have hnil := fun h => rest_adv_nil (s := s) (i := i) h; have hpn := fun h => pk_out (s := s) (i := i) h; have hpi := fun h => pk_in (s := s) (i := i) hn h)
    have hfl := filter_le acc
    repeat' first | (show LD _ _ _ _; first | exact LX.ldText (by (repeat' constructor); first | done | fail)) | exact value1_FD (by (repeat' constructor); first | done | fail) (by (repeat' constructor); first | done | fail) (by (repeat' constructor); first | done | fail) (by (repeat' constructor); first | done | fail) | (show FC _ _ _ _ _; first | exact reference_F (by (repeat' constructor); first | done | fail) (by simp only [Md.Lx.adv, Md.Lx.say, Md.Lx.clr, List.nil_append, List.length_append]; omega) | exact say_F rfl (by (repeat' constructor); first | done | fail) (by (repeat' constructor); first | done | fail) (by simp only [Md.Lx.adv, Md.Lx.say, Md.Lx.clr, List.nil_append, List.length_append, List.length_cons, List.length_nil]; omega) | exact encode_F (rs := ([] ++ acc.filter (· != -1))) rfl (by simp only [List.nil_append]; omega) | exact peek0_F (by (repeat' constructor); first | done | fail) (by first | omega | ((simp only [Md.Lx.adv, Md.Lx.say, Md.Lx.clr, List.nil_append, List.length_append, List.length_cons, List.length_nil]); omega)) | exact peek1_F (by (repeat' constructor); first | done | fail) (by first | omega | ((simp only [Md.Lx.adv, Md.Lx.say, Md.Lx.clr, List.nil_append, List.length_append, List.length_cons, List.length_nil]); omega)) | exact peek6_F (by (repeat' constructor); first | done | fail) (by first | omega | ((simp only [Md.Lx.adv, Md.Lx.say, Md.Lx.clr, List.nil_append, List.length_append, List.length_cons, List.length_nil]); omega)) | exact next_F (by (repeat' constructor); first | done | fail) (by first | omega | ((simp only [Md.Lx.adv, Md.Lx.say, Md.Lx.clr, List.nil_append, List.length_append, List.length_cons, List.length_nil]); omega)) | exact back_F (by (repeat' constructor); first | done | fail) (by first | omega | ((simp only [Md.Lx.adv, Md.Lx.say, Md.Lx.clr, List.nil_append, List.length_append, List.length_cons, List.length_nil]); omega)) | exact blank_F | exact letter_F | exact small_F | exact encode_F rfl (by first | omega | ((simp only [Md.Lx.adv, Md.Lx.say, Md.Lx.clr, List.nil_append, List.length_append, List.length_cons, List.length_nil]); omega)) | exact say_F rfl (by (repeat' constructor); first | done | fail) (by (repeat' constructor); first | done | fail) (by first | omega | ((simp only [Md.Lx.adv, Md.Lx.say, Md.Lx.clr, List.nil_append, List.length_append, List.length_cons, List.length_nil]); omega)) | exact stands_F (by (repeat' constructor); first | done | fail) (by first | omega | ((simp only [Md.Lx.adv, Md.Lx.say, Md.Lx.clr, List.nil_append, List.length_append, List.length_cons, List.length_nil]); omega)) (by decide) (by first | omega | ((simp only [Md.Lx.adv, Md.Lx.say, Md.Lx.clr, List.nil_append, List.length_append, List.length_cons, List.length_nil]); omega)) | exact exact_F (by (repeat' constructor); first | done | fail) (by first | omega | ((simp only [Md.Lx.adv, Md.Lx.say, Md.Lx.clr, List.nil_append, List.length_append, List.length_cons, List.length_nil]); omega)) (by decide) (by first | omega | ((simp only [Md.Lx.adv, Md.Lx.say, Md.Lx.clr, List.nil_append, List.length_append, List.length_cons, List.length_nil]); omega))) | (refine fun _ (hq : _ = _) => ?_; subst hq) | (refine fun (hc : _ = _) => ?_; (try simp only [BB] at hc); (try (first | contradiction | (exfalso; omega)))) | exact arI | refine Pst.mk ⟨?_, rfl⟩ (by (repeat' constructor); first | done | fail) | constructor | (refine fun _ _ (hq : Hold _) => ?_; replace hq := hq.out; obtain ⟨_, rfl, rfl⟩ := hq) | (refine fun _ _ (hq : Hold _) => ?_; replace hq := hq.out; obtain ⟨_, _, rfl, rfl⟩ := hq) | rintro _ _ ⟨rfl, rfl⟩ | rintro _ _ ⟨_, rfl, rfl⟩ | rintro _ _ ⟨_, _, rfl, rfl⟩ | (refine fun (hc : _ = _) => ?_; (try simp only [BB] at hc)) | refine fun (_ : Nat) => ?_ | refine fun (_ : _ ≤ _) => ?_ | refine fun (_ : _ < _) => ?_
    all_goals (try simp only [pk_adv, pk_say, Nat.add_zero, adv_adv, say_say, say_adv, pk_clr, adv_clr] at *)
    · have hge : s.inp.length ≤ s.pos + i := by by_cases h : s.pos + i < s.inp.length; (have := hpi h; omega); omega
      rw [hnil hge, valueGo_nil] at k1 k2 k3
      dsimp only at k1 k2 k3
      rw [List.nil_append, filter_nn k4, hve]
      dsimp only
      rw [← k1, ← k2, ← k3]
      exact Pst.mk ⟨rfl, rfl⟩ (by (repeat' constructor); first | done | fail)
    · have hlt : s.pos + i < s.inp.length := by by_cases h : s.pos + i < s.inp.length; exact h; have := hpn (by omega); omega
      rw [hst hlt, valueGo_cons, if_pos (by omega)] at k1 k2 k3
      dsimp only at k1 k2 k3
      rw [List.nil_append, filter_nn k4, hve]
      dsimp only
      rw [← k1, ← k2, ← k3]
      exact Pst.mk ⟨rfl, rfl⟩ (by (repeat' constructor); first | done | fail)
    · rename_i hA hB
      have hlt : s.pos + i < s.inp.length := by by_cases h : s.pos + i < s.inp.length; exact h; have := hpn (by omega); omega
      have hrf := refer_facts true (s.adv (i + 1)).rest
      have hrl := rest_len (s := s.adv (i + 1))
      have hrp : (s.adv (i + 1)).pos = s.pos + (i + 1) := rfl
      have hri : (s.adv (i + 1)).inp = s.inp := rfl
      rw [hrp, hri] at hrl
      rw [hst hlt, valueGo_cons, if_neg (fun h => by omega), if_neg (fun h => by omega), if_pos hc, ← rest_adv, adv_adv] at k1 k2 k3
      refine ih _ _ (i + 1 + (Md.refer true (s.adv (i + 1)).rest).2, _, acc ++ (Md.refer true (s.adv (i + 1)).rest).1) ⟨k1, k2, ?_, ?_, ?_, ?_⟩ ?_ ⟨rfl, rfl, trivial⟩ (by rw [refA_eq]; exact (by (repeat' constructor); first | done | fail))
      · dsimp only at k3 ⊢; omega
      · intro r hr; rcases List.mem_append.1 hr with hr | hr; exact k4 r hr; exact hrf.2.2 r hr
      · simp only [List.length_append]; omega
      · dsimp only; omega
      · dsimp only; omega
    all_goals
      rename_i hA hB hC
      have hlt : s.pos + i < s.inp.length := by by_cases h : s.pos + i < s.inp.length; exact h; have := hpn (by omega); omega
      rw [hst hlt, valueGo_cons, if_neg (fun h => by omega), if_neg (fun h => by omega), if_neg hC] at k1 k2 k3
    · rw [Md.fixr, if_pos hc] at k1 k2 k3
      refine ih _ _ (i + 1, _, acc ++ [65533]) ⟨k1, k2, by dsimp only at k3 ⊢; omega, ?_, by simp; omega, by dsimp only; omega⟩ (by dsimp only; omega) ⟨rfl, rfl, trivial⟩ (by (repeat' constructor); first | done | fail)
      intro r hr; rcases List.mem_append.1 hr with hr | hr; exact k4 r hr; simp at hr; omega
    · rw [Md.fixr, if_neg hc] at k1 k2 k3
      refine ih _ _ (i + 1, _, acc ++ [s.pk i]) ⟨k1, k2, by dsimp only at k3 ⊢; omega, ?_, by simp; omega, by dsimp only; omega⟩ (by dsimp only; omega) ⟨rfl, rfl, trivial⟩ (by (repeat' constructor); first | done | fail)
      have := hpi hlt
      intro r hr; rcases List.mem_append.1 hr with hr | hr; exact k4 r hr; simp at hr; omega
  · rename_i t5 _
    generalize i = i0 at *
    rw [if_neg (by omega), if_pos (by omega)] at hve
    refine RS.loopW (α := Nat × Nat × List Int) (fun a => [(1, .ptr q 0), (4, .int .i32 (s.pk i0))]) (fun a => .own g.2 1 (s.text.map I32) :: .obj t5 (.cells [.lst g.2 (zOf g.2 1) (s.text.map I32)] none) :: .obj q (.cells [.ptr id 0] none) :: LX id ((s.adv a.1).clr.say a.2.2) (g.1, a.2.1) :: R)
      (fun a => (Md.valueGo (s.pk i0) (s.adv a.1).rest a.2.2).1 = (Md.valueGo (s.pk i0) (s.adv (i0 + 1)).rest []).1 ∧ (Md.valueGo (s.pk i0) (s.adv a.1).rest a.2.2).2.1 = (Md.valueGo (s.pk i0) (s.adv (i0 + 1)).rest []).2.1 ∧ a.1 + (Md.valueGo (s.pk i0) (s.adv a.1).rest a.2.2).2.2 = i0 + 1 + (Md.valueGo (s.pk i0) (s.adv (i0 + 1)).rest []).2.2 ∧ (∀ r ∈ a.2.2, 0 ≤ r) ∧ a.2.2.length ≤ 2 * a.1 ∧ s.pos + a.1 ≤ s.inp.length) (fun a => s.inp.length - (s.pos + a.1)) (i0 + 1, 0, []) ⟨rfl, rfl, rfl, by simp, by simp, by dsimp only; omega⟩ ⟨rfl, rfl, trivial⟩ .refl ?_
    clear hst hnil hpn hpi hbs
    rintro ⟨i, tt, acc⟩ ⟨k1, k2, k3, k4, k5, k6⟩ ih
    dsimp only [ents] at *
    (have hst := fun h => rest_adv_cons (s := s) (i := i) h; have hnil := fun h => rest_adv_nil (s := s) (i := i) h; have hpn := fun h => pk_out (s := s) (i := i) h; have hpi := fun h => pk_in (s := s) (i := i) hn h)
    have hfl := filter_le acc
    repeat' first | (show LD _ _ _ _; first | exact LX.ldText (by (repeat' constructor); first | done | fail)) | exact value1_FD (by (repeat' constructor); first | done | fail) (by (repeat' constructor); first | done | fail) (by (repeat' constructor); first | done | fail) (by (repeat' constructor); first | done | fail) | (show FC _ _ _ _ _; first | exact reference_F (by (repeat' constructor); first | done | fail) (by simp only [Md.Lx.adv, Md.Lx.say, Md.Lx.clr, List.nil_append, List.length_append]; omega) | exact say_F rfl (by (repeat' constructor); first | done | fail) (by (repeat' constructor); first | done | fail) (by simp only [Md.Lx.adv, Md.Lx.say, Md.Lx.clr, List.nil_append, List.length_append, List.length_cons, List.length_nil]; omega) | exact encode_F (rs := ([] ++ acc.filter (· != -1))) rfl (by simp only [List.nil_append]; omega) | exact peek0_F (by (repeat' constructor); first | done | fail) (by first | omega | ((simp only [Md.Lx.adv, Md.Lx.say, Md.Lx.clr, List.nil_append, List.length_append, List.length_cons, List.length_nil]); omega)) | exact peek1_F (by (repeat' constructor); first | done | fail) (by first | omega | ((simp only [Md.Lx.adv, Md.Lx.say, Md.Lx.clr, List.nil_append, List.length_append, List.length_cons, List.length_nil]); omega)) | exact peek6_F (by (repeat' constructor); first | done | fail) (by first | omega | ((simp only [Md.Lx.adv, Md.Lx.say, Md.Lx.clr, List.nil_append, List.length_append, List.length_cons, List.length_nil]); omega)) | exact next_F (by (repeat' constructor); first | done | fail) (by first | omega | ((simp only [Md.Lx.adv, Md.Lx.say, Md.Lx.clr, List.nil_append, List.length_append, List.length_cons, List.length_nil]); omega)) | exact back_F (by (repeat' constructor); first | done | fail) (by first | omega | ((simp only [Md.Lx.adv, Md.Lx.say, Md.Lx.clr, List.nil_append, List.length_append, List.length_cons, List.length_nil]); omega)) | exact blank_F | exact letter_F | exact small_F | exact encode_F rfl (by first | omega | ((simp only [Md.Lx.adv, Md.Lx.say, Md.Lx.clr, List.nil_append, List.length_append, List.length_cons, List.length_nil]); omega)) | exact say_F rfl (by (repeat' constructor); first | done | fail) (by (repeat' constructor); first | done | fail) (by first | omega | ((simp only [Md.Lx.adv, Md.Lx.say, Md.Lx.clr, List.nil_append, List.length_append, List.length_cons, List.length_nil]); omega)) | exact stands_F (by (repeat' constructor); first | done | fail) (by first | omega | ((simp only [Md.Lx.adv, Md.Lx.say, Md.Lx.clr, List.nil_append, List.length_append, List.length_cons, List.length_nil]); omega)) (by decide) (by first | omega | ((simp only [Md.Lx.adv, Md.Lx.say, Md.Lx.clr, List.nil_append, List.length_append, List.length_cons, List.length_nil]); omega)) | exact exact_F (by (repeat' constructor); first | done | fail) (by first | omega | ((simp only [Md.Lx.adv, Md.Lx.say, Md.Lx.clr, List.nil_append, List.length_append, List.length_cons, List.length_nil]); omega)) (by decide) (by first | omega | ((simp only [Md.Lx.adv, Md.Lx.say, Md.Lx.clr, List.nil_append, List.length_append, List.length_cons, List.length_nil]); omega))) | (refine fun _ (hq : _ = _) => ?_; subst hq) | (refine fun (hc : _ = _) => ?_; (try simp only [BB] at hc); (try (first | contradiction | (exfalso; omega)))) | exact arI | refine Pst.mk ⟨?_, rfl⟩ (by (repeat' constructor); first | done | fail) | constructor | (refine fun _ _ (hq : Hold _) => ?_; replace hq := hq.out; obtain ⟨_, rfl, rfl⟩ := hq) | (refine fun _ _ (hq : Hold _) => ?_; replace hq := hq.out; obtain ⟨_, _, rfl, rfl⟩ := hq) | rintro _ _ ⟨rfl, rfl⟩ | rintro _ _ ⟨_, rfl, rfl⟩ | rintro _ _ ⟨_, _, rfl, rfl⟩ | (refine fun (hc : _ = _) => ?_; (try simp only [BB] at hc)) | refine fun (_ : Nat) => ?_ | refine fun (_ : _ ≤ _) => ?_ | refine fun (_ : _ < _) => ?_
    all_goals (try simp only [pk_adv, pk_say, Nat.add_zero, adv_adv, say_say, say_adv, pk_clr, adv_clr] at *)
    · have hge : s.inp.length ≤ s.pos + i := by by_cases h : s.pos + i < s.inp.length; (have := hpi h; omega); omega
      rw [hnil hge, valueGo_nil] at k1 k2 k3
      dsimp only at k1 k2 k3
      rw [List.nil_append, filter_nn k4, hve]
      dsimp only
      rw [← k1, ← k2, ← k3]
      exact Pst.mk ⟨rfl, rfl⟩ (by (repeat' constructor); first | done | fail)
    · have hlt : s.pos + i < s.inp.length := by by_cases h : s.pos + i < s.inp.length; exact h; have := hpn (by omega); omega
      rw [hst hlt, valueGo_cons, if_pos (by omega)] at k1 k2 k3
      dsimp only at k1 k2 k3
      rw [List.nil_append, filter_nn k4, hve]
      dsimp only
      rw [← k1, ← k2, ← k3]
      exact Pst.mk ⟨rfl, rfl⟩ (by (repeat' constructor); first | done | fail)
    · rename_i hA hB
      have hlt : s.pos + i < s.inp.length := by by_cases h : s.pos + i < s.inp.length; exact h; have := hpn (by omega); omega
      have hrf := refer_facts true (s.adv (i + 1)).rest
      have hrl := rest_len (s := s.adv (i + 1))
      have hrp : (s.adv (i + 1)).pos = s.pos + (i + 1) := rfl
      have hri : (s.adv (i + 1)).inp = s.inp := rfl
      rw [hrp, hri] at hrl
      rw [hst hlt, valueGo_cons, if_neg (fun h => by omega), if_neg (fun h => by omega), if_pos hc, ← rest_adv, adv_adv] at k1 k2 k3
      refine ih _ _ (i + 1 + (Md.refer true (s.adv (i + 1)).rest).2, _, acc ++ (Md.refer true (s.adv (i + 1)).rest).1) ⟨k1, k2, ?_, ?_, ?_, ?_⟩ ?_ ⟨rfl, rfl, trivial⟩ (by rw [refA_eq]; exact (by (repeat' constructor); first | done | fail))
      · dsimp only at k3 ⊢; omega
      · intro r hr; rcases List.mem_append.1 hr with hr | hr; exact k4 r hr; exact hrf.2.2 r hr
      · simp only [List.length_append]; omega
      · dsimp only; omega
      · dsimp only; omega
    all_goals
      rename_i hA hB hC
      have hlt : s.pos + i < s.inp.length := by by_cases h : s.pos + i < s.inp.length; exact h; have := hpn (by omega); omega
      rw [hst hlt, valueGo_cons, if_neg (fun h => by omega), if_neg (fun h => by omega), if_neg hC] at k1 k2 k3
    · rw [Md.fixr, if_pos hc] at k1 k2 k3
      refine ih _ _ (i + 1, _, acc ++ [65533]) ⟨k1, k2, by dsimp only at k3 ⊢; omega, ?_, by simp; omega, by dsimp only; omega⟩ (by dsimp only; omega) ⟨rfl, rfl, trivial⟩ (by (repeat' constructor); first | done | fail)
      intro r hr; rcases List.mem_append.1 hr with hr | hr; exact k4 r hr; simp at hr; omega
    · rw [Md.fixr, if_neg hc] at k1 k2 k3
      refine ih _ _ (i + 1, _, acc ++ [s.pk i]) ⟨k1, k2, by dsimp only at k3 ⊢; omega, ?_, by simp; omega, by dsimp only; omega⟩ (by dsimp only; omega) ⟨rfl, rfl, trivial⟩ (by (repeat' constructor); first | done | fail)
      have := hpi hlt
      intro r hr; rcases List.mem_append.1 hr with hr | hr; exact k4 r hr; simp at hr; omega
  · rw [hve, if_pos (by omega)]
    exact Pst.mk ⟨rfl, rfl⟩ (by (repeat' constructor); first | done | fail)
  · rename_i t5 _
    generalize i = i0 at *
    rw [if_neg (by omega), if_neg (by omega)] at hve
    refine RS.loopW (α := Nat × Nat × List Int) (fun a => [(1, .ptr q 0), (4, .int .i32 (0))]) (fun a => .own g.2 1 (s.text.map I32) :: .obj t5 (.cells [.lst g.2 (zOf g.2 1) (s.text.map I32)] none) :: .obj q (.cells [.ptr id 0] none) :: LX id ((s.adv a.1).clr.say a.2.2) (g.1, a.2.1) :: R)
      (fun a => (Md.valueGo (0) (s.adv a.1).rest a.2.2).1 = (Md.valueGo (0) (s.adv (i0)).rest []).1 ∧ (Md.valueGo (0) (s.adv a.1).rest a.2.2).2.1 = (Md.valueGo (0) (s.adv (i0)).rest []).2.1 ∧ a.1 + (Md.valueGo (0) (s.adv a.1).rest a.2.2).2.2 = i0 + (Md.valueGo (0) (s.adv (i0)).rest []).2.2 ∧ (∀ r ∈ a.2.2, 0 ≤ r) ∧ a.2.2.length ≤ 2 * a.1 ∧ s.pos + a.1 ≤ s.inp.length) (fun a => s.inp.length - (s.pos + a.1)) (i0, 0, []) ⟨rfl, rfl, rfl, by simp, by simp, by dsimp only; omega⟩ ⟨rfl, rfl, trivial⟩ .refl ?_
    clear hst hnil hpn hpi hbs
    rintro ⟨i, tt, acc⟩ ⟨k1, k2, k3, k4, k5, k6⟩ ih
    dsimp only [ents] at *
    (have hst := fun h => rest_adv_cons (s := s) (i := i) h; have hnil := fun h => rest_adv_nil (s := s) (i := i) h; have hpn := fun h => pk_out (s := s) (i := i) h; have hpi := fun h => pk_in (s := s) (i := i) hn h)
    have hfl := filter_le acc
    repeat' first | (show LD _ _ _ _; first | exact LX.ldText (by (repeat' constructor); first | done | fail)) | exact value1_FD (by (repeat' constructor); first | done | fail) (by (repeat' constructor); first | done | fail) (by (repeat' constructor); first | done | fail) (by (repeat' constructor); first | done | fail) | (show FC _ _ _ _ _; first | exact reference_F (by (repeat' constructor); first | done | fail) (by simp only [Md.Lx.adv, Md.Lx.say, Md.Lx.clr, List.nil_append, List.length_append]; omega) | exact say_F rfl (by (repeat' constructor); first | done | fail) (by (repeat' constructor); first | done | fail) (by simp only [Md.Lx.adv, Md.Lx.say, Md.Lx.clr, List.nil_append, List.length_append, List.length_cons, List.length_nil]; omega) | exact encode_F (rs := ([] ++ acc.filter (· != -1))) rfl (by simp only [List.nil_append]; omega) | exact peek0_F (by (repeat' constructor); first | done | fail) (by first | omega | ((simp only [Md.Lx.adv, Md.Lx.say, Md.Lx.clr, List.nil_append, List.length_append, List.length_cons, List.length_nil]); omega)) | exact peek1_F (by (repeat' constructor); first | done | fail) (by first | omega | ((simp only [Md.Lx.adv, Md.Lx.say, Md.Lx.clr, List.nil_append, List.length_append, List.length_cons, List.length_nil]); omega)) | exact peek6_F (by (repeat' constructor); first | done | fail) (by first | omega | ((simp only [Md.Lx.adv, Md.Lx.say, Md.Lx.clr, List.nil_append, List.length_append, List.length_cons, List.length_nil]); omega)) | exact next_F (by (repeat' constructor); first | done | fail) (by first | omega | ((simp only [Md.Lx.adv, Md.Lx.say, Md.Lx.clr, List.nil_append, List.length_append, List.length_cons, List.length_nil]); omega)) | exact back_F (by (repeat' constructor); first | done | fail) (by first | omega | ((simp only [Md.Lx.adv, Md.Lx.say, Md.Lx.clr, List.nil_append, List.length_append, List.length_cons, List.length_nil]); omega)) | exact blank_F | exact letter_F | exact small_F | exact encode_F rfl (by first | omega | ((simp only [Md.Lx.adv, Md.Lx.say, Md.Lx.clr, List.nil_append, List.length_append, List.length_cons, List.length_nil]); omega)) | exact say_F rfl (by (repeat' constructor); first | done | fail) (by (repeat' constructor); first | done | fail) (by first | omega | ((simp only [Md.Lx.adv, Md.Lx.say, Md.Lx.clr, List.nil_append, List.length_append, List.length_cons, List.length_nil]); omega)) | exact stands_F (by (repeat' constructor); first | done | fail) (by first | omega | ((simp only [Md.Lx.adv, Md.Lx.say, Md.Lx.clr, List.nil_append, List.length_append, List.length_cons, List.length_nil]); omega)) (by decide) (by first | omega | ((simp only [Md.Lx.adv, Md.Lx.say, Md.Lx.clr, List.nil_append, List.length_append, List.length_cons, List.length_nil]); omega)) | exact exact_F (by (repeat' constructor); first | done | fail) (by first | omega | ((simp only [Md.Lx.adv, Md.Lx.say, Md.Lx.clr, List.nil_append, List.length_append, List.length_cons, List.length_nil]); omega)) (by decide) (by first | omega | ((simp only [Md.Lx.adv, Md.Lx.say, Md.Lx.clr, List.nil_append, List.length_append, List.length_cons, List.length_nil]); omega))) | (refine fun _ (hq : _ = _) => ?_; subst hq) | (refine fun (hc : _ = _) => ?_; (try simp only [BB] at hc); (try (first | contradiction | (exfalso; omega)))) | exact arI | refine Pst.mk ⟨?_, rfl⟩ (by (repeat' constructor); first | done | fail) | constructor | (refine fun _ _ (hq : Hold _) => ?_; replace hq := hq.out; obtain ⟨_, rfl, rfl⟩ := hq) | (refine fun _ _ (hq : Hold _) => ?_; replace hq := hq.out; obtain ⟨_, _, rfl, rfl⟩ := hq) | rintro _ _ ⟨rfl, rfl⟩ | rintro _ _ ⟨_, rfl, rfl⟩ | rintro _ _ ⟨_, _, rfl, rfl⟩ | (refine fun (hc : _ = _) => ?_; (try simp only [BB] at hc)) | refine fun (_ : Nat) => ?_ | refine fun (_ : _ ≤ _) => ?_ | refine fun (_ : _ < _) => ?_
    all_goals (try simp only [pk_adv, pk_say, Nat.add_zero, adv_adv, say_say, say_adv, pk_clr, adv_clr] at *)
    · have hge : s.inp.length ≤ s.pos + i := by by_cases h : s.pos + i < s.inp.length; (have := hpi h; omega); omega
      rw [hnil hge, valueGo_nil] at k1 k2 k3
      dsimp only at k1 k2 k3
      rw [List.nil_append, filter_nn k4, hve]
      dsimp only
      rw [← k1, ← k2, ← k3]
      exact Pst.mk ⟨rfl, rfl⟩ (by (repeat' constructor); first | done | fail)
    · have hlt : s.pos + i < s.inp.length := by by_cases h : s.pos + i < s.inp.length; exact h; have := hpn (by omega); omega
      rw [hst hlt, valueGo_cons, if_neg (fun h => h.1 rfl), if_pos ⟨rfl, hc⟩] at k1 k2 k3
      dsimp only at k1 k2 k3
      rw [List.nil_append, filter_nn k4, hve]
      dsimp only
      rw [← k1, ← k2, ← k3]
      exact Pst.mk ⟨rfl, rfl⟩ (by (repeat' constructor); first | done | fail)
    · rename_i hA hB
      have hlt : s.pos + i < s.inp.length := by by_cases h : s.pos + i < s.inp.length; exact h; have := hpn (by omega); omega
      have hrf := refer_facts true (s.adv (i + 1)).rest
      have hrl := rest_len (s := s.adv (i + 1))
      have hrp : (s.adv (i + 1)).pos = s.pos + (i + 1) := rfl
      have hri : (s.adv (i + 1)).inp = s.inp := rfl
      rw [hrp, hri] at hrl
      rw [hst hlt, valueGo_cons, if_neg (fun h => h.1 rfl), if_neg (fun h => h.2.elim (fun hx => by rw [hB.1] at hx; cases hx) hB.2), if_pos hc, ← rest_adv, adv_adv] at k1 k2 k3
      refine ih _ _ (i + 1 + (Md.refer true (s.adv (i + 1)).rest).2, _, acc ++ (Md.refer true (s.adv (i + 1)).rest).1) ⟨k1, k2, ?_, ?_, ?_, ?_⟩ ?_ ⟨rfl, rfl, trivial⟩ (by rw [refA_eq]; exact (by (repeat' constructor); first | done | fail))
      · dsimp only at k3 ⊢; omega
      · intro r hr; rcases List.mem_append.1 hr with hr | hr; exact k4 r hr; exact hrf.2.2 r hr
      · simp only [List.length_append]; omega
      · dsimp only; omega
      · dsimp only; omega
    all_goals
      rename_i hA hB hC
      have hlt : s.pos + i < s.inp.length := by by_cases h : s.pos + i < s.inp.length; exact h; have := hpn (by omega); omega
      rw [hst hlt, valueGo_cons, if_neg (fun h => h.1 rfl), if_neg (fun h => h.2.elim (fun hx => by rw [hB.1] at hx; cases hx) hB.2), if_neg hC] at k1 k2 k3
    · rw [Md.fixr, if_pos hc] at k1 k2 k3
      refine ih _ _ (i + 1, _, acc ++ [65533]) ⟨k1, k2, by dsimp only at k3 ⊢; omega, ?_, by simp; omega, by dsimp only; omega⟩ (by dsimp only; omega) ⟨rfl, rfl, trivial⟩ (by (repeat' constructor); first | done | fail)
      intro r hr; rcases List.mem_append.1 hr with hr | hr; exact k4 r hr; simp at hr; omega
    · rw [Md.fixr, if_neg hc] at k1 k2 k3
      refine ih _ _ (i + 1, _, acc ++ [s.pk i]) ⟨k1, k2, by dsimp only at k3 ⊢; omega, ?_, by simp; omega, by dsimp only; omega⟩ (by dsimp only; omega) ⟨rfl, rfl, trivial⟩ (by (repeat' constructor); first | done | fail)
      have := hpi hlt
      intro r hr; rcases List.mem_append.1 hr with hr | hr; exact k4 r hr; simp at hr; omega
end Go.Proofs.YticnenofiibpgaaDoor.Code
/- What attributes' look-up, the lexer's attr, attrs, tag do. -/
namespace Go.Md
/-- The place of the first attribute of a name; -1: there is none. -/
def idxA (n : Str) : List (Str × Str) → Nat → Int
  | [], _ => -1
  | a :: l, i => if a.1 = n then i else idxA n l (i + 1)
def getA (al : List (Str × Str)) (n : Str) : Str × Bool := if idxA n al 0 < 0 then ([], false) else ((al.getD (idxA n al 0).toNat default).2, true)
theorem idxA_spec (n : Str) : ∀ (l : List (Str × Str)) (i : Nat), (hasAttr l n = false ∧ idxA n l i = -1) ∨ (hasAttr l n = true ∧ (i : Int) ≤ idxA n l i ∧ idxA n l i < i + l.length)
  | [], i => .inl ⟨rfl, rfl⟩
  | a :: l, i => by
    simp only [hasAttr, List.any_cons, idxA]
    by_cases h : a.1 = n
    · right; simp [h]
      omega
    · rw [if_neg h, beq_false_of_ne h, Bool.false_or]
      have := idxA_spec n l (i + 1)
      simp only [hasAttr] at this
      rcases this with ⟨h1, h2⟩ | ⟨h1, h2, h3⟩
      · exact .inl ⟨h1, h2⟩
      · exact .inr ⟨h1, by omega, by simp only [List.length_cons]; omega⟩
theorem getA_snd (al : List (Str × Str)) (n : Str) : (getA al n).2 = hasAttr al n := by
  unfold getA
  rcases idxA_spec n al 0 with ⟨h1, h2⟩ | ⟨h1, h2, h3⟩
  · rw [if_pos (by omega), h1]
  · rw [if_neg (by omega), h1]
end Go.Md
namespace Go.Proofs.YticnenofiibpgaaDoor.Code
open Go.Dm Go.Dm.C
set_option linter.unusedSimpArgs false
set_option linter.unusedVariables false
set_option linter.unnecessarySimpa false
set_option maxRecDepth 10000
attribute [local irreducible] Go.Dm.F Go.Dm.RS Go.Dm.Y Go.Dm.FD Go.Dm.FZ1 Go.Dm.Hold
theorem drop_cons_getD {α : Type} [Inhabited α] {l : List α} {i : Nat} (h : i < l.length) : l.drop i = l.getD i default :: l.drop (i + 1) := by
  rw [List.drop_eq_getElem_cons h, List.getD_eq_getElem?_getD, List.getElem?_eq_getElem h]; rfl
section
variable {R : List Ck} {cs : List Ck}
theorem get1_F {q : Nat} {a b n : Md.Str} (hm : Me (.obj q (.cells [.str n] none)) cs) : F D 122 [.agg [.str a, .str b], .ptr q 0] cs (fun v cs' => v = .bool (decide (a = n)) ∧ cs = cs') := by
  refine F.atM hm fun R => F.of rfl rfl rfl ?_
  repeat' first | exact arI | refine Pst.mk ⟨?_, rfl⟩ (by (repeat' constructor); first | done | fail) | constructor | (refine fun _ _ (hq : Hold _) => ?_; replace hq := hq.out; obtain ⟨_, rfl, rfl⟩ := hq) | (refine fun _ _ (hq : Hold _) => ?_; replace hq := hq.out; obtain ⟨_, _, rfl, rfl⟩ := hq) | rintro _ _ ⟨rfl, rfl⟩ | rintro _ _ ⟨_, rfl, rfl⟩ | rintro _ _ ⟨_, _, rfl, rfl⟩ | (refine fun (hc : _ = _) => ?_; (try simp only [BB] at hc)) | refine fun (_ : Nat) => ?_ | refine fun (_ : _ ≤ _) => ?_ | refine fun (_ : _ < _) => ?_
theorem indexFunc_F {q t z : Nat} {n : Md.Str} {al : List (Md.Str × Md.Str)} (hz : z = zOf t 2) (hl : al.length ≤ 100000000000) (hm : Me (.obj q (.cells [.str n] none)) cs) :
    F D 76 [.lst t z (al.map encA), .fn (.func 122) [] [.ptr q 0]] cs (fun v cs' => v = .int .i64 (Md.idxA n al 0) ∧ cs = cs') := by
  subst hz
  refine F.atM hm fun R => F.of rfl rfl rfl ?_
  repeat' first | exact arI | refine Pst.mk ⟨?_, rfl⟩ (by (repeat' constructor); first | done | fail) | constructor | (refine fun _ _ (hq : Hold _) => ?_; replace hq := hq.out; obtain ⟨_, rfl, rfl⟩ := hq) | (refine fun _ _ (hq : Hold _) => ?_; replace hq := hq.out; obtain ⟨_, _, rfl, rfl⟩ := hq) | rintro _ _ ⟨rfl, rfl⟩ | rintro _ _ ⟨_, rfl, rfl⟩ | rintro _ _ ⟨_, _, rfl, rfl⟩ | (refine fun (hc : _ = _) => ?_; (try simp only [BB] at hc)) | refine fun (_ : Nat) => ?_ | refine fun (_ : _ ≤ _) => ?_ | refine fun (_ : _ < _) => ?_
  refine RS.loopW (α := Nat) (fun i => [(0, .lst t (zOf t 2) (al.map encA)), (1, .fn (.func 122) [] [.ptr q 0]), (7, .int .i64 al.length), (8, .int .i64 (i : Nat))]) (fun _ => .obj q (.cells [.str n] none) :: R)
    (fun i => i ≤ al.length ∧ Md.idxA n (al.drop i) i = Md.idxA n al 0) (fun i => al.length - i) 0 ⟨by simp, by simp⟩ ⟨rfl, rfl, rfl, rfl, trivial⟩ .refl ?_
  rintro i ⟨h1, h2⟩ ih
  dsimp only [ents] at *
  repeat' first | (show FC _ _ _ _ _; exact get1_F (by (repeat' constructor); first | done | fail)) | (refine fun (hc : _ = _) => ?_; (try simp only [BB] at hc); (try (first | contradiction | (exfalso; omega)))) | exact arI | refine Pst.mk ⟨?_, rfl⟩ (by (repeat' constructor); first | done | fail) | constructor | (refine fun _ _ (hq : Hold _) => ?_; replace hq := hq.out; obtain ⟨_, rfl, rfl⟩ := hq) | (refine fun _ _ (hq : Hold _) => ?_; replace hq := hq.out; obtain ⟨_, _, rfl, rfl⟩ := hq) | rintro _ _ ⟨rfl, rfl⟩ | rintro _ _ ⟨_, rfl, rfl⟩ | rintro _ _ ⟨_, _, rfl, rfl⟩ | (refine fun (hc : _ = _) => ?_; (try simp only [BB] at hc)) | refine fun (_ : Nat) => ?_ | refine fun (_ : _ ≤ _) => ?_ | refine fun (_ : _ < _) => ?_
  all_goals
    by_cases hlt : i < al.length
    · rw [drop_cons_getD hlt] at h2
      simp only [Md.idxA] at h2
      first
        | (rw [if_pos hc] at h2; rw [← h2])
        | (rw [if_neg hc] at h2; exact ih _ _ (i + 1) ⟨by omega, h2⟩ (by omega) ⟨rfl, rfl, rfl, rfl, trivial⟩ (by (repeat' constructor); first | done | fail))
        | omega
    · rw [List.drop_eq_nil_of_le (by omega)] at h2
      first | omega | (rw [← h2]; rfl)
theorem tget_F {t z : Nat} {n : Md.Str} {al : List (Md.Str × Md.Str)} (hz : z = zOf t 2) (hl : al.length ≤ 100000000000) : F D 121 [.lst t z (al.map encA), .str n] R (fun v cs' => v = .tup [.str (Md.getA al n).1, .bool (Md.getA al n).2] ∧ R = cs') := by
  subst hz
  have hs := Md.idxA_spec n al 0
  refine F.of rfl rfl rfl ?_
  repeat' first | (show FC _ _ _ _ _; exact indexFunc_F rfl hl (by (repeat' constructor); first | done | fail)) | (refine fun (hc : _ = _) => ?_; (try simp only [BB] at hc); (try (first | contradiction | (exfalso; omega)))) | exact arI | refine Pst.mk ⟨?_, rfl⟩ (by (repeat' constructor); first | done | fail) | constructor | (refine fun _ _ (hq : Hold _) => ?_; replace hq := hq.out; obtain ⟨_, rfl, rfl⟩ := hq) | (refine fun _ _ (hq : Hold _) => ?_; replace hq := hq.out; obtain ⟨_, _, rfl, rfl⟩ := hq) | rintro _ _ ⟨rfl, rfl⟩ | rintro _ _ ⟨_, rfl, rfl⟩ | rintro _ _ ⟨_, _, rfl, rfl⟩ | (refine fun (hc : _ = _) => ?_; (try simp only [BB] at hc)) | refine fun (_ : Nat) => ?_ | refine fun (_ : _ ≤ _) => ?_ | refine fun (_ : _ < _) => ?_
  · rw [Md.getA, if_pos hc]
  · rw [Md.getA, if_neg hc]
theorem ttget_F {t : Md.Tok} {ta : Nat} {n : Md.Str} {xs : List DV} (hx : xs = [.int .i64 t.kind, .str t.name, .lst ta (zOf ta 2) (t.attrs.map encA), .bool t.self, .str t.data, .str t.pub, .str t.sys, .bool t.hasPub, .bool t.hasSys, .bool t.quirks]) (hl : t.attrs.length ≤ 100000000000) :
    F D 119 [.agg xs, .str n] R (fun v cs' => v = .tup [.str (Md.getA t.attrs n).1, .bool (Md.getA t.attrs n).2] ∧ R = cs') := by
  subst hx
  refine F.of rfl rfl rfl ?_
  repeat' first | (show FC _ _ _ _ _; exact tget_F rfl hl) | (refine fun (hc : _ = _) => ?_; (try simp only [BB] at hc); (try (first | contradiction | (exfalso; omega)))) | exact arI | refine Pst.mk ⟨?_, rfl⟩ (by (repeat' constructor); first | done | fail) | constructor | (refine fun _ _ (hq : Hold _) => ?_; replace hq := hq.out; obtain ⟨_, rfl, rfl⟩ := hq) | (refine fun _ _ (hq : Hold _) => ?_; replace hq := hq.out; obtain ⟨_, _, rfl, rfl⟩ := hq) | rintro _ _ ⟨rfl, rfl⟩ | rintro _ _ ⟨_, rfl, rfl⟩ | rintro _ _ ⟨_, _, rfl, rfl⟩ | (refine fun (hc : _ = _) => ?_; (try simp only [BB] at hc)) | refine fun (_ : Nat) => ?_ | refine fun (_ : _ ≤ _) => ?_ | refine fun (_ : _ < _) => ?_
end
end Go.Proofs.YticnenofiibpgaaDoor.Code
/- What the lexer's attr does. -/
namespace Go.Proofs.YticnenofiibpgaaDoor.Code
open Go.Dm Go.Dm.C
set_option linter.unusedSimpArgs false
set_option linter.unusedVariables false
set_option linter.unnecessarySimpa false
set_option maxRecDepth 10000
attribute [local irreducible] Go.Dm.F Go.Dm.RS Go.Dm.Y Go.Dm.FD Go.Dm.FZ1 Go.Dm.Hold
abbrev tcell (t : Md.Tok) (ta : Nat) : HObj := .cells [.int .i64 t.kind, .str t.name, .lst ta (zOf ta 2) (t.attrs.map encA), .bool t.self, .str t.data, .str t.pub, .str t.sys, .bool t.hasPub, .bool t.hasSys, .bool t.quirks] none
variable {id : Nat} {s : Md.Lx} {g : Nat × Nat} {cs : List Ck}
def attrTail (l : List Int) : List Int := l.takeWhile fun r => !(Md.over r || r == 61)
theorem attrTail_cons {r : Int} {l : List Int} : attrTail (r :: l) = if Md.over r = true ∨ r = 61 then [] else r :: attrTail l := by
  simp only [attrTail, List.takeWhile_cons]
  by_cases h1 : Md.over r = true
  · simp [h1]
  · rw [Bool.not_eq_true] at h1
    by_cases h2 : r = 61
    · simp [h2]
    · simp [h1, h2]
theorem attrName_cons {r : Int} {l : List Int} : Md.attrName (r :: l) = if Md.over r = true then [] else r :: attrTail l := rfl
def attrPart (i : Nat) (l : List Int) : List Int := if i = 0 then Md.attrName l else attrTail l
theorem attrPart_nil (i : Nat) : attrPart i [] = [] := by unfold attrPart; split <;> rfl
theorem attrPart_stop {i : Nat} {r : Int} {l : List Int} (h : Md.over r = true ∨ (r = 61 ∧ i ≠ 0)) : attrPart i (r :: l) = [] := by
  unfold attrPart
  by_cases hi : i = 0
  · rw [if_pos hi, attrName_cons, if_pos (h.resolve_right fun h => h.2 hi)]
  · rw [if_neg hi, attrTail_cons, if_pos (h.imp (fun h => h) (fun h => h.1))]
theorem attrPart_go {i : Nat} {r : Int} {l : List Int} (h1 : Md.over r = false) (h2 : r = 61 → i = 0) : attrPart i (r :: l) = r :: attrPart (i + 1) l := by
  unfold attrPart
  rw [if_neg (show ¬ i + 1 = 0 by omega)]
  by_cases hi : i = 0
  · rw [if_pos hi, attrName_cons, if_neg (by simp [h1])]
  · rw [if_neg hi, attrTail_cons, if_neg (by rintro (h | h); (rw [h1] at h; cases h); exact hi (h2 h))]
theorem attr1_eq : Md.attr1 s.rest = if s.pk ((Md.attrName s.rest).length + Md.blanksN (s.adv (Md.attrName s.rest).length).rest) = 61 then
    ((Md.encode ((Md.attrName s.rest).map fun r => Md.small (Md.fixr r)), (Md.value (s.adv ((Md.attrName s.rest).length + Md.blanksN (s.adv (Md.attrName s.rest).length).rest + 1)).rest).1), (Md.value (s.adv ((Md.attrName s.rest).length + Md.blanksN (s.adv (Md.attrName s.rest).length).rest + 1)).rest).2.1, (Md.attrName s.rest).length + Md.blanksN (s.adv (Md.attrName s.rest).length).rest + 1 + (Md.value (s.adv ((Md.attrName s.rest).length + Md.blanksN (s.adv (Md.attrName s.rest).length).rest + 1)).rest).2.2)
    else ((Md.encode ((Md.attrName s.rest).map fun r => Md.small (Md.fixr r)), []), true, (Md.attrName s.rest).length + Md.blanksN (s.adv (Md.attrName s.rest).length).rest) := by
  simp only [Md.attr1, pk_rest, rest_adv]
set_option maxHeartbeats 1000000 in
theorem attr_F {t : Md.Tok} {ta q : Nat} {c1 c2 R : List Ck} (h1 : Rem (LX id s g) cs c1) (h2 : Rem (.obj q (tcell t ta)) c1 c2) (h3 : Rem (.own ta 2 (t.attrs.map encA)) c2 R) (hb : s.inp.length ≤ 1000000000 ∧ s.pos ≤ s.inp.length ∧ t.attrs.length ≤ 1000000000) (hn : ∀ r ∈ s.inp, 0 ≤ r) :
    F D 116 [.ptr id 0, .ptr q 0] cs (fun v cs' => Hold (∃ a, v = .bool (Md.attr1 s.rest).2.1 ∧ (LX id (s.adv (Md.attr1 s.rest).2.2) g :: .obj q (tcell { t with attrs := Md.putAttr t.attrs (Md.attr1 s.rest).1 } a) :: .own a 2 ((Md.putAttr t.attrs (Md.attr1 s.rest).1).map encA) :: R) = cs')) := by
  refine F.perm (h1.perm'.trans ((h2.perm'.trans (h3.perm'.cons _)).cons _)) (F.of rfl rfl rfl ?_)
  repeat' first | exact arI | refine Pst.mk ⟨?_, rfl⟩ (by (repeat' constructor); first | done | fail) | constructor | (refine fun _ _ (hq : Hold _) => ?_; replace hq := hq.out; obtain ⟨_, rfl, rfl⟩ := hq) | (refine fun _ _ (hq : Hold _) => ?_; replace hq := hq.out; obtain ⟨_, _, rfl, rfl⟩ := hq) | rintro _ _ ⟨rfl, rfl⟩ | rintro _ _ ⟨_, rfl, rfl⟩ | rintro _ _ ⟨_, _, rfl, rfl⟩ | (refine fun (hc : _ = _) => ?_; (try simp only [BB] at hc)) | refine fun (_ : Nat) => ?_ | refine fun (_ : _ ≤ _) => ?_ | refine fun (_ : _ < _) => ?_
  refine RS.nilOwn 1 (RS.loopW (α := Nat × Nat × List Int) (fun a => [(0, .ptr id 0), (1, .ptr q 0), (5, .lst a.2.1 (zOf a.2.1 1) (a.2.2.map I32)), (6, .bool (decide (a.1 = 0)))]) (fun a => .own a.2.1 1 (a.2.2.map I32) :: LX id (s.adv a.1) g :: .obj q (tcell t ta) :: .own ta 2 (t.attrs.map encA) :: R)
    (fun a => a.1 + (attrPart a.1 (s.adv a.1).rest).length = (Md.attrName s.rest).length ∧ s.pos + a.1 ≤ s.inp.length ∧ a.2.2.length = a.1 ∧ a.2.2 ++ (attrPart a.1 (s.adv a.1).rest).map (fun r => Md.small (Md.fixr r)) = (Md.attrName s.rest).map (fun r => Md.small (Md.fixr r))) (fun a => s.inp.length - (s.pos + a.1)) (0, 0, []) ⟨by simp [adv_zero, attrPart], by dsimp only; omega, rfl, by simp [adv_zero, attrPart]⟩ ⟨rfl, rfl, rfl, rfl, trivial⟩ .refl ?_)
  rintro ⟨i, tb, acc⟩ ⟨k1, k2, k3, k4⟩ ih
  dsimp only [ents] at *
  (have hst := fun h => rest_adv_cons (s := s) (i := i) h; have hnil := fun h => rest_adv_nil (s := s) (i := i) h; have hpn := fun h => pk_out (s := s) (i := i) h; have hpi := fun h => pk_in (s := s) (i := i) hn h)
  repeat' first | (show LD _ _ _ _; first | exact LX.ldPos (by (repeat' constructor); first | done | fail) | exact LX.ldWay (by (repeat' constructor); first | done | fail) | exact LX.ldLast (by (repeat' constructor); first | done | fail) | exact LX.ldRoom (by (repeat' constructor); first | done | fail) | exact LX.ldDone (by (repeat' constructor); first | done | fail) | exact LX.ldText (by (repeat' constructor); first | done | fail)) | (apply RR.lxIn; exact rfl; exact rfl; exact rfl; exact (by (repeat' constructor); first | done | fail); refine fun _ => ?_) | (apply RR.lxOut; exact rfl; exact rfl; exact rfl; exact (by (repeat' constructor); first | done | fail); refine fun _ => ?_) | (apply RR.storeS; exact rfl; exact rfl; first | exact LX.stPos 1 rfl (by (repeat' constructor); first | done | fail) | exact LX.stPos 2 rfl (by (repeat' constructor); first | done | fail) | exact LX.stPos 3 rfl (by (repeat' constructor); first | done | fail) | exact LX.stPos 6 rfl (by (repeat' constructor); first | done | fail) | exact LX.stPos 7 rfl (by (repeat' constructor); first | done | fail) | exact LX.stPos _ rfl (by (repeat' constructor); first | done | fail) | exact LX.stPos2 1 _ (by (repeat' constructor); first | done | fail) | exact LX.stPos2 2 _ (by (repeat' constructor); first | done | fail) | exact LX.stWay (by (repeat' constructor); first | done | fail) | exact LX.stLast (by (repeat' constructor); first | done | fail) | exact LX.stRoom (by (repeat' constructor); first | done | fail) | exact LX.stDone (by (repeat' constructor); first | done | fail); exact rfl) | (show FC _ _ _ _ _; first | exact peek0_F (by (repeat' constructor); first | done | fail) (by first | omega | ((simp only [Md.Lx.adv, Md.Lx.say, Md.Lx.clr, List.nil_append, List.length_append, List.length_cons, List.length_nil]); omega)) | exact peek1_F (by (repeat' constructor); first | done | fail) (by first | omega | ((simp only [Md.Lx.adv, Md.Lx.say, Md.Lx.clr, List.nil_append, List.length_append, List.length_cons, List.length_nil]); omega)) | exact peek6_F (by (repeat' constructor); first | done | fail) (by first | omega | ((simp only [Md.Lx.adv, Md.Lx.say, Md.Lx.clr, List.nil_append, List.length_append, List.length_cons, List.length_nil]); omega)) | exact next_F (by (repeat' constructor); first | done | fail) (by first | omega | ((simp only [Md.Lx.adv, Md.Lx.say, Md.Lx.clr, List.nil_append, List.length_append, List.length_cons, List.length_nil]); omega)) | exact back_F (by (repeat' constructor); first | done | fail) (by first | omega | ((simp only [Md.Lx.adv, Md.Lx.say, Md.Lx.clr, List.nil_append, List.length_append, List.length_cons, List.length_nil]); omega)) | exact blank_F | exact letter_F | exact small_F | exact encode_F rfl (by first | omega | ((simp only [Md.Lx.adv, Md.Lx.say, Md.Lx.clr, List.nil_append, List.length_append, List.length_cons, List.length_nil]); omega)) | exact say_F rfl (by (repeat' constructor); first | done | fail) (by (repeat' constructor); first | done | fail) (by first | omega | ((simp only [Md.Lx.adv, Md.Lx.say, Md.Lx.clr, List.nil_append, List.length_append, List.length_cons, List.length_nil]); omega)) | exact stands_F (by (repeat' constructor); first | done | fail) (by first | omega | ((simp only [Md.Lx.adv, Md.Lx.say, Md.Lx.clr, List.nil_append, List.length_append, List.length_cons, List.length_nil]); omega)) (by decide) (by first | omega | ((simp only [Md.Lx.adv, Md.Lx.say, Md.Lx.clr, List.nil_append, List.length_append, List.length_cons, List.length_nil]); omega)) | exact exact_F (by (repeat' constructor); first | done | fail) (by first | omega | ((simp only [Md.Lx.adv, Md.Lx.say, Md.Lx.clr, List.nil_append, List.length_append, List.length_cons, List.length_nil]); omega)) (by decide) (by first | omega | ((simp only [Md.Lx.adv, Md.Lx.say, Md.Lx.clr, List.nil_append, List.length_append, List.length_cons, List.length_nil]); omega))) | (refine fun (hc : _ = _) => ?_; (try simp only [BB] at hc); (try (first | contradiction | (exfalso; omega)))) | (refine Arith.mk ?_; (try intro _); simp only [Md.Lx.adv, Md.Lx.say, Md.Lx.clr, List.nil_append, List.length_append, List.length_cons, List.length_nil]; omega) | exact arI | refine Pst.mk ⟨?_, rfl⟩ (by (repeat' constructor); first | done | fail) | constructor | (refine fun _ _ (hq : Hold _) => ?_; replace hq := hq.out; obtain ⟨_, rfl, rfl⟩ := hq) | (refine fun _ _ (hq : Hold _) => ?_; replace hq := hq.out; obtain ⟨_, _, rfl, rfl⟩ := hq) | rintro _ _ ⟨rfl, rfl⟩ | rintro _ _ ⟨_, rfl, rfl⟩ | rintro _ _ ⟨_, _, rfl, rfl⟩ | (refine fun (hc : _ = _) => ?_; (try simp only [BB] at hc)) | refine fun (_ : Nat) => ?_ | refine fun (_ : _ ≤ _) => ?_ | refine fun (_ : _ < _) => ?_
  all_goals (try simp only [pk_adv, pk_say, Nat.add_zero, adv_adv, say_say, say_adv, pk_clr, adv_clr] at *)
  rotate_left
  · rename_i hA
    have hlt : s.pos + i < s.inp.length := by by_cases h : s.pos + i < s.inp.length; exact h; have := hpn (by omega); omega
    rw [hst hlt, attrPart_go (by rw [over_f]; exact hA.1.1) hA.2] at k1 k4
    simp only [List.map_cons, List.length_cons] at k1 k4
    rw [show Md.fixr (s.pk i) = 65533 from if_pos hc] at k4
    exact ih _ _ (i + 1, _, acc ++ [Md.small 65533]) ⟨by dsimp only; omega, by dsimp only; omega, by simp [k3], by rw [← k4]; simp⟩ (by dsimp only; omega) ⟨rfl, rfl, rfl, rfl, trivial⟩ (by (repeat' constructor); first | done | fail)
  · rename_i hA
    have hlt : s.pos + i < s.inp.length := by by_cases h : s.pos + i < s.inp.length; exact h; have := hpn (by omega); omega
    rw [hst hlt, attrPart_go (by rw [over_f]; exact hA.1.1) hA.2] at k1 k4
    simp only [List.map_cons, List.length_cons] at k1 k4
    rw [show Md.fixr (s.pk i) = s.pk i from if_neg hc] at k4
    exact ih _ _ (i + 1, _, acc ++ [Md.small (s.pk i)]) ⟨by dsimp only; omega, by dsimp only; omega, by simp [k3], by rw [← k4]; simp⟩ (by dsimp only; omega) ⟨rfl, rfl, rfl, rfl, trivial⟩ (by (repeat' constructor); first | done | fail)
  rename_i t8 _
  have hstop : attrPart i (s.adv i).rest = [] := by
    by_cases hlt : s.pos + i < s.inp.length
    · rw [hst hlt]
      refine attrPart_stop ?_
      have := hpi hlt
      rcases hc with (hc | hc) | hc
      · exact .inl (by rw [over_t]; exact hc)
      · omega
      · exact .inr hc
    · rw [hnil (by omega)]; exact attrPart_nil i
  rw [hstop] at k1 k4
  simp only [List.map_nil, List.append_nil, List.length_nil, Nat.add_zero] at k1 k4
  subst k4
  generalize i = n0 at *
  refine RS.loopW (α := Nat) (fun a => [(0, .ptr id 0), (1, .ptr q 0), (8, .ptr t8 0)]) (fun a => .obj t8 (.cells [.str (Md.encode ((Md.attrName s.rest).map fun r => Md.small (Md.fixr r))), .str []] none) :: LX id (s.adv a) g :: .obj q (tcell t ta) :: .own ta 2 (t.attrs.map encA) :: R)
    (fun a => a + Md.blanksN (s.adv a).rest = n0 + Md.blanksN (s.adv n0).rest ∧ s.pos + a ≤ s.inp.length) (fun a => s.inp.length - (s.pos + a)) n0 ⟨rfl, k2⟩ ⟨rfl, rfl, rfl, trivial⟩ (by (repeat' constructor); first | done | fail) ?_
  clear hst hnil hpn hpi ih hc hstop
  rintro i ⟨m1, m2⟩ ih
  dsimp only [ents] at *
  (have hst := fun h => rest_adv_cons (s := s) (i := i) h; have hnil := fun h => rest_adv_nil (s := s) (i := i) h; have hpn := fun h => pk_out (s := s) (i := i) h; have hpi := fun h => pk_in (s := s) (i := i) hn h)
  have hbs := fun h => blanksN_step (s := s.adv i) h
  rw [adv_adv] at hbs
  have e0 : (s.adv i).pk 0 = s.pk i := pk_adv i 0
  repeat' first | (show FC _ _ _ _ _; first | exact value_F (by (repeat' constructor); first | done | fail) (by simp only [Md.Lx.adv]; omega) (by exact hn) | exact ttget_F (t := t) (ta := ta) rfl (by omega) | exact peek0_F (by (repeat' constructor); first | done | fail) (by first | omega | ((simp only [Md.Lx.adv, Md.Lx.say, Md.Lx.clr, List.nil_append, List.length_append, List.length_cons, List.length_nil]); omega)) | exact peek1_F (by (repeat' constructor); first | done | fail) (by first | omega | ((simp only [Md.Lx.adv, Md.Lx.say, Md.Lx.clr, List.nil_append, List.length_append, List.length_cons, List.length_nil]); omega)) | exact peek6_F (by (repeat' constructor); first | done | fail) (by first | omega | ((simp only [Md.Lx.adv, Md.Lx.say, Md.Lx.clr, List.nil_append, List.length_append, List.length_cons, List.length_nil]); omega)) | exact next_F (by (repeat' constructor); first | done | fail) (by first | omega | ((simp only [Md.Lx.adv, Md.Lx.say, Md.Lx.clr, List.nil_append, List.length_append, List.length_cons, List.length_nil]); omega)) | exact back_F (by (repeat' constructor); first | done | fail) (by first | omega | ((simp only [Md.Lx.adv, Md.Lx.say, Md.Lx.clr, List.nil_append, List.length_append, List.length_cons, List.length_nil]); omega)) | exact blank_F | exact letter_F | exact small_F | exact encode_F rfl (by first | omega | ((simp only [Md.Lx.adv, Md.Lx.say, Md.Lx.clr, List.nil_append, List.length_append, List.length_cons, List.length_nil]); omega)) | exact say_F rfl (by (repeat' constructor); first | done | fail) (by (repeat' constructor); first | done | fail) (by first | omega | ((simp only [Md.Lx.adv, Md.Lx.say, Md.Lx.clr, List.nil_append, List.length_append, List.length_cons, List.length_nil]); omega)) | exact stands_F (by (repeat' constructor); first | done | fail) (by first | omega | ((simp only [Md.Lx.adv, Md.Lx.say, Md.Lx.clr, List.nil_append, List.length_append, List.length_cons, List.length_nil]); omega)) (by decide) (by first | omega | ((simp only [Md.Lx.adv, Md.Lx.say, Md.Lx.clr, List.nil_append, List.length_append, List.length_cons, List.length_nil]); omega)) | exact exact_F (by (repeat' constructor); first | done | fail) (by first | omega | ((simp only [Md.Lx.adv, Md.Lx.say, Md.Lx.clr, List.nil_append, List.length_append, List.length_cons, List.length_nil]); omega)) (by decide) (by first | omega | ((simp only [Md.Lx.adv, Md.Lx.say, Md.Lx.clr, List.nil_append, List.length_append, List.length_cons, List.length_nil]); omega))) | exact MapL.cons (f := encA) (y := (_, _)) .nil | (refine fun (hc : _ = _) => ?_; (try simp only [BB] at hc); (try (first | contradiction | (exfalso; omega)))) | exact arI | refine Pst.mk ⟨?_, rfl⟩ (by (repeat' constructor); first | done | fail) | constructor | (refine fun _ _ (hq : Hold _) => ?_; replace hq := hq.out; obtain ⟨_, rfl, rfl⟩ := hq) | (refine fun _ _ (hq : Hold _) => ?_; replace hq := hq.out; obtain ⟨_, _, rfl, rfl⟩ := hq) | rintro _ _ ⟨rfl, rfl⟩ | rintro _ _ ⟨_, rfl, rfl⟩ | rintro _ _ ⟨_, _, rfl, rfl⟩ | (refine fun (hc : _ = _) => ?_; (try simp only [BB] at hc)) | refine fun (_ : Nat) => ?_ | refine fun (_ : _ ≤ _) => ?_ | refine fun (_ : _ < _) => ?_
  all_goals (try simp only [pk_adv, pk_say, Nat.add_zero, adv_adv, say_say, say_adv, pk_clr, adv_clr] at *)
  · have hlt : s.pos + i < s.inp.length := by
      by_cases h : s.pos + i < s.inp.length
      · exact h
      · rw [hpn (by omega)] at hc; cases hc
    have h4 := hbs hlt
    rw [if_pos hc] at h4
    exact ih _ _ (i + 1) ⟨by omega, by omega⟩ (by omega) ⟨rfl, rfl, rfl, trivial⟩ (by (repeat' constructor); first | done | fail)
  all_goals
    have hA : Md.blank (s.pk i) = false := by assumption
    have hib : n0 + Md.blanksN (s.adv n0).rest = i := by
      by_cases h : s.pos + i < s.inp.length
      · have h4 := hbs h
        rw [if_neg (by rw [hA]; simp)] at h4; omega
      · have h4 := hnil (by omega); rw [h4] at m1; simpa [Md.blanksN] using m1.symm
    have ha := attr1_eq (s := s)
    rw [← k1, hib] at ha
    first | rw [if_pos hc] at ha | rw [if_neg hc] at ha
    rw [ha]
    dsimp only
    rw [Md.putAttr, ← Md.getA_snd]
    dsimp only
    first
      | (rw [show (Md.getA t.attrs (Md.encode ((Md.attrName s.rest).map fun r => Md.small (Md.fixr r)))).2 = false from (by assumption), if_neg (by simp)]; exact Pst.mk (.mk ⟨_, rfl, rfl⟩) (by (repeat' constructor); first | done | fail))
      | (rw [show (Md.getA t.attrs (Md.encode ((Md.attrName s.rest).map fun r => Md.small (Md.fixr r)))).2 = true from (by assumption), if_pos rfl]; exact Pst.mk (.mk ⟨_, rfl, rfl⟩) (by (repeat' constructor); first | done | fail))
end Go.Proofs.YticnenofiibpgaaDoor.Code
/- What the lexer's attrs, tag do. -/
namespace Go.Proofs.YticnenofiibpgaaDoor.Code
open Go.Dm Go.Dm.C
set_option linter.unusedSimpArgs false
set_option linter.unusedVariables false
set_option linter.unnecessarySimpa false
set_option maxRecDepth 10000
attribute [local irreducible] Go.Dm.F Go.Dm.RS Go.Dm.Y Go.Dm.FD Go.Dm.FZ1 Go.Dm.Hold
variable {id : Nat} {s : Md.Lx} {g : Nat × Nat} {cs : List Ck}
theorem valueGo_le : ∀ (n : Nat) (q : Int) (l acc : List Int), l.length ≤ n → (Md.valueGo q l acc).2.2 ≤ l.length := by
  intro n
  induction n with
  | zero => intro q l acc h; have : l = [] := List.eq_nil_of_length_eq_zero (by omega); subst this; rw [valueGo_nil]; simp
  | succ n ih =>
    intro q l acc h
    cases l with
    | nil => rw [valueGo_nil]; simp
    | cons r l =>
      have hr := (refer_facts true l).2.1
      simp only [List.length_cons] at h ⊢
      rw [valueGo_cons]
      split
      · simp
      · split
        · simp
        · split
          · have h1 := ih q (l.drop (Md.refer true l).2) (acc ++ (Md.refer true l).1) (by rw [List.length_drop]; omega)
            rw [List.length_drop] at h1
            dsimp only; omega
          · have h1 := ih q l (acc ++ [Md.fixr r]) (by omega)
            dsimp only; omega
theorem blanksN_le (l : List Int) : Md.blanksN l ≤ l.length := (List.takeWhile_sublist _).length_le
theorem value_le (l : List Int) : (Md.value l).2.2 ≤ l.length := by
  have hb := blanksN_le l
  unfold Md.value
  dsimp only
  split
  · exact hb
  · split
    · rename_i h
      have hlt : Md.blanksN l < l.length := by
        by_cases hx : Md.blanksN l < l.length
        · exact hx
        · rw [List.getD_eq_getElem?_getD, List.getElem?_eq_none (by omega)] at h; simp at h
      have := valueGo_le _ (l.getD (Md.blanksN l) (-1)) (l.drop (Md.blanksN l + 1)) [] (Nat.le_refl _)
      rw [List.length_drop] at this
      dsimp only; omega
    · have := valueGo_le _ 0 (l.drop (Md.blanksN l)) [] (Nat.le_refl _)
      rw [List.length_drop] at this
      dsimp only; omega
theorem attrName_le (l : List Int) : (Md.attrName l).length ≤ l.length := by
  cases l with
  | nil => simp [Md.attrName]
  | cons r l =>
    rw [attrName_cons]
    split
    · simp
    · have : (attrTail l).length ≤ l.length := (List.takeWhile_sublist _).length_le
      simp only [List.length_cons]; omega
theorem attr1_le (l : List Int) : (Md.attr1 l).2.2 ≤ l.length := by
  have h1 := attrName_le l
  have h2 := blanksN_le (l.drop (Md.attrName l).length)
  rw [List.length_drop] at h2
  unfold Md.attr1
  dsimp only
  split
  · rename_i h
    have hlt : (Md.attrName l).length + Md.blanksN (l.drop (Md.attrName l).length) < l.length := by
      by_cases hx : (Md.attrName l).length + Md.blanksN (l.drop (Md.attrName l).length) < l.length
      · exact hx
      · rw [List.getD_eq_getElem?_getD, List.getElem?_eq_none (by omega)] at h; simp at h
    have := value_le (l.drop ((Md.attrName l).length + Md.blanksN (l.drop (Md.attrName l).length) + 1))
    rw [List.length_drop] at this
    dsimp only; omega
  · dsimp only; omega
theorem attr1_ge {r : Int} {l : List Int} (h : Md.over r = false) : 1 ≤ (Md.attr1 (r :: l)).2.2 := by
  have h3 := Md.attrName_pos (l := l) h
  unfold Md.attr1
  dsimp only
  split
  · dsimp only; omega
  · dsimp only; omega
theorem attrsGo_nil (acc : List (Md.Str × Md.Str)) : Md.attrsGo [] acc = (acc, false, false, 0) := by rw [Md.attrsGo]
theorem attrsGo_blank {r : Int} {l : List Int} {acc : List (Md.Str × Md.Str)} (h : Md.blank r = true) : Md.attrsGo (r :: l) acc = ((Md.attrsGo l acc).1, (Md.attrsGo l acc).2.1, (Md.attrsGo l acc).2.2.1, (Md.attrsGo l acc).2.2.2 + 1) := by rw [Md.attrsGo, dif_pos h]
theorem attrsGo_end {l : List Int} {acc : List (Md.Str × Md.Str)} : Md.attrsGo (62 :: l) acc = (acc, false, true, 1) := by rw [Md.attrsGo, dif_neg (by decide), dif_pos rfl]
theorem attrsGo_slash {l : List Int} {acc : List (Md.Str × Md.Str)} : Md.attrsGo (47 :: l) acc = if l.headD (-1) = 62 then (acc, true, true, 2) else ((Md.attrsGo l acc).1, (Md.attrsGo l acc).2.1, (Md.attrsGo l acc).2.2.1, (Md.attrsGo l acc).2.2.2 + 1) := by rw [Md.attrsGo, dif_neg (by decide), dif_neg (by decide), dif_pos rfl]
theorem attrsGo_attr {r : Int} {l : List Int} {acc : List (Md.Str × Md.Str)} (hb : Md.blank r = false) (h1 : r ≠ 62) (h2 : r ≠ 47) : Md.attrsGo (r :: l) acc = if (Md.attr1 (r :: l)).2.1 = true then
    ((Md.attrsGo ((r :: l).drop (Md.attr1 (r :: l)).2.2) (Md.putAttr acc (Md.attr1 (r :: l)).1)).1, (Md.attrsGo ((r :: l).drop (Md.attr1 (r :: l)).2.2) (Md.putAttr acc (Md.attr1 (r :: l)).1)).2.1, (Md.attrsGo ((r :: l).drop (Md.attr1 (r :: l)).2.2) (Md.putAttr acc (Md.attr1 (r :: l)).1)).2.2.1, (Md.attrsGo ((r :: l).drop (Md.attr1 (r :: l)).2.2) (Md.putAttr acc (Md.attr1 (r :: l)).1)).2.2.2 + (Md.attr1 (r :: l)).2.2)
    else (Md.putAttr acc (Md.attr1 (r :: l)).1, false, false, (Md.attr1 (r :: l)).2.2) := by rw [Md.attrsGo, dif_neg (by simp [hb]), dif_neg h1, dif_neg h2]
theorem putAttr_len (acc : List (Md.Str × Md.Str)) (a : Md.Str × Md.Str) : (Md.putAttr acc a).length ≤ acc.length + 1 := by
  unfold Md.putAttr; split <;> simp
def selfed (t : Md.Tok) (al : List (Md.Str × Md.Str)) (b : Bool) : Md.Tok := { t with attrs := al, self := b }
set_option maxHeartbeats 1000000 in
theorem attrs_F {t : Md.Tok} {ta q : Nat} {c1 c2 R : List Ck} (h1 : Rem (LX id s g) cs c1) (h2 : Rem (.obj q (tcell t ta)) c1 c2) (h3 : Rem (.own ta 2 (t.attrs.map encA)) c2 R) (hb : s.inp.length ≤ 1000000000 ∧ s.pos ≤ s.inp.length ∧ t.attrs.length = 0) (hn : ∀ r ∈ s.inp, 0 ≤ r) (hs : t.self = false) :
    F D 106 [.ptr id 0, .ptr q 0] cs (fun v cs' => Hold (∃ a, v = .bool (Md.attrsGo s.rest t.attrs).2.2.1 ∧ (LX id (s.adv (Md.attrsGo s.rest t.attrs).2.2.2) g :: .obj q (tcell (selfed t (Md.attrsGo s.rest t.attrs).1 (Md.attrsGo s.rest t.attrs).2.1) a) :: .own a 2 ((Md.attrsGo s.rest t.attrs).1.map encA) :: R) = cs')) := by
  refine F.perm (h1.perm'.trans ((h2.perm'.trans (h3.perm'.cons _)).cons _)) (F.of rfl rfl rfl ?_)
  repeat' first | exact arI | refine Pst.mk ⟨?_, rfl⟩ (by (repeat' constructor); first | done | fail) | constructor | (refine fun _ _ (hq : Hold _) => ?_; replace hq := hq.out; obtain ⟨_, rfl, rfl⟩ := hq) | (refine fun _ _ (hq : Hold _) => ?_; replace hq := hq.out; obtain ⟨_, _, rfl, rfl⟩ := hq) | rintro _ _ ⟨rfl, rfl⟩ | rintro _ _ ⟨_, rfl, rfl⟩ | rintro _ _ ⟨_, _, rfl, rfl⟩ | (refine fun (hc : _ = _) => ?_; (try simp only [BB] at hc)) | refine fun (_ : Nat) => ?_ | refine fun (_ : _ ≤ _) => ?_ | refine fun (_ : _ < _) => ?_
  refine RS.loopW (α := Nat × Nat × List (Md.Str × Md.Str)) (fun a => [(0, .ptr id 0), (1, .ptr q 0)]) (fun a => LX id (s.adv a.1) g :: .obj q (tcell (selfed t a.2.2 false) a.2.1) :: .own a.2.1 2 (a.2.2.map encA) :: R)
    (fun a => (Md.attrsGo (s.adv a.1).rest a.2.2).1 = (Md.attrsGo s.rest t.attrs).1 ∧ (Md.attrsGo (s.adv a.1).rest a.2.2).2.1 = (Md.attrsGo s.rest t.attrs).2.1 ∧ (Md.attrsGo (s.adv a.1).rest a.2.2).2.2.1 = (Md.attrsGo s.rest t.attrs).2.2.1 ∧ a.1 + (Md.attrsGo (s.adv a.1).rest a.2.2).2.2.2 = (Md.attrsGo s.rest t.attrs).2.2.2 ∧ s.pos + a.1 ≤ s.inp.length ∧ a.2.2.length ≤ a.1) (fun a => s.inp.length - (s.pos + a.1)) (0, ta, t.attrs) ⟨rfl, rfl, rfl, by simp [adv_zero], by dsimp only; omega, by dsimp only; omega⟩ ⟨rfl, rfl, trivial⟩ (by rw [← hs]; exact .refl) ?_
  rintro ⟨i, tb, al⟩ ⟨k1, k2, k3, k4, k5, k6⟩ ih
  dsimp only [ents] at *
  (have hst := fun h => rest_adv_cons (s := s) (i := i) h; have hnil := fun h => rest_adv_nil (s := s) (i := i) h; have hpn := fun h => pk_out (s := s) (i := i) h; have hpi := fun h => pk_in (s := s) (i := i) hn h)
  have e0 : (s.adv i).pk 0 = s.pk i := pk_adv i 0
  repeat' first | (show LD _ _ _ _; first | exact LX.ldPos (by (repeat' constructor); first | done | fail) | exact LX.ldWay (by (repeat' constructor); first | done | fail) | exact LX.ldLast (by (repeat' constructor); first | done | fail) | exact LX.ldRoom (by (repeat' constructor); first | done | fail) | exact LX.ldDone (by (repeat' constructor); first | done | fail) | exact LX.ldText (by (repeat' constructor); first | done | fail)) | (apply RR.lxIn; exact rfl; exact rfl; exact rfl; exact (by (repeat' constructor); first | done | fail); refine fun _ => ?_) | (apply RR.lxOut; exact rfl; exact rfl; exact rfl; exact (by (repeat' constructor); first | done | fail); refine fun _ => ?_) | (show FC _ _ _ _ _; first | exact attr_F (t := selfed t al false) (ta := tb) (by (repeat' constructor); first | done | fail) (by (repeat' constructor); first | done | fail) (by (repeat' constructor); first | done | fail) (by simp only [Md.Lx.adv, selfed]; omega) (by exact hn) | exact peek0_F (by (repeat' constructor); first | done | fail) (by first | omega | ((simp only [Md.Lx.adv, Md.Lx.say, Md.Lx.clr, List.nil_append, List.length_append, List.length_cons, List.length_nil]); omega)) | exact peek1_F (by (repeat' constructor); first | done | fail) (by first | omega | ((simp only [Md.Lx.adv, Md.Lx.say, Md.Lx.clr, List.nil_append, List.length_append, List.length_cons, List.length_nil]); omega)) | exact peek6_F (by (repeat' constructor); first | done | fail) (by first | omega | ((simp only [Md.Lx.adv, Md.Lx.say, Md.Lx.clr, List.nil_append, List.length_append, List.length_cons, List.length_nil]); omega)) | exact next_F (by (repeat' constructor); first | done | fail) (by first | omega | ((simp only [Md.Lx.adv, Md.Lx.say, Md.Lx.clr, List.nil_append, List.length_append, List.length_cons, List.length_nil]); omega)) | exact back_F (by (repeat' constructor); first | done | fail) (by first | omega | ((simp only [Md.Lx.adv, Md.Lx.say, Md.Lx.clr, List.nil_append, List.length_append, List.length_cons, List.length_nil]); omega)) | exact blank_F | exact letter_F | exact small_F | exact encode_F rfl (by first | omega | ((simp only [Md.Lx.adv, Md.Lx.say, Md.Lx.clr, List.nil_append, List.length_append, List.length_cons, List.length_nil]); omega)) | exact say_F rfl (by (repeat' constructor); first | done | fail) (by (repeat' constructor); first | done | fail) (by first | omega | ((simp only [Md.Lx.adv, Md.Lx.say, Md.Lx.clr, List.nil_append, List.length_append, List.length_cons, List.length_nil]); omega)) | exact stands_F (by (repeat' constructor); first | done | fail) (by first | omega | ((simp only [Md.Lx.adv, Md.Lx.say, Md.Lx.clr, List.nil_append, List.length_append, List.length_cons, List.length_nil]); omega)) (by decide) (by first | omega | ((simp only [Md.Lx.adv, Md.Lx.say, Md.Lx.clr, List.nil_append, List.length_append, List.length_cons, List.length_nil]); omega)) | exact exact_F (by (repeat' constructor); first | done | fail) (by first | omega | ((simp only [Md.Lx.adv, Md.Lx.say, Md.Lx.clr, List.nil_append, List.length_append, List.length_cons, List.length_nil]); omega)) (by decide) (by first | omega | ((simp only [Md.Lx.adv, Md.Lx.say, Md.Lx.clr, List.nil_append, List.length_append, List.length_cons, List.length_nil]); omega))) | (refine fun (hc : _ = _) => ?_; (try simp only [BB] at hc); (try (first | contradiction | (exfalso; omega)))) | exact arI | refine Pst.mk ⟨?_, rfl⟩ (by (repeat' constructor); first | done | fail) | constructor | (refine fun _ _ (hq : Hold _) => ?_; replace hq := hq.out; obtain ⟨_, rfl, rfl⟩ := hq) | (refine fun _ _ (hq : Hold _) => ?_; replace hq := hq.out; obtain ⟨_, _, rfl, rfl⟩ := hq) | rintro _ _ ⟨rfl, rfl⟩ | rintro _ _ ⟨_, rfl, rfl⟩ | rintro _ _ ⟨_, _, rfl, rfl⟩ | (refine fun (hc : _ = _) => ?_; (try simp only [BB] at hc)) | refine fun (_ : Nat) => ?_ | refine fun (_ : _ ≤ _) => ?_ | refine fun (_ : _ < _) => ?_
  all_goals (try simp only [pk_adv, pk_say, Nat.add_zero, adv_adv, say_say, say_adv, pk_clr, adv_clr] at *)
  · have hge : s.inp.length ≤ s.pos + i := by by_cases h : s.pos + i < s.inp.length; (have := hpi h; omega); omega
    rw [hnil hge, attrsGo_nil] at k1 k2 k3 k4
    dsimp only at k1 k2 k3 k4
    rw [← k1, ← k2, ← k3, ← k4]
    exact Pst.mk (.mk ⟨_, rfl, rfl⟩) (by (repeat' constructor); first | done | fail)
  · have hlt : s.pos + i < s.inp.length := by by_cases h : s.pos + i < s.inp.length; exact h; have := hpn (by omega); omega
    rw [hst hlt, attrsGo_blank hc] at k1 k2 k3 k4
    dsimp only at k1 k2 k3 k4
    exact ih _ _ (i + 1, _, al) ⟨k1, k2, k3, by dsimp only; omega, by dsimp only; omega, by dsimp only; omega⟩ (by dsimp only; omega) ⟨rfl, rfl, trivial⟩ (by (repeat' constructor); first | done | fail)
  · have hlt : s.pos + i < s.inp.length := by by_cases h : s.pos + i < s.inp.length; exact h; have := hpn (by omega); omega
    rw [hst hlt, hc, attrsGo_end] at k1 k2 k3 k4
    dsimp only at k1 k2 k3 k4
    rw [← k1, ← k2, ← k3, ← k4]
    exact Pst.mk (.mk ⟨_, rfl, rfl⟩) (by (repeat' constructor); first | done | fail)
  · rename_i hB
    have hlt : s.pos + i < s.inp.length := by by_cases h : s.pos + i < s.inp.length; exact h; have := hpn (by omega); omega
    rw [hst hlt, hB, attrsGo_slash, headD_adv, if_pos hc] at k1 k2 k3 k4
    dsimp only at k1 k2 k3 k4
    rw [← k1, ← k2, ← k3, ← k4]
    exact Pst.mk (.mk ⟨_, rfl, rfl⟩) (by (repeat' constructor); first | done | fail)
  · rename_i hB
    have hlt : s.pos + i < s.inp.length := by by_cases h : s.pos + i < s.inp.length; exact h; have := hpn (by omega); omega
    rw [hst hlt, hB, attrsGo_slash, headD_adv, if_neg hc] at k1 k2 k3 k4
    dsimp only at k1 k2 k3 k4
    exact ih _ _ (i + 1, _, al) ⟨k1, k2, k3, by dsimp only; omega, by dsimp only; omega, by dsimp only; omega⟩ (by dsimp only; omega) ⟨rfl, rfl, trivial⟩ (by (repeat' constructor); first | done | fail)
  · rename_i hok _ _ hB hC
    have hok : (Md.attr1 (s.adv i).rest).2.1 = false := by assumption
    have hlt : s.pos + i < s.inp.length := by by_cases h : s.pos + i < s.inp.length; exact h; have := hpn (by omega); omega
    rw [hst hlt, attrsGo_attr hB hC hc, ← hst hlt, if_neg (by rw [hok]; simp)] at k1 k2 k3 k4
    dsimp only at k1 k2 k3 k4
    rw [← k1, ← k2, ← k3, ← k4]
    exact Pst.mk (.mk ⟨_, rfl, rfl⟩) (by (repeat' constructor); first | done | fail)
  · rename_i _ _ _ hB hC
    have hok : (Md.attr1 (s.adv i).rest).2.1 = true := by assumption
    have hlt : s.pos + i < s.inp.length := by by_cases h : s.pos + i < s.inp.length; exact h; have := hpn (by omega); omega
    have hl := attr1_le (s.adv i).rest
    have hg : 1 ≤ (Md.attr1 (s.adv i).rest).2.2 := by rw [hst hlt]; exact attr1_ge (by rw [over_f]; exact ⟨⟨hB, hc⟩, hC⟩)
    have hpl := putAttr_len al (Md.attr1 (s.adv i).rest).1
    have hrl := rest_len (s := s.adv i)
    have hrp : (s.adv i).pos = s.pos + i := rfl
    have hri : (s.adv i).inp = s.inp := rfl
    rw [hrp, hri] at hrl
    rw [hst hlt, attrsGo_attr hB hC hc, ← hst hlt, if_pos hok, ← rest_adv, adv_adv] at k1 k2 k3 k4
    dsimp only at k1 k2 k3 k4
    exact ih _ _ (i + (Md.attr1 (s.adv i).rest).2.2, _, Md.putAttr al (Md.attr1 (s.adv i).rest).1) ⟨k1, k2, k3, by dsimp only; omega, by dsimp only; omega, by dsimp only; omega⟩ (by dsimp only; omega) ⟨rfl, rfl, trivial⟩ (by (repeat' constructor); first | done | fail)
theorem nameOf_le (l : List Int) : (Md.nameOf l).length ≤ l.length := (List.takeWhile_sublist _).length_le
def tagTok (kind : Int) (name : Md.Str) : Md.Tok := { Md.Tok.zero with kind := kind, name := name }
theorem attrs0_F {t : Md.Tok} {q : Nat} {c1 R : List Ck} (h1 : Rem (LX id s g) cs c1) (h2 : Rem (.obj q (tcell t 0)) c1 R) (ht : t.attrs = []) (hb : s.inp.length ≤ 1000000000 ∧ s.pos ≤ s.inp.length) (hn : ∀ r ∈ s.inp, 0 ≤ r) (hs : t.self = false) :
    F D 106 [.ptr id 0, .ptr q 0] cs (fun v cs' => Hold (∃ a, v = .bool (Md.attrsGo s.rest []).2.2.1 ∧ (LX id (s.adv (Md.attrsGo s.rest []).2.2.2) g :: .obj q (tcell (selfed t (Md.attrsGo s.rest []).1 (Md.attrsGo s.rest []).2.1) a) :: .own a 2 ((Md.attrsGo s.rest []).1.map encA) :: R) = cs')) := by
  rw [← ht]
  exact F.from (fun h hs => hs.nilOwn 2) (attrs_F (.tail h1) (.tail h2) (by rw [ht]; exact .head) ⟨hb.1, hb.2, by rw [ht]; rfl⟩ hn hs)
set_option maxHeartbeats 1000000 in
theorem tag_F {kind : Int} {cs2 : Nat × Nat → List Ck} (hu : Upd (LX id s g) (fun a => LX id (s.tag kind) a) cs cs2) (hb : s.inp.length ≤ 1000000000 ∧ s.pos ≤ s.inp.length ∧ s.text.length ≤ 80000000000 ∧ s.out.length ≤ 10000000) (hn : ∀ r ∈ s.inp, 0 ≤ r) :
    F D 91 [.ptr id 0, .int .i64 kind] cs (fun v cs' => Hold (∃ a, v = .tup [] ∧ cs2 a = cs')) := by
  refine F.atG hu fun R => F.of rfl rfl rfl ?_
  have hnl := nameOf_le s.rest
  have hrl := rest_len (s := s)
  have e : s.tag kind = if (Md.attrsGo (s.adv (Md.nameOf s.rest).length).rest []).2.2.1 = true then (s.adv ((Md.nameOf s.rest).length + (Md.attrsGo (s.adv (Md.nameOf s.rest).length).rest []).2.2.2)).emit { Md.Tok.zero with kind := kind, name := Md.encode ((Md.nameOf s.rest).map fun r => Md.small (Md.fixr r)), attrs := if kind = 3 then [] else (Md.attrsGo (s.adv (Md.nameOf s.rest).length).rest []).1, self := if kind = 3 then false else (Md.attrsGo (s.adv (Md.nameOf s.rest).length).rest []).2.1 } else s.adv ((Md.nameOf s.rest).length + (Md.attrsGo (s.adv (Md.nameOf s.rest).length).rest []).2.2.2) := by
    simp only [Md.Lx.tag, rest_adv]
  repeat' first | (show FC _ _ _ _ _; first | exact name_F (by (repeat' constructor); first | done | fail) (by omega) hn | exact attrs0_F (t := tagTok kind (Md.encode ((Md.nameOf s.rest).map fun r => Md.small (Md.fixr r)))) (by (repeat' constructor); first | done | fail) (by (repeat' constructor); first | done | fail) rfl (by simp only [Md.Lx.adv]; omega) (by exact hn) rfl | exact emit_F (t := tagTok kind (Md.encode ((Md.nameOf s.rest).map fun r => Md.small (Md.fixr r)))) (ta := 0) rfl (by (repeat' constructor); first | done | fail) (by first | omega | ((simp only [Md.Lx.adv, Md.Lx.say, Md.Lx.clr, List.nil_append, List.length_append, List.length_cons, List.length_nil]); omega)) | exact emit_F (t := selfed (tagTok kind (Md.encode ((Md.nameOf s.rest).map fun r => Md.small (Md.fixr r)))) (Md.attrsGo (s.adv (Md.nameOf s.rest).length).rest []).1 (Md.attrsGo (s.adv (Md.nameOf s.rest).length).rest []).2.1) rfl (by (repeat' constructor); first | done | fail) (by first | omega | ((simp only [Md.Lx.adv, Md.Lx.say, Md.Lx.clr, List.nil_append, List.length_append, List.length_cons, List.length_nil]); omega))) | (refine fun (hc : _ = _) => ?_; (try simp only [BB] at hc); (try (first | contradiction | (exfalso; omega)))) | exact arI | refine Pst.mk ⟨?_, rfl⟩ (by (repeat' constructor); first | done | fail) | constructor | (refine fun _ _ (hq : Hold _) => ?_; replace hq := hq.out; obtain ⟨_, rfl, rfl⟩ := hq) | (refine fun _ _ (hq : Hold _) => ?_; replace hq := hq.out; obtain ⟨_, _, rfl, rfl⟩ := hq) | rintro _ _ ⟨rfl, rfl⟩ | rintro _ _ ⟨_, rfl, rfl⟩ | rintro _ _ ⟨_, _, rfl, rfl⟩ | (refine fun (hc : _ = _) => ?_; (try simp only [BB] at hc)) | refine fun (_ : Nat) => ?_ | refine fun (_ : _ ≤ _) => ?_ | refine fun (_ : _ < _) => ?_
  all_goals (try simp only [pk_adv, pk_say, Nat.add_zero, adv_adv, say_say, say_adv, pk_clr, adv_clr] at *)
  · rename_i hok _ 
    have hok : (Md.attrsGo (s.adv (Md.nameOf s.rest).length).rest []).2.2.1 = true := by assumption
    rw [if_pos hok, if_pos hc, if_pos hc] at e
    rw [e]; exact Pst.mk (.mk ⟨_, trivial, rfl⟩) (by (repeat' constructor); first | done | fail)
  · rename_i hok _ 
    have hok : (Md.attrsGo (s.adv (Md.nameOf s.rest).length).rest []).2.2.1 = true := by assumption
    rw [if_pos hok, if_neg hc, if_neg hc] at e
    rw [e]; exact Pst.mk (.mk ⟨_, trivial, rfl⟩) (by (repeat' constructor); first | done | fail)
  · rw [if_neg (by rw [hc]; simp)] at e
    rw [e]; exact Pst.mk (.mk ⟨_, trivial, rfl⟩) (by (repeat' constructor); first | done | fail)
end Go.Proofs.YticnenofiibpgaaDoor.Code
/- What the lexer's comment does. -/
namespace Go
theorem Md.enc_bytes (r : Int) : (∃ b : UInt8, b.toNat < 128 ∧ r = b.toNat ∧ (Utf8.encode r).data.toList = [b]) ∨ ((Utf8.encode r).data.toList ≠ [] ∧ ∀ b ∈ (Utf8.encode r).data.toList, 128 ≤ b.toNat) := by
  by_cases h : 0 ≤ r ∧ r < 128
  · left
    refine ⟨UInt8.ofNat r.toNat, ?_, ?_, Md.enc_low h⟩
    · rw [UInt8.toNat_ofNat']; omega
    · rw [UInt8.toNat_ofNat']; omega
  · right
    unfold Utf8.encode
    have hc : 128 ≤ (if Utf8.valid r = true then r.toNat else Utf8.runeError) ∧ (if Utf8.valid r = true then r.toNat else Utf8.runeError) < 1114112 := by
      split
      · rename_i hv
        simp [Utf8.valid] at hv
        omega
      · decide
    dsimp only
    generalize (if Utf8.valid r = true then r.toNat else Utf8.runeError) = c at hc
    rw [if_neg (by omega)]
    split
    · refine ⟨by simp, fun b hb => ?_⟩
      simp only [List.mem_cons, List.not_mem_nil, or_false] at hb
      rcases hb with rfl | rfl <;> rw [UInt8.toNat_ofNat'] <;> omega
    · split
      · refine ⟨by simp, fun b hb => ?_⟩
        simp only [List.mem_cons, List.not_mem_nil, or_false] at hb
        rcases hb with rfl | rfl | rfl <;> rw [UInt8.toNat_ofNat'] <;> omega
      · refine ⟨by simp, fun b hb => ?_⟩
        simp only [List.mem_cons, List.not_mem_nil, or_false] at hb
        rcases hb with rfl | rfl | rfl | rfl <;> rw [UInt8.toNat_ofNat'] <;> omega
theorem Md.runeBytes_app (a b : List Int) : Go.Dm.runeBytes (a ++ b) = Go.Dm.runeBytes a ++ Go.Dm.runeBytes b := by simp [Go.Dm.runeBytes]
/-- Low bytes at a text's end are signs at its end. -/
theorem Md.low_end : ∀ (n : Nat) (w : List UInt8) (d : List Int) (x : List UInt8), w.length = n → (∀ b ∈ w, b.toNat < 128) → Go.Dm.runeBytes d = x ++ w → ∃ d', d = d' ++ w.map (fun b => (b.toNat : Int)) ∧ Go.Dm.runeBytes d' = x := by
  intro n
  induction n with
  | zero => intro w d x hw _ h; have : w = [] := List.eq_nil_of_length_eq_zero hw; subst this; exact ⟨d, by simp, by simpa using h⟩
  | succ n ih =>
    intro w d x hw hb h
    obtain ⟨w', b, rfl⟩ : ∃ w' b, w = w' ++ [b] := ⟨w.dropLast, w.getLast (by intro e; rw [e] at hw; simp at hw), (List.dropLast_concat_getLast _).symm⟩
    have hbl : b.toNat < 128 := hb b (by simp)
    rcases List.eq_nil_or_concat d with rfl | ⟨d', r, rfl⟩
    · simp [Go.Dm.runeBytes] at h
    · rw [List.concat_eq_append, Md.runeBytes_app, ← List.append_assoc] at h
      have er : Go.Dm.runeBytes [r] = (Utf8.encode r).data.toList := by simp [Go.Dm.runeBytes]
      rw [er] at h
      rcases Md.enc_bytes r with ⟨c, h1, h2, h3⟩ | ⟨h1, h2⟩
      · rw [h3] at h
        obtain ⟨h4, h5⟩ := List.append_inj' h rfl
        simp only [List.cons.injEq, and_true] at h5
        obtain ⟨d2, e1, e2⟩ := ih w' d' x (by simp at hw; omega) (fun y hy => hb y (by simp [hy])) h4
        exact ⟨d2, by rw [e1, h2, h5]; simp, e2⟩
      · exfalso
        have hl := congrArg List.getLast? h
        rw [List.getLast?_append, List.getLast?_append] at hl
        simp only [List.getLast?_singleton, Option.some_or] at hl
        cases hg : (Utf8.encode r).data.toList.getLast? with
        | none => rw [List.getLast?_eq_none_iff] at hg; exact h1 hg
        | some y =>
          rw [hg] at hl
          simp only [Option.some_or, Option.some.injEq] at hl
          have := h2 y (List.mem_of_getLast? hg)
          rw [hl] at this; omega
theorem Md.suffix_len {d : List Int} {w : List UInt8} (hw : ∀ b ∈ w, b.toNat < 128) (h : Md.hasSuffix (Go.Dm.runeBytes d) w = true) : w.length ≤ d.length := by
  simp only [Md.hasSuffix, Bool.and_eq_true, decide_eq_true_eq, beq_iff_eq] at h
  have e : Go.Dm.runeBytes d = (Go.Dm.runeBytes d).take ((Go.Dm.runeBytes d).length - w.length) ++ w := by
    conv => lhs; rw [← List.take_append_drop ((Go.Dm.runeBytes d).length - w.length) (Go.Dm.runeBytes d)]
    rw [h.2]
  obtain ⟨d', h1, _⟩ := Md.low_end _ w d _ rfl hw e
  rw [h1]; simp
end Go
namespace Go.Proofs.YticnenofiibpgaaDoor.Code
open Go.Dm Go.Dm.C
set_option linter.unusedSimpArgs false
set_option linter.unusedVariables false
set_option linter.unnecessarySimpa false
set_option maxRecDepth 10000
attribute [local irreducible] Go.Dm.F Go.Dm.RS Go.Dm.Y Go.Dm.FD Go.Dm.FZ1 Go.Dm.Hold
variable {id : Nat} {s : Md.Lx} {g : Nat × Nat} {cs : List Ck}
theorem hasSuffix2_F {R : List Ck} {a b : Md.Str} (hl : a.length ≤ 1000000000000 ∧ b.length ≤ 1000000000000) : F D 117 [.str a, .str b] R (fun v cs' => v = .bool (Md.hasSuffix a b) ∧ R = cs') := by
  refine F.of rfl rfl rfl ?_
  repeat' first | exact arI | refine Pst.mk ⟨?_, rfl⟩ (by (repeat' constructor); first | done | fail) | constructor | (refine fun _ _ (hq : Hold _) => ?_; replace hq := hq.out; obtain ⟨_, rfl, rfl⟩ := hq) | (refine fun _ _ (hq : Hold _) => ?_; replace hq := hq.out; obtain ⟨_, _, rfl, rfl⟩ := hq) | rintro _ _ ⟨rfl, rfl⟩ | rintro _ _ ⟨_, rfl, rfl⟩ | rintro _ _ ⟨_, _, rfl, rfl⟩ | (refine fun (hc : _ = _) => ?_; (try simp only [BB] at hc)) | refine fun (_ : Nat) => ?_ | refine fun (_ : _ ≤ _) => ?_ | refine fun (_ : _ < _) => ?_
  rw [show ((a.length : Int) - (b.length : Int)).toNat = a.length - b.length by omega]
  congr 1
  unfold Md.hasSuffix
  rw [show decide (List.drop (a.length - b.length) a = b) = (List.drop (a.length - b.length) a == b) by rw [Bool.eq_iff_iff]; simp]
  congr 1
  by_cases h : b.length ≤ a.length
  · rw [decide_eq_true (show (a.length : Int) ≥ (b.length : Int) by omega), decide_eq_true h]
  · rw [decide_eq_false (show ¬(a.length : Int) ≥ (b.length : Int) by omega), decide_eq_false h]
theorem hasSuffix_F {R : List Ck} {a b : Md.Str} (hl : a.length ≤ 1000000000000 ∧ b.length ≤ 1000000000000) : F D 111 [.str a, .str b] R (fun v cs' => v = .bool (Md.hasSuffix a b) ∧ R = cs') := by
  refine F.of rfl rfl rfl ?_
  repeat' first | exact hasSuffix2_F hl | exact arI | refine Pst.mk ⟨?_, rfl⟩ (by (repeat' constructor); first | done | fail) | constructor | (refine fun _ _ (hq : Hold _) => ?_; replace hq := hq.out; obtain ⟨_, rfl, rfl⟩ := hq) | (refine fun _ _ (hq : Hold _) => ?_; replace hq := hq.out; obtain ⟨_, _, rfl, rfl⟩ := hq) | rintro _ _ ⟨rfl, rfl⟩ | rintro _ _ ⟨_, rfl, rfl⟩ | rintro _ _ ⟨_, _, rfl, rfl⟩ | (refine fun (hc : _ = _) => ?_; (try simp only [BB] at hc)) | refine fun (_ : Nat) => ?_ | refine fun (_ : _ ≤ _) => ?_ | refine fun (_ : _ < _) => ?_
theorem commentEnd_F {q d td : Nat} {data : List Int} {c1 c2 R : List Ck} (h1 : Rem (.obj q (.cells [.ptr id 0] none)) cs c1) (h2 : Rem (.obj d (.cells [.lst td (zOf td 1) (data.map I32)] none)) c1 c2) (h3 : Rem (LX id s g) c2 R) (hb : s.text.length ≤ 80000000000 ∧ s.out.length ≤ 10000000 ∧ data.length ≤ 10000000000) :
    F D 110 [.ptr q 0, .ptr d 0] cs (fun v cs' => Hold (∃ a, v = .tup [] ∧ (LX id (s.emit (Md.commentTok data)) a :: .obj q (.cells [.ptr id 0] none) :: .obj d (.cells [.lst td (zOf td 1) (data.map I32)] none) :: R) = cs')) := by
  refine F.perm ((h1.perm'.trans ((h2.perm'.trans (h3.perm'.cons _)).cons _)).trans ((((List.Perm.swap ..).cons _).trans (.swap ..)))) (F.of rfl rfl rfl ?_)
  repeat' first | (show FC _ _ _ _ _; first | exact encode_F rfl (by omega) | exact emit_F (t := Md.commentTok data) (ta := 0) rfl (by (repeat' constructor); first | done | fail) (by omega)) | (refine fun (hc : _ = _) => ?_; (try simp only [BB] at hc); (try (first | contradiction | (exfalso; omega)))) | exact arI | refine Pst.mk ⟨?_, rfl⟩ (by (repeat' constructor); first | done | fail) | constructor | (refine fun _ _ (hq : Hold _) => ?_; replace hq := hq.out; obtain ⟨_, rfl, rfl⟩ := hq) | (refine fun _ _ (hq : Hold _) => ?_; replace hq := hq.out; obtain ⟨_, _, rfl, rfl⟩ := hq) | rintro _ _ ⟨rfl, rfl⟩ | rintro _ _ ⟨_, rfl, rfl⟩ | rintro _ _ ⟨_, _, rfl, rfl⟩ | (refine fun (hc : _ = _) => ?_; (try simp only [BB] at hc)) | refine fun (_ : Nat) => ?_ | refine fun (_ : _ ≤ _) => ?_ | refine fun (_ : _ < _) => ?_
  exact Pst.mk (.mk ⟨_, rfl, rfl⟩) (by (repeat' constructor); first | done | fail)
theorem commentGo_cons {i : Nat} (h : s.pos + i < s.inp.length) : Md.commentGo (s.adv i).rest = if s.pk i = 45 ∧ Md.exact [45, 62] (s.adv (i + 1)).rest = true then ([], 3, true) else if s.pk i = 45 ∧ Md.exact [45, 33, 62] (s.adv (i + 1)).rest = true then ([], 4, true) else
    (Md.fixr (s.pk i) :: (Md.commentGo (s.adv (i + 1)).rest).1, (Md.commentGo (s.adv (i + 1)).rest).2.1 + 1, (Md.commentGo (s.adv (i + 1)).rest).2.2) := by
  rw [rest_adv_cons h]; rfl
theorem tail3 : ∀ b ∈ ([45, 45, 33] : List UInt8), b.toNat < 128 := by decide
theorem tail2 : ∀ b ∈ ([45, 45] : List UInt8), b.toNat < 128 := by decide
theorem tail1 : ∀ b ∈ ([45] : List UInt8), b.toNat < 128 := by decide
theorem runeBytes_len : ∀ d : List Int, (runeBytes d).length ≤ 4 * d.length
  | [] => by simp [runeBytes]
  | r :: d => by
    have h := runeBytes_len d
    have e : runeBytes (r :: d) = (Utf8.encode r).data.toList ++ runeBytes d := by simp [runeBytes]
    have h4 : (Utf8.encode r).data.toList.length ≤ 4 := by
      unfold Utf8.encode; dsimp only; repeat' split
      all_goals simp
    rw [e, List.length_append, List.length_cons]; omega
set_option maxHeartbeats 2000000 in
theorem comment_F {cs2 : Nat × Nat → List Ck} (hu : Upd (LX id s g) (fun a => LX id s.comment a) cs cs2) (hb : s.inp.length ≤ 1000000000 ∧ s.pos ≤ 20000000000 ∧ s.text.length ≤ 80000000000 ∧ s.out.length ≤ 10000000) (hn : ∀ r ∈ s.inp, 0 ≤ r) :
    F D 102 [.ptr id 0] cs (fun v cs' => Hold (∃ a, v = .tup [] ∧ cs2 a = cs')) := by
  refine F.atG hu fun R => F.of rfl rfl rfl ?_
  repeat' first | (show LD _ _ _ _; first | exact LX.ldPos (by (repeat' constructor); first | done | fail) | exact LX.ldWay (by (repeat' constructor); first | done | fail) | exact LX.ldLast (by (repeat' constructor); first | done | fail) | exact LX.ldRoom (by (repeat' constructor); first | done | fail) | exact LX.ldDone (by (repeat' constructor); first | done | fail) | exact LX.ldText (by (repeat' constructor); first | done | fail)) | (apply RR.lxIn; exact rfl; exact rfl; exact rfl; exact (by (repeat' constructor); first | done | fail); refine fun _ => ?_) | (apply RR.lxOut; exact rfl; exact rfl; exact rfl; exact (by (repeat' constructor); first | done | fail); refine fun _ => ?_) | (apply RR.storeS; exact rfl; exact rfl; first | exact LX.stPos 1 rfl (by (repeat' constructor); first | done | fail) | exact LX.stPos 2 rfl (by (repeat' constructor); first | done | fail) | exact LX.stPos 3 rfl (by (repeat' constructor); first | done | fail) | exact LX.stPos 6 rfl (by (repeat' constructor); first | done | fail) | exact LX.stPos 7 rfl (by (repeat' constructor); first | done | fail) | exact LX.stPos _ rfl (by (repeat' constructor); first | done | fail) | exact LX.stPos2 1 _ (by (repeat' constructor); first | done | fail) | exact LX.stPos2 2 _ (by (repeat' constructor); first | done | fail) | exact LX.stWay (by (repeat' constructor); first | done | fail) | exact LX.stLast (by (repeat' constructor); first | done | fail) | exact LX.stRoom (by (repeat' constructor); first | done | fail) | exact LX.stDone (by (repeat' constructor); first | done | fail); exact rfl) | (show FC _ _ _ _ _; first | exact commentEnd_F (td := 0) (data := []) (by (repeat' constructor); first | done | fail) (by (repeat' constructor); first | done | fail) (by (repeat' constructor); first | done | fail) (by first | omega | ((simp only [Md.Lx.adv, Md.Lx.say, Md.Lx.clr, List.nil_append, List.length_append, List.length_cons, List.length_nil]); omega)) | exact peek0_F (by (repeat' constructor); first | done | fail) (by first | omega | ((simp only [Md.Lx.adv, Md.Lx.say, Md.Lx.clr, List.nil_append, List.length_append, List.length_cons, List.length_nil]); omega)) | exact peek1_F (by (repeat' constructor); first | done | fail) (by first | omega | ((simp only [Md.Lx.adv, Md.Lx.say, Md.Lx.clr, List.nil_append, List.length_append, List.length_cons, List.length_nil]); omega)) | exact peek6_F (by (repeat' constructor); first | done | fail) (by first | omega | ((simp only [Md.Lx.adv, Md.Lx.say, Md.Lx.clr, List.nil_append, List.length_append, List.length_cons, List.length_nil]); omega)) | exact next_F (by (repeat' constructor); first | done | fail) (by first | omega | ((simp only [Md.Lx.adv, Md.Lx.say, Md.Lx.clr, List.nil_append, List.length_append, List.length_cons, List.length_nil]); omega)) | exact back_F (by (repeat' constructor); first | done | fail) (by first | omega | ((simp only [Md.Lx.adv, Md.Lx.say, Md.Lx.clr, List.nil_append, List.length_append, List.length_cons, List.length_nil]); omega)) | exact blank_F | exact letter_F | exact small_F | exact encode_F rfl (by first | omega | ((simp only [Md.Lx.adv, Md.Lx.say, Md.Lx.clr, List.nil_append, List.length_append, List.length_cons, List.length_nil]); omega)) | exact say_F rfl (by (repeat' constructor); first | done | fail) (by (repeat' constructor); first | done | fail) (by first | omega | ((simp only [Md.Lx.adv, Md.Lx.say, Md.Lx.clr, List.nil_append, List.length_append, List.length_cons, List.length_nil]); omega)) | exact stands_F (by (repeat' constructor); first | done | fail) (by first | omega | ((simp only [Md.Lx.adv, Md.Lx.say, Md.Lx.clr, List.nil_append, List.length_append, List.length_cons, List.length_nil]); omega)) (by decide) (by first | omega | ((simp only [Md.Lx.adv, Md.Lx.say, Md.Lx.clr, List.nil_append, List.length_append, List.length_cons, List.length_nil]); omega)) | exact exact_F (by (repeat' constructor); first | done | fail) (by first | omega | ((simp only [Md.Lx.adv, Md.Lx.say, Md.Lx.clr, List.nil_append, List.length_append, List.length_cons, List.length_nil]); omega)) (by decide) (by first | omega | ((simp only [Md.Lx.adv, Md.Lx.say, Md.Lx.clr, List.nil_append, List.length_append, List.length_cons, List.length_nil]); omega))) | (refine fun (hc : _ = _) => ?_; (try simp only [BB] at hc); (try (first | contradiction | (exfalso; omega)))) | exact arI | refine Pst.mk ⟨?_, rfl⟩ (by (repeat' constructor); first | done | fail) | constructor | (refine fun _ _ (hq : Hold _) => ?_; replace hq := hq.out; obtain ⟨_, rfl, rfl⟩ := hq) | (refine fun _ _ (hq : Hold _) => ?_; replace hq := hq.out; obtain ⟨_, _, rfl, rfl⟩ := hq) | rintro _ _ ⟨rfl, rfl⟩ | rintro _ _ ⟨_, rfl, rfl⟩ | rintro _ _ ⟨_, _, rfl, rfl⟩ | (refine fun (hc : _ = _) => ?_; (try simp only [BB] at hc)) | refine fun (_ : Nat) => ?_ | refine fun (_ : _ ≤ _) => ?_ | refine fun (_ : _ < _) => ?_
  · rw [Md.Lx.comment, if_pos hc]; exact Pst.mk (.mk ⟨_, rfl, rfl⟩) (by (repeat' constructor); first | done | fail)
  · rw [Md.Lx.comment, if_neg (by omega), if_pos hc]; exact Pst.mk (.mk ⟨_, rfl, rfl⟩) (by (repeat' constructor); first | done | fail)
  all_goals
    rename_i q _ d _ hA hB
    have hcm : s.comment = (s.adv (Md.commentGo s.rest).2.1).emit (Md.commentTok (if (Md.commentGo s.rest).2.2 = true then (Md.commentGo s.rest).1 else Md.stripTail (Md.commentGo s.rest).1)) := by
      rw [Md.Lx.comment, if_neg hA, if_neg (fun h => by omega)]
    refine RS.nilOwn 1 (RS.loopW (α := Nat × Nat × List Int) (fun a => [(1, .ptr q 0), (2, .ptr d 0), (3, .fn (.func 110) [] [.ptr q 0, .ptr d 0])]) (fun a => .own a.2.1 1 (a.2.2.map I32) :: .obj d (.cells [.lst a.2.1 (zOf a.2.1 1) (a.2.2.map I32)] none) :: .obj q (.cells [.ptr id 0] none) :: LX id (s.adv a.1) g :: R)
      (fun a => a.2.2.length ≤ a.1 ∧ (a.1 = 0 ∨ s.pos + a.1 ≤ s.inp.length) ∧ a.2.2 ++ (Md.commentGo (s.adv a.1).rest).1 = (Md.commentGo s.rest).1 ∧ a.1 + (Md.commentGo (s.adv a.1).rest).2.1 = (Md.commentGo s.rest).2.1 ∧ (Md.commentGo (s.adv a.1).rest).2.2 = (Md.commentGo s.rest).2.2) (fun a => s.inp.length - (s.pos + a.1)) (0, 0, []) ⟨by simp, .inl rfl, by simp [adv_zero], by simp [adv_zero], by simp [adv_zero]⟩ ⟨rfl, rfl, rfl, trivial⟩ .refl ?_)
    rintro ⟨i, td, acc⟩ ⟨k1, k2, k3, k4, k5⟩ ih
    dsimp only [ents] at *
    (have hst := fun h => rest_adv_cons (s := s) (i := i) h; have hnil := fun h => rest_adv_nil (s := s) (i := i) h; have hpn := fun h => pk_out (s := s) (i := i) h; have hpi := fun h => pk_in (s := s) (i := i) hn h)
    have hgo := fun h => commentGo_cons (s := s) (i := i) h
    have hbl := runeBytes_len acc
    have hs3 : Md.hasSuffix (runeBytes acc) [45, 45, 33] = true → 3 ≤ acc.length := fun h => Md.suffix_len tail3 h
    have hs2 : Md.hasSuffix (runeBytes acc) [45, 45] = true → 2 ≤ acc.length := fun h => Md.suffix_len tail2 h
    have hs1 : Md.hasSuffix (runeBytes acc) [45] = true → 1 ≤ acc.length := fun h => Md.suffix_len tail1 h
    repeat' first | (show LD _ _ _ _; first | exact LX.ldPos (by (repeat' constructor); first | done | fail) | exact LX.ldWay (by (repeat' constructor); first | done | fail) | exact LX.ldLast (by (repeat' constructor); first | done | fail) | exact LX.ldRoom (by (repeat' constructor); first | done | fail) | exact LX.ldDone (by (repeat' constructor); first | done | fail) | exact LX.ldText (by (repeat' constructor); first | done | fail)) | (apply RR.lxIn; exact rfl; exact rfl; exact rfl; exact (by (repeat' constructor); first | done | fail); refine fun _ => ?_) | (apply RR.lxOut; exact rfl; exact rfl; exact rfl; exact (by (repeat' constructor); first | done | fail); refine fun _ => ?_) | (apply RR.storeS; exact rfl; exact rfl; first | exact LX.stPos 1 rfl (by (repeat' constructor); first | done | fail) | exact LX.stPos 2 rfl (by (repeat' constructor); first | done | fail) | exact LX.stPos 3 rfl (by (repeat' constructor); first | done | fail) | exact LX.stPos 6 rfl (by (repeat' constructor); first | done | fail) | exact LX.stPos 7 rfl (by (repeat' constructor); first | done | fail) | exact LX.stPos _ rfl (by (repeat' constructor); first | done | fail) | exact LX.stPos2 1 _ (by (repeat' constructor); first | done | fail) | exact LX.stPos2 2 _ (by (repeat' constructor); first | done | fail) | exact LX.stWay (by (repeat' constructor); first | done | fail) | exact LX.stLast (by (repeat' constructor); first | done | fail) | exact LX.stRoom (by (repeat' constructor); first | done | fail) | exact LX.stDone (by (repeat' constructor); first | done | fail); exact rfl) | (show FC _ _ _ _ _; first | exact commentEnd_F (by (repeat' constructor); first | done | fail) (by (repeat' constructor); first | done | fail) (by (repeat' constructor); first | done | fail) (by first | omega | ((simp only [Md.Lx.adv, Md.Lx.say, Md.Lx.clr, List.nil_append, List.length_append, List.length_cons, List.length_nil]); omega)) | exact peek0_F (by (repeat' constructor); first | done | fail) (by first | omega | ((simp only [Md.Lx.adv, Md.Lx.say, Md.Lx.clr, List.nil_append, List.length_append, List.length_cons, List.length_nil]); omega)) | exact peek1_F (by (repeat' constructor); first | done | fail) (by first | omega | ((simp only [Md.Lx.adv, Md.Lx.say, Md.Lx.clr, List.nil_append, List.length_append, List.length_cons, List.length_nil]); omega)) | exact peek6_F (by (repeat' constructor); first | done | fail) (by first | omega | ((simp only [Md.Lx.adv, Md.Lx.say, Md.Lx.clr, List.nil_append, List.length_append, List.length_cons, List.length_nil]); omega)) | exact next_F (by (repeat' constructor); first | done | fail) (by first | omega | ((simp only [Md.Lx.adv, Md.Lx.say, Md.Lx.clr, List.nil_append, List.length_append, List.length_cons, List.length_nil]); omega)) | exact back_F (by (repeat' constructor); first | done | fail) (by first | omega | ((simp only [Md.Lx.adv, Md.Lx.say, Md.Lx.clr, List.nil_append, List.length_append, List.length_cons, List.length_nil]); omega)) | exact blank_F | exact letter_F | exact small_F | exact encode_F rfl (by first | omega | ((simp only [Md.Lx.adv, Md.Lx.say, Md.Lx.clr, List.nil_append, List.length_append, List.length_cons, List.length_nil]); omega)) | exact say_F rfl (by (repeat' constructor); first | done | fail) (by (repeat' constructor); first | done | fail) (by first | omega | ((simp only [Md.Lx.adv, Md.Lx.say, Md.Lx.clr, List.nil_append, List.length_append, List.length_cons, List.length_nil]); omega)) | exact stands_F (by (repeat' constructor); first | done | fail) (by first | omega | ((simp only [Md.Lx.adv, Md.Lx.say, Md.Lx.clr, List.nil_append, List.length_append, List.length_cons, List.length_nil]); omega)) (by decide) (by first | omega | ((simp only [Md.Lx.adv, Md.Lx.say, Md.Lx.clr, List.nil_append, List.length_append, List.length_cons, List.length_nil]); omega)) | exact exact_F (by (repeat' constructor); first | done | fail) (by first | omega | ((simp only [Md.Lx.adv, Md.Lx.say, Md.Lx.clr, List.nil_append, List.length_append, List.length_cons, List.length_nil]); omega)) (by decide) (by first | omega | ((simp only [Md.Lx.adv, Md.Lx.say, Md.Lx.clr, List.nil_append, List.length_append, List.length_cons, List.length_nil]); omega))) | (refine fun (hc : _ = _) => ?_; (try simp only [BB] at hc); (try (first | contradiction | (exfalso; omega)))) | (refine Arith.mk ?_; (try intro _); simp only [Md.Lx.adv, Md.Lx.say, Md.Lx.clr, List.nil_append, List.length_append, List.length_cons, List.length_nil]; omega) | exact arI | refine Pst.mk ⟨?_, rfl⟩ (by (repeat' constructor); first | done | fail) | constructor | (refine fun _ _ (hq : Hold _) => ?_; replace hq := hq.out; obtain ⟨_, rfl, rfl⟩ := hq) | (refine fun _ _ (hq : Hold _) => ?_; replace hq := hq.out; obtain ⟨_, _, rfl, rfl⟩ := hq) | rintro _ _ ⟨rfl, rfl⟩ | rintro _ _ ⟨_, rfl, rfl⟩ | rintro _ _ ⟨_, _, rfl, rfl⟩ | (refine fun (hc : _ = _) => ?_; (try simp only [BB] at hc)) | refine fun (_ : Nat) => ?_ | refine fun (_ : _ ≤ _) => ?_ | refine fun (_ : _ < _) => ?_
    all_goals (try simp only [pk_adv, pk_say, Nat.add_zero, adv_adv, say_say, say_adv, pk_clr, adv_clr] at *)
    · have hge : s.inp.length ≤ s.pos + i := by by_cases h : s.pos + i < s.inp.length; (have := hpi h; omega); omega
      rw [hnil hge] at k3 k4 k5
      simp only [Md.commentGo, List.append_nil, Nat.add_zero] at k3 k4 k5
      rw [← k3, ← k4, ← k5] at hcm
      have ht : (if false = true then acc else Md.stripTail acc) = Md.stripTail acc := rfl
      rw [ht, Md.stripTail] at hcm
      refine RS.loop ?_
      repeat' first | exact Arith.mk (fun _ => ⟨by decide, rfl⟩) | (show LD _ _ _ _; first | exact LX.ldPos (by (repeat' constructor); first | done | fail) | exact LX.ldWay (by (repeat' constructor); first | done | fail) | exact LX.ldLast (by (repeat' constructor); first | done | fail) | exact LX.ldRoom (by (repeat' constructor); first | done | fail) | exact LX.ldDone (by (repeat' constructor); first | done | fail) | exact LX.ldText (by (repeat' constructor); first | done | fail)) | (apply RR.lxIn; exact rfl; exact rfl; exact rfl; exact (by (repeat' constructor); first | done | fail); refine fun _ => ?_) | (apply RR.lxOut; exact rfl; exact rfl; exact rfl; exact (by (repeat' constructor); first | done | fail); refine fun _ => ?_) | (apply RR.storeS; exact rfl; exact rfl; first | exact LX.stPos 1 rfl (by (repeat' constructor); first | done | fail) | exact LX.stPos 2 rfl (by (repeat' constructor); first | done | fail) | exact LX.stPos 3 rfl (by (repeat' constructor); first | done | fail) | exact LX.stPos 6 rfl (by (repeat' constructor); first | done | fail) | exact LX.stPos 7 rfl (by (repeat' constructor); first | done | fail) | exact LX.stPos _ rfl (by (repeat' constructor); first | done | fail) | exact LX.stPos2 1 _ (by (repeat' constructor); first | done | fail) | exact LX.stPos2 2 _ (by (repeat' constructor); first | done | fail) | exact LX.stWay (by (repeat' constructor); first | done | fail) | exact LX.stLast (by (repeat' constructor); first | done | fail) | exact LX.stRoom (by (repeat' constructor); first | done | fail) | exact LX.stDone (by (repeat' constructor); first | done | fail); exact rfl) | (show FC _ _ _ _ _; first | exact commentEnd_F (by (repeat' constructor); first | done | fail) (by (repeat' constructor); first | done | fail) (by (repeat' constructor); first | done | fail) (by simp only [Md.Lx.adv, List.length_take]; omega) | exact hasSuffix_F (by simp only [List.length_cons, List.length_nil]; omega) | exact peek0_F (by (repeat' constructor); first | done | fail) (by first | omega | ((simp only [Md.Lx.adv, Md.Lx.say, Md.Lx.clr, List.nil_append, List.length_append, List.length_cons, List.length_nil]); omega)) | exact peek1_F (by (repeat' constructor); first | done | fail) (by first | omega | ((simp only [Md.Lx.adv, Md.Lx.say, Md.Lx.clr, List.nil_append, List.length_append, List.length_cons, List.length_nil]); omega)) | exact peek6_F (by (repeat' constructor); first | done | fail) (by first | omega | ((simp only [Md.Lx.adv, Md.Lx.say, Md.Lx.clr, List.nil_append, List.length_append, List.length_cons, List.length_nil]); omega)) | exact next_F (by (repeat' constructor); first | done | fail) (by first | omega | ((simp only [Md.Lx.adv, Md.Lx.say, Md.Lx.clr, List.nil_append, List.length_append, List.length_cons, List.length_nil]); omega)) | exact back_F (by (repeat' constructor); first | done | fail) (by first | omega | ((simp only [Md.Lx.adv, Md.Lx.say, Md.Lx.clr, List.nil_append, List.length_append, List.length_cons, List.length_nil]); omega)) | exact blank_F | exact letter_F | exact small_F | exact encode_F rfl (by first | omega | ((simp only [Md.Lx.adv, Md.Lx.say, Md.Lx.clr, List.nil_append, List.length_append, List.length_cons, List.length_nil]); omega)) | exact say_F rfl (by (repeat' constructor); first | done | fail) (by (repeat' constructor); first | done | fail) (by first | omega | ((simp only [Md.Lx.adv, Md.Lx.say, Md.Lx.clr, List.nil_append, List.length_append, List.length_cons, List.length_nil]); omega)) | exact stands_F (by (repeat' constructor); first | done | fail) (by first | omega | ((simp only [Md.Lx.adv, Md.Lx.say, Md.Lx.clr, List.nil_append, List.length_append, List.length_cons, List.length_nil]); omega)) (by decide) (by first | omega | ((simp only [Md.Lx.adv, Md.Lx.say, Md.Lx.clr, List.nil_append, List.length_append, List.length_cons, List.length_nil]); omega)) | exact exact_F (by (repeat' constructor); first | done | fail) (by first | omega | ((simp only [Md.Lx.adv, Md.Lx.say, Md.Lx.clr, List.nil_append, List.length_append, List.length_cons, List.length_nil]); omega)) (by decide) (by first | omega | ((simp only [Md.Lx.adv, Md.Lx.say, Md.Lx.clr, List.nil_append, List.length_append, List.length_cons, List.length_nil]); omega))) | (refine fun (hc : _ = _) => ?_; (try simp only [BB] at hc); (try (first | contradiction | (exfalso; omega)))) | (refine Arith.mk ?_; (try intro _); have h9 := hs3 (by assumption); simp only [List.length_cons, List.length_nil]; omega) | (refine Arith.mk ?_; (try intro _); simp only [Md.Lx.adv, Md.Lx.say, Md.Lx.clr, List.nil_append, List.length_append, List.length_cons, List.length_nil]; omega) | exact arI | refine Pst.mk ⟨?_, rfl⟩ (by (repeat' constructor); first | done | fail) | constructor | (refine fun _ _ (hq : Hold _) => ?_; replace hq := hq.out; obtain ⟨_, rfl, rfl⟩ := hq) | (refine fun _ _ (hq : Hold _) => ?_; replace hq := hq.out; obtain ⟨_, _, rfl, rfl⟩ := hq) | rintro _ _ ⟨rfl, rfl⟩ | rintro _ _ ⟨_, rfl, rfl⟩ | rintro _ _ ⟨_, _, rfl, rfl⟩ | (refine fun (hc : _ = _) => ?_; (try simp only [BB] at hc)) | refine fun (_ : Nat) => ?_ | refine fun (_ : _ ≤ _) => ?_ | refine fun (_ : _ < _) => ?_
      all_goals (try simp only [pk_adv, pk_say, Nat.add_zero, adv_adv, say_say, say_adv, pk_clr, adv_clr] at *)
      · have e3 : ((acc.length : Int) - ((([45, 45, 33] : List UInt8).length : Nat) : Int)).toNat = acc.length - 3 := by simp only [List.length_cons, List.length_nil]; omega
        rw [e3, hcm, if_pos hc]; exact Pst.mk (.mk ⟨_, trivial, rfl⟩) (by (repeat' constructor); first | done | fail)
      rename_i hN0
      have hN3 : ¬Md.hasSuffix (runeBytes acc) [45, 45, 33] = true := by rw [hc]; simp
      rw [if_neg hN3] at hcm
      clear hc
      refine RS.lp (RS.loop ?_)
      repeat' first | exact Arith.mk (fun _ => ⟨by decide, rfl⟩) | (show LD _ _ _ _; first | exact LX.ldPos (by (repeat' constructor); first | done | fail) | exact LX.ldWay (by (repeat' constructor); first | done | fail) | exact LX.ldLast (by (repeat' constructor); first | done | fail) | exact LX.ldRoom (by (repeat' constructor); first | done | fail) | exact LX.ldDone (by (repeat' constructor); first | done | fail) | exact LX.ldText (by (repeat' constructor); first | done | fail)) | (apply RR.lxIn; exact rfl; exact rfl; exact rfl; exact (by (repeat' constructor); first | done | fail); refine fun _ => ?_) | (apply RR.lxOut; exact rfl; exact rfl; exact rfl; exact (by (repeat' constructor); first | done | fail); refine fun _ => ?_) | (apply RR.storeS; exact rfl; exact rfl; first | exact LX.stPos 1 rfl (by (repeat' constructor); first | done | fail) | exact LX.stPos 2 rfl (by (repeat' constructor); first | done | fail) | exact LX.stPos 3 rfl (by (repeat' constructor); first | done | fail) | exact LX.stPos 6 rfl (by (repeat' constructor); first | done | fail) | exact LX.stPos 7 rfl (by (repeat' constructor); first | done | fail) | exact LX.stPos _ rfl (by (repeat' constructor); first | done | fail) | exact LX.stPos2 1 _ (by (repeat' constructor); first | done | fail) | exact LX.stPos2 2 _ (by (repeat' constructor); first | done | fail) | exact LX.stWay (by (repeat' constructor); first | done | fail) | exact LX.stLast (by (repeat' constructor); first | done | fail) | exact LX.stRoom (by (repeat' constructor); first | done | fail) | exact LX.stDone (by (repeat' constructor); first | done | fail); exact rfl) | (show FC _ _ _ _ _; first | exact commentEnd_F (by (repeat' constructor); first | done | fail) (by (repeat' constructor); first | done | fail) (by (repeat' constructor); first | done | fail) (by simp only [Md.Lx.adv, List.length_take]; omega) | exact hasSuffix_F (by simp only [List.length_cons, List.length_nil]; omega) | exact peek0_F (by (repeat' constructor); first | done | fail) (by first | omega | ((simp only [Md.Lx.adv, Md.Lx.say, Md.Lx.clr, List.nil_append, List.length_append, List.length_cons, List.length_nil]); omega)) | exact peek1_F (by (repeat' constructor); first | done | fail) (by first | omega | ((simp only [Md.Lx.adv, Md.Lx.say, Md.Lx.clr, List.nil_append, List.length_append, List.length_cons, List.length_nil]); omega)) | exact peek6_F (by (repeat' constructor); first | done | fail) (by first | omega | ((simp only [Md.Lx.adv, Md.Lx.say, Md.Lx.clr, List.nil_append, List.length_append, List.length_cons, List.length_nil]); omega)) | exact next_F (by (repeat' constructor); first | done | fail) (by first | omega | ((simp only [Md.Lx.adv, Md.Lx.say, Md.Lx.clr, List.nil_append, List.length_append, List.length_cons, List.length_nil]); omega)) | exact back_F (by (repeat' constructor); first | done | fail) (by first | omega | ((simp only [Md.Lx.adv, Md.Lx.say, Md.Lx.clr, List.nil_append, List.length_append, List.length_cons, List.length_nil]); omega)) | exact blank_F | exact letter_F | exact small_F | exact encode_F rfl (by first | omega | ((simp only [Md.Lx.adv, Md.Lx.say, Md.Lx.clr, List.nil_append, List.length_append, List.length_cons, List.length_nil]); omega)) | exact say_F rfl (by (repeat' constructor); first | done | fail) (by (repeat' constructor); first | done | fail) (by first | omega | ((simp only [Md.Lx.adv, Md.Lx.say, Md.Lx.clr, List.nil_append, List.length_append, List.length_cons, List.length_nil]); omega)) | exact stands_F (by (repeat' constructor); first | done | fail) (by first | omega | ((simp only [Md.Lx.adv, Md.Lx.say, Md.Lx.clr, List.nil_append, List.length_append, List.length_cons, List.length_nil]); omega)) (by decide) (by first | omega | ((simp only [Md.Lx.adv, Md.Lx.say, Md.Lx.clr, List.nil_append, List.length_append, List.length_cons, List.length_nil]); omega)) | exact exact_F (by (repeat' constructor); first | done | fail) (by first | omega | ((simp only [Md.Lx.adv, Md.Lx.say, Md.Lx.clr, List.nil_append, List.length_append, List.length_cons, List.length_nil]); omega)) (by decide) (by first | omega | ((simp only [Md.Lx.adv, Md.Lx.say, Md.Lx.clr, List.nil_append, List.length_append, List.length_cons, List.length_nil]); omega))) | (refine fun (hc : _ = _) => ?_; (try simp only [BB] at hc); (try (first | contradiction | (exfalso; omega)))) | (refine Arith.mk ?_; (try intro _); have h9 := hs2 (by assumption); simp only [List.length_cons, List.length_nil]; omega) | (refine Arith.mk ?_; (try intro _); simp only [Md.Lx.adv, Md.Lx.say, Md.Lx.clr, List.nil_append, List.length_append, List.length_cons, List.length_nil]; omega) | exact arI | refine Pst.mk ⟨?_, rfl⟩ (by (repeat' constructor); first | done | fail) | constructor | (refine fun _ _ (hq : Hold _) => ?_; replace hq := hq.out; obtain ⟨_, rfl, rfl⟩ := hq) | (refine fun _ _ (hq : Hold _) => ?_; replace hq := hq.out; obtain ⟨_, _, rfl, rfl⟩ := hq) | rintro _ _ ⟨rfl, rfl⟩ | rintro _ _ ⟨_, rfl, rfl⟩ | rintro _ _ ⟨_, _, rfl, rfl⟩ | (refine fun (hc : _ = _) => ?_; (try simp only [BB] at hc)) | refine fun (_ : Nat) => ?_ | refine fun (_ : _ ≤ _) => ?_ | refine fun (_ : _ < _) => ?_
      all_goals (try simp only [pk_adv, pk_say, Nat.add_zero, adv_adv, say_say, say_adv, pk_clr, adv_clr] at *)
      · have e3 : ((acc.length : Int) - ((([45, 45] : List UInt8).length : Nat) : Int)).toNat = acc.length - 2 := by simp only [List.length_cons, List.length_nil]; omega
        rw [e3, hcm, if_pos hc]; exact Pst.mk (.mk ⟨_, trivial, rfl⟩) (by (repeat' constructor); first | done | fail)
      have hN2 : ¬Md.hasSuffix (runeBytes acc) [45, 45] = true := by rw [hc]; simp
      rw [if_neg hN2] at hcm
      clear hc
      refine RS.lp (RS.loop ?_)
      repeat' first | exact Arith.mk (fun _ => ⟨by decide, rfl⟩) | (show LD _ _ _ _; first | exact LX.ldPos (by (repeat' constructor); first | done | fail) | exact LX.ldWay (by (repeat' constructor); first | done | fail) | exact LX.ldLast (by (repeat' constructor); first | done | fail) | exact LX.ldRoom (by (repeat' constructor); first | done | fail) | exact LX.ldDone (by (repeat' constructor); first | done | fail) | exact LX.ldText (by (repeat' constructor); first | done | fail)) | (apply RR.lxIn; exact rfl; exact rfl; exact rfl; exact (by (repeat' constructor); first | done | fail); refine fun _ => ?_) | (apply RR.lxOut; exact rfl; exact rfl; exact rfl; exact (by (repeat' constructor); first | done | fail); refine fun _ => ?_) | (apply RR.storeS; exact rfl; exact rfl; first | exact LX.stPos 1 rfl (by (repeat' constructor); first | done | fail) | exact LX.stPos 2 rfl (by (repeat' constructor); first | done | fail) | exact LX.stPos 3 rfl (by (repeat' constructor); first | done | fail) | exact LX.stPos 6 rfl (by (repeat' constructor); first | done | fail) | exact LX.stPos 7 rfl (by (repeat' constructor); first | done | fail) | exact LX.stPos _ rfl (by (repeat' constructor); first | done | fail) | exact LX.stPos2 1 _ (by (repeat' constructor); first | done | fail) | exact LX.stPos2 2 _ (by (repeat' constructor); first | done | fail) | exact LX.stWay (by (repeat' constructor); first | done | fail) | exact LX.stLast (by (repeat' constructor); first | done | fail) | exact LX.stRoom (by (repeat' constructor); first | done | fail) | exact LX.stDone (by (repeat' constructor); first | done | fail); exact rfl) | (show FC _ _ _ _ _; first | exact commentEnd_F (by (repeat' constructor); first | done | fail) (by (repeat' constructor); first | done | fail) (by (repeat' constructor); first | done | fail) (by simp only [Md.Lx.adv, List.length_take]; omega) | exact hasSuffix_F (by simp only [List.length_cons, List.length_nil]; omega) | exact peek0_F (by (repeat' constructor); first | done | fail) (by first | omega | ((simp only [Md.Lx.adv, Md.Lx.say, Md.Lx.clr, List.nil_append, List.length_append, List.length_cons, List.length_nil]); omega)) | exact peek1_F (by (repeat' constructor); first | done | fail) (by first | omega | ((simp only [Md.Lx.adv, Md.Lx.say, Md.Lx.clr, List.nil_append, List.length_append, List.length_cons, List.length_nil]); omega)) | exact peek6_F (by (repeat' constructor); first | done | fail) (by first | omega | ((simp only [Md.Lx.adv, Md.Lx.say, Md.Lx.clr, List.nil_append, List.length_append, List.length_cons, List.length_nil]); omega)) | exact next_F (by (repeat' constructor); first | done | fail) (by first | omega | ((simp only [Md.Lx.adv, Md.Lx.say, Md.Lx.clr, List.nil_append, List.length_append, List.length_cons, List.length_nil]); omega)) | exact back_F (by (repeat' constructor); first | done | fail) (by first | omega | ((simp only [Md.Lx.adv, Md.Lx.say, Md.Lx.clr, List.nil_append, List.length_append, List.length_cons, List.length_nil]); omega)) | exact blank_F | exact letter_F | exact small_F | exact encode_F rfl (by first | omega | ((simp only [Md.Lx.adv, Md.Lx.say, Md.Lx.clr, List.nil_append, List.length_append, List.length_cons, List.length_nil]); omega)) | exact say_F rfl (by (repeat' constructor); first | done | fail) (by (repeat' constructor); first | done | fail) (by first | omega | ((simp only [Md.Lx.adv, Md.Lx.say, Md.Lx.clr, List.nil_append, List.length_append, List.length_cons, List.length_nil]); omega)) | exact stands_F (by (repeat' constructor); first | done | fail) (by first | omega | ((simp only [Md.Lx.adv, Md.Lx.say, Md.Lx.clr, List.nil_append, List.length_append, List.length_cons, List.length_nil]); omega)) (by decide) (by first | omega | ((simp only [Md.Lx.adv, Md.Lx.say, Md.Lx.clr, List.nil_append, List.length_append, List.length_cons, List.length_nil]); omega)) | exact exact_F (by (repeat' constructor); first | done | fail) (by first | omega | ((simp only [Md.Lx.adv, Md.Lx.say, Md.Lx.clr, List.nil_append, List.length_append, List.length_cons, List.length_nil]); omega)) (by decide) (by first | omega | ((simp only [Md.Lx.adv, Md.Lx.say, Md.Lx.clr, List.nil_append, List.length_append, List.length_cons, List.length_nil]); omega))) | (refine fun (hc : _ = _) => ?_; (try simp only [BB] at hc); (try (first | contradiction | (exfalso; omega)))) | (refine Arith.mk ?_; (try intro _); have h9 := hs1 (by assumption); simp only [List.length_cons, List.length_nil]; omega) | (refine Arith.mk ?_; (try intro _); simp only [Md.Lx.adv, Md.Lx.say, Md.Lx.clr, List.nil_append, List.length_append, List.length_cons, List.length_nil]; omega) | exact arI | refine Pst.mk ⟨?_, rfl⟩ (by (repeat' constructor); first | done | fail) | constructor | (refine fun _ _ (hq : Hold _) => ?_; replace hq := hq.out; obtain ⟨_, rfl, rfl⟩ := hq) | (refine fun _ _ (hq : Hold _) => ?_; replace hq := hq.out; obtain ⟨_, _, rfl, rfl⟩ := hq) | rintro _ _ ⟨rfl, rfl⟩ | rintro _ _ ⟨_, rfl, rfl⟩ | rintro _ _ ⟨_, _, rfl, rfl⟩ | (refine fun (hc : _ = _) => ?_; (try simp only [BB] at hc)) | refine fun (_ : Nat) => ?_ | refine fun (_ : _ ≤ _) => ?_ | refine fun (_ : _ < _) => ?_
      all_goals (try simp only [pk_adv, pk_say, Nat.add_zero, adv_adv, say_say, say_adv, pk_clr, adv_clr] at *)
      · have e3 : ((acc.length : Int) - ((([45] : List UInt8).length : Nat) : Int)).toNat = acc.length - 1 := by simp only [List.length_cons, List.length_nil]; omega
        rw [e3, hcm, if_pos hc]; exact Pst.mk (.mk ⟨_, trivial, rfl⟩) (by (repeat' constructor); first | done | fail)
      have hN1 : ¬Md.hasSuffix (runeBytes acc) [45] = true := by rw [hc]; simp
      rw [if_neg hN1] at hcm
      clear hc
      refine RS.lp (RS.loop ?_)
      repeat' first | exact Arith.mk (fun _ => ⟨by decide, rfl⟩) | (show LD _ _ _ _; first | exact LX.ldPos (by (repeat' constructor); first | done | fail) | exact LX.ldWay (by (repeat' constructor); first | done | fail) | exact LX.ldLast (by (repeat' constructor); first | done | fail) | exact LX.ldRoom (by (repeat' constructor); first | done | fail) | exact LX.ldDone (by (repeat' constructor); first | done | fail) | exact LX.ldText (by (repeat' constructor); first | done | fail)) | (apply RR.lxIn; exact rfl; exact rfl; exact rfl; exact (by (repeat' constructor); first | done | fail); refine fun _ => ?_) | (apply RR.lxOut; exact rfl; exact rfl; exact rfl; exact (by (repeat' constructor); first | done | fail); refine fun _ => ?_) | (apply RR.storeS; exact rfl; exact rfl; first | exact LX.stPos 1 rfl (by (repeat' constructor); first | done | fail) | exact LX.stPos 2 rfl (by (repeat' constructor); first | done | fail) | exact LX.stPos 3 rfl (by (repeat' constructor); first | done | fail) | exact LX.stPos 6 rfl (by (repeat' constructor); first | done | fail) | exact LX.stPos 7 rfl (by (repeat' constructor); first | done | fail) | exact LX.stPos _ rfl (by (repeat' constructor); first | done | fail) | exact LX.stPos2 1 _ (by (repeat' constructor); first | done | fail) | exact LX.stPos2 2 _ (by (repeat' constructor); first | done | fail) | exact LX.stWay (by (repeat' constructor); first | done | fail) | exact LX.stLast (by (repeat' constructor); first | done | fail) | exact LX.stRoom (by (repeat' constructor); first | done | fail) | exact LX.stDone (by (repeat' constructor); first | done | fail); exact rfl) | (show FC _ _ _ _ _; first | exact commentEnd_F (by (repeat' constructor); first | done | fail) (by (repeat' constructor); first | done | fail) (by (repeat' constructor); first | done | fail) (by simp only [Md.Lx.adv, List.length_take]; omega) | exact hasSuffix_F (by simp only [List.length_cons, List.length_nil]; omega) | exact peek0_F (by (repeat' constructor); first | done | fail) (by first | omega | ((simp only [Md.Lx.adv, Md.Lx.say, Md.Lx.clr, List.nil_append, List.length_append, List.length_cons, List.length_nil]); omega)) | exact peek1_F (by (repeat' constructor); first | done | fail) (by first | omega | ((simp only [Md.Lx.adv, Md.Lx.say, Md.Lx.clr, List.nil_append, List.length_append, List.length_cons, List.length_nil]); omega)) | exact peek6_F (by (repeat' constructor); first | done | fail) (by first | omega | ((simp only [Md.Lx.adv, Md.Lx.say, Md.Lx.clr, List.nil_append, List.length_append, List.length_cons, List.length_nil]); omega)) | exact next_F (by (repeat' constructor); first | done | fail) (by first | omega | ((simp only [Md.Lx.adv, Md.Lx.say, Md.Lx.clr, List.nil_append, List.length_append, List.length_cons, List.length_nil]); omega)) | exact back_F (by (repeat' constructor); first | done | fail) (by first | omega | ((simp only [Md.Lx.adv, Md.Lx.say, Md.Lx.clr, List.nil_append, List.length_append, List.length_cons, List.length_nil]); omega)) | exact blank_F | exact letter_F | exact small_F | exact encode_F rfl (by first | omega | ((simp only [Md.Lx.adv, Md.Lx.say, Md.Lx.clr, List.nil_append, List.length_append, List.length_cons, List.length_nil]); omega)) | exact say_F rfl (by (repeat' constructor); first | done | fail) (by (repeat' constructor); first | done | fail) (by first | omega | ((simp only [Md.Lx.adv, Md.Lx.say, Md.Lx.clr, List.nil_append, List.length_append, List.length_cons, List.length_nil]); omega)) | exact stands_F (by (repeat' constructor); first | done | fail) (by first | omega | ((simp only [Md.Lx.adv, Md.Lx.say, Md.Lx.clr, List.nil_append, List.length_append, List.length_cons, List.length_nil]); omega)) (by decide) (by first | omega | ((simp only [Md.Lx.adv, Md.Lx.say, Md.Lx.clr, List.nil_append, List.length_append, List.length_cons, List.length_nil]); omega)) | exact exact_F (by (repeat' constructor); first | done | fail) (by first | omega | ((simp only [Md.Lx.adv, Md.Lx.say, Md.Lx.clr, List.nil_append, List.length_append, List.length_cons, List.length_nil]); omega)) (by decide) (by first | omega | ((simp only [Md.Lx.adv, Md.Lx.say, Md.Lx.clr, List.nil_append, List.length_append, List.length_cons, List.length_nil]); omega))) | (refine fun (hc : _ = _) => ?_; (try simp only [BB] at hc); (try (first | contradiction | (exfalso; omega)))) | (refine Arith.mk ?_; (try intro _); simp only [Md.Lx.adv, Md.Lx.say, Md.Lx.clr, List.nil_append, List.length_append, List.length_cons, List.length_nil]; omega) | exact arI | refine Pst.mk ⟨?_, rfl⟩ (by (repeat' constructor); first | done | fail) | constructor | (refine fun _ _ (hq : Hold _) => ?_; replace hq := hq.out; obtain ⟨_, rfl, rfl⟩ := hq) | (refine fun _ _ (hq : Hold _) => ?_; replace hq := hq.out; obtain ⟨_, _, rfl, rfl⟩ := hq) | rintro _ _ ⟨rfl, rfl⟩ | rintro _ _ ⟨_, rfl, rfl⟩ | rintro _ _ ⟨_, _, rfl, rfl⟩ | (refine fun (hc : _ = _) => ?_; (try simp only [BB] at hc)) | refine fun (_ : Nat) => ?_ | refine fun (_ : _ ≤ _) => ?_ | refine fun (_ : _ < _) => ?_
      all_goals (try simp only [pk_adv, pk_say, Nat.add_zero, adv_adv, say_say, say_adv, pk_clr, adv_clr] at *)
      rw [hcm]; exact Pst.mk (.mk ⟨_, trivial, rfl⟩) (by (repeat' constructor); first | done | fail)
    · have hlt : s.pos + i < s.inp.length := by by_cases h : s.pos + i < s.inp.length; exact h; have := hpn (by omega); omega
      rw [hgo hlt, if_pos hc] at k3 k4 k5
      simp only [List.append_nil] at k3 k4 k5
      rw [hcm, ← k3, ← k4, ← k5, if_pos rfl]; exact Pst.mk (.mk ⟨_, trivial, rfl⟩) (by (repeat' constructor); first | done | fail)
    · have hlt : s.pos + i < s.inp.length := by by_cases h : s.pos + i < s.inp.length; exact h; have := hpn (by omega); omega
      rw [hgo hlt, if_neg (fun h => by first | (have h9 := (‹s.pk i = 45 → Md.exact [45, 62] (s.adv (i + 1)).rest = false›) h.1; rw [h9] at h; cases h.2) | omega), if_pos hc] at k3 k4 k5
      simp only [List.append_nil] at k3 k4 k5
      rw [hcm, ← k3, ← k4, ← k5, if_pos rfl]; exact Pst.mk (.mk ⟨_, trivial, rfl⟩) (by (repeat' constructor); first | done | fail)
    all_goals
      have hlt : s.pos + i < s.inp.length := by by_cases h : s.pos + i < s.inp.length; exact h; have := hpn (by omega); omega
      rw [hgo hlt, if_neg (fun h => by first | (have h9 := (‹s.pk i = 45 → Md.exact [45, 62] (s.adv (i + 1)).rest = false›) h.1; rw [h9] at h; cases h.2) | omega), if_neg (fun h => by first | (have h9 := (‹s.pk i = 45 → Md.exact [45, 33, 62] (s.adv (i + 1)).rest = false›) h.1; rw [h9] at h; cases h.2) | omega)] at k3 k4 k5
      dsimp only at k3 k4 k5
      first
        | (rw [show Md.fixr (s.pk i) = 65533 from if_pos hc] at k3
           exact ih _ _ (i + 1, _, acc ++ [65533]) ⟨by simp; omega, .inr (by dsimp only; omega), by rw [← k3]; simp, by rw [← k4]; dsimp only; omega, k5⟩ (by dsimp only; omega) ⟨rfl, rfl, rfl, trivial⟩ (by (repeat' constructor); first | done | fail))
        | (rw [show Md.fixr (s.pk i) = s.pk i from if_neg hc] at k3
           exact ih _ _ (i + 1, _, acc ++ [s.pk i]) ⟨by simp; omega, .inr (by dsimp only; omega), by rw [← k3]; simp, by rw [← k4]; dsimp only; omega, k5⟩ (by dsimp only; omega) ⟨rfl, rfl, rfl, trivial⟩ (by (repeat' constructor); first | done | fail))
end Go.Proofs.YticnenofiibpgaaDoor.Code
/- What the lexer's doctype does. -/
namespace Go.Proofs.YticnenofiibpgaaDoor.Code
open Go.Dm Go.Dm.C
set_option linter.unusedSimpArgs false
set_option linter.unusedVariables false
set_option linter.unnecessarySimpa false
set_option maxRecDepth 10000
attribute [local irreducible] Go.Dm.F Go.Dm.RS Go.Dm.Y Go.Dm.FD Go.Dm.FZ1 Go.Dm.Hold
variable {id : Nat} {s : Md.Lx} {g : Nat × Nat} {cs : List Ck}
theorem in_adv {n : Nat} (h : s.pos ≤ s.inp.length) (hn : n ≤ s.rest.length) : (s.adv n).pos ≤ (s.adv n).inp.length := by
  rw [rest_len] at hn
  show s.pos + n ≤ s.inp.length
  omega
theorem in_blanks (h : s.pos ≤ s.inp.length) : s.blanks.pos ≤ s.blanks.inp.length := in_adv h (blanksN_le _)
theorem skipN_le : ∀ l : List Int, Md.skipN l ≤ l.length
  | [] => by simp [Md.skipN]
  | r :: l => by
    have := skipN_le l
    simp only [Md.skipN, List.length_cons]
    split <;> omega
theorem in_skip (h : s.pos ≤ s.inp.length) : s.skip.pos ≤ s.skip.inp.length := in_adv h (skipN_le _)
theorem quotedGo_le (q : Int) : ∀ l : List Int, (Md.quotedGo q l).2.2 ≤ l.length
  | [] => by simp [Md.quotedGo]
  | r :: l => by
    have := quotedGo_le q l
    simp only [Md.quotedGo, List.length_cons]
    split
    · dsimp only; omega
    · split
      · dsimp only; omega
      · dsimp only; omega
theorem quoted_le (l : List Int) : (Md.quoted l).2.2.2 ≤ l.length := by
  unfold Md.quoted
  dsimp only
  split
  · cases l with
    | nil => rename_i h; simp at h
    | cons r l => have := quotedGo_le r l; simp only [List.headD_cons, List.tail_cons, List.length_cons]; omega
  · exact skipN_le l
theorem in_quoted (h : s.pos ≤ s.inp.length) : (s.adv (Md.quoted s.rest).2.2.2).pos ≤ (s.adv (Md.quoted s.rest).2.2.2).inp.length := in_adv h (quoted_le _)
theorem in_adv1 (h : s.pk 0 ≠ -1) : (s.adv 1).pos ≤ (s.adv 1).inp.length := by
  show s.pos + 1 ≤ s.inp.length
  by_cases hl : s.inp.length ≤ s.pos
  · exact absurd (pk_nil hl) h
  · omega
theorem stands_le : ∀ (w : List UInt8) (l : List Int), Md.stands w l = true → w.length ≤ l.length
  | [], l, _ => by simp
  | c :: w, [], h => by
    simp only [Md.stands, List.headD_nil, Bool.and_eq_true, beq_iff_eq] at h
    have h1 : Md.small (-1) = -1 := by decide
    have h2 : 0 ≤ Md.small (c.toNat : Int) := by unfold Md.small; split <;> omega
    omega
  | c :: w, r :: l, h => by
    simp only [Md.stands, List.tail_cons, Bool.and_eq_true] at h
    have := stands_le w l h.2
    simp only [List.length_cons]; omega
theorem in_stands (n : Nat) (w : List UInt8) (h : Md.stands w s.rest = true) (hw : w.length = n) (hp : s.pos ≤ s.inp.length) : (s.adv n).pos ≤ (s.adv n).inp.length := in_adv hp (by rw [← hw]; exact stands_le _ _ h)
theorem in_pubsys (h : Md.stands [112, 117, 98, 108, 105, 99] s.rest = false → Md.stands [115, 121, 115, 116, 101, 109] s.rest = true) (hp : s.pos ≤ s.inp.length) : (s.adv 6).pos ≤ (s.adv 6).inp.length := by
  cases h1 : Md.stands [112, 117, 98, 108, 105, 99] s.rest with
  | true => exact in_stands 6 _ h1 rfl hp
  | false => exact in_stands 6 _ (h h1) rfl hp
theorem bdp (h : s.inp.length ≤ 1000000000 ∧ s.pos ≤ 20000000000) : s.inp.length ≤ 1000000000 ∧ s.pos ≤ 100000000000 := ⟨h.1, by omega⟩
theorem arith_pos {x : Md.Lx} {k : Int} {p : Bool} (h : x.pos ≤ 20000000000) (hk : 0 ≤ k ∧ k ≤ 1000) : Arith (p = true → -9223372036854775808 ≤ (x.pos : Int) + k ∧ (x.pos : Int) + k ≤ 9223372036854775807) := Arith.mk fun _ => by omega
theorem doctypeEnd_F {nm pb sy : Md.Str} {hp hs qk : Bool} {q d : Nat} {b : Bool} {c1 c2 R : List Ck} (h1 : Rem (.obj q (.cells [.ptr id 0] none)) cs c1) (h2 : Rem (.obj d (.cells [.int .i64 5, .str nm, .lst 0 0 [], .bool false, .str [], .str pb, .str sy, .bool hp, .bool hs, .bool qk] none)) c1 c2) (h3 : Rem (LX id s g) c2 R) (hb : s.text.length ≤ 80000000000 ∧ s.out.length ≤ 10000000) :
    F D 112 [.bool b, .ptr d 0, .ptr q 0] cs (fun v cs' => Hold (∃ a, v = .tup [] ∧ (LX id (s.emit ⟨5, nm, [], false, [], pb, sy, hp, hs, qk || b⟩) a :: .obj q (.cells [.ptr id 0] none) :: .obj d (.cells [.int .i64 5, .str nm, .lst 0 0 [], .bool false, .str [], .str pb, .str sy, .bool hp, .bool hs, .bool (qk || b)] none) :: R) = cs')) := by
  refine F.perm ((h1.perm'.trans ((h2.perm'.trans (h3.perm'.cons _)).cons _)).trans ((((List.Perm.swap ..).cons _).trans (.swap ..)))) (F.of rfl rfl rfl ?_)
  repeat' first | (show FC _ _ _ _ _; first | exact emit_F (t := ⟨5, nm, [], false, [], pb, sy, hp, hs, qk || b⟩) (ta := 0) rfl (by (repeat' constructor); first | done | fail) (by omega)) | (refine fun (hc : _ = _) => ?_; (try simp only [BB] at hc); (try (first | contradiction | (exfalso; omega)))) | exact arI | refine Pst.mk ⟨?_, rfl⟩ (by (repeat' constructor); first | done | fail) | constructor | (refine fun _ _ (hq : Hold _) => ?_; replace hq := hq.out; obtain ⟨_, rfl, rfl⟩ := hq) | (refine fun _ _ (hq : Hold _) => ?_; replace hq := hq.out; obtain ⟨_, _, rfl, rfl⟩ := hq) | rintro _ _ ⟨rfl, rfl⟩ | rintro _ _ ⟨_, rfl, rfl⟩ | rintro _ _ ⟨_, _, rfl, rfl⟩ | (refine fun (hc : _ = _) => ?_; (try simp only [BB] at hc)) | refine fun (_ : Nat) => ?_ | refine fun (_ : _ ≤ _) => ?_ | refine fun (_ : _ < _) => ?_
  exact Pst.mk (.mk ⟨_, rfl, rfl⟩) (by (repeat' constructor); first | done | fail)
theorem dname_cons {r : Int} {l : List Int} : Md.doctypeName (r :: l) = if Md.blank r = true ∨ r = 62 then [] else r :: Md.doctypeName l := by
  simp only [Md.doctypeName, List.takeWhile_cons]
  by_cases h1 : Md.blank r = true
  · simp [h1]
  · rw [Bool.not_eq_true] at h1
    by_cases h2 : r = 62
    · simp [h2]
    · simp [h1, h2]
set_option maxHeartbeats 4000000 in
theorem doctype_F {cs2 : Nat × Nat → List Ck} (hu : Upd (LX id s g) (fun a => LX id s.doctype a) cs cs2) (hb : s.inp.length ≤ 1000000000 ∧ s.pos ≤ s.inp.length ∧ s.text.length ≤ 80000000000 ∧ s.out.length ≤ 10000000) (hn : ∀ r ∈ s.inp, 0 ≤ r) :
    F D 103 [.ptr id 0] cs (fun v cs' => Hold (∃ a, v = .tup [] ∧ cs2 a = cs')) := by
  refine F.atG hu fun R => F.of rfl rfl rfl ?_
  have hin : s.pos ≤ s.inp.length := hb.2.1
  repeat' first | (show LD _ _ _ _; first | exact LX.ldPos (by (repeat' constructor); first | done | fail) | exact LX.ldWay (by (repeat' constructor); first | done | fail) | exact LX.ldLast (by (repeat' constructor); first | done | fail) | exact LX.ldRoom (by (repeat' constructor); first | done | fail) | exact LX.ldDone (by (repeat' constructor); first | done | fail) | exact LX.ldText (by (repeat' constructor); first | done | fail)) | (apply RR.lxIn; exact rfl; exact rfl; exact rfl; exact (by (repeat' constructor); first | done | fail); refine fun _ => ?_) | (apply RR.lxOut; exact rfl; exact rfl; exact rfl; exact (by (repeat' constructor); first | done | fail); refine fun _ => ?_) | (apply RR.storeS; exact rfl; exact rfl; first | exact LX.stPos 1 rfl (by (repeat' constructor); first | done | fail) | exact LX.stPos 2 rfl (by (repeat' constructor); first | done | fail) | exact LX.stPos 3 rfl (by (repeat' constructor); first | done | fail) | exact LX.stPos 6 rfl (by (repeat' constructor); first | done | fail) | exact LX.stPos 7 rfl (by (repeat' constructor); first | done | fail) | exact LX.stPos _ rfl (by (repeat' constructor); first | done | fail) | exact LX.stPos2 1 _ (by (repeat' constructor); first | done | fail) | exact LX.stPos2 2 _ (by (repeat' constructor); first | done | fail) | exact LX.stWay (by (repeat' constructor); first | done | fail) | exact LX.stLast (by (repeat' constructor); first | done | fail) | exact LX.stRoom (by (repeat' constructor); first | done | fail) | exact LX.stDone (by (repeat' constructor); first | done | fail); exact rfl) | (show FC _ _ _ _ _; first | exact doctypeEnd_F (by (repeat' constructor); first | done | fail) (by (repeat' constructor); first | done | fail) (by (repeat' constructor); first | done | fail) (by exact hb.2.2) | exact blanks_F (by (repeat' constructor); first | done | fail) (by exact ⟨hb.1, Nat.le_trans (by (repeat' first | assumption | (apply in_blanks) | (apply in_skip) | (apply in_quoted) | (apply in_adv1; omega) | (apply in_pubsys (by assumption))); first | done | fail) (Nat.le_trans hb.1 (by decide))⟩) | exact peek0_F (by (repeat' constructor); first | done | fail) (by exact ⟨hb.1, Nat.le_trans (by (repeat' first | assumption | (apply in_blanks) | (apply in_skip) | (apply in_quoted) | (apply in_adv1; omega) | (apply in_pubsys (by assumption))); first | done | fail) (Nat.le_trans hb.1 (by decide))⟩) | exact peek0_F (by (repeat' constructor); first | done | fail) (by first | omega | ((simp only [Md.Lx.adv, Md.Lx.say, Md.Lx.clr, List.nil_append, List.length_append, List.length_cons, List.length_nil]); omega)) | exact peek1_F (by (repeat' constructor); first | done | fail) (by first | omega | ((simp only [Md.Lx.adv, Md.Lx.say, Md.Lx.clr, List.nil_append, List.length_append, List.length_cons, List.length_nil]); omega)) | exact peek6_F (by (repeat' constructor); first | done | fail) (by first | omega | ((simp only [Md.Lx.adv, Md.Lx.say, Md.Lx.clr, List.nil_append, List.length_append, List.length_cons, List.length_nil]); omega)) | exact next_F (by (repeat' constructor); first | done | fail) (by first | omega | ((simp only [Md.Lx.adv, Md.Lx.say, Md.Lx.clr, List.nil_append, List.length_append, List.length_cons, List.length_nil]); omega)) | exact back_F (by (repeat' constructor); first | done | fail) (by first | omega | ((simp only [Md.Lx.adv, Md.Lx.say, Md.Lx.clr, List.nil_append, List.length_append, List.length_cons, List.length_nil]); omega)) | exact blank_F | exact letter_F | exact small_F | exact encode_F rfl (by first | omega | ((simp only [Md.Lx.adv, Md.Lx.say, Md.Lx.clr, List.nil_append, List.length_append, List.length_cons, List.length_nil]); omega)) | exact say_F rfl (by (repeat' constructor); first | done | fail) (by (repeat' constructor); first | done | fail) (by first | omega | ((simp only [Md.Lx.adv, Md.Lx.say, Md.Lx.clr, List.nil_append, List.length_append, List.length_cons, List.length_nil]); omega)) | exact stands_F (by (repeat' constructor); first | done | fail) (by first | omega | ((simp only [Md.Lx.adv, Md.Lx.say, Md.Lx.clr, List.nil_append, List.length_append, List.length_cons, List.length_nil]); omega)) (by decide) (by first | omega | ((simp only [Md.Lx.adv, Md.Lx.say, Md.Lx.clr, List.nil_append, List.length_append, List.length_cons, List.length_nil]); omega)) | exact exact_F (by (repeat' constructor); first | done | fail) (by first | omega | ((simp only [Md.Lx.adv, Md.Lx.say, Md.Lx.clr, List.nil_append, List.length_append, List.length_cons, List.length_nil]); omega)) (by decide) (by first | omega | ((simp only [Md.Lx.adv, Md.Lx.say, Md.Lx.clr, List.nil_append, List.length_append, List.length_cons, List.length_nil]); omega))) | (refine fun (hc : _ = _) => ?_; (try simp only [BB] at hc); (try (first | contradiction | (exfalso; omega)))) | exact arith_pos (by exact (Nat.le_trans (by (repeat' first | assumption | (apply in_blanks) | (apply in_skip) | (apply in_quoted) | (apply in_adv1; omega) | (apply in_pubsys (by assumption))); first | done | fail) (Nat.le_trans hb.1 (by decide)))) (by decide) | exact arI | refine Pst.mk ⟨?_, rfl⟩ (by (repeat' constructor); first | done | fail) | constructor | (refine fun _ _ (hq : Hold _) => ?_; replace hq := hq.out; obtain ⟨_, rfl, rfl⟩ := hq) | (refine fun _ _ (hq : Hold _) => ?_; replace hq := hq.out; obtain ⟨_, _, rfl, rfl⟩ := hq) | rintro _ _ ⟨rfl, rfl⟩ | rintro _ _ ⟨_, rfl, rfl⟩ | rintro _ _ ⟨_, _, rfl, rfl⟩ | (refine fun (hc : _ = _) => ?_; (try simp only [BB] at hc)) | refine fun (_ : Nat) => ?_ | refine fun (_ : _ ≤ _) => ?_ | refine fun (_ : _ < _) => ?_
  · rw [Md.Lx.doctype, if_pos hc]; exact Pst.mk (.mk ⟨_, rfl, rfl⟩) (by (repeat' constructor); first | done | fail)
  · rw [Md.Lx.doctype, if_neg hc, if_pos (by omega)]; exact Pst.mk (.mk ⟨_, rfl, rfl⟩) (by (repeat' constructor); first | done | fail)
  rename_i q hq d hd
  have hdm : s.doctype = (s.blanks.adv (Md.doctypeName s.blanks.rest).length).blanks.doctypeRest { Md.dtok with name := Md.encode ((Md.doctypeName s.blanks.rest).map fun r => Md.small (Md.fixr r)) } := by
    rw [Md.Lx.doctype, if_neg hc.1, if_neg hc.2]
  rw [hdm]
  have hin2 := in_blanks hin
  have hub : s.blanks.inp.length ≤ 1000000000 ∧ s.blanks.text.length ≤ 80000000000 ∧ s.blanks.out.length ≤ 10000000 := ⟨hb.1, hb.2.2⟩
  have hun : ∀ r ∈ s.blanks.inp, 0 ≤ r := hn
  clear hdm hc hb hin hn hu
  generalize s.blanks = u at *
  have hb := hub
  refine RS.nilOwn 1 (RS.loopW (α := Nat × Nat × List Int) (fun a => [(1, .ptr q 0), (2, .ptr d 0), (3, .fn (.func 112) [] [.ptr d 0, .ptr q 0]), (5, .lst a.2.1 (zOf a.2.1 1) (a.2.2.map I32)), (6, .int .i32 (u.pk a.1))]) (fun a => .own a.2.1 1 (a.2.2.map I32) :: .obj d (.cells [.int .i64 5, .str [], .lst 0 0 [], .bool false, .str [], .str [], .str [], .bool false, .bool false, .bool false] none) :: .obj q (.cells [.ptr id 0] none) :: LX id (u.adv a.1) g :: R)
    (fun a => a.1 + (Md.doctypeName (u.adv a.1).rest).length = (Md.doctypeName u.rest).length ∧ u.pos + a.1 ≤ u.inp.length ∧ a.2.2.length = a.1 ∧ a.2.2 ++ (Md.doctypeName (u.adv a.1).rest).map (fun r => Md.small (Md.fixr r)) = (Md.doctypeName u.rest).map (fun r => Md.small (Md.fixr r))) (fun a => u.inp.length - (u.pos + a.1)) (0, 0, []) ⟨by simp [adv_zero], by dsimp only; omega, rfl, by simp [adv_zero]⟩ ⟨rfl, rfl, rfl, rfl, rfl, trivial⟩ .refl ?_)
  rintro ⟨i, tb, acc⟩ ⟨k1, k2, k3, k4⟩ ih
  dsimp only [ents] at *
  (have hst := fun h => rest_adv_cons (s := u) (i := i) h; have hnil := fun h => rest_adv_nil (s := u) (i := i) h; have hpn := fun h => pk_out (s := u) (i := i) h; have hpi := fun h => pk_in (s := u) (i := i) hun h)
  have hin3 : (u.adv i).pos ≤ (u.adv i).inp.length := k2
  have e0 : (u.adv i).pk 0 = u.pk i := pk_adv i 0
  repeat' first | (show LD _ _ _ _; first | exact LX.ldPos (by (repeat' constructor); first | done | fail) | exact LX.ldWay (by (repeat' constructor); first | done | fail) | exact LX.ldLast (by (repeat' constructor); first | done | fail) | exact LX.ldRoom (by (repeat' constructor); first | done | fail) | exact LX.ldDone (by (repeat' constructor); first | done | fail) | exact LX.ldText (by (repeat' constructor); first | done | fail)) | (apply RR.lxIn; exact rfl; exact rfl; exact rfl; exact (by (repeat' constructor); first | done | fail); refine fun _ => ?_) | (apply RR.lxOut; exact rfl; exact rfl; exact rfl; exact (by (repeat' constructor); first | done | fail); refine fun _ => ?_) | (apply RR.storeS; exact rfl; exact rfl; first | exact LX.stPos 1 rfl (by (repeat' constructor); first | done | fail) | exact LX.stPos 2 rfl (by (repeat' constructor); first | done | fail) | exact LX.stPos 3 rfl (by (repeat' constructor); first | done | fail) | exact LX.stPos 6 rfl (by (repeat' constructor); first | done | fail) | exact LX.stPos 7 rfl (by (repeat' constructor); first | done | fail) | exact LX.stPos _ rfl (by (repeat' constructor); first | done | fail) | exact LX.stPos2 1 _ (by (repeat' constructor); first | done | fail) | exact LX.stPos2 2 _ (by (repeat' constructor); first | done | fail) | exact LX.stWay (by (repeat' constructor); first | done | fail) | exact LX.stLast (by (repeat' constructor); first | done | fail) | exact LX.stRoom (by (repeat' constructor); first | done | fail) | exact LX.stDone (by (repeat' constructor); first | done | fail); exact rfl) | (show FC _ _ _ _ _; first | exact doctypeEnd_F (by (repeat' constructor); first | done | fail) (by (repeat' constructor); first | done | fail) (by (repeat' constructor); first | done | fail) (by exact hb.2) | exact blanks_F (by (repeat' constructor); first | done | fail) (by exact ⟨hb.1, Nat.le_trans (by (repeat' first | assumption | (apply in_blanks) | (apply in_skip) | (apply in_quoted) | (apply in_adv1; omega) | (apply in_pubsys (by assumption))); first | done | fail) (Nat.le_trans hb.1 (by decide))⟩) | exact skip_F (by (repeat' constructor); first | done | fail) (by exact ⟨hb.1, Nat.le_trans (by (repeat' first | assumption | (apply in_blanks) | (apply in_skip) | (apply in_quoted) | (apply in_adv1; omega) | (apply in_pubsys (by assumption))); first | done | fail) (Nat.le_trans hb.1 (by decide))⟩) (by exact hun) | exact peek0_F (by (repeat' constructor); first | done | fail) (by exact ⟨hb.1, Nat.le_trans (by (repeat' first | assumption | (apply in_blanks) | (apply in_skip) | (apply in_quoted) | (apply in_adv1; omega) | (apply in_pubsys (by assumption))); first | done | fail) (Nat.le_trans hb.1 (by decide))⟩) | exact blank_F | exact small_F | exact encode_F rfl (by omega)) | (refine fun (hc : _ = _) => ?_; (try simp only [BB] at hc); (try (first | contradiction | (exfalso; omega)))) | (show Arith _; exact arith_pos (by exact (Nat.le_trans (by (repeat' first | assumption | (apply in_blanks) | (apply in_skip) | (apply in_quoted) | (apply in_adv1; omega) | (apply in_pubsys (by assumption))); first | done | fail) (Nat.le_trans hb.1 (by decide)))) (by decide)) | exact arI | refine Pst.mk ⟨?_, rfl⟩ (by (repeat' constructor); first | done | fail) | constructor | (refine fun _ _ (hq : Hold _) => ?_; replace hq := hq.out; obtain ⟨_, rfl, rfl⟩ := hq) | (refine fun _ _ (hq : Hold _) => ?_; replace hq := hq.out; obtain ⟨_, _, rfl, rfl⟩ := hq) | rintro _ _ ⟨rfl, rfl⟩ | rintro _ _ ⟨_, rfl, rfl⟩ | rintro _ _ ⟨_, _, rfl, rfl⟩ | (refine fun (hc : _ = _) => ?_; (try simp only [BB] at hc)) | refine fun (_ : Nat) => ?_ | refine fun (_ : _ ≤ _) => ?_ | refine fun (_ : _ < _) => ?_
  rotate_left
  rotate_left
  · exact stands_F (w := [112, 117, 98, 108, 105, 99]) (by (repeat' constructor); first | done | fail) (by exact ⟨hb.1, Nat.le_trans (by (repeat' first | assumption | (apply in_blanks) | (apply in_skip) | (apply in_quoted) | (apply in_adv1; omega) | (apply in_pubsys (by assumption))); first | done | fail) (Nat.le_trans hb.1 (by decide))⟩) (by decide) (by decide)
  · rintro _ _ ⟨rfl, rfl⟩
    have hnm : Md.doctypeName (u.adv i).rest = [] := by
      by_cases hlt : u.pos + i < u.inp.length
      · rw [hst hlt, dname_cons, if_pos]
        have := hpi hlt
        by_cases h1 : Md.blank (u.pk i) = true
        · exact .inl h1
        · rw [Bool.not_eq_true] at h1
          by_cases h2 : u.pk i = 62
          · exact .inr h2
          · have := hc ⟨h1, h2⟩; omega
      · rw [hnil (by omega)]; rfl
    rw [hnm] at k1 k4
    simp only [List.map_nil, List.append_nil, List.length_nil, Nat.add_zero] at k1 k4
    rw [← k1, ← k4]
    have hin4 := in_blanks hin3
    have hvb : (u.adv i).blanks.inp.length ≤ 1000000000 ∧ (u.adv i).blanks.text.length ≤ 80000000000 ∧ (u.adv i).blanks.out.length ≤ 10000000 := hb
    have hvn : ∀ r ∈ (u.adv i).blanks.inp, 0 ≤ r := hun
    clear ih hst hnil hpn hpi hnm hin3 hun hb hub hin2 k1 k2 k3 k4 hc e0
    generalize (u.adv i).blanks = v at *
    have hb := hvb
    have hun := hvn
    repeat' first | (show LD _ _ _ _; first | exact LX.ldPos (by (repeat' constructor); first | done | fail) | exact LX.ldWay (by (repeat' constructor); first | done | fail) | exact LX.ldLast (by (repeat' constructor); first | done | fail) | exact LX.ldRoom (by (repeat' constructor); first | done | fail) | exact LX.ldDone (by (repeat' constructor); first | done | fail) | exact LX.ldText (by (repeat' constructor); first | done | fail)) | (apply RR.lxIn; exact rfl; exact rfl; exact rfl; exact (by (repeat' constructor); first | done | fail); refine fun _ => ?_) | (apply RR.lxOut; exact rfl; exact rfl; exact rfl; exact (by (repeat' constructor); first | done | fail); refine fun _ => ?_) | (apply RR.storeS; exact rfl; exact rfl; first | exact LX.stPos 1 rfl (by (repeat' constructor); first | done | fail) | exact LX.stPos 2 rfl (by (repeat' constructor); first | done | fail) | exact LX.stPos 3 rfl (by (repeat' constructor); first | done | fail) | exact LX.stPos 6 rfl (by (repeat' constructor); first | done | fail) | exact LX.stPos 7 rfl (by (repeat' constructor); first | done | fail) | exact LX.stPos _ rfl (by (repeat' constructor); first | done | fail) | exact LX.stPos2 1 _ (by (repeat' constructor); first | done | fail) | exact LX.stPos2 2 _ (by (repeat' constructor); first | done | fail) | exact LX.stWay (by (repeat' constructor); first | done | fail) | exact LX.stLast (by (repeat' constructor); first | done | fail) | exact LX.stRoom (by (repeat' constructor); first | done | fail) | exact LX.stDone (by (repeat' constructor); first | done | fail); exact rfl) | (show FC _ _ _ _ _; first | exact doctypeEnd_F (by (repeat' constructor); first | done | fail) (by (repeat' constructor); first | done | fail) (by (repeat' constructor); first | done | fail) (by exact hb.2) | exact blanks_F (by (repeat' constructor); first | done | fail) (by exact ⟨hb.1, Nat.le_trans (by (repeat' first | assumption | (apply in_blanks) | (apply in_skip) | (apply in_quoted) | (apply in_adv1; omega) | (apply in_pubsys (by assumption))); first | done | fail) (Nat.le_trans hb.1 (by decide))⟩) | exact skip_F (by (repeat' constructor); first | done | fail) (by exact ⟨hb.1, Nat.le_trans (by (repeat' first | assumption | (apply in_blanks) | (apply in_skip) | (apply in_quoted) | (apply in_adv1; omega) | (apply in_pubsys (by assumption))); first | done | fail) (Nat.le_trans hb.1 (by decide))⟩) (by exact hun) | exact peek0_F (by (repeat' constructor); first | done | fail) (by exact ⟨hb.1, Nat.le_trans (by (repeat' first | assumption | (apply in_blanks) | (apply in_skip) | (apply in_quoted) | (apply in_adv1; omega) | (apply in_pubsys (by assumption))); first | done | fail) (Nat.le_trans hb.1 (by decide))⟩) | exact stands_F (w := [115, 121, 115, 116, 101, 109]) (by (repeat' constructor); first | done | fail) (by exact ⟨hb.1, Nat.le_trans (by (repeat' first | assumption | (apply in_blanks) | (apply in_skip) | (apply in_quoted) | (apply in_adv1; omega) | (apply in_pubsys (by assumption))); first | done | fail) (Nat.le_trans hb.1 (by decide))⟩) (by decide) (by decide) | exact blank_F | exact small_F | exact encode_F rfl (by omega)) | (refine fun (hc : _ = _) => ?_; (try simp only [BB] at hc); (try (first | contradiction | (exfalso; omega)))) | (show Arith _; exact arith_pos (by exact (Nat.le_trans (by (repeat' first | assumption | (apply in_blanks) | (apply in_skip) | (apply in_quoted) | (apply in_adv1; omega) | (apply in_pubsys (by assumption))); first | done | fail) (Nat.le_trans hb.1 (by decide)))) (by decide)) | exact arI | refine Pst.mk ⟨?_, rfl⟩ (by (repeat' constructor); first | done | fail) | constructor | (refine fun _ _ (hq : Hold _) => ?_; replace hq := hq.out; obtain ⟨_, rfl, rfl⟩ := hq) | (refine fun _ _ (hq : Hold _) => ?_; replace hq := hq.out; obtain ⟨_, _, rfl, rfl⟩ := hq) | rintro _ _ ⟨rfl, rfl⟩ | rintro _ _ ⟨_, rfl, rfl⟩ | rintro _ _ ⟨_, _, rfl, rfl⟩ | (refine fun (hc : _ = _) => ?_; (try simp only [BB] at hc)) | refine fun (_ : Nat) => ?_ | refine fun (_ : _ ≤ _) => ?_ | refine fun (_ : _ < _) => ?_
    · rw [Md.Lx.doctypeRest, if_pos hc]; exact Pst.mk (.mk ⟨_, rfl, rfl⟩) (by (repeat' constructor); first | done | fail)
    · rw [Md.Lx.doctypeRest, if_neg (by assumption), if_pos hc]; exact Pst.mk (.mk ⟨_, rfl, rfl⟩) (by (repeat' constructor); first | done | fail)
    · rename_i hcB hcA _
      rw [Md.Lx.doctypeRest, if_neg hcB, if_neg hcA, if_neg (by rw [hc.1]; simp), if_neg (by rw [hc.2]; simp)]; exact Pst.mk (.mk ⟨_, rfl, rfl⟩) (by (repeat' constructor); first | done | fail)
    · exact quoted_F (by (repeat' constructor); first | done | fail) (by exact ⟨hb.1, Nat.le_trans (by (repeat' first | assumption | (apply in_blanks) | (apply in_skip) | (apply in_quoted) | (apply in_adv1; omega) | (apply in_pubsys (by assumption))); first | done | fail) (Nat.le_trans hb.1 (by decide))⟩) (by exact hun)
    · rintro _ _ ⟨rfl, rfl⟩
      rename_i hcC hcB hcA
      rw [Md.Lx.doctypeRest, if_neg hcC, if_neg hcB, if_pos hc, Md.Lx.doctypePub]
      dsimp only
      have hinx := in_blanks (in_pubsys hcA hin4)
      have hiny := in_quoted hinx
      have hb0 : ((v.adv 6).blanks.adv (Md.quoted (v.adv 6).blanks.rest).2.2.2).inp.length ≤ 1000000000 ∧ ((v.adv 6).blanks.adv (Md.quoted (v.adv 6).blanks.rest).2.2.2).text.length ≤ 80000000000 ∧ ((v.adv 6).blanks.adv (Md.quoted (v.adv 6).blanks.rest).2.2.2).out.length ≤ 10000000 := hb
      have hn0 : ∀ r ∈ ((v.adv 6).blanks.adv (Md.quoted (v.adv 6).blanks.rest).2.2.2).inp, 0 ≤ r := hun
      clear hb hun hvb hvn hinx hc hcC hcB hcA hin4
      generalize (v.adv 6).blanks.adv (Md.quoted (v.adv 6).blanks.rest).2.2.2 = z at *
      generalize Md.quoted (v.adv 6).blanks.rest = P at *
      obtain ⟨ps, ph, pok, pn⟩ := P
      dsimp only at *
      have hb := hb0
      have hun := hn0
      have hinz := hiny
      repeat' first | (show LD _ _ _ _; first | exact LX.ldPos (by (repeat' constructor); first | done | fail) | exact LX.ldWay (by (repeat' constructor); first | done | fail) | exact LX.ldLast (by (repeat' constructor); first | done | fail) | exact LX.ldRoom (by (repeat' constructor); first | done | fail) | exact LX.ldDone (by (repeat' constructor); first | done | fail) | exact LX.ldText (by (repeat' constructor); first | done | fail)) | (apply RR.lxIn; exact rfl; exact rfl; exact rfl; exact (by (repeat' constructor); first | done | fail); refine fun _ => ?_) | (apply RR.lxOut; exact rfl; exact rfl; exact rfl; exact (by (repeat' constructor); first | done | fail); refine fun _ => ?_) | (apply RR.storeS; exact rfl; exact rfl; first | exact LX.stPos 1 rfl (by (repeat' constructor); first | done | fail) | exact LX.stPos 2 rfl (by (repeat' constructor); first | done | fail) | exact LX.stPos 3 rfl (by (repeat' constructor); first | done | fail) | exact LX.stPos 6 rfl (by (repeat' constructor); first | done | fail) | exact LX.stPos 7 rfl (by (repeat' constructor); first | done | fail) | exact LX.stPos _ rfl (by (repeat' constructor); first | done | fail) | exact LX.stPos2 1 _ (by (repeat' constructor); first | done | fail) | exact LX.stPos2 2 _ (by (repeat' constructor); first | done | fail) | exact LX.stWay (by (repeat' constructor); first | done | fail) | exact LX.stLast (by (repeat' constructor); first | done | fail) | exact LX.stRoom (by (repeat' constructor); first | done | fail) | exact LX.stDone (by (repeat' constructor); first | done | fail); exact rfl) | (show FC _ _ _ _ _; first | exact doctypeEnd_F (by (repeat' constructor); first | done | fail) (by (repeat' constructor); first | done | fail) (by (repeat' constructor); first | done | fail) (by exact hb.2) | exact blanks_F (by (repeat' constructor); first | done | fail) (by exact ⟨hb.1, Nat.le_trans (by (repeat' first | assumption | (apply in_blanks) | (apply in_skip) | (apply in_quoted) | (apply in_adv1; omega) | (apply in_pubsys (by assumption))); first | done | fail) (Nat.le_trans hb.1 (by decide))⟩) | exact skip_F (by (repeat' constructor); first | done | fail) (by exact ⟨hb.1, Nat.le_trans (by (repeat' first | assumption | (apply in_blanks) | (apply in_skip) | (apply in_quoted) | (apply in_adv1; omega) | (apply in_pubsys (by assumption))); first | done | fail) (Nat.le_trans hb.1 (by decide))⟩) (by exact hun) | exact peek0_F (by (repeat' constructor); first | done | fail) (by exact ⟨hb.1, Nat.le_trans (by (repeat' first | assumption | (apply in_blanks) | (apply in_skip) | (apply in_quoted) | (apply in_adv1; omega) | (apply in_pubsys (by assumption))); first | done | fail) (Nat.le_trans hb.1 (by decide))⟩) | exact blank_F | exact small_F | exact encode_F rfl (by omega)) | (refine fun (hc : _ = _) => ?_; (try simp only [BB] at hc); (try (first | contradiction | (exfalso; omega)))) | (show Arith _; exact arith_pos (by exact (Nat.le_trans (by (repeat' first | assumption | (apply in_blanks) | (apply in_skip) | (apply in_quoted) | (apply in_adv1; omega) | (apply in_pubsys (by assumption))); first | done | fail) (Nat.le_trans hb.1 (by decide)))) (by decide)) | exact arI | refine Pst.mk ⟨?_, rfl⟩ (by (repeat' constructor); first | done | fail) | constructor | (refine fun _ _ (hq : Hold _) => ?_; replace hq := hq.out; obtain ⟨_, rfl, rfl⟩ := hq) | (refine fun _ _ (hq : Hold _) => ?_; replace hq := hq.out; obtain ⟨_, _, rfl, rfl⟩ := hq) | rintro _ _ ⟨rfl, rfl⟩ | rintro _ _ ⟨_, rfl, rfl⟩ | rintro _ _ ⟨_, _, rfl, rfl⟩ | (refine fun (hc : _ = _) => ?_; (try simp only [BB] at hc)) | refine fun (_ : Nat) => ?_ | refine fun (_ : _ ≤ _) => ?_ | refine fun (_ : _ < _) => ?_
      · rw [if_pos hc]; exact Pst.mk (.mk ⟨_, rfl, rfl⟩) (by (repeat' constructor); first | done | fail)
      · rw [if_neg (by simp_all), if_pos hc]; exact Pst.mk (.mk ⟨_, rfl, rfl⟩) (by (repeat' constructor); first | done | fail)
      · exact quoted_F (by (repeat' constructor); first | done | fail) (by exact ⟨hb.1, Nat.le_trans (by (repeat' first | assumption | (apply in_blanks) | (apply in_skip) | (apply in_quoted) | (apply in_adv1; omega) | (apply in_pubsys (by assumption))); first | done | fail) (Nat.le_trans hb.1 (by decide))⟩) (by exact hun)
      · rintro _ _ ⟨rfl, rfl⟩
        have hinx := in_blanks hinz
        have hb0 : (z.blanks).inp.length ≤ 1000000000 ∧ (z.blanks).text.length ≤ 80000000000 ∧ (z.blanks).out.length ≤ 10000000 := hb
        have hn0 : ∀ r ∈ (z.blanks).inp, 0 ≤ r := hun
        rw [if_neg (by simp_all), if_neg hc]
        clear hb hun
        generalize z.blanks = x at *
        have hiny := in_quoted hinx
        have hb : (x.adv (Md.quoted x.rest).2.2.2).inp.length ≤ 1000000000 ∧ (x.adv (Md.quoted x.rest).2.2.2).text.length ≤ 80000000000 ∧ (x.adv (Md.quoted x.rest).2.2.2).out.length ≤ 10000000 := hb0
        have hun : ∀ r ∈ (x.adv (Md.quoted x.rest).2.2.2).inp, 0 ≤ r := hn0
        rw [Md.Lx.doctypeSys]
        dsimp only
        clear hinx hb0 hn0
        generalize x.adv (Md.quoted x.rest).2.2.2 = y at *
        generalize Md.quoted x.rest = Q at *
        obtain ⟨ys, yh, yok, yn⟩ := Q
        dsimp only at *
        repeat' first | (show LD _ _ _ _; first | exact LX.ldPos (by (repeat' constructor); first | done | fail) | exact LX.ldWay (by (repeat' constructor); first | done | fail) | exact LX.ldLast (by (repeat' constructor); first | done | fail) | exact LX.ldRoom (by (repeat' constructor); first | done | fail) | exact LX.ldDone (by (repeat' constructor); first | done | fail) | exact LX.ldText (by (repeat' constructor); first | done | fail)) | (apply RR.lxIn; exact rfl; exact rfl; exact rfl; exact (by (repeat' constructor); first | done | fail); refine fun _ => ?_) | (apply RR.lxOut; exact rfl; exact rfl; exact rfl; exact (by (repeat' constructor); first | done | fail); refine fun _ => ?_) | (apply RR.storeS; exact rfl; exact rfl; first | exact LX.stPos 1 rfl (by (repeat' constructor); first | done | fail) | exact LX.stPos 2 rfl (by (repeat' constructor); first | done | fail) | exact LX.stPos 3 rfl (by (repeat' constructor); first | done | fail) | exact LX.stPos 6 rfl (by (repeat' constructor); first | done | fail) | exact LX.stPos 7 rfl (by (repeat' constructor); first | done | fail) | exact LX.stPos _ rfl (by (repeat' constructor); first | done | fail) | exact LX.stPos2 1 _ (by (repeat' constructor); first | done | fail) | exact LX.stPos2 2 _ (by (repeat' constructor); first | done | fail) | exact LX.stWay (by (repeat' constructor); first | done | fail) | exact LX.stLast (by (repeat' constructor); first | done | fail) | exact LX.stRoom (by (repeat' constructor); first | done | fail) | exact LX.stDone (by (repeat' constructor); first | done | fail); exact rfl) | (show FC _ _ _ _ _; first | exact doctypeEnd_F (by (repeat' constructor); first | done | fail) (by (repeat' constructor); first | done | fail) (by (repeat' constructor); first | done | fail) (by exact hb.2) | exact blanks_F (by (repeat' constructor); first | done | fail) (by exact ⟨hb.1, Nat.le_trans (by (repeat' first | assumption | (apply in_blanks) | (apply in_skip) | (apply in_quoted) | (apply in_adv1; omega) | (apply in_pubsys (by assumption))); first | done | fail) (Nat.le_trans hb.1 (by decide))⟩) | exact skip_F (by (repeat' constructor); first | done | fail) (by exact ⟨hb.1, Nat.le_trans (by (repeat' first | assumption | (apply in_blanks) | (apply in_skip) | (apply in_quoted) | (apply in_adv1; omega) | (apply in_pubsys (by assumption))); first | done | fail) (Nat.le_trans hb.1 (by decide))⟩) (by exact hun) | exact peek0_F (by (repeat' constructor); first | done | fail) (by exact ⟨hb.1, Nat.le_trans (by (repeat' first | assumption | (apply in_blanks) | (apply in_skip) | (apply in_quoted) | (apply in_adv1; omega) | (apply in_pubsys (by assumption))); first | done | fail) (Nat.le_trans hb.1 (by decide))⟩) | exact blank_F | exact small_F | exact encode_F rfl (by omega)) | (refine fun (hc : _ = _) => ?_; (try simp only [BB] at hc); (try (first | contradiction | (exfalso; omega)))) | (show Arith _; exact arith_pos (by exact (Nat.le_trans (by (repeat' first | assumption | (apply in_blanks) | (apply in_skip) | (apply in_quoted) | (apply in_adv1; omega) | (apply in_pubsys (by assumption))); first | done | fail) (Nat.le_trans hb.1 (by decide)))) (by decide)) | exact arI | refine Pst.mk ⟨?_, rfl⟩ (by (repeat' constructor); first | done | fail) | constructor | (refine fun _ _ (hq : Hold _) => ?_; replace hq := hq.out; obtain ⟨_, rfl, rfl⟩ := hq) | (refine fun _ _ (hq : Hold _) => ?_; replace hq := hq.out; obtain ⟨_, _, rfl, rfl⟩ := hq) | rintro _ _ ⟨rfl, rfl⟩ | rintro _ _ ⟨_, rfl, rfl⟩ | rintro _ _ ⟨_, _, rfl, rfl⟩ | (refine fun (hc : _ = _) => ?_; (try simp only [BB] at hc)) | refine fun (_ : Nat) => ?_ | refine fun (_ : _ ≤ _) => ?_ | refine fun (_ : _ < _) => ?_
        · rw [if_pos hc]; exact Pst.mk (.mk ⟨_, rfl, rfl⟩) (by (repeat' constructor); first | done | fail)
        · rename_i hok
          rw [if_neg (by simp_all), if_pos hc]; exact Pst.mk (.mk ⟨_, rfl, rfl⟩) (by (repeat' constructor); first | done | fail)
        · rename_i hok
          rw [if_neg (by simp_all), if_neg hc]; exact Pst.mk (.mk ⟨_, rfl, rfl⟩) (by (repeat' constructor); first | done | fail)
    · rename_i hcC hcB hcA
      exact quoted_F (by (repeat' constructor); first | done | fail) (by exact ⟨hb.1, Nat.le_trans (by (repeat' first | assumption | (apply in_blanks) | (apply in_skip) | (apply in_quoted) | (apply in_adv1; omega) | (apply in_pubsys (by assumption))); first | done | fail) (Nat.le_trans hb.1 (by decide))⟩) (by exact hun)
    · rintro _ _ ⟨rfl, rfl⟩
      rename_i hcC hcB hcA
      have hinx := in_blanks (in_pubsys hcA hin4)
      have hb0 : ((v.adv 6).blanks).inp.length ≤ 1000000000 ∧ ((v.adv 6).blanks).text.length ≤ 80000000000 ∧ ((v.adv 6).blanks).out.length ≤ 10000000 := hb
      have hn0 : ∀ r ∈ ((v.adv 6).blanks).inp, 0 ≤ r := hun
      rw [Md.Lx.doctypeRest, if_neg hcC, if_neg hcB, if_neg (by rw [hc]; simp), if_pos (hcA hc)]
      clear hb hun
      generalize (v.adv 6).blanks = x at *
      have hiny := in_quoted hinx
      have hb : (x.adv (Md.quoted x.rest).2.2.2).inp.length ≤ 1000000000 ∧ (x.adv (Md.quoted x.rest).2.2.2).text.length ≤ 80000000000 ∧ (x.adv (Md.quoted x.rest).2.2.2).out.length ≤ 10000000 := hb0
      have hun : ∀ r ∈ (x.adv (Md.quoted x.rest).2.2.2).inp, 0 ≤ r := hn0
      rw [Md.Lx.doctypeSys]
      dsimp only
      clear hinx hb0 hn0
      generalize x.adv (Md.quoted x.rest).2.2.2 = y at *
      generalize Md.quoted x.rest = Q at *
      obtain ⟨ys, yh, yok, yn⟩ := Q
      dsimp only at *
      repeat' first | (show LD _ _ _ _; first | exact LX.ldPos (by (repeat' constructor); first | done | fail) | exact LX.ldWay (by (repeat' constructor); first | done | fail) | exact LX.ldLast (by (repeat' constructor); first | done | fail) | exact LX.ldRoom (by (repeat' constructor); first | done | fail) | exact LX.ldDone (by (repeat' constructor); first | done | fail) | exact LX.ldText (by (repeat' constructor); first | done | fail)) | (apply RR.lxIn; exact rfl; exact rfl; exact rfl; exact (by (repeat' constructor); first | done | fail); refine fun _ => ?_) | (apply RR.lxOut; exact rfl; exact rfl; exact rfl; exact (by (repeat' constructor); first | done | fail); refine fun _ => ?_) | (apply RR.storeS; exact rfl; exact rfl; first | exact LX.stPos 1 rfl (by (repeat' constructor); first | done | fail) | exact LX.stPos 2 rfl (by (repeat' constructor); first | done | fail) | exact LX.stPos 3 rfl (by (repeat' constructor); first | done | fail) | exact LX.stPos 6 rfl (by (repeat' constructor); first | done | fail) | exact LX.stPos 7 rfl (by (repeat' constructor); first | done | fail) | exact LX.stPos _ rfl (by (repeat' constructor); first | done | fail) | exact LX.stPos2 1 _ (by (repeat' constructor); first | done | fail) | exact LX.stPos2 2 _ (by (repeat' constructor); first | done | fail) | exact LX.stWay (by (repeat' constructor); first | done | fail) | exact LX.stLast (by (repeat' constructor); first | done | fail) | exact LX.stRoom (by (repeat' constructor); first | done | fail) | exact LX.stDone (by (repeat' constructor); first | done | fail); exact rfl) | (show FC _ _ _ _ _; first | exact doctypeEnd_F (by (repeat' constructor); first | done | fail) (by (repeat' constructor); first | done | fail) (by (repeat' constructor); first | done | fail) (by exact hb.2) | exact blanks_F (by (repeat' constructor); first | done | fail) (by exact ⟨hb.1, Nat.le_trans (by (repeat' first | assumption | (apply in_blanks) | (apply in_skip) | (apply in_quoted) | (apply in_adv1; omega) | (apply in_pubsys (by assumption))); first | done | fail) (Nat.le_trans hb.1 (by decide))⟩) | exact skip_F (by (repeat' constructor); first | done | fail) (by exact ⟨hb.1, Nat.le_trans (by (repeat' first | assumption | (apply in_blanks) | (apply in_skip) | (apply in_quoted) | (apply in_adv1; omega) | (apply in_pubsys (by assumption))); first | done | fail) (Nat.le_trans hb.1 (by decide))⟩) (by exact hun) | exact peek0_F (by (repeat' constructor); first | done | fail) (by exact ⟨hb.1, Nat.le_trans (by (repeat' first | assumption | (apply in_blanks) | (apply in_skip) | (apply in_quoted) | (apply in_adv1; omega) | (apply in_pubsys (by assumption))); first | done | fail) (Nat.le_trans hb.1 (by decide))⟩) | exact blank_F | exact small_F | exact encode_F rfl (by omega)) | (refine fun (hc : _ = _) => ?_; (try simp only [BB] at hc); (try (first | contradiction | (exfalso; omega)))) | (show Arith _; exact arith_pos (by exact (Nat.le_trans (by (repeat' first | assumption | (apply in_blanks) | (apply in_skip) | (apply in_quoted) | (apply in_adv1; omega) | (apply in_pubsys (by assumption))); first | done | fail) (Nat.le_trans hb.1 (by decide)))) (by decide)) | exact arI | refine Pst.mk ⟨?_, rfl⟩ (by (repeat' constructor); first | done | fail) | constructor | (refine fun _ _ (hq : Hold _) => ?_; replace hq := hq.out; obtain ⟨_, rfl, rfl⟩ := hq) | (refine fun _ _ (hq : Hold _) => ?_; replace hq := hq.out; obtain ⟨_, _, rfl, rfl⟩ := hq) | rintro _ _ ⟨rfl, rfl⟩ | rintro _ _ ⟨_, rfl, rfl⟩ | rintro _ _ ⟨_, _, rfl, rfl⟩ | (refine fun (hc : _ = _) => ?_; (try simp only [BB] at hc)) | refine fun (_ : Nat) => ?_ | refine fun (_ : _ ≤ _) => ?_ | refine fun (_ : _ < _) => ?_
      · rw [if_pos hc]; exact Pst.mk (.mk ⟨_, rfl, rfl⟩) (by (repeat' constructor); first | done | fail)
      · rename_i hok
        rw [if_neg (by simp_all), if_pos hc]; exact Pst.mk (.mk ⟨_, rfl, rfl⟩) (by (repeat' constructor); first | done | fail)
      · rename_i hok
        rw [if_neg (by simp_all), if_neg hc]; exact Pst.mk (.mk ⟨_, rfl, rfl⟩) (by (repeat' constructor); first | done | fail)
  all_goals
    have hlt : u.pos + i < u.inp.length := by
      by_cases h : u.pos + i < u.inp.length
      · exact h
      · have := hpn (by omega); omega
    have hA : Md.blank (u.pk i) = false ∧ ¬u.pk i = 62 := by first | exact hc.1 | (rename_i hA; exact hA.1) | (rename_i hA _ _ _; exact hA.1)
    rw [hst hlt, dname_cons, if_neg (fun h => h.elim (fun h => by rw [hA.1] at h; cases h) hA.2)] at k1 k4
    simp only [List.map_cons, List.length_cons] at k1 k4
    rw [pk_adv] at *
    first
      | (rw [show Md.fixr (u.pk i) = 65533 from if_pos hc] at k4
         exact ih _ _ (i + 1, _, acc ++ [Md.small 65533]) ⟨by dsimp only; omega, by dsimp only; omega, by simp [k3], by rw [← k4]; simp⟩ (by dsimp only; omega) ⟨rfl, rfl, rfl, rfl, rfl, trivial⟩ (by (repeat' constructor); first | done | fail))
      | (rw [show Md.fixr (u.pk i) = u.pk i from if_neg hc] at k4
         exact ih _ _ (i + 1, _, acc ++ [Md.small (u.pk i)]) ⟨by dsimp only; omega, by dsimp only; omega, by simp [k3], by rw [← k4]; simp⟩ (by dsimp only; omega) ⟨rfl, rfl, rfl, rfl, rfl, trivial⟩ (by (repeat' constructor); first | done | fail))
end Go.Proofs.YticnenofiibpgaaDoor.Code
/- What the lexer's declare, ending, open, close do. -/
namespace Go.Proofs.YticnenofiibpgaaDoor.Code
open Go.Dm Go.Dm.C
set_option linter.unusedSimpArgs false
set_option linter.unusedVariables false
set_option linter.unnecessarySimpa false
set_option maxRecDepth 10000
attribute [local irreducible] Go.Dm.F Go.Dm.RS Go.Dm.Y Go.Dm.FD Go.Dm.FZ1 Go.Dm.Hold
variable {id : Nat} {s : Md.Lx} {g : Nat × Nat} {cs : List Ck}
theorem exact_le : ∀ (w : List UInt8) (l : List Int), Md.exact w l = true → w.length ≤ l.length
  | [], l, _ => by simp
  | c :: w, [], h => by
    simp only [Md.exact, List.headD_nil, Bool.and_eq_true, beq_iff_eq] at h
    omega
  | c :: w, r :: l, h => by
    simp only [Md.exact, List.tail_cons, Bool.and_eq_true] at h
    have := exact_le w l h.2
    simp only [List.length_cons]; omega
theorem in_exact (n : Nat) (w : List UInt8) (h : Md.exact w s.rest = true) (hw : w.length = n) (hp : s.pos ≤ s.inp.length) : (s.adv n).pos ≤ (s.adv n).inp.length := in_adv hp (by rw [← hw]; exact exact_le _ _ h)
/-- What bounds a state. -/
structure MB (s : Md.Lx) : Prop where
  len : s.inp.length ≤ 1000000000
  pos : s.pos ≤ s.inp.length
  text : s.text.length ≤ 70000000000
  out : s.out.length ≤ 1000000
  last : s.last.length ≤ 10000000000
  nn : ∀ r ∈ s.inp, 0 ≤ r
theorem MB.adv {n : Nat} (h : MB s) (hp : (s.adv n).pos ≤ (s.adv n).inp.length) : MB (s.adv n) := ⟨h.len, hp, h.text, h.out, h.last, h.nn⟩
theorem MB.b1 (h : MB s) : s.inp.length ≤ 1000000000 ∧ s.pos ≤ 20000000000 := ⟨h.len, Nat.le_trans h.pos (Nat.le_trans h.len (by decide))⟩
theorem MB.b2 (h : MB s) : s.inp.length ≤ 1000000000 ∧ s.pos ≤ 100000000000 := ⟨h.len, Nat.le_trans h.pos (Nat.le_trans h.len (by decide))⟩
theorem MB.b3 (h : MB s) : s.inp.length ≤ 1000000000 ∧ s.pos ≤ s.inp.length ∧ s.text.length ≤ 80000000000 ∧ s.out.length ≤ 10000000 := ⟨h.len, h.pos, Nat.le_trans h.text (by decide), Nat.le_trans h.out (by decide)⟩
theorem MB.b4 (h : MB s) : s.inp.length ≤ 1000000000 ∧ s.pos ≤ 20000000000 ∧ s.text.length ≤ 80000000000 ∧ s.out.length ≤ 10000000 := ⟨h.len, h.b1.2, Nat.le_trans h.text (by decide), Nat.le_trans h.out (by decide)⟩
theorem MB.b5 (h : MB s) : s.inp.length ≤ 1000000000 ∧ s.pos ≤ 20000000000 ∧ s.text.length ≤ 80000000000 := ⟨h.len, h.b1.2, Nat.le_trans h.text (by decide)⟩
theorem MB.b6 (h : MB s) : s.inp.length ≤ 1000000000 ∧ s.pos ≤ 20000000000 ∧ s.last.length ≤ 10000000000 := ⟨h.len, h.b1.2, h.last⟩
theorem MB.b7 (h : MB s) : s.text.length ≤ 90000000000 ∧ s.out.length ≤ 1000000000 := ⟨Nat.le_trans h.text (by decide), Nat.le_trans h.out (by decide)⟩
theorem MB.b8 (h : MB s) {rs : List Int} (hr : rs.length ≤ 10000000000) : s.text.length ≤ 100000000000 ∧ rs.length ≤ 10000000000 := ⟨Nat.le_trans h.text (by decide), hr⟩
theorem MB.flush (h : MB s) (ho : s.out.length ≤ 999999) : MB s.flush := ⟨by rw [flush_inp]; exact h.len, by rw [flush_inp, flush_pos]; exact h.pos, by rw [flush_text]; simp, by have := flush_out (s := s); omega, by rw [flush_last]; exact h.last, by rw [flush_inp]; exact h.nn⟩
theorem arith_pos2 {x : Md.Lx} {k : Int} {p : Bool} (h : MB x) (hk : 0 ≤ k ∧ k ≤ 1000) : Arith (p = true → -9223372036854775808 ≤ (x.pos : Int) + k ∧ (x.pos : Int) + k ≤ 9223372036854775807) := arith_pos h.b1.2 hk
set_option maxHeartbeats 1000000 in
theorem declare_F {cs2 : Nat × Nat → List Ck} (hu : Upd (LX id s g) (fun a => LX id s.declare a) cs cs2) (hb : MB s) : F D 88 [.ptr id 0] cs (fun v cs' => Hold (∃ a, v = .tup [] ∧ cs2 a = cs')) := by
  refine F.atG hu fun R => F.of rfl rfl rfl ?_
  have m2 := fun h => hb.adv (in_stands 2 [45, 45] h rfl hb.pos)
  have m7 := fun h => hb.adv (in_stands 7 [100, 111, 99, 116, 121, 112, 101] h rfl hb.pos)
  have m7' := fun h => hb.adv (in_exact 7 [91, 67, 68, 65, 84, 65, 91] h rfl hb.pos)
  repeat' first | (show LD _ _ _ _; first | exact LX.ldPos (by (repeat' constructor); first | done | fail) | exact LX.ldWay (by (repeat' constructor); first | done | fail) | exact LX.ldLast (by (repeat' constructor); first | done | fail) | exact LX.ldRoom (by (repeat' constructor); first | done | fail) | exact LX.ldDone (by (repeat' constructor); first | done | fail) | exact LX.ldText (by (repeat' constructor); first | done | fail)) | (apply RR.lxIn; exact rfl; exact rfl; exact rfl; exact (by (repeat' constructor); first | done | fail); refine fun _ => ?_) | (apply RR.lxOut; exact rfl; exact rfl; exact rfl; exact (by (repeat' constructor); first | done | fail); refine fun _ => ?_) | (apply RR.storeS; exact rfl; exact rfl; first | exact LX.stPos 1 rfl (by (repeat' constructor); first | done | fail) | exact LX.stPos 2 rfl (by (repeat' constructor); first | done | fail) | exact LX.stPos 3 rfl (by (repeat' constructor); first | done | fail) | exact LX.stPos 6 rfl (by (repeat' constructor); first | done | fail) | exact LX.stPos 7 rfl (by (repeat' constructor); first | done | fail) | exact LX.stPos _ rfl (by (repeat' constructor); first | done | fail) | exact LX.stPos2 1 _ (by (repeat' constructor); first | done | fail) | exact LX.stPos2 2 _ (by (repeat' constructor); first | done | fail) | exact LX.stWay (by (repeat' constructor); first | done | fail) | exact LX.stLast (by (repeat' constructor); first | done | fail) | exact LX.stRoom (by (repeat' constructor); first | done | fail) | exact LX.stDone (by (repeat' constructor); first | done | fail); exact rfl) | (show FC _ _ _ _ _; first | exact stands_F (w := [45, 45]) (by (repeat' constructor); first | done | fail) (by exact hb.b2) (by decide) (by decide) | exact stands_F (w := [100, 111, 99, 116, 121, 112, 101]) (by (repeat' constructor); first | done | fail) (by exact hb.b2) (by decide) (by decide) | exact exact_F (w := [91, 67, 68, 65, 84, 65, 91]) (by (repeat' constructor); first | done | fail) (by exact hb.b2) (by decide) (by decide) | exact peek0_F (by (repeat' constructor); first | done | fail) (by exact hb.b2) | exact comment_F (by (repeat' constructor); first | done | fail) (by exact (m2 (by assumption)).b4) (by exact hb.nn) | exact doctype_F (by (repeat' constructor); first | done | fail) (by exact (m7 (by assumption)).b3) (by exact hb.nn) | exact section_F (by (repeat' constructor); first | done | fail) (by exact (m7' hc.2).b5) (by exact hb.nn) | exact bogus_F (by (repeat' constructor); first | done | fail) (by exact hb.b4) (by exact hb.nn)) | (refine fun (hc : _ = _) => ?_; (try simp only [BB] at hc); (try (first | contradiction | (exfalso; omega)))) | (show Arith _; exact arith_pos2 hb (by decide)) | (show Arith _; refine Arith.mk ?_; intro h9; simp_all [Go.Dm.eqB]; done) | exact arI | refine Pst.mk ⟨?_, rfl⟩ (by (repeat' constructor); first | done | fail) | constructor | (refine fun _ _ (hq : Hold _) => ?_; replace hq := hq.out; obtain ⟨_, rfl, rfl⟩ := hq) | (refine fun _ _ (hq : Hold _) => ?_; replace hq := hq.out; obtain ⟨_, _, rfl, rfl⟩ := hq) | rintro _ _ ⟨rfl, rfl⟩ | rintro _ _ ⟨_, rfl, rfl⟩ | rintro _ _ ⟨_, _, rfl, rfl⟩ | (refine fun (hc : _ = _) => ?_; (try simp only [BB] at hc)) | refine fun (_ : Nat) => ?_ | refine fun (_ : _ ≤ _) => ?_ | refine fun (_ : _ < _) => ?_
  · rw [Md.Lx.declare, if_pos hc]; exact Pst.mk (.mk ⟨_, rfl, rfl⟩) (by (repeat' constructor); first | done | fail)
  · rw [Md.Lx.declare, if_neg (by simp_all), if_pos hc]; exact Pst.mk (.mk ⟨_, rfl, rfl⟩) (by (repeat' constructor); first | done | fail)
  · rw [Md.Lx.declare, if_neg (by simp_all), if_neg (by simp_all), if_pos ⟨hc.1.1, hc.1.2, hc.2⟩]; exact Pst.mk (.mk ⟨_, rfl, rfl⟩) (by (repeat' constructor); first | done | fail)
  · rename_i h1 h2 _ _ _
    rw [Md.Lx.declare, if_neg (by simp_all), if_neg (by simp_all), if_neg (fun h => by have := hc ⟨h.1, h.2.1⟩; rw [h.2.2] at this; cases this)]; exact Pst.mk (.mk ⟨_, rfl, rfl⟩) (by (repeat' constructor); first | done | fail)
  all_goals
    rw [Md.Lx.declare, if_neg (by simp_all), if_neg (by simp_all), if_neg (fun h => by simp_all)]; exact Pst.mk (.mk ⟨_, rfl, rfl⟩) (by (repeat' constructor); first | done | fail)
theorem ending_F {cs2 : Nat × Nat → List Ck} (hu : Upd (LX id s g) (fun a => LX id s.ending a) cs cs2) (hb : MB s) : F D 89 [.ptr id 0] cs (fun v cs' => Hold (∃ a, v = .tup [] ∧ cs2 a = cs')) := by
  refine F.atG hu fun R => F.of rfl rfl rfl ?_
  repeat' first | (show FC _ _ _ _ _; first | exact next_F (by (repeat' constructor); first | done | fail) (by exact hb.b2) | exact back_F (by (repeat' constructor); first | done | fail) (by exact hb.b2.2) | exact letter_F | exact tag_F (by (repeat' constructor); first | done | fail) (by exact hb.b3) (by exact hb.nn) | exact bogus_F (by (repeat' constructor); first | done | fail) (by exact hb.b4) (by exact hb.nn) | exact say_F rfl (by (repeat' constructor); first | done | fail) (by (repeat' constructor); first | done | fail) (by exact hb.b8 (by decide))) | (refine fun (hc : _ = _) => ?_; (try simp only [BB] at hc); (try (first | contradiction | (exfalso; omega)))) | exact arI | refine Pst.mk ⟨?_, rfl⟩ (by (repeat' constructor); first | done | fail) | constructor | (refine fun _ _ (hq : Hold _) => ?_; replace hq := hq.out; obtain ⟨_, rfl, rfl⟩ := hq) | (refine fun _ _ (hq : Hold _) => ?_; replace hq := hq.out; obtain ⟨_, _, rfl, rfl⟩ := hq) | rintro _ _ ⟨rfl, rfl⟩ | rintro _ _ ⟨_, rfl, rfl⟩ | rintro _ _ ⟨_, _, rfl, rfl⟩ | (refine fun (hc : _ = _) => ?_; (try simp only [BB] at hc)) | refine fun (_ : Nat) => ?_ | refine fun (_ : _ ≤ _) => ?_ | refine fun (_ : _ < _) => ?_
  · rw [Md.Lx.ending, if_pos hc]; exact Pst.mk (.mk ⟨_, rfl, rfl⟩) (by (repeat' constructor); first | done | fail)
  · rw [Md.Lx.ending, if_neg (by simp_all), if_pos hc]; exact Pst.mk (.mk ⟨g, rfl, rfl⟩) (by (repeat' constructor); first | done | fail)
  · rw [Md.Lx.ending, if_neg (by simp_all), if_neg (by assumption), if_pos hc]; exact Pst.mk (.mk ⟨(g.1, _), rfl, rfl⟩) (by (repeat' constructor); first | done | fail)
  · rw [Md.Lx.ending, if_neg (by simp_all), if_neg (by assumption), if_neg hc]; exact Pst.mk (.mk ⟨_, rfl, rfl⟩) (by (repeat' constructor); first | done | fail)
theorem open_F {cs2 : Nat × Nat → List Ck} (hu : Upd (LX id s g) (fun a => LX id s.open_ a) cs cs2) (hb : MB s) : F D 71 [.ptr id 0] cs (fun v cs' => Hold (∃ a, v = .tup [] ∧ cs2 a = cs')) := by
  refine F.atG hu fun R => F.of rfl rfl rfl ?_
  have m1 := fun h => hb.adv (n := 1) (in_adv1 h)
  repeat' first | (show FC _ _ _ _ _; first | exact next_F (by (repeat' constructor); first | done | fail) (by exact hb.b2) | exact back_F (by (repeat' constructor); first | done | fail) (by exact hb.b2.2) | exact letter_F | exact declare_F (by (repeat' constructor); first | done | fail) (by exact m1 (by omega)) | exact ending_F (by (repeat' constructor); first | done | fail) (by exact m1 (by omega)) | exact tag_F (by (repeat' constructor); first | done | fail) (by exact hb.b3) (by exact hb.nn) | exact bogus_F (by (repeat' constructor); first | done | fail) (by exact hb.b4) (by exact hb.nn) | exact say_F rfl (by (repeat' constructor); first | done | fail) (by (repeat' constructor); first | done | fail) (by exact hb.b8 (by decide))) | (refine fun (hc : _ = _) => ?_; (try simp only [BB] at hc); (try (first | contradiction | (exfalso; omega)))) | exact arI | refine Pst.mk ⟨?_, rfl⟩ (by (repeat' constructor); first | done | fail) | constructor | (refine fun _ _ (hq : Hold _) => ?_; replace hq := hq.out; obtain ⟨_, rfl, rfl⟩ := hq) | (refine fun _ _ (hq : Hold _) => ?_; replace hq := hq.out; obtain ⟨_, _, rfl, rfl⟩ := hq) | rintro _ _ ⟨rfl, rfl⟩ | rintro _ _ ⟨_, rfl, rfl⟩ | rintro _ _ ⟨_, _, rfl, rfl⟩ | (refine fun (hc : _ = _) => ?_; (try simp only [BB] at hc)) | refine fun (_ : Nat) => ?_ | refine fun (_ : _ ≤ _) => ?_ | refine fun (_ : _ < _) => ?_
  · rw [Md.Lx.open_, if_pos hc]; exact Pst.mk (.mk ⟨_, rfl, rfl⟩) (by (repeat' constructor); first | done | fail)
  · rw [Md.Lx.open_, if_neg (by assumption), if_pos hc]; exact Pst.mk (.mk ⟨_, rfl, rfl⟩) (by (repeat' constructor); first | done | fail)
  · rw [Md.Lx.open_, if_neg (by assumption), if_neg (by assumption), if_pos hc]; exact Pst.mk (.mk ⟨_, rfl, rfl⟩) (by (repeat' constructor); first | done | fail)
  · rw [Md.Lx.open_, if_neg (by assumption), if_neg (by assumption), if_neg (by simp_all), if_pos hc]; exact Pst.mk (.mk ⟨_, rfl, rfl⟩) (by (repeat' constructor); first | done | fail)
  · rw [Md.Lx.open_, if_neg (by assumption), if_neg (by assumption), if_neg (by simp_all), if_neg hc]; exact Pst.mk (.mk ⟨(g.1, _), rfl, rfl⟩) (by (repeat' constructor); first | done | fail)
theorem closes_le (last : Md.Str) (l : List Int) : (0 < Md.closes last l → l.getD 0 (-1) = 47) := by
  intro h
  unfold Md.closes at h
  by_cases h1 : l.getD 0 (-1) ≠ 47 ∨ Md.letter (l.getD 1 (-1)) = false ∨ last = []
  · rw [if_pos h1] at h; omega
  · by_cases h2 : l.getD 0 (-1) = 47
    · exact h2
    · exact absurd (.inl h2) h1
theorem close_F {cs2 : Nat × Nat → List Ck} (hu : Upd (LX id s g) (fun a => LX id s.close a) cs cs2) (hb : MB s) : F D 72 [.ptr id 0] cs (fun v cs' => Hold (∃ a, (∃ b, v = .bool b) ∧ cs2 a = cs')) := by
  refine F.atG hu fun R => F.of rfl rfl rfl ?_
  have m1 : ¬ ((Md.closes s.last s.rest : Nat) : Int) = 0 → MB { s.adv 1 with way := 0 } := fun h => by
    have h2 := closes_le s.last s.rest (by omega)
    rw [← pk_rest] at h2
    have h3 := hb.adv (n := 1) (in_adv1 (by omega))
    exact ⟨h3.len, h3.pos, h3.text, h3.out, h3.last, h3.nn⟩
  repeat' first | (show LD _ _ _ _; first | exact LX.ldPos (by (repeat' constructor); first | done | fail) | exact LX.ldWay (by (repeat' constructor); first | done | fail) | exact LX.ldLast (by (repeat' constructor); first | done | fail) | exact LX.ldRoom (by (repeat' constructor); first | done | fail) | exact LX.ldDone (by (repeat' constructor); first | done | fail) | exact LX.ldText (by (repeat' constructor); first | done | fail)) | (apply RR.lxIn; exact rfl; exact rfl; exact rfl; exact (by (repeat' constructor); first | done | fail); refine fun _ => ?_) | (apply RR.lxOut; exact rfl; exact rfl; exact rfl; exact (by (repeat' constructor); first | done | fail); refine fun _ => ?_) | (apply RR.storeS; exact rfl; exact rfl; first | exact LX.stPos 1 rfl (by (repeat' constructor); first | done | fail) | exact LX.stPos 2 rfl (by (repeat' constructor); first | done | fail) | exact LX.stPos 3 rfl (by (repeat' constructor); first | done | fail) | exact LX.stPos 6 rfl (by (repeat' constructor); first | done | fail) | exact LX.stPos 7 rfl (by (repeat' constructor); first | done | fail) | exact LX.stPos _ rfl (by (repeat' constructor); first | done | fail) | exact LX.stPos2 1 _ (by (repeat' constructor); first | done | fail) | exact LX.stPos2 2 _ (by (repeat' constructor); first | done | fail) | exact LX.stWay (by (repeat' constructor); first | done | fail) | exact LX.stLast (by (repeat' constructor); first | done | fail) | exact LX.stRoom (by (repeat' constructor); first | done | fail) | exact LX.stDone (by (repeat' constructor); first | done | fail); exact rfl) | (show FC _ _ _ _ _; first | exact closes_F (by (repeat' constructor); first | done | fail) (by exact hb.b6) | exact tag_F (by (repeat' constructor); first | done | fail) (by exact (m1 (by assumption)).b3) (by exact hb.nn) | exact say_F rfl (by (repeat' constructor); first | done | fail) (by (repeat' constructor); first | done | fail) (by exact hb.b8 (by decide))) | (refine fun (hc : _ = _) => ?_; (try simp only [BB] at hc); (try (first | contradiction | (exfalso; omega)))) | (show Arith _; exact arith_pos2 hb (by decide)) | exact arI | refine Pst.mk ⟨?_, rfl⟩ (by (repeat' constructor); first | done | fail) | constructor | (refine fun _ _ (hq : Hold _) => ?_; replace hq := hq.out; obtain ⟨_, rfl, rfl⟩ := hq) | (refine fun _ _ (hq : Hold _) => ?_; replace hq := hq.out; obtain ⟨_, _, rfl, rfl⟩ := hq) | rintro _ _ ⟨rfl, rfl⟩ | rintro _ _ ⟨_, rfl, rfl⟩ | rintro _ _ ⟨_, _, rfl, rfl⟩ | (refine fun (hc : _ = _) => ?_; (try simp only [BB] at hc)) | refine fun (_ : Nat) => ?_ | refine fun (_ : _ ≤ _) => ?_ | refine fun (_ : _ < _) => ?_
  · rw [Md.Lx.close, if_pos (Int.ofNat.inj hc)]; exact Pst.mk (.mk ⟨(g.1, _), ⟨_, rfl⟩, rfl⟩) (by (repeat' constructor); first | done | fail)
  · rw [Md.Lx.close, if_neg (fun h => hc (congrArg Int.ofNat h))]; exact Pst.mk (.mk ⟨_, ⟨_, rfl⟩, rfl⟩) (by (repeat' constructor); first | done | fail)
end Go.Proofs.YticnenofiibpgaaDoor.Code
