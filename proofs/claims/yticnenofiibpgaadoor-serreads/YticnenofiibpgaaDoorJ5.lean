/- SerReads returns true for every input: part 5 of the proof (several texts joined). -/
import Derived.Test.YticnenofiibpgaaDoorJ4
/- What the lexer's steps up to a sign do. -/
namespace Go.Proofs.YticnenofiibpgaaDoor.Code
open Go.Dm Go.Dm.C
set_option linter.unusedSimpArgs false
set_option linter.unusedVariables false
set_option linter.unnecessarySimpa false
set_option maxRecDepth 10000
attribute [local irreducible] Go.Dm.F Go.Dm.RS Go.Dm.Y Go.Dm.FD Go.Dm.FZ1 Go.Dm.Hold
variable {id : Nat} {s : Md.Lx} {g : Nat × Nat} {cs : List Ck}
theorem rest_adv_cons {i : Nat} (h : s.pos + i < s.inp.length) : (s.adv i).rest = s.pk i :: (s.adv (i + 1)).rest := by
  have := rest_cons (s := s.adv i) h
  rw [this, pk_adv, Nat.add_zero, ← rest_adv, adv_adv]
theorem rest_adv_nil {i : Nat} (h : s.inp.length ≤ s.pos + i) : (s.adv i).rest = [] := rest_nil (s := s.adv i) h
theorem pk_out {i : Nat} (h : s.inp.length ≤ s.pos + i) : s.pk i = -1 := by
  have := pk_nil (s := s.adv i) h
  rwa [pk_adv, Nat.add_zero] at this
theorem pk_in {i : Nat} (hn : ∀ r ∈ s.inp, 0 ≤ r) (h : s.pos + i < s.inp.length) : 0 ≤ s.pk i := by
  have := pk_nonneg (s := s.adv i) hn h
  rwa [pk_adv, Nat.add_zero] at this
theorem pk_say (rs : List Int) (n : Nat) : (s.say rs).pk n = s.pk n := rfl
theorem pk_clr (n : Nat) : s.clr.pk n = s.pk n := rfl
theorem adv_clr (n : Nat) : s.clr.adv n = (s.adv n).clr := rfl
theorem rest_clr : s.clr.rest = s.rest := rfl
theorem say_say (a b : List Int) : (s.say a).say b = s.say (a ++ b) := by simp [Md.Lx.say]
theorem say_adv (a : List Int) (n : Nat) : (s.say a).adv n = (s.adv n).say a := rfl
theorem skip_F {cs2 : List Ck} (hu : Upd1 (LX id s g) (LX id s.skip g) cs cs2) (hb : s.inp.length ≤ 1000000000 ∧ s.pos ≤ 20000000000) (hn : ∀ r ∈ s.inp, 0 ≤ r) : F D 114 [.ptr id 0] cs (fun v cs' => v = .tup [] ∧ cs2 = cs') := by
  refine F.at1 hu fun R => F.of rfl rfl rfl ?_
  repeat' first | exact arI | refine Pst.mk ⟨?_, rfl⟩ kk | constructor | (refine fun _ _ (hq : Hold _) => ?_; replace hq := hq.out; obtain ⟨_, rfl, rfl⟩ := hq) | (refine fun _ _ (hq : Hold _) => ?_; replace hq := hq.out; obtain ⟨_, _, rfl, rfl⟩ := hq) | rintro _ _ ⟨rfl, rfl⟩ | rintro _ _ ⟨_, rfl, rfl⟩ | rintro _ _ ⟨_, _, rfl, rfl⟩ | (refine fun (hc : _ = _) => ?_; (try simp only [BB] at hc)) | refine fun (_ : Nat) => ?_ | refine fun (_ : _ ≤ _) => ?_ | refine fun (_ : _ < _) => ?_
  refine RS.loopW (α := Nat) (fun i => [(0, .ptr id 0)]) (fun i => LX id (s.adv i) g :: R)
    (fun i => i + Md.skipN (s.adv i).rest = Md.skipN s.rest ∧ (i = 0 ∨ s.pos + i ≤ s.inp.length)) (fun i => s.inp.length - (s.pos + i)) 0 ⟨by simp [adv_zero], .inl rfl⟩ ⟨rfl, trivial⟩ .refl ?_
  rintro i ⟨h1, h2⟩ ih
  dsimp only [ents] at *
  (have hst := fun h => rest_adv_cons (s := s) (i := i) h; have hnil := fun h => rest_adv_nil (s := s) (i := i) h; have hpn := fun h => pk_out (s := s) (i := i) h; have hpi := fun h => pk_in (s := s) (i := i) hn h)
  repeat' first | (show LD _ _ _ _; first | exact LX.ldPos kk | exact LX.ldWay kk | exact LX.ldLast kk | exact LX.ldRoom kk | exact LX.ldDone kk | exact LX.ldText kk) | (apply RR.lxIn; exact rfl; exact rfl; exact rfl; exact kk; refine fun _ => ?_) | (apply RR.lxOut; exact rfl; exact rfl; exact rfl; exact kk; refine fun _ => ?_) | (apply RR.storeS; exact rfl; exact rfl; first | exact LX.stPos 1 rfl kk | exact LX.stPos 2 rfl kk | exact LX.stPos 3 rfl kk | exact LX.stPos 6 rfl kk | exact LX.stPos 7 rfl kk | exact LX.stPos _ rfl kk | exact LX.stPos2 1 _ kk | exact LX.stPos2 2 _ kk | exact LX.stWay kk | exact LX.stLast kk | exact LX.stRoom kk | exact LX.stDone kk; exact rfl) | (show FC _ _ _ _ _; first | exact peek0_F kk (by first | omega | ((simp only [Md.Lx.adv, Md.Lx.say, Md.Lx.clr, List.nil_append, List.length_append, List.length_cons, List.length_nil]); omega)) | exact peek1_F kk (by first | omega | ((simp only [Md.Lx.adv, Md.Lx.say, Md.Lx.clr, List.nil_append, List.length_append, List.length_cons, List.length_nil]); omega)) | exact peek6_F kk (by first | omega | ((simp only [Md.Lx.adv, Md.Lx.say, Md.Lx.clr, List.nil_append, List.length_append, List.length_cons, List.length_nil]); omega)) | exact next_F kk (by first | omega | ((simp only [Md.Lx.adv, Md.Lx.say, Md.Lx.clr, List.nil_append, List.length_append, List.length_cons, List.length_nil]); omega)) | exact back_F kk (by first | omega | ((simp only [Md.Lx.adv, Md.Lx.say, Md.Lx.clr, List.nil_append, List.length_append, List.length_cons, List.length_nil]); omega)) | exact blank_F | exact letter_F | exact small_F | exact encode_F rfl (by first | omega | ((simp only [Md.Lx.adv, Md.Lx.say, Md.Lx.clr, List.nil_append, List.length_append, List.length_cons, List.length_nil]); omega)) | exact say_F rfl kk kk (by first | omega | ((simp only [Md.Lx.adv, Md.Lx.say, Md.Lx.clr, List.nil_append, List.length_append, List.length_cons, List.length_nil]); omega)) | exact stands_F kk (by first | omega | ((simp only [Md.Lx.adv, Md.Lx.say, Md.Lx.clr, List.nil_append, List.length_append, List.length_cons, List.length_nil]); omega)) (by decide) (by first | omega | ((simp only [Md.Lx.adv, Md.Lx.say, Md.Lx.clr, List.nil_append, List.length_append, List.length_cons, List.length_nil]); omega)) | exact exact_F kk (by first | omega | ((simp only [Md.Lx.adv, Md.Lx.say, Md.Lx.clr, List.nil_append, List.length_append, List.length_cons, List.length_nil]); omega)) (by decide) (by first | omega | ((simp only [Md.Lx.adv, Md.Lx.say, Md.Lx.clr, List.nil_append, List.length_append, List.length_cons, List.length_nil]); omega))) | (refine fun (hc : _ = _) => ?_; (try simp only [BB] at hc); (try (first | contradiction | (exfalso; omega)))) | (refine Arith.mk ?_; (try intro _); simp only [Md.Lx.adv, Md.Lx.say, Md.Lx.clr, List.nil_append, List.length_append, List.length_cons, List.length_nil]; omega) | exact arI | refine Pst.mk ⟨?_, rfl⟩ kk | constructor | (refine fun _ _ (hq : Hold _) => ?_; replace hq := hq.out; obtain ⟨_, rfl, rfl⟩ := hq) | (refine fun _ _ (hq : Hold _) => ?_; replace hq := hq.out; obtain ⟨_, _, rfl, rfl⟩ := hq) | rintro _ _ ⟨rfl, rfl⟩ | rintro _ _ ⟨_, rfl, rfl⟩ | rintro _ _ ⟨_, _, rfl, rfl⟩ | (refine fun (hc : _ = _) => ?_; (try simp only [BB] at hc)) | refine fun (_ : Nat) => ?_ | refine fun (_ : _ ≤ _) => ?_ | refine fun (_ : _ < _) => ?_
  all_goals (try simp only [pk_adv, pk_say, Nat.add_zero, adv_adv, say_say, say_adv, pk_clr, adv_clr] at *)
  · have hlt : s.pos + i < s.inp.length := by by_cases h : s.pos + i < s.inp.length; exact h; rw [hpn (by omega)] at hc; omega
    rw [hst hlt] at h1
    simp only [Md.skipN, if_pos hc] at h1
    rw [Md.Lx.skip, ← h1]; exact Pst.mk ⟨trivial, rfl⟩ .refl
  · have hge : s.inp.length ≤ s.pos + i := by by_cases h : s.pos + i < s.inp.length; (have := hpi h; omega); omega
    rw [hnil hge] at h1
    rw [Md.Lx.skip, ← h1]; exact Pst.mk ⟨trivial, rfl⟩ .refl
  · have hlt : s.pos + i < s.inp.length := by by_cases h : s.pos + i < s.inp.length; exact h; rw [hpn (by omega)] at hc; omega
    rw [hst hlt] at h1
    rename_i hc1
    simp only [Md.skipN, if_neg hc1] at h1
    exact ih _ _ (i + 1) ⟨by omega, by omega⟩ (by omega) ⟨rfl, trivial⟩ kk
theorem word_F (hm : Me (LX id s g) cs) (hb : s.inp.length ≤ 1000000000 ∧ s.pos ≤ 20000000000) : F D 95 [.ptr id 0] cs (fun v cs' => v = .int .i64 (Md.word s.rest : Nat) ∧ cs = cs') := by
  refine F.atM hm fun R => F.of rfl rfl rfl ?_
  repeat' first | (show LD _ _ _ _; first | exact LX.ldPos kk | exact LX.ldWay kk | exact LX.ldLast kk | exact LX.ldRoom kk | exact LX.ldDone kk | exact LX.ldText kk) | (apply RR.lxIn; exact rfl; exact rfl; exact rfl; exact kk; refine fun _ => ?_) | (apply RR.lxOut; exact rfl; exact rfl; exact rfl; exact kk; refine fun _ => ?_) | (apply RR.storeS; exact rfl; exact rfl; first | exact LX.stPos 1 rfl kk | exact LX.stPos 2 rfl kk | exact LX.stPos 3 rfl kk | exact LX.stPos 6 rfl kk | exact LX.stPos 7 rfl kk | exact LX.stPos _ rfl kk | exact LX.stPos2 1 _ kk | exact LX.stPos2 2 _ kk | exact LX.stWay kk | exact LX.stLast kk | exact LX.stRoom kk | exact LX.stDone kk; exact rfl) | (show FC _ _ _ _ _; first | exact peek0_F kk (by first | omega | ((simp only [Md.Lx.adv, Md.Lx.say, Md.Lx.clr, List.nil_append, List.length_append, List.length_cons, List.length_nil]); omega)) | exact peek1_F kk (by first | omega | ((simp only [Md.Lx.adv, Md.Lx.say, Md.Lx.clr, List.nil_append, List.length_append, List.length_cons, List.length_nil]); omega)) | exact peek6_F kk (by first | omega | ((simp only [Md.Lx.adv, Md.Lx.say, Md.Lx.clr, List.nil_append, List.length_append, List.length_cons, List.length_nil]); omega)) | exact next_F kk (by first | omega | ((simp only [Md.Lx.adv, Md.Lx.say, Md.Lx.clr, List.nil_append, List.length_append, List.length_cons, List.length_nil]); omega)) | exact back_F kk (by first | omega | ((simp only [Md.Lx.adv, Md.Lx.say, Md.Lx.clr, List.nil_append, List.length_append, List.length_cons, List.length_nil]); omega)) | exact blank_F | exact letter_F | exact small_F | exact encode_F rfl (by first | omega | ((simp only [Md.Lx.adv, Md.Lx.say, Md.Lx.clr, List.nil_append, List.length_append, List.length_cons, List.length_nil]); omega)) | exact say_F rfl kk kk (by first | omega | ((simp only [Md.Lx.adv, Md.Lx.say, Md.Lx.clr, List.nil_append, List.length_append, List.length_cons, List.length_nil]); omega)) | exact stands_F kk (by first | omega | ((simp only [Md.Lx.adv, Md.Lx.say, Md.Lx.clr, List.nil_append, List.length_append, List.length_cons, List.length_nil]); omega)) (by decide) (by first | omega | ((simp only [Md.Lx.adv, Md.Lx.say, Md.Lx.clr, List.nil_append, List.length_append, List.length_cons, List.length_nil]); omega)) | exact exact_F kk (by first | omega | ((simp only [Md.Lx.adv, Md.Lx.say, Md.Lx.clr, List.nil_append, List.length_append, List.length_cons, List.length_nil]); omega)) (by decide) (by first | omega | ((simp only [Md.Lx.adv, Md.Lx.say, Md.Lx.clr, List.nil_append, List.length_append, List.length_cons, List.length_nil]); omega))) | (refine fun (hc : _ = _) => ?_; (try simp only [BB] at hc); (try (first | contradiction | (exfalso; omega)))) | (refine Arith.mk ?_; (try intro _); simp only [Md.Lx.adv, Md.Lx.say, Md.Lx.clr, List.nil_append, List.length_append, List.length_cons, List.length_nil]; omega) | exact arI | refine Pst.mk ⟨?_, rfl⟩ kk | constructor | (refine fun _ _ (hq : Hold _) => ?_; replace hq := hq.out; obtain ⟨_, rfl, rfl⟩ := hq) | (refine fun _ _ (hq : Hold _) => ?_; replace hq := hq.out; obtain ⟨_, _, rfl, rfl⟩ := hq) | rintro _ _ ⟨rfl, rfl⟩ | rintro _ _ ⟨_, rfl, rfl⟩ | rintro _ _ ⟨_, _, rfl, rfl⟩ | (refine fun (hc : _ = _) => ?_; (try simp only [BB] at hc)) | refine fun (_ : Nat) => ?_ | refine fun (_ : _ ≤ _) => ?_ | refine fun (_ : _ < _) => ?_
  all_goals simp only [← pk_rest, Md.word, Md.over, Bool.or_eq_true, beq_iff_eq]
  · rw [if_neg (by simp [hc])]; rfl
  · rename_i h1
    rw [if_pos ⟨h1, by simpa using hc⟩]; rfl
  · rename_i h1
    rw [if_neg (fun h => by simp_all)]; rfl
theorem over_t {r : Int} : (Md.over r = true) = ((Md.blank r = true ∨ r = 47) ∨ r = 62) := by simp [Md.over]
theorem over_f {r : Int} : (Md.over r = false) = ((Md.blank r = false ∧ ¬r = 47) ∧ ¬r = 62) := by simp [Md.over, Bool.or_eq_false_iff]
theorem nameOf_cons {r : Int} {l : List Int} : Md.nameOf (r :: l) = if Md.over r = true then [] else r :: Md.nameOf l := by
  simp only [Md.nameOf, List.takeWhile_cons]
  cases h : Md.over r <;> simp [h]
theorem name_F {cs2 : List Ck} (hu : Upd1 (LX id s g) (LX id (s.adv (Md.nameOf s.rest).length) g) cs cs2) (hb : s.inp.length ≤ 1000000000 ∧ s.pos ≤ 20000000000) (hn : ∀ r ∈ s.inp, 0 ≤ r) : F D 105 [.ptr id 0] cs (fun v cs' => v = .str (Md.encode ((Md.nameOf s.rest).map fun r => Md.small (Md.fixr r))) ∧ cs2 = cs') := by
  refine F.at1 hu fun R => F.of rfl rfl rfl ?_
  repeat' first | exact arI | refine Pst.mk ⟨?_, rfl⟩ kk | constructor | (refine fun _ _ (hq : Hold _) => ?_; replace hq := hq.out; obtain ⟨_, rfl, rfl⟩ := hq) | (refine fun _ _ (hq : Hold _) => ?_; replace hq := hq.out; obtain ⟨_, _, rfl, rfl⟩ := hq) | rintro _ _ ⟨rfl, rfl⟩ | rintro _ _ ⟨_, rfl, rfl⟩ | rintro _ _ ⟨_, _, rfl, rfl⟩ | (refine fun (hc : _ = _) => ?_; (try simp only [BB] at hc)) | refine fun (_ : Nat) => ?_ | refine fun (_ : _ ≤ _) => ?_ | refine fun (_ : _ < _) => ?_
  refine RS.nilOwn 1 (RS.loopW (α := Nat × Nat × List Int) (fun a => [(0, .ptr id 0), (3, .lst a.2.1 (zOf a.2.1 1) (a.2.2.map I32))]) (fun a => .own a.2.1 1 (a.2.2.map I32) :: LX id (s.adv a.1) g :: R)
    (fun a => a.1 + (Md.nameOf (s.adv a.1).rest).length = (Md.nameOf s.rest).length ∧ (a.1 = 0 ∨ s.pos + a.1 ≤ s.inp.length) ∧ a.2.2.length = a.1 ∧ a.2.2 ++ (Md.nameOf (s.adv a.1).rest).map (fun r => Md.small (Md.fixr r)) = (Md.nameOf s.rest).map (fun r => Md.small (Md.fixr r))) (fun a => s.inp.length - (s.pos + a.1)) (0, 0, []) ⟨by simp [adv_zero], .inl rfl, rfl, by simp [adv_zero]⟩ ⟨rfl, rfl, trivial⟩ .refl ?_)
  rintro ⟨i, tb, acc⟩ ⟨h1, h2, h3, h4⟩ ih
  dsimp only [ents] at *
  (have hst := fun h => rest_adv_cons (s := s) (i := i) h; have hnil := fun h => rest_adv_nil (s := s) (i := i) h; have hpn := fun h => pk_out (s := s) (i := i) h; have hpi := fun h => pk_in (s := s) (i := i) hn h)
  repeat' first | (show LD _ _ _ _; first | exact LX.ldPos kk | exact LX.ldWay kk | exact LX.ldLast kk | exact LX.ldRoom kk | exact LX.ldDone kk | exact LX.ldText kk) | (apply RR.lxIn; exact rfl; exact rfl; exact rfl; exact kk; refine fun _ => ?_) | (apply RR.lxOut; exact rfl; exact rfl; exact rfl; exact kk; refine fun _ => ?_) | (apply RR.storeS; exact rfl; exact rfl; first | exact LX.stPos 1 rfl kk | exact LX.stPos 2 rfl kk | exact LX.stPos 3 rfl kk | exact LX.stPos 6 rfl kk | exact LX.stPos 7 rfl kk | exact LX.stPos _ rfl kk | exact LX.stPos2 1 _ kk | exact LX.stPos2 2 _ kk | exact LX.stWay kk | exact LX.stLast kk | exact LX.stRoom kk | exact LX.stDone kk; exact rfl) | (show FC _ _ _ _ _; first | exact peek0_F kk (by first | omega | ((simp only [Md.Lx.adv, Md.Lx.say, Md.Lx.clr, List.nil_append, List.length_append, List.length_cons, List.length_nil]); omega)) | exact peek1_F kk (by first | omega | ((simp only [Md.Lx.adv, Md.Lx.say, Md.Lx.clr, List.nil_append, List.length_append, List.length_cons, List.length_nil]); omega)) | exact peek6_F kk (by first | omega | ((simp only [Md.Lx.adv, Md.Lx.say, Md.Lx.clr, List.nil_append, List.length_append, List.length_cons, List.length_nil]); omega)) | exact next_F kk (by first | omega | ((simp only [Md.Lx.adv, Md.Lx.say, Md.Lx.clr, List.nil_append, List.length_append, List.length_cons, List.length_nil]); omega)) | exact back_F kk (by first | omega | ((simp only [Md.Lx.adv, Md.Lx.say, Md.Lx.clr, List.nil_append, List.length_append, List.length_cons, List.length_nil]); omega)) | exact blank_F | exact letter_F | exact small_F | exact encode_F rfl (by first | omega | ((simp only [Md.Lx.adv, Md.Lx.say, Md.Lx.clr, List.nil_append, List.length_append, List.length_cons, List.length_nil]); omega)) | exact say_F rfl kk kk (by first | omega | ((simp only [Md.Lx.adv, Md.Lx.say, Md.Lx.clr, List.nil_append, List.length_append, List.length_cons, List.length_nil]); omega)) | exact stands_F kk (by first | omega | ((simp only [Md.Lx.adv, Md.Lx.say, Md.Lx.clr, List.nil_append, List.length_append, List.length_cons, List.length_nil]); omega)) (by decide) (by first | omega | ((simp only [Md.Lx.adv, Md.Lx.say, Md.Lx.clr, List.nil_append, List.length_append, List.length_cons, List.length_nil]); omega)) | exact exact_F kk (by first | omega | ((simp only [Md.Lx.adv, Md.Lx.say, Md.Lx.clr, List.nil_append, List.length_append, List.length_cons, List.length_nil]); omega)) (by decide) (by first | omega | ((simp only [Md.Lx.adv, Md.Lx.say, Md.Lx.clr, List.nil_append, List.length_append, List.length_cons, List.length_nil]); omega))) | (refine fun (hc : _ = _) => ?_; (try simp only [BB] at hc); (try (first | contradiction | (exfalso; omega)))) | (refine Arith.mk ?_; (try intro _); simp only [Md.Lx.adv, Md.Lx.say, Md.Lx.clr, List.nil_append, List.length_append, List.length_cons, List.length_nil]; omega) | exact arI | refine Pst.mk ⟨?_, rfl⟩ kk | constructor | (refine fun _ _ (hq : Hold _) => ?_; replace hq := hq.out; obtain ⟨_, rfl, rfl⟩ := hq) | (refine fun _ _ (hq : Hold _) => ?_; replace hq := hq.out; obtain ⟨_, _, rfl, rfl⟩ := hq) | rintro _ _ ⟨rfl, rfl⟩ | rintro _ _ ⟨_, rfl, rfl⟩ | rintro _ _ ⟨_, _, rfl, rfl⟩ | (refine fun (hc : _ = _) => ?_; (try simp only [BB] at hc)) | refine fun (_ : Nat) => ?_ | refine fun (_ : _ ≤ _) => ?_ | refine fun (_ : _ < _) => ?_
  all_goals (try simp only [pk_adv, pk_say, Nat.add_zero, adv_adv, say_say, say_adv, pk_clr, adv_clr] at *)
  · have hnil2 : Md.nameOf (s.adv i).rest = [] := by
      by_cases h : s.inp.length ≤ s.pos + i
      · rw [hnil h]; rfl
      · have := hpi (by omega)
        rw [hst (by omega), nameOf_cons, if_pos]
        rw [over_t]; exact hc.resolve_right (by omega)
    rw [hnil2] at h1 h4
    simp only [List.map_nil, List.append_nil, List.length_nil, Nat.add_zero] at h1 h4
    rw [h4, ← h1]
    exact Pst.mk ⟨rfl, rfl⟩ kk
  all_goals
    rename_i t1 q1 t2 hA
    have hlt : s.pos + i < s.inp.length := by by_cases h : s.pos + i < s.inp.length; exact h; rw [hpn (by omega)] at hA; omega
    rw [hst hlt, nameOf_cons, if_neg (by rw [Bool.not_eq_true, over_f]; exact hA.1)] at h1 h4
    simp only [List.map_cons, List.length_cons] at h1 h4
    refine ih _ _ (i + 1, t2, acc ++ [Md.small (Md.fixr (s.pk i))]) ⟨by dsimp only; omega, .inr (by dsimp only; omega), by simp [h3], by rw [← h4]; simp⟩ (by dsimp only; omega) ?_ ?_
  · simp only [Md.fixr, if_pos hc]; exact ⟨rfl, rfl, trivial⟩
  · simp only [Md.fixr, if_pos hc]; exact kk
  · simp only [Md.fixr, if_neg hc]; exact ⟨rfl, rfl, trivial⟩
  · simp only [Md.fixr, if_neg hc]; exact kk
theorem filter_le (l : List Int) : (l.filter (· != -1)).length ≤ l.length := List.length_filter_le ..
theorem take_F {n : Nat} {cs2 : Nat → List Ck} (hu : Upd (LX id s g) (fun a => LX id ((s.say (s.rest.take n)).adv n) (g.1, a)) cs cs2) (hb : s.inp.length ≤ 1000000000 ∧ s.pos ≤ 20000000000 ∧ s.text.length ≤ 80000000000) (hn : s.pos + n ≤ s.inp.length) :
    F D 96 [.ptr id 0, .int .i64 (n : Nat)] cs (fun v cs' => Hold (∃ a, v = .tup [] ∧ cs2 a = cs')) := by
  refine F.atG hu fun R => F.of rfl rfl rfl ?_
  repeat' first | exact arI | refine Pst.mk ⟨?_, rfl⟩ kk | constructor | (refine fun _ _ (hq : Hold _) => ?_; replace hq := hq.out; obtain ⟨_, rfl, rfl⟩ := hq) | (refine fun _ _ (hq : Hold _) => ?_; replace hq := hq.out; obtain ⟨_, _, rfl, rfl⟩ := hq) | rintro _ _ ⟨rfl, rfl⟩ | rintro _ _ ⟨_, rfl, rfl⟩ | rintro _ _ ⟨_, _, rfl, rfl⟩ | (refine fun (hc : _ = _) => ?_; (try simp only [BB] at hc)) | refine fun (_ : Nat) => ?_ | refine fun (_ : _ ≤ _) => ?_ | refine fun (_ : _ < _) => ?_
  refine RS.loopW (α := Nat × Nat) (fun a => [(0, .ptr id 0), (4, .int .i64 (n : Nat)), (5, .int .i64 (a.1 : Nat))]) (fun a => LX id ((s.say (s.rest.take a.1)).adv a.1) (g.1, a.2) :: R)
    (fun a => a.1 ≤ n) (fun a => n - a.1) (0, g.2) (Nat.zero_le _) ⟨rfl, rfl, rfl, trivial⟩ (by simpa [Md.Lx.say, Md.Lx.adv] using KK.refl) ?_
  rintro ⟨i, tt⟩ h1 ih
  dsimp only [ents] at *
  have hfl := filter_le (s.rest.take i)
  rw [List.length_take] at hfl
  repeat' first | (show LD _ _ _ _; first | exact LX.ldPos kk | exact LX.ldWay kk | exact LX.ldLast kk | exact LX.ldRoom kk | exact LX.ldDone kk | exact LX.ldText kk) | (apply RR.lxIn; exact rfl; exact rfl; exact rfl; exact kk; refine fun _ => ?_) | (apply RR.lxOut; exact rfl; exact rfl; exact rfl; exact kk; refine fun _ => ?_) | (apply RR.storeS; exact rfl; exact rfl; first | exact LX.stPos 1 rfl kk | exact LX.stPos 2 rfl kk | exact LX.stPos 3 rfl kk | exact LX.stPos 6 rfl kk | exact LX.stPos 7 rfl kk | exact LX.stPos _ rfl kk | exact LX.stPos2 1 _ kk | exact LX.stPos2 2 _ kk | exact LX.stWay kk | exact LX.stLast kk | exact LX.stRoom kk | exact LX.stDone kk; exact rfl) | (show FC _ _ _ _ _; first | exact peek0_F kk (by first | omega | ((simp only [Md.Lx.adv, Md.Lx.say, Md.Lx.clr, List.nil_append, List.length_append, List.length_cons, List.length_nil]); omega)) | exact peek1_F kk (by first | omega | ((simp only [Md.Lx.adv, Md.Lx.say, Md.Lx.clr, List.nil_append, List.length_append, List.length_cons, List.length_nil]); omega)) | exact peek6_F kk (by first | omega | ((simp only [Md.Lx.adv, Md.Lx.say, Md.Lx.clr, List.nil_append, List.length_append, List.length_cons, List.length_nil]); omega)) | exact next_F kk (by first | omega | ((simp only [Md.Lx.adv, Md.Lx.say, Md.Lx.clr, List.nil_append, List.length_append, List.length_cons, List.length_nil]); omega)) | exact back_F kk (by first | omega | ((simp only [Md.Lx.adv, Md.Lx.say, Md.Lx.clr, List.nil_append, List.length_append, List.length_cons, List.length_nil]); omega)) | exact blank_F | exact letter_F | exact small_F | exact encode_F rfl (by first | omega | ((simp only [Md.Lx.adv, Md.Lx.say, Md.Lx.clr, List.nil_append, List.length_append, List.length_cons, List.length_nil]); omega)) | exact say_F rfl kk kk (by first | omega | ((simp only [Md.Lx.adv, Md.Lx.say, Md.Lx.clr, List.nil_append, List.length_append, List.length_cons, List.length_nil]); omega)) | exact stands_F kk (by first | omega | ((simp only [Md.Lx.adv, Md.Lx.say, Md.Lx.clr, List.nil_append, List.length_append, List.length_cons, List.length_nil]); omega)) (by decide) (by first | omega | ((simp only [Md.Lx.adv, Md.Lx.say, Md.Lx.clr, List.nil_append, List.length_append, List.length_cons, List.length_nil]); omega)) | exact exact_F kk (by first | omega | ((simp only [Md.Lx.adv, Md.Lx.say, Md.Lx.clr, List.nil_append, List.length_append, List.length_cons, List.length_nil]); omega)) (by decide) (by first | omega | ((simp only [Md.Lx.adv, Md.Lx.say, Md.Lx.clr, List.nil_append, List.length_append, List.length_cons, List.length_nil]); omega))) | (refine fun (hc : _ = _) => ?_; (try simp only [BB] at hc); (try (first | contradiction | (exfalso; omega)))) | (refine Arith.mk ?_; (try intro _); simp only [Md.Lx.adv, Md.Lx.say, Md.Lx.clr, List.nil_append, List.length_append, List.length_cons, List.length_nil]; omega) | exact arI | refine Pst.mk ⟨?_, rfl⟩ kk | constructor | (refine fun _ _ (hq : Hold _) => ?_; replace hq := hq.out; obtain ⟨_, rfl, rfl⟩ := hq) | (refine fun _ _ (hq : Hold _) => ?_; replace hq := hq.out; obtain ⟨_, _, rfl, rfl⟩ := hq) | rintro _ _ ⟨rfl, rfl⟩ | rintro _ _ ⟨_, rfl, rfl⟩ | rintro _ _ ⟨_, _, rfl, rfl⟩ | (refine fun (hc : _ = _) => ?_; (try simp only [BB] at hc)) | refine fun (_ : Nat) => ?_ | refine fun (_ : _ ≤ _) => ?_ | refine fun (_ : _ < _) => ?_
  all_goals (try simp only [pk_adv, pk_say, Nat.add_zero, adv_adv, say_say, say_adv, pk_clr, adv_clr] at *)
  · rename_i t1 q1 t2
    have e : s.rest.take (i + 1) = s.rest.take i ++ [s.pk i] := by
      rw [List.take_add_one, List.getElem?_eq_getElem (by rw [rest_len]; omega), pk_rest, List.getD_eq_getElem?_getD, List.getElem?_eq_getElem (by rw [rest_len]; omega)]; rfl
    refine ih _ _ (i + 1, t2) (by dsimp only; omega) (by dsimp only; omega) ⟨rfl, rfl, rfl, trivial⟩ ?_
    dsimp only; rw [e]; exact kk
  · obtain rfl : i = n := by omega
    exact Pst.mk (.mk ⟨tt, trivial, rfl⟩) .refl
theorem headD_adv (i : Nat) : (s.adv i).rest.headD (-1) = s.pk i := by rw [rest_adv, head_drop]
theorem tail_adv (i : Nat) : (s.adv i).rest.tail = (s.adv (i + 1)).rest := by rw [rest_adv, rest_adv, List.tail_drop]
theorem sec_len : ∀ l : List Int, (Md.sectionGo l).1.length ≤ l.length ∧ (Md.sectionGo l).2 ≤ l.length
  | [] => by simp [Md.sectionGo]
  | r :: l => by
    have := sec_len l
    simp only [Md.sectionGo]
    split
    · rename_i h
      cases l with
      | nil => simp at h
      | cons a l => cases l with
        | nil => simp at h
        | cons b l => simp
    · simp only [List.length_cons]; omega
theorem section_F {cs2 : Nat → List Ck} (hu : Upd (LX id s g) (fun a => LX id s.section_ (g.1, a)) cs cs2) (hb : s.inp.length ≤ 1000000000 ∧ s.pos ≤ 20000000000 ∧ s.text.length ≤ 80000000000) (hn : ∀ r ∈ s.inp, 0 ≤ r) :
    F D 104 [.ptr id 0] cs (fun v cs' => Hold (∃ a, v = .tup [] ∧ cs2 a = cs')) := by
  refine F.atG hu fun R => F.of rfl rfl rfl ?_
  repeat' first | exact arI | refine Pst.mk ⟨?_, rfl⟩ kk | constructor | (refine fun _ _ (hq : Hold _) => ?_; replace hq := hq.out; obtain ⟨_, rfl, rfl⟩ := hq) | (refine fun _ _ (hq : Hold _) => ?_; replace hq := hq.out; obtain ⟨_, _, rfl, rfl⟩ := hq) | rintro _ _ ⟨rfl, rfl⟩ | rintro _ _ ⟨_, rfl, rfl⟩ | rintro _ _ ⟨_, _, rfl, rfl⟩ | (refine fun (hc : _ = _) => ?_; (try simp only [BB] at hc)) | refine fun (_ : Nat) => ?_ | refine fun (_ : _ ≤ _) => ?_ | refine fun (_ : _ < _) => ?_
  refine RS.loopW (α := Nat × Nat × List Int) (fun a => [(0, .ptr id 0)]) (fun a => LX id ((s.adv a.1).say a.2.2) (g.1, a.2.1) :: R)
    (fun a => a.2.2.length = a.1 ∧ (a.1 = 0 ∨ s.pos + a.1 ≤ s.inp.length) ∧ a.2.2 ++ (Md.sectionGo (s.adv a.1).rest).1 = (Md.sectionGo s.rest).1 ∧ a.1 + (Md.sectionGo (s.adv a.1).rest).2 = (Md.sectionGo s.rest).2) (fun a => s.inp.length - (s.pos + a.1)) (0, g.2, []) ⟨rfl, .inl rfl, by simp [adv_zero], by simp [adv_zero]⟩ ⟨rfl, trivial⟩ (by simpa [Md.Lx.say, Md.Lx.adv] using KK.refl) ?_
  rintro ⟨i, tt, acc⟩ ⟨h1, h2, h3, h4⟩ ih
  dsimp only [ents] at *
  have hfl := filter_le acc
  (have hst := fun h => rest_adv_cons (s := s) (i := i) h; have hnil := fun h => rest_adv_nil (s := s) (i := i) h; have hpn := fun h => pk_out (s := s) (i := i) h; have hpi := fun h => pk_in (s := s) (i := i) hn h)
  have hgo : s.pos + i < s.inp.length → Md.sectionGo (s.adv i).rest = if s.pk i = 93 ∧ s.pk (i + 1) = 93 ∧ s.pk (i + 1 + 1) = 62 then ([], 3) else (s.pk i :: (Md.sectionGo (s.adv (i + 1)).rest).1, (Md.sectionGo (s.adv (i + 1)).rest).2 + 1) := fun h => by
    rw [hst h]; simp only [Md.sectionGo, headD_adv, tail_adv]
  repeat' first | (show LD _ _ _ _; first | exact LX.ldPos kk | exact LX.ldWay kk | exact LX.ldLast kk | exact LX.ldRoom kk | exact LX.ldDone kk | exact LX.ldText kk) | (apply RR.lxIn; exact rfl; exact rfl; exact rfl; exact kk; refine fun _ => ?_) | (apply RR.lxOut; exact rfl; exact rfl; exact rfl; exact kk; refine fun _ => ?_) | (apply RR.storeS; exact rfl; exact rfl; first | exact LX.stPos 1 rfl kk | exact LX.stPos 2 rfl kk | exact LX.stPos 3 rfl kk | exact LX.stPos 6 rfl kk | exact LX.stPos 7 rfl kk | exact LX.stPos _ rfl kk | exact LX.stPos2 1 _ kk | exact LX.stPos2 2 _ kk | exact LX.stWay kk | exact LX.stLast kk | exact LX.stRoom kk | exact LX.stDone kk; exact rfl) | (show FC _ _ _ _ _; first | exact peek0_F kk (by first | omega | ((simp only [Md.Lx.adv, Md.Lx.say, Md.Lx.clr, List.nil_append, List.length_append, List.length_cons, List.length_nil]); omega)) | exact peek1_F kk (by first | omega | ((simp only [Md.Lx.adv, Md.Lx.say, Md.Lx.clr, List.nil_append, List.length_append, List.length_cons, List.length_nil]); omega)) | exact peek6_F kk (by first | omega | ((simp only [Md.Lx.adv, Md.Lx.say, Md.Lx.clr, List.nil_append, List.length_append, List.length_cons, List.length_nil]); omega)) | exact next_F kk (by first | omega | ((simp only [Md.Lx.adv, Md.Lx.say, Md.Lx.clr, List.nil_append, List.length_append, List.length_cons, List.length_nil]); omega)) | exact back_F kk (by first | omega | ((simp only [Md.Lx.adv, Md.Lx.say, Md.Lx.clr, List.nil_append, List.length_append, List.length_cons, List.length_nil]); omega)) | exact blank_F | exact letter_F | exact small_F | exact encode_F rfl (by first | omega | ((simp only [Md.Lx.adv, Md.Lx.say, Md.Lx.clr, List.nil_append, List.length_append, List.length_cons, List.length_nil]); omega)) | exact say_F rfl kk kk (by first | omega | ((simp only [Md.Lx.adv, Md.Lx.say, Md.Lx.clr, List.nil_append, List.length_append, List.length_cons, List.length_nil]); omega)) | exact stands_F kk (by first | omega | ((simp only [Md.Lx.adv, Md.Lx.say, Md.Lx.clr, List.nil_append, List.length_append, List.length_cons, List.length_nil]); omega)) (by decide) (by first | omega | ((simp only [Md.Lx.adv, Md.Lx.say, Md.Lx.clr, List.nil_append, List.length_append, List.length_cons, List.length_nil]); omega)) | exact exact_F kk (by first | omega | ((simp only [Md.Lx.adv, Md.Lx.say, Md.Lx.clr, List.nil_append, List.length_append, List.length_cons, List.length_nil]); omega)) (by decide) (by first | omega | ((simp only [Md.Lx.adv, Md.Lx.say, Md.Lx.clr, List.nil_append, List.length_append, List.length_cons, List.length_nil]); omega))) | (refine fun (hc : _ = _) => ?_; (try simp only [BB] at hc); (try (first | contradiction | (exfalso; omega)))) | (refine Arith.mk ?_; (try intro _); simp only [Md.Lx.adv, Md.Lx.say, Md.Lx.clr, List.nil_append, List.length_append, List.length_cons, List.length_nil]; omega) | exact arI | refine Pst.mk ⟨?_, rfl⟩ kk | constructor | (refine fun _ _ (hq : Hold _) => ?_; replace hq := hq.out; obtain ⟨_, rfl, rfl⟩ := hq) | (refine fun _ _ (hq : Hold _) => ?_; replace hq := hq.out; obtain ⟨_, _, rfl, rfl⟩ := hq) | rintro _ _ ⟨rfl, rfl⟩ | rintro _ _ ⟨_, rfl, rfl⟩ | rintro _ _ ⟨_, _, rfl, rfl⟩ | (refine fun (hc : _ = _) => ?_; (try simp only [BB] at hc)) | refine fun (_ : Nat) => ?_ | refine fun (_ : _ ≤ _) => ?_ | refine fun (_ : _ < _) => ?_
  all_goals (try simp only [pk_adv, pk_say, Nat.add_zero, adv_adv, say_say, say_adv, pk_clr, adv_clr] at *)
  · have hge : s.inp.length ≤ s.pos + i := by by_cases h : s.pos + i < s.inp.length; (have := hpi h; omega); omega
    rw [hnil hge] at h3 h4
    simp only [Md.sectionGo, List.append_nil, Nat.add_zero] at h3 h4
    rw [Md.Lx.section_, ← h3, ← h4]
    exact Pst.mk (.mk ⟨tt, trivial, rfl⟩) .refl
  · have hlt : s.pos + i < s.inp.length := by by_cases h : s.pos + i < s.inp.length; exact h; rw [hpn (by omega)] at hc; omega
    rw [hgo hlt, if_pos ⟨hc.1.1, hc.1.2, hc.2⟩] at h3 h4
    simp only [List.append_nil] at h3 h4
    rw [Md.Lx.section_, ← h3, ← h4]
    exact Pst.mk (.mk ⟨tt, trivial, rfl⟩) .refl
  all_goals
    have hlt : s.pos + i < s.inp.length := by by_cases h : s.pos + i < s.inp.length; exact h; have := hpn (by omega); omega
    rw [hgo hlt, if_neg (fun h => by omega)] at h3 h4
    refine ih _ _ (i + 1, _, acc ++ [s.pk i]) ⟨by simp [h1], .inr (by dsimp only; omega), by rw [← h3]; simp, by rw [← h4]; dsimp only; omega⟩ (by dsimp only; omega) ⟨rfl, trivial⟩ kk
theorem bogusGo_cons {r : Int} {l : List Int} : Md.bogusGo (r :: l) = if r = 62 then ([], 1) else (Md.fixr r :: (Md.bogusGo l).1, (Md.bogusGo l).2 + 1) := rfl
theorem bogus_F {cs2 : Nat × Nat → List Ck} (hu : Upd (LX id s g) (fun a => LX id s.bogus a) cs cs2) (hb : s.inp.length ≤ 1000000000 ∧ s.pos ≤ 20000000000 ∧ s.text.length ≤ 80000000000 ∧ s.out.length ≤ 10000000) (hn : ∀ r ∈ s.inp, 0 ≤ r) :
    F D 92 [.ptr id 0] cs (fun v cs' => Hold (∃ a, v = .tup [] ∧ cs2 a = cs')) := by
  refine F.atG hu fun R => F.of rfl rfl rfl ?_
  repeat' first | exact arI | refine Pst.mk ⟨?_, rfl⟩ kk | constructor | (refine fun _ _ (hq : Hold _) => ?_; replace hq := hq.out; obtain ⟨_, rfl, rfl⟩ := hq) | (refine fun _ _ (hq : Hold _) => ?_; replace hq := hq.out; obtain ⟨_, _, rfl, rfl⟩ := hq) | rintro _ _ ⟨rfl, rfl⟩ | rintro _ _ ⟨_, rfl, rfl⟩ | rintro _ _ ⟨_, _, rfl, rfl⟩ | (refine fun (hc : _ = _) => ?_; (try simp only [BB] at hc)) | refine fun (_ : Nat) => ?_ | refine fun (_ : _ ≤ _) => ?_ | refine fun (_ : _ < _) => ?_
  refine RS.nilOwn 1 (RS.loopW (α := Nat × Nat × List Int) (fun a => [(0, .ptr id 0), (2, .lst a.2.1 (zOf a.2.1 1) (a.2.2.map I32))]) (fun a => .own a.2.1 1 (a.2.2.map I32) :: LX id (s.adv a.1) g :: R)
    (fun a => a.2.2.length = a.1 ∧ (a.1 = 0 ∨ s.pos + a.1 ≤ s.inp.length) ∧ a.2.2 ++ (Md.bogusGo (s.adv a.1).rest).1 = (Md.bogusGo s.rest).1 ∧ a.1 + (Md.bogusGo (s.adv a.1).rest).2 = (Md.bogusGo s.rest).2) (fun a => s.inp.length - (s.pos + a.1)) (0, 0, []) ⟨rfl, .inl rfl, by simp [adv_zero], by simp [adv_zero]⟩ ⟨rfl, rfl, trivial⟩ .refl ?_)
  rintro ⟨i, tb, acc⟩ ⟨h1, h2, h3, h4⟩ ih
  dsimp only [ents] at *
  (have hst := fun h => rest_adv_cons (s := s) (i := i) h; have hnil := fun h => rest_adv_nil (s := s) (i := i) h; have hpn := fun h => pk_out (s := s) (i := i) h; have hpi := fun h => pk_in (s := s) (i := i) hn h)
  repeat' first | (show LD _ _ _ _; first | exact LX.ldPos kk | exact LX.ldWay kk | exact LX.ldLast kk | exact LX.ldRoom kk | exact LX.ldDone kk | exact LX.ldText kk) | (apply RR.lxIn; exact rfl; exact rfl; exact rfl; exact kk; refine fun _ => ?_) | (apply RR.lxOut; exact rfl; exact rfl; exact rfl; exact kk; refine fun _ => ?_) | (apply RR.storeS; exact rfl; exact rfl; first | exact LX.stPos 1 rfl kk | exact LX.stPos 2 rfl kk | exact LX.stPos 3 rfl kk | exact LX.stPos 6 rfl kk | exact LX.stPos 7 rfl kk | exact LX.stPos _ rfl kk | exact LX.stPos2 1 _ kk | exact LX.stPos2 2 _ kk | exact LX.stWay kk | exact LX.stLast kk | exact LX.stRoom kk | exact LX.stDone kk; exact rfl) | (show FC _ _ _ _ _; first | exact emit_F (t := Md.commentTok acc) (ta := 0) rfl kk (by first | omega | ((simp only [Md.Lx.adv, Md.Lx.say, Md.Lx.clr, List.nil_append, List.length_append, List.length_cons, List.length_nil]); omega)) | exact peek0_F kk (by first | omega | ((simp only [Md.Lx.adv, Md.Lx.say, Md.Lx.clr, List.nil_append, List.length_append, List.length_cons, List.length_nil]); omega)) | exact peek1_F kk (by first | omega | ((simp only [Md.Lx.adv, Md.Lx.say, Md.Lx.clr, List.nil_append, List.length_append, List.length_cons, List.length_nil]); omega)) | exact peek6_F kk (by first | omega | ((simp only [Md.Lx.adv, Md.Lx.say, Md.Lx.clr, List.nil_append, List.length_append, List.length_cons, List.length_nil]); omega)) | exact next_F kk (by first | omega | ((simp only [Md.Lx.adv, Md.Lx.say, Md.Lx.clr, List.nil_append, List.length_append, List.length_cons, List.length_nil]); omega)) | exact back_F kk (by first | omega | ((simp only [Md.Lx.adv, Md.Lx.say, Md.Lx.clr, List.nil_append, List.length_append, List.length_cons, List.length_nil]); omega)) | exact blank_F | exact letter_F | exact small_F | exact encode_F rfl (by first | omega | ((simp only [Md.Lx.adv, Md.Lx.say, Md.Lx.clr, List.nil_append, List.length_append, List.length_cons, List.length_nil]); omega)) | exact say_F rfl kk kk (by first | omega | ((simp only [Md.Lx.adv, Md.Lx.say, Md.Lx.clr, List.nil_append, List.length_append, List.length_cons, List.length_nil]); omega)) | exact stands_F kk (by first | omega | ((simp only [Md.Lx.adv, Md.Lx.say, Md.Lx.clr, List.nil_append, List.length_append, List.length_cons, List.length_nil]); omega)) (by decide) (by first | omega | ((simp only [Md.Lx.adv, Md.Lx.say, Md.Lx.clr, List.nil_append, List.length_append, List.length_cons, List.length_nil]); omega)) | exact exact_F kk (by first | omega | ((simp only [Md.Lx.adv, Md.Lx.say, Md.Lx.clr, List.nil_append, List.length_append, List.length_cons, List.length_nil]); omega)) (by decide) (by first | omega | ((simp only [Md.Lx.adv, Md.Lx.say, Md.Lx.clr, List.nil_append, List.length_append, List.length_cons, List.length_nil]); omega))) | exact arI | refine Pst.mk ⟨?_, rfl⟩ kk | constructor | (refine fun _ _ (hq : Hold _) => ?_; replace hq := hq.out; obtain ⟨_, rfl, rfl⟩ := hq) | (refine fun _ _ (hq : Hold _) => ?_; replace hq := hq.out; obtain ⟨_, _, rfl, rfl⟩ := hq) | rintro _ _ ⟨rfl, rfl⟩ | rintro _ _ ⟨_, rfl, rfl⟩ | rintro _ _ ⟨_, _, rfl, rfl⟩ | (refine fun (hc : _ = _) => ?_; (try simp only [BB] at hc)) | refine fun (_ : Nat) => ?_ | refine fun (_ : _ ≤ _) => ?_ | refine fun (_ : _ < _) => ?_
  all_goals (try simp only [pk_adv, pk_say, Nat.add_zero, adv_adv, say_say, say_adv, pk_clr, adv_clr] at *)
  all_goals try (exfalso; omega)
  · have hlt : s.pos + i < s.inp.length := by by_cases h : s.pos + i < s.inp.length; exact h; have := hpn (by omega); omega
    rw [hst hlt, bogusGo_cons, if_pos (by omega)] at h3 h4
    simp only [List.append_nil] at h3 h4
    rw [Md.Lx.bogus, ← h3, ← h4]
    exact Pst.mk (.mk ⟨_, trivial, rfl⟩) kk
  · have hge : s.inp.length ≤ s.pos + i := by by_cases h : s.pos + i < s.inp.length; (have := hpi h; omega); omega
    rw [hnil hge] at h3 h4
    simp only [Md.bogusGo, List.append_nil, Nat.add_zero] at h3 h4
    rw [Md.Lx.bogus, ← h3, ← h4]
    exact Pst.mk (.mk ⟨_, trivial, rfl⟩) kk
  · have hlt : s.pos + i < s.inp.length := by by_cases h : s.pos + i < s.inp.length; exact h; have := hpn (by omega); omega
    rw [hst hlt, bogusGo_cons, if_neg (by omega)] at h3 h4
    rw [Md.fixr, if_pos hc] at h3 
    exact ih _ _ (i + 1, _, acc ++ [65533]) ⟨by simp [h1], .inr (by dsimp only; omega), by rw [← h3]; simp, by rw [← h4]; dsimp only; omega⟩ (by dsimp only; omega) ⟨rfl, rfl, trivial⟩ kk
  · have hlt : s.pos + i < s.inp.length := by by_cases h : s.pos + i < s.inp.length; exact h; have := hpn (by omega); omega
    rw [hst hlt, bogusGo_cons, if_neg (by omega)] at h3 h4
    rw [Md.fixr, if_neg hc] at h3 
    exact ih _ _ (i + 1, _, acc ++ [s.pk i]) ⟨by simp [h1], .inr (by dsimp only; omega), by rw [← h3]; simp, by rw [← h4]; dsimp only; omega⟩ (by dsimp only; omega) ⟨rfl, rfl, trivial⟩ kk
theorem quotedGo_cons {q r : Int} {l : List Int} : Md.quotedGo q (r :: l) = if r = q then ([], true, 1) else if r = 62 then ([], false, 1) else (Md.fixr r :: (Md.quotedGo q l).1, (Md.quotedGo q l).2.1, (Md.quotedGo q l).2.2 + 1) := rfl
theorem quoted_F {cs2 : List Ck} (hu : Upd1 (LX id s g) (LX id (s.adv (Md.quoted s.rest).2.2.2) g) cs cs2) (hb : s.inp.length ≤ 1000000000 ∧ s.pos ≤ 20000000000) (hn : ∀ r ∈ s.inp, 0 ≤ r) :
    F D 115 [.ptr id 0] cs (fun v cs' => v = .tup [.str (Md.quoted s.rest).1, .bool (Md.quoted s.rest).2.1, .bool (Md.quoted s.rest).2.2.1] ∧ cs2 = cs') := by
  have hq : Md.quoted s.rest = if s.pk 0 = 34 ∨ s.pk 0 = 39 then (Md.encode (Md.quotedGo (s.pk 0) (s.adv 1).rest).1, true, (Md.quotedGo (s.pk 0) (s.adv 1).rest).2.1, (Md.quotedGo (s.pk 0) (s.adv 1).rest).2.2 + 1) else ([], false, false, Md.skipN s.rest) := by
    simp only [Md.quoted, ← tail_adv, show (s.adv 0) = s from rfl, show s.rest.headD (-1) = s.pk 0 from headD_adv 0]
  refine F.at1 hu fun R => F.of rfl rfl rfl ?_
  repeat' first | (show LD _ _ _ _; first | exact LX.ldPos kk | exact LX.ldWay kk | exact LX.ldLast kk | exact LX.ldRoom kk | exact LX.ldDone kk | exact LX.ldText kk) | (apply RR.lxIn; exact rfl; exact rfl; exact rfl; exact kk; refine fun _ => ?_) | (apply RR.lxOut; exact rfl; exact rfl; exact rfl; exact kk; refine fun _ => ?_) | (apply RR.storeS; exact rfl; exact rfl; first | exact LX.stPos 1 rfl kk | exact LX.stPos 2 rfl kk | exact LX.stPos 3 rfl kk | exact LX.stPos 6 rfl kk | exact LX.stPos 7 rfl kk | exact LX.stPos _ rfl kk | exact LX.stPos2 1 _ kk | exact LX.stPos2 2 _ kk | exact LX.stWay kk | exact LX.stLast kk | exact LX.stRoom kk | exact LX.stDone kk; exact rfl) | (show FC _ _ _ _ _; first | exact skip_F kk hb hn | exact peek0_F kk (by first | omega | ((simp only [Md.Lx.adv, Md.Lx.say, Md.Lx.clr, List.nil_append, List.length_append, List.length_cons, List.length_nil]); omega)) | exact peek1_F kk (by first | omega | ((simp only [Md.Lx.adv, Md.Lx.say, Md.Lx.clr, List.nil_append, List.length_append, List.length_cons, List.length_nil]); omega)) | exact peek6_F kk (by first | omega | ((simp only [Md.Lx.adv, Md.Lx.say, Md.Lx.clr, List.nil_append, List.length_append, List.length_cons, List.length_nil]); omega)) | exact next_F kk (by first | omega | ((simp only [Md.Lx.adv, Md.Lx.say, Md.Lx.clr, List.nil_append, List.length_append, List.length_cons, List.length_nil]); omega)) | exact back_F kk (by first | omega | ((simp only [Md.Lx.adv, Md.Lx.say, Md.Lx.clr, List.nil_append, List.length_append, List.length_cons, List.length_nil]); omega)) | exact blank_F | exact letter_F | exact small_F | exact encode_F rfl (by first | omega | ((simp only [Md.Lx.adv, Md.Lx.say, Md.Lx.clr, List.nil_append, List.length_append, List.length_cons, List.length_nil]); omega)) | exact say_F rfl kk kk (by first | omega | ((simp only [Md.Lx.adv, Md.Lx.say, Md.Lx.clr, List.nil_append, List.length_append, List.length_cons, List.length_nil]); omega)) | exact stands_F kk (by first | omega | ((simp only [Md.Lx.adv, Md.Lx.say, Md.Lx.clr, List.nil_append, List.length_append, List.length_cons, List.length_nil]); omega)) (by decide) (by first | omega | ((simp only [Md.Lx.adv, Md.Lx.say, Md.Lx.clr, List.nil_append, List.length_append, List.length_cons, List.length_nil]); omega)) | exact exact_F kk (by first | omega | ((simp only [Md.Lx.adv, Md.Lx.say, Md.Lx.clr, List.nil_append, List.length_append, List.length_cons, List.length_nil]); omega)) (by decide) (by first | omega | ((simp only [Md.Lx.adv, Md.Lx.say, Md.Lx.clr, List.nil_append, List.length_append, List.length_cons, List.length_nil]); omega))) | exact arI | refine Pst.mk ⟨?_, rfl⟩ kk | constructor | (refine fun _ _ (hq : Hold _) => ?_; replace hq := hq.out; obtain ⟨_, rfl, rfl⟩ := hq) | (refine fun _ _ (hq : Hold _) => ?_; replace hq := hq.out; obtain ⟨_, _, rfl, rfl⟩ := hq) | rintro _ _ ⟨rfl, rfl⟩ | rintro _ _ ⟨_, rfl, rfl⟩ | rintro _ _ ⟨_, _, rfl, rfl⟩ | (refine fun (hc : _ = _) => ?_; (try simp only [BB] at hc)) | refine fun (_ : Nat) => ?_ | refine fun (_ : _ ≤ _) => ?_ | refine fun (_ : _ < _) => ?_
  · rw [if_neg (by omega)] at hq
    rw [hq]; exact Pst.mk ⟨rfl, rfl⟩ .refl
  rw [if_pos (by omega)] at hq
  have h0 : s.pos + 0 < s.inp.length := by by_cases h : s.pos + 0 < s.inp.length; exact h; have := pk_out (s := s) (i := 0) (by omega); omega
  refine RS.nilOwn 1 (RS.loopW (α := Nat × Nat × List Int) (fun a => [(0, .ptr id 0), (5, .int .i32 (s.pk 0)), (6, .lst a.2.1 (zOf a.2.1 1) (a.2.2.map I32))]) (fun a => .own a.2.1 1 (a.2.2.map I32) :: LX id (s.adv a.1) g :: R)
    (fun a => a.2.2.length ≤ a.1 ∧ s.pos + a.1 ≤ s.inp.length ∧ a.2.2 ++ (Md.quotedGo (s.pk 0) (s.adv a.1).rest).1 = (Md.quotedGo (s.pk 0) (s.adv 1).rest).1 ∧ (Md.quotedGo (s.pk 0) (s.adv a.1).rest).2.1 = (Md.quotedGo (s.pk 0) (s.adv 1).rest).2.1 ∧ a.1 + (Md.quotedGo (s.pk 0) (s.adv a.1).rest).2.2 = 1 + (Md.quotedGo (s.pk 0) (s.adv 1).rest).2.2) (fun a => s.inp.length - (s.pos + a.1)) (1, 0, []) ⟨by simp, by dsimp only; omega, by simp, rfl, rfl⟩ ⟨rfl, rfl, rfl, trivial⟩ .refl ?_)
  rintro ⟨i, tb, acc⟩ ⟨h1, h2, h3, h4, h5⟩ ih
  dsimp only [ents] at *
  (have hst := fun h => rest_adv_cons (s := s) (i := i) h; have hnil := fun h => rest_adv_nil (s := s) (i := i) h; have hpn := fun h => pk_out (s := s) (i := i) h; have hpi := fun h => pk_in (s := s) (i := i) hn h)
  repeat' first | (show LD _ _ _ _; first | exact LX.ldPos kk | exact LX.ldWay kk | exact LX.ldLast kk | exact LX.ldRoom kk | exact LX.ldDone kk | exact LX.ldText kk) | (apply RR.lxIn; exact rfl; exact rfl; exact rfl; exact kk; refine fun _ => ?_) | (apply RR.lxOut; exact rfl; exact rfl; exact rfl; exact kk; refine fun _ => ?_) | (apply RR.storeS; exact rfl; exact rfl; first | exact LX.stPos 1 rfl kk | exact LX.stPos 2 rfl kk | exact LX.stPos 3 rfl kk | exact LX.stPos 6 rfl kk | exact LX.stPos 7 rfl kk | exact LX.stPos _ rfl kk | exact LX.stPos2 1 _ kk | exact LX.stPos2 2 _ kk | exact LX.stWay kk | exact LX.stLast kk | exact LX.stRoom kk | exact LX.stDone kk; exact rfl) | (show FC _ _ _ _ _; first | exact peek0_F kk (by first | omega | ((simp only [Md.Lx.adv, Md.Lx.say, Md.Lx.clr, List.nil_append, List.length_append, List.length_cons, List.length_nil]); omega)) | exact peek1_F kk (by first | omega | ((simp only [Md.Lx.adv, Md.Lx.say, Md.Lx.clr, List.nil_append, List.length_append, List.length_cons, List.length_nil]); omega)) | exact peek6_F kk (by first | omega | ((simp only [Md.Lx.adv, Md.Lx.say, Md.Lx.clr, List.nil_append, List.length_append, List.length_cons, List.length_nil]); omega)) | exact next_F kk (by first | omega | ((simp only [Md.Lx.adv, Md.Lx.say, Md.Lx.clr, List.nil_append, List.length_append, List.length_cons, List.length_nil]); omega)) | exact back_F kk (by first | omega | ((simp only [Md.Lx.adv, Md.Lx.say, Md.Lx.clr, List.nil_append, List.length_append, List.length_cons, List.length_nil]); omega)) | exact blank_F | exact letter_F | exact small_F | exact encode_F rfl (by first | omega | ((simp only [Md.Lx.adv, Md.Lx.say, Md.Lx.clr, List.nil_append, List.length_append, List.length_cons, List.length_nil]); omega)) | exact say_F rfl kk kk (by first | omega | ((simp only [Md.Lx.adv, Md.Lx.say, Md.Lx.clr, List.nil_append, List.length_append, List.length_cons, List.length_nil]); omega)) | exact stands_F kk (by first | omega | ((simp only [Md.Lx.adv, Md.Lx.say, Md.Lx.clr, List.nil_append, List.length_append, List.length_cons, List.length_nil]); omega)) (by decide) (by first | omega | ((simp only [Md.Lx.adv, Md.Lx.say, Md.Lx.clr, List.nil_append, List.length_append, List.length_cons, List.length_nil]); omega)) | exact exact_F kk (by first | omega | ((simp only [Md.Lx.adv, Md.Lx.say, Md.Lx.clr, List.nil_append, List.length_append, List.length_cons, List.length_nil]); omega)) (by decide) (by first | omega | ((simp only [Md.Lx.adv, Md.Lx.say, Md.Lx.clr, List.nil_append, List.length_append, List.length_cons, List.length_nil]); omega))) | (refine fun (hc : _ = _) => ?_; (try simp only [BB] at hc); (try (first | contradiction | (exfalso; omega)))) | (refine Arith.mk ?_; (try intro _); simp only [Md.Lx.adv, Md.Lx.say, Md.Lx.clr, List.nil_append, List.length_append, List.length_cons, List.length_nil]; omega) | exact arI | refine Pst.mk ⟨?_, rfl⟩ kk | constructor | (refine fun _ _ (hq : Hold _) => ?_; replace hq := hq.out; obtain ⟨_, rfl, rfl⟩ := hq) | (refine fun _ _ (hq : Hold _) => ?_; replace hq := hq.out; obtain ⟨_, _, rfl, rfl⟩ := hq) | rintro _ _ ⟨rfl, rfl⟩ | rintro _ _ ⟨_, rfl, rfl⟩ | rintro _ _ ⟨_, _, rfl, rfl⟩ | (refine fun (hc : _ = _) => ?_; (try simp only [BB] at hc)) | refine fun (_ : Nat) => ?_ | refine fun (_ : _ ≤ _) => ?_ | refine fun (_ : _ < _) => ?_
  all_goals (try simp only [pk_adv, pk_say, Nat.add_zero, adv_adv, say_say, say_adv, pk_clr, adv_clr] at *)
  all_goals try (exfalso; omega)
  · have hlt : s.pos + i < s.inp.length := by by_cases h : s.pos + i < s.inp.length; exact h; have := hpn (by omega); omega
    rw [hst hlt, quotedGo_cons, if_pos hc] at h3 h4 h5
    simp only [List.append_nil] at h3 h4 h5
    rw [hq, ← h3, ← h4, Nat.add_comm, ← h5]
    exact Pst.mk ⟨rfl, rfl⟩ kk
  · have hlt : s.pos + i < s.inp.length := by by_cases h : s.pos + i < s.inp.length; exact h; have := hpn (by omega); omega
    rename_i hcc
    rw [hst hlt, quotedGo_cons, if_neg hcc, if_pos hc] at h3 h4 h5
    simp only [List.append_nil] at h3 h4 h5
    rw [hq, ← h3, ← h4, Nat.add_comm, ← h5]
    exact Pst.mk ⟨rfl, rfl⟩ kk
  · have hge : s.inp.length ≤ s.pos + i := by by_cases h : s.pos + i < s.inp.length; (have := hpi h; omega); omega
    rw [hnil hge] at h3 h4 h5
    simp only [Md.quotedGo, List.append_nil, Nat.add_zero] at h3 h4 h5
    rw [hq, ← h3, ← h4, Nat.add_comm, ← h5]
    exact Pst.mk ⟨rfl, rfl⟩ kk
  all_goals
    have hlt : s.pos + i < s.inp.length := by by_cases h : s.pos + i < s.inp.length; exact h; have := hpn (by omega); omega
    rw [hst hlt, quotedGo_cons, if_neg (by omega), if_neg (by omega)] at h3 h4 h5
  · rw [Md.fixr, if_pos hc] at h3
    exact ih _ _ (i + 1, _, acc ++ [65533]) ⟨by simp; omega, by dsimp only; omega, by rw [← h3]; simp, h4, by rw [← h5]; dsimp only; omega⟩ (by dsimp only; omega) ⟨rfl, rfl, rfl, trivial⟩ kk
  · rw [Md.fixr, if_neg hc] at h3
    exact ih _ _ (i + 1, _, acc ++ [s.pk i]) ⟨by simp; omega, by dsimp only; omega, by rw [← h3]; simp, h4, by rw [← h5]; dsimp only; omega⟩ (by dsimp only; omega) ⟨rfl, rfl, rfl, trivial⟩ kk
end Go.Proofs.YticnenofiibpgaaDoor.Code
/- The names of chars in order; two looks for the longest name. -/
namespace Go
/-- The names in order, by their places in the table. -/
def Md.ord : List Nat := [4, 27, 28, 6, 5, 29, 31, 33, 50, 0, 41, 34, 53, 35, 9, 13, 18, 39, 36, 45, 25, 2, 42, 8, 52, 26, 14, 47, 56, 59, 54, 1, 43, 21, 23, 7, 44, 58, 15, 49, 37, 60, 51, 38, 22, 19, 10, 3, 24, 48, 57, 17, 55, 12, 16, 20, 32, 30, 46, 40, 11]
def Md.names : List Md.Entry := Md.ord.map (Md.table.getD · default)
/-- How far a name and signs go together. -/
def Md.cpl : List UInt8 → List Int → Nat
  | b :: bs, r :: rs => if r = (b.toNat : Int) then Md.cpl bs rs + 1 else 0
  | _, _ => 0
theorem Md.cpl_le : ∀ (bs : List UInt8) (rs : List Int), Md.cpl bs rs ≤ bs.length ∧ Md.cpl bs rs ≤ rs.length
  | [], rs => by simp [Md.cpl]
  | b :: bs, [] => by simp [Md.cpl]
  | b :: bs, r :: rs => by
    have := Md.cpl_le bs rs
    simp only [Md.cpl, List.length_cons]
    split <;> omega

/-! ### plain law -/
open Go.Dm (runeBytes)
theorem Md.enc_low {r : Int} (h : 0 ≤ r ∧ r < 128) : (Utf8.encode r).data.toList = [UInt8.ofNat r.toNat] := by
  have hv : Utf8.valid r = true := by simp [Utf8.valid]; omega
  unfold Utf8.encode
  simp only [hv, if_true]
  rw [if_pos (by omega)]
theorem Md.enc_high {r : Int} (h : ¬(0 ≤ r ∧ r < 128)) : ∃ c t, (Utf8.encode r).data.toList = c :: t ∧ 128 ≤ c.toNat := by
  unfold Utf8.encode
  have hc : 128 ≤ (if Utf8.valid r = true then r.toNat else Utf8.runeError) ∧ (if Utf8.valid r = true then r.toNat else Utf8.runeError) < 2097152 := by
    split
    · rename_i hv
      simp [Utf8.valid] at hv
      omega
    · decide
  dsimp only
  generalize (if Utf8.valid r = true then r.toNat else Utf8.runeError) = c at hc
  rw [if_neg (by omega)]
  split
  · exact ⟨_, _, rfl, by rw [UInt8.toNat_ofNat']; omega⟩
  · split
    · exact ⟨_, _, rfl, by rw [UInt8.toNat_ofNat']; omega⟩
    · exact ⟨_, _, rfl, by rw [UInt8.toNat_ofNat']; omega⟩
theorem Md.cpl_bytes : ∀ (bs : List UInt8) (rs : List Int), bs.all (fun b => decide (b.toNat < 128)) = true → bs.length ≤ rs.length → (runeBytes (rs.take bs.length) = bs ↔ Md.cpl bs rs = bs.length)
  | [], rs, _, _ => by simp [runeBytes, Md.cpl]
  | b :: bs, [], _, h => by simp at h
  | b :: bs, r :: rs, ha, hl => by
    simp only [List.all_cons, Bool.and_eq_true, decide_eq_true_eq] at ha
    have ih := Md.cpl_bytes bs rs ha.2 (by simpa using hl)
    simp only [List.length_cons, List.take_succ_cons, Md.cpl]
    have e : runeBytes (r :: rs.take bs.length) = (Utf8.encode r).data.toList ++ runeBytes (rs.take bs.length) := by simp [runeBytes]
    rw [e]
    by_cases hr : 0 ≤ r ∧ r < 128
    · rw [Md.enc_low hr]
      by_cases hb : r = (b.toNat : Int)
      · rw [if_pos hb]
        have : UInt8.ofNat r.toNat = b := by rw [hb]; simp
        rw [this]
        simp [ih]
      · rw [if_neg hb]
        constructor
        · intro h
          simp only [List.cons_append, List.nil_append, List.cons.injEq] at h
          exfalso; apply hb
          rw [← h.1, UInt8.toNat_ofNat']
          omega
        · intro h; omega
    · obtain ⟨c, t, e1, e2⟩ := Md.enc_high hr
      rw [e1]
      constructor
      · intro h
        simp only [List.cons_append, List.cons.injEq] at h
        rw [h.1] at e2; omega
      · intro h
        split at h
        · rename_i hb; exfalso; apply hr; omega
        · omega
theorem Md.cpl_full : ∀ (bs : List UInt8) (rs : List Int), Md.cpl bs rs = bs.length → bs.length ≤ rs.length ∧ ∀ i, i < bs.length → rs.getD i default = ((bs.getD i 0).toNat : Int)
  | [], rs, _ => by simp
  | b :: bs, [], h => by simp [Md.cpl] at h
  | b :: bs, r :: rs, h => by
    simp only [Md.cpl, List.length_cons] at h
    split at h
    · rename_i hb
      obtain ⟨h1, h2⟩ := Md.cpl_full bs rs (by omega)
      refine ⟨by simpa using h1, fun i hi => ?_⟩
      cases i with
      | zero => simpa using hb
      | succ i => simpa using h2 i (by simpa using hi)
    · omega
/-- How much of the signs a name takes. -/
def Md.hitN (rs : List Int) (e : Md.Entry) : Nat :=
  if Md.cpl e.name rs < e.name.length then 0 else
  if e.name.length < rs.length ∧ rs.getD e.name.length default = 59 then e.name.length + 1 else if e.bare = true then e.name.length else 0
def Md.hitE (rs : List Int) (e : Md.Entry) : Bool := decide (e.name.length < rs.length ∧ rs.getD e.name.length default = 59)
theorem Md.matchStep_hit (rs : List Int) (a : Int × Nat × Bool) (i : Nat) (e : Md.Entry) (ha : e.name.all (fun b => decide (b.toNat < 128)) = true) : Md.matchStep runeBytes rs a i e = if Md.hitN rs e > a.2.1 then ((i : Int), Md.hitN rs e, Md.hitE rs e) else a := by
  have hc := Md.cpl_le e.name rs
  have hd : (rs.getD e.name.length 0 == 59) = decide (rs.getD e.name.length default = 59) := rfl
  by_cases h1 : Md.cpl e.name rs < e.name.length
  · have hn : Md.hitN rs e = 0 := by unfold Md.hitN; rw [if_pos h1]
    simp only [hn]
    simp only [Md.matchStep]
    rw [if_pos]
    · simp
    · by_cases hl : e.name.length ≤ rs.length
      · exact .inr fun h => by have := (Md.cpl_bytes e.name rs ha hl).1 h; omega
      · exact .inl (by omega)
  · have h2 : Md.cpl e.name rs = e.name.length := by omega
    have hg : ¬(e.name.length > rs.length ∨ runeBytes (rs.take e.name.length) ≠ e.name) := fun h => h.elim (fun h => by omega) (fun h => h ((Md.cpl_bytes e.name rs ha (by omega)).2 h2))
    by_cases h3 : e.name.length < rs.length ∧ rs.getD e.name.length default = 59
    · have e1 : (decide (e.name.length < rs.length) && decide (rs.getD e.name.length default = 59)) = true := by simp only [Bool.and_eq_true, decide_eq_true_eq]; exact h3
      have hn : Md.hitN rs e = e.name.length + 1 := by unfold Md.hitN; rw [if_neg h1, if_pos h3]
      have he : Md.hitE rs e = true := decide_eq_true h3
      simp only [hn, he]
      simp only [Md.matchStep]
      rw [if_neg hg, hd, e1]
      simp
    · have e1 : (decide (e.name.length < rs.length) && decide (rs.getD e.name.length default = 59)) = false := by
        simp only [Bool.and_eq_false_imp, decide_eq_true_eq, decide_eq_false_iff_not]; exact fun a b => h3 ⟨a, b⟩
      have hn : Md.hitN rs e = if e.bare = true then e.name.length else 0 := by unfold Md.hitN; rw [if_neg h1, if_neg h3]
      have he : Md.hitE rs e = false := decide_eq_false h3
      simp only [hn, he]
      simp only [Md.matchStep]
      rw [if_neg hg, hd, e1]
      by_cases h4 : e.bare = true
      · simp [h4]
      · simp [h4]
theorem Md.hit_unique (rs : List Int) {e e' : Md.Entry} (h : Md.hitN rs e = Md.hitN rs e') (h0 : 0 < Md.hitN rs e) (n1 : e.name.all (· != 59) = true) (n2 : e'.name.all (· != 59) = true) : e.name = e'.name ∧ Md.hitE rs e = Md.hitE rs e' := by
  have key : ∀ e : Md.Entry, 0 < Md.hitN rs e → (∀ i, i < e.name.length → rs.getD i default = ((e.name.getD i 0).toNat : Int)) ∧ Md.hitN rs e = (if Md.hitE rs e = true then e.name.length + 1 else e.name.length) ∧ (Md.hitE rs e = true → rs.getD e.name.length default = 59) := by
    intro e h
    have hc := Md.cpl_le e.name rs
    unfold Md.hitN at h ⊢
    by_cases h1 : Md.cpl e.name rs < e.name.length
    · rw [if_pos h1] at h; omega
    · rw [if_neg h1] at h ⊢
      refine ⟨(Md.cpl_full e.name rs (by omega)).2, ?_, fun h => (of_decide_eq_true h).2⟩
      by_cases h3 : e.name.length < rs.length ∧ rs.getD e.name.length default = 59
      · rw [if_pos h3, Md.hitE, decide_eq_true h3]; rfl
      · rw [if_neg h3] at h ⊢
        rw [Md.hitE, decide_eq_false h3]
        split at h
        · rename_i h4; rw [if_pos h4]; rfl
        · omega
  obtain ⟨a1, a2, a3⟩ := key e h0
  obtain ⟨b1, b2, b3⟩ := key e' (by omega)
  have no59 : ∀ (l : List UInt8), l.all (· != 59) = true → ∀ i, i < l.length → ((l.getD i 0).toNat : Int) ≠ 59 := by
    intro l hl i hi he
    have hm := List.all_eq_true.1 hl (l[i]) (List.getElem_mem hi)
    rw [List.getD_eq_getElem?_getD, List.getElem?_eq_getElem hi] at he
    simp only [Option.getD_some] at he
    have : l[i] = 59 := by apply UInt8.toNat_inj.1; show l[i].toNat = 59; omega
    rw [this] at hm
    exact absurd hm (by decide)
  have hlen : e.name.length = e'.name.length ∧ Md.hitE rs e = Md.hitE rs e' := by
    cases x1 : Md.hitE rs e <;> cases x2 : Md.hitE rs e' <;> rw [x1] at a2 <;> rw [x2] at b2 <;> simp only [Bool.false_eq_true, if_false, if_true] at a2 b2
    · exact ⟨by omega, rfl⟩
    · exfalso
      have q1 := b3 x2
      have q2 := a1 e'.name.length (by omega)
      rw [q1] at q2
      exact no59 e.name n1 e'.name.length (by omega) q2.symm
    · exfalso
      have q1 := a3 x1
      have q2 := b1 e.name.length (by omega)
      rw [q1] at q2
      exact no59 e'.name n2 e.name.length (by omega) q2.symm
    · exact ⟨by omega, rfl⟩
  refine ⟨?_, hlen.2⟩
  apply List.ext_getElem hlen.1
  intro i h1 h2
  have q1 := a1 i h1
  have q2 := b1 i h2
  rw [q1] at q2
  rw [List.getD_eq_getElem?_getD, List.getElem?_eq_getElem h1, List.getD_eq_getElem?_getD, List.getElem?_eq_getElem h2] at q2
  simp only [Option.getD_some] at q2
  apply UInt8.toNat_inj.1
  omega
theorem Md.match_fold (rs : List Int) : ∀ (l : List (Md.Entry × Nat)) (a : Int × Nat × Bool), (∀ p ∈ l, p.1.name.all (fun b => decide (b.toNat < 128)) = true) →
    (∀ p ∈ l, Md.hitN rs p.1 ≤ (l.foldl (fun a p => Md.matchStep runeBytes rs a p.2 p.1) a).2.1) ∧ a.2.1 ≤ (l.foldl (fun a p => Md.matchStep runeBytes rs a p.2 p.1) a).2.1 ∧
      (l.foldl (fun a p => Md.matchStep runeBytes rs a p.2 p.1) a = a ∨ ∃ p ∈ l, l.foldl (fun a p => Md.matchStep runeBytes rs a p.2 p.1) a = ((p.2 : Int), Md.hitN rs p.1, Md.hitE rs p.1) ∧ a.2.1 < Md.hitN rs p.1)
  | [], a, _ => ⟨fun e h => (by cases h), Nat.le_refl _, .inl rfl⟩
  | p :: l, a, ha => by
    simp only [List.foldl_cons]
    obtain ⟨h1, h2, h3⟩ := Md.match_fold rs l (Md.matchStep runeBytes rs a p.2 p.1) (fun q hq => ha q (by simp [hq]))
    have hs := Md.matchStep_hit rs a p.2 p.1 (ha p (by simp))
    have hle : Md.hitN rs p.1 ≤ (Md.matchStep runeBytes rs a p.2 p.1).2.1 ∧ a.2.1 ≤ (Md.matchStep runeBytes rs a p.2 p.1).2.1 := by
      rw [hs]; split <;> exact ⟨by first | omega | (simp only; omega) | (show _ ≤ Md.hitN rs p.1; omega), by first | omega | (simp only; omega) | (show _ ≤ Md.hitN rs p.1; omega)⟩
    refine ⟨fun x hx => ?_, by omega, ?_⟩
    · rcases List.mem_cons.1 hx with rfl | hx
      · omega
      · exact h1 x hx
    · rcases h3 with h3 | ⟨x, hx, h3, h4⟩
      · rw [h3, hs]
        split
        · rename_i h5; exact .inr ⟨p, by simp, rfl, h5⟩
        · exact .inl rfl
      · exact .inr ⟨x, by simp [hx], h3, by omega⟩
theorem Md.table_facts : (∀ e ∈ Md.table, e.name.all (fun b => decide (b.toNat < 128)) = true ∧ e.name.all (· != 59) = true) ∧ (∀ e ∈ Md.table, ∀ e' ∈ Md.table, e.name = e'.name → e.sign = e'.sign) := by decide +kernel
/-- What matchT answers, by the hits. -/
theorem Md.matchT_hit (rs : List Int) : (∀ e ∈ Md.table, Md.hitN rs e ≤ (Md.matchT runeBytes rs).2.1) ∧ (Md.matchT runeBytes rs = ([], 0, false) ∨ ∃ e ∈ Md.table, Md.matchT runeBytes rs = (if e.name = [110, 118, 108, 116] then [e.sign, 8402] else [e.sign], Md.hitN rs e, Md.hitE rs e) ∧ 0 < Md.hitN rs e) := by
  have hzip : ∀ p ∈ Md.table.zipIdx, Md.table[p.2]? = some p.1 := fun p hp => by
    obtain ⟨e, i⟩ := p
    exact List.mem_zipIdx_iff_getElem?.1 hp
  have hmem : ∀ p ∈ Md.table.zipIdx, p.1 ∈ Md.table := fun p hp => List.mem_of_getElem? (hzip p hp)
  obtain ⟨b1, _, b3⟩ := Md.match_fold rs Md.table.zipIdx (-1, 0, false) (fun p hp => (Md.table_facts.1 p.1 (hmem p hp)).1)
  have hB : Md.table.zipIdx.foldl (fun a p => Md.matchStep runeBytes rs a p.2 p.1) (-1, 0, false) = Md.matchAll runeBytes rs := rfl
  rw [hB] at b1 b3
  have b1' : ∀ e ∈ Md.table, Md.hitN rs e ≤ (Md.matchAll runeBytes rs).2.1 := fun e he => by
    obtain ⟨i, hi, rfl⟩ := List.getElem_of_mem he
    exact b1 (Md.table[i], i) (List.mem_zipIdx_iff_getElem?.2 (List.getElem?_eq_getElem hi))
  rcases b3 with b3 | ⟨p, hp, b3, b4⟩
  · have e1 : Md.matchT runeBytes rs = ([], 0, false) := by unfold Md.matchT; rw [b3]; rfl
    rw [e1]
    rw [b3] at b1'
    exact ⟨b1', .inl rfl⟩
  · have hg : Md.table.getD p.2 default = p.1 := by rw [List.getD_eq_getElem?_getD, hzip p hp]; rfl
    have e1 : Md.matchT runeBytes rs = (if p.1.name = [110, 118, 108, 116] then [p.1.sign, 8402] else [p.1.sign], Md.hitN rs p.1, Md.hitE rs p.1) := by
      unfold Md.matchT
      rw [b3]
      dsimp only
      rw [if_neg (by omega), Int.toNat_natCast, hg]
    rw [e1]
    rw [b3] at b1'
    exact ⟨b1', .inr ⟨p.1, hmem p hp, rfl, b4⟩⟩
theorem Md.cpl_self : ∀ (bs : List UInt8) (more : List Int), Md.cpl bs (bs.map (fun b => (b.toNat : Int)) ++ more) = bs.length
  | [], more => by simp [Md.cpl]
  | b :: bs, more => by simp [Md.cpl, Md.cpl_self bs more]
/-- A name with its end, whatever follows, is found. -/
theorem Md.names_found {e : Md.Entry} (he : e ∈ Md.table) (more : List Int) : ∃ r, Md.matchT runeBytes (e.name.map (fun b => (b.toNat : Int)) ++ 59 :: more) = (e.sign :: r, e.name.length + 1, true) ∧ (r ≠ [] → e.name = [110, 118, 108, 116]) := by
  obtain ⟨rs, hrs⟩ : ∃ rs, rs = e.name.map (fun b => (b.toNat : Int)) ++ 59 :: more := ⟨_, rfl⟩
  have hl : rs.length = e.name.length + 1 + more.length := by rw [hrs]; simp; omega
  have h59 : rs.getD e.name.length default = 59 := by rw [hrs, List.getD_eq_getElem?_getD, List.getElem?_append_right (by simp)]; simp
  have hN : Md.hitN rs e = e.name.length + 1 := by
    unfold Md.hitN
    rw [hrs, Md.cpl_self, if_neg (by omega), ← hrs, if_pos ⟨by omega, h59⟩]
  have hE : Md.hitE rs e = true := decide_eq_true ⟨by omega, h59⟩
  rw [← hrs]
  obtain ⟨h1, h2⟩ := Md.matchT_hit rs
  have q1 := h1 e he
  rcases h2 with h2 | ⟨p, hp, h2, h3⟩
  · rw [h2] at q1; dsimp only at q1; omega
  · rw [h2] at q1
    dsimp only at q1
    have hle : Md.hitN rs p ≤ e.name.length + 1 := by
      have hc := Md.cpl_le p.name rs
      by_cases hcp : Md.cpl p.name rs < p.name.length
      · unfold Md.hitN; rw [if_pos hcp]; omega
      · have hf := (Md.cpl_full p.name rs (by omega)).2
        have hpl : p.name.length ≤ e.name.length := by
          by_cases hx : e.name.length < p.name.length
          · exfalso
            have := hf e.name.length hx
            rw [h59] at this
            have hm := List.all_eq_true.1 (Md.table_facts.1 p hp).2 (p.name[e.name.length]) (List.getElem_mem hx)
            rw [List.getD_eq_getElem?_getD, List.getElem?_eq_getElem hx] at this
            simp only [Option.getD_some] at this
            have h5 : p.name[e.name.length] = 59 := by apply UInt8.toNat_inj.1; show p.name[e.name.length].toNat = 59; omega
            rw [h5] at hm
            exact absurd hm (by decide)
          · omega
        unfold Md.hitN
        repeat' split
        all_goals omega
    obtain ⟨u1, u2⟩ := Md.hit_unique rs (e := e) (e' := p) (by omega) (by omega) (Md.table_facts.1 e he).2 (Md.table_facts.1 p hp).2
    have hs := Md.table_facts.2 e he p hp u1
    rw [h2, ← u1, ← u2, hE, ← hs, show Md.hitN rs p = e.name.length + 1 by omega]
    split
    · rename_i hn; exact ⟨_, rfl, fun _ => hn⟩
    · exact ⟨_, rfl, fun h => absurd rfl h⟩
theorem Md.hitN_le (rs : List Int) (e : Md.Entry) : Md.hitN rs e ≤ rs.length := by
  have hc := Md.cpl_le e.name rs
  unfold Md.hitN
  by_cases h : Md.cpl e.name rs < e.name.length
  · rw [if_pos h]; omega
  · rw [if_neg h]
    split
    · omega
    · split <;> omega
theorem Md.matchT_le (rs : List Int) : (Md.matchT runeBytes rs).2.1 ≤ rs.length := by
  rcases (Md.matchT_hit rs).2 with h | ⟨e, _, h, _⟩
  · rw [h]; exact Nat.zero_le _
  · rw [h]; exact Md.hitN_le rs e
theorem Md.matchT_len (rs : List Int) : (Md.matchT runeBytes rs).1.length ≤ 2 := by
  rcases (Md.matchT_hit rs).2 with h | ⟨e, _, h, _⟩
  · rw [h]; simp
  · rw [h]; dsimp only; split <;> simp
theorem Md.sign_facts : ∀ e ∈ Md.table, 0 ≤ e.sign := by decide +kernel
theorem Md.matchT_nn (rs : List Int) : ∀ r ∈ (Md.matchT runeBytes rs).1, 0 ≤ r := by
  rcases (Md.matchT_hit rs).2 with h | ⟨e, he, h, _⟩
  · rw [h]; simp
  · have := Md.sign_facts e he
    rw [h]; dsimp only; split <;> simp <;> omega
end Go
/- What the lexer's closes, reference, value do. -/
namespace Go.Proofs.YticnenofiibpgaaDoor.Code
open Go.Dm Go.Dm.C
set_option linter.unusedSimpArgs false
set_option linter.unusedVariables false
set_option linter.unnecessarySimpa false
set_option maxRecDepth 10000
attribute [local irreducible] Go.Dm.F Go.Dm.RS Go.Dm.Y Go.Dm.FD Go.Dm.FZ1 Go.Dm.Hold
variable {id : Nat} {s : Md.Lx} {g : Nat × Nat} {cs : List Ck}
theorem runesGo_fuel : ∀ (n : Nat) (w : List UInt8) (i f k : Nat), w.length - i ≤ n → w.length - i ≤ f → w.length - i ≤ k → Md.runesGo f w i = Md.runesGo k w i := by
  intro n
  induction n with
  | zero => intro w i f k h _ _; cases f <;> cases k <;> simp only [Md.runesGo] <;> first | rfl | rw [if_neg (by omega), if_neg (by omega)] | rw [if_neg (by omega)]
  | succ n ih =>
    intro w i f k h hf hk
    by_cases hi : i < w.length
    · obtain ⟨f, rfl⟩ : ∃ f', f = f' + 1 := ⟨f - 1, by omega⟩
      obtain ⟨k, rfl⟩ : ∃ k', k = k' + 1 := ⟨k - 1, by omega⟩
      have hp := dec_pos ⟨w.toArray⟩ i
      simp only [Md.runesGo, if_pos hi]
      congr 1
      exact ih w _ f k (by omega) (by omega) (by omega)
    · cases f <;> cases k <;> simp only [Md.runesGo] <;> first | rfl | rw [if_neg hi, if_neg hi] | rw [if_neg hi]
def runesAt (w : List UInt8) (i : Nat) : List Int := Md.runesGo (w.length - i) w i
theorem runesAt_zero (w : List UInt8) : runesAt w 0 = Md.runes w := rfl
theorem runesAt_cons {w : List UInt8} {i : Nat} (h : i < w.length) : runesAt w i = ((Utf8.decode ⟨w.toArray⟩ i).1 : Int) :: runesAt w (i + (Utf8.decode ⟨w.toArray⟩ i).2) := by
  have hp := dec_pos ⟨w.toArray⟩ i
  have e : w.length - i = (w.length - i - 1) + 1 := by omega
  unfold runesAt
  rw [e]
  simp only [Md.runesGo, if_pos h]
  congr 1
  exact runesGo_fuel w.length w _ _ _ (by omega) (by omega) (by omega)
theorem runesAt_nil {w : List UInt8} {i : Nat} (h : w.length ≤ i) : runesAt w i = [] := by
  unfold runesAt; rw [show w.length - i = 0 by omega]; rfl
theorem runesAt_len (w : List UInt8) : ∀ (n i : Nat), w.length - i ≤ n → (runesAt w i).length ≤ w.length - i := by
  intro n
  induction n with
  | zero => intro i h; rw [runesAt_nil (by omega)]; simp
  | succ n ih =>
    intro i h
    by_cases hi : i < w.length
    · have hp := dec_pos ⟨w.toArray⟩ i
      have := ih (i + (Utf8.decode ⟨w.toArray⟩ i).2) (by omega)
      rw [runesAt_cons hi]; simp only [List.length_cons]; omega
    · rw [runesAt_nil (by omega)]; simp
theorem runes_len (w : List UInt8) : (Md.runes w).length ≤ w.length := runesAt_len w w.length 0 (by omega)
theorem closes_F (hm : Me (LX id s g) cs) (hb : s.inp.length ≤ 1000000000 ∧ s.pos ≤ 20000000000 ∧ s.last.length ≤ 10000000000) : F D 93 [.ptr id 0] cs (fun v cs' => v = .int .i64 (Md.closes s.last s.rest : Nat) ∧ cs = cs') := by
  refine F.atM hm fun R => F.of rfl rfl rfl ?_
  repeat' first | (show LD _ _ _ _; first | exact LX.ldPos kk | exact LX.ldWay kk | exact LX.ldLast kk | exact LX.ldRoom kk | exact LX.ldDone kk | exact LX.ldText kk) | (apply RR.lxIn; exact rfl; exact rfl; exact rfl; exact kk; refine fun _ => ?_) | (apply RR.lxOut; exact rfl; exact rfl; exact rfl; exact kk; refine fun _ => ?_) | (apply RR.storeS; exact rfl; exact rfl; first | exact LX.stPos 1 rfl kk | exact LX.stPos 2 rfl kk | exact LX.stPos 3 rfl kk | exact LX.stPos 6 rfl kk | exact LX.stPos 7 rfl kk | exact LX.stPos _ rfl kk | exact LX.stPos2 1 _ kk | exact LX.stPos2 2 _ kk | exact LX.stWay kk | exact LX.stLast kk | exact LX.stRoom kk | exact LX.stDone kk; exact rfl) | (show FC _ _ _ _ _; first | exact peek0_F kk (by first | omega | ((simp only [Md.Lx.adv, Md.Lx.say, Md.Lx.clr, List.nil_append, List.length_append, List.length_cons, List.length_nil]); omega)) | exact peek1_F kk (by first | omega | ((simp only [Md.Lx.adv, Md.Lx.say, Md.Lx.clr, List.nil_append, List.length_append, List.length_cons, List.length_nil]); omega)) | exact peek6_F kk (by first | omega | ((simp only [Md.Lx.adv, Md.Lx.say, Md.Lx.clr, List.nil_append, List.length_append, List.length_cons, List.length_nil]); omega)) | exact next_F kk (by first | omega | ((simp only [Md.Lx.adv, Md.Lx.say, Md.Lx.clr, List.nil_append, List.length_append, List.length_cons, List.length_nil]); omega)) | exact back_F kk (by first | omega | ((simp only [Md.Lx.adv, Md.Lx.say, Md.Lx.clr, List.nil_append, List.length_append, List.length_cons, List.length_nil]); omega)) | exact blank_F | exact letter_F | exact small_F | exact encode_F rfl (by first | omega | ((simp only [Md.Lx.adv, Md.Lx.say, Md.Lx.clr, List.nil_append, List.length_append, List.length_cons, List.length_nil]); omega)) | exact say_F rfl kk kk (by first | omega | ((simp only [Md.Lx.adv, Md.Lx.say, Md.Lx.clr, List.nil_append, List.length_append, List.length_cons, List.length_nil]); omega)) | exact stands_F kk (by first | omega | ((simp only [Md.Lx.adv, Md.Lx.say, Md.Lx.clr, List.nil_append, List.length_append, List.length_cons, List.length_nil]); omega)) (by decide) (by first | omega | ((simp only [Md.Lx.adv, Md.Lx.say, Md.Lx.clr, List.nil_append, List.length_append, List.length_cons, List.length_nil]); omega)) | exact exact_F kk (by first | omega | ((simp only [Md.Lx.adv, Md.Lx.say, Md.Lx.clr, List.nil_append, List.length_append, List.length_cons, List.length_nil]); omega)) (by decide) (by first | omega | ((simp only [Md.Lx.adv, Md.Lx.say, Md.Lx.clr, List.nil_append, List.length_append, List.length_cons, List.length_nil]); omega))) | (refine fun (hc : _ = _) => ?_; (try simp only [BB] at hc); (try (first | contradiction | (exfalso; omega)))) | (refine Arith.mk ?_; (try intro _); simp only [Md.Lx.adv, Md.Lx.say, Md.Lx.clr, List.nil_append, List.length_append, List.length_cons, List.length_nil]; omega) | exact arI | refine Pst.mk ⟨?_, rfl⟩ kk | constructor | (refine fun _ _ (hq : Hold _) => ?_; replace hq := hq.out; obtain ⟨_, rfl, rfl⟩ := hq) | (refine fun _ _ (hq : Hold _) => ?_; replace hq := hq.out; obtain ⟨_, _, rfl, rfl⟩ := hq) | rintro _ _ ⟨rfl, rfl⟩ | rintro _ _ ⟨_, rfl, rfl⟩ | rintro _ _ ⟨_, _, rfl, rfl⟩ | (refine fun (hc : _ = _) => ?_; (try simp only [BB] at hc)) | refine fun (_ : Nat) => ?_ | refine fun (_ : _ ≤ _) => ?_ | refine fun (_ : _ < _) => ?_
  · unfold Md.closes
    rw [← pk_rest, ← pk_rest, if_pos]
    · rfl
    · rcases hc with (hc | hc) | hc
      · exact .inl hc
      · exact .inr (.inl hc)
      · exact .inr (.inr hc)
  rotate_left
  · unfold Md.closes
    rw [← pk_rest, ← pk_rest, if_pos (.inl (by assumption))]; rfl
  rename_i q hq
  have hcl : Md.closes s.last s.rest = if Md.goesOn (Md.runes s.last) (s.adv 1).rest = true ∧ Md.over (s.pk (1 + (Md.runes s.last).length)) = true then 1 + (Md.runes s.last).length else 0 := by
    unfold Md.closes
    rw [← pk_rest, ← pk_rest, ← pk_rest, if_neg, ← tail_adv 0]; rfl
    rintro (h | h | h)
    · exact h hc.1.1
    · rw [hc.1.2] at h; cases h
    · exact hc.2 h
  have hrl := runes_len s.last
  refine RS.loopW (α := Nat × Nat) (fun a => [(0, .ptr id 0), (3, .int .i64 (a.2 : Nat)), (27, .ptr q 0)]) (fun a => .obj q (.siter s.last a.1) :: LX id s g :: R)
    (fun a => a.2 + (runesAt s.last a.1).length = 1 + (Md.runes s.last).length ∧ Md.goesOn (runesAt s.last a.1) (s.adv a.2).rest = Md.goesOn (Md.runes s.last) (s.adv 1).rest) (fun a => s.last.length - a.1) (0, 1) ⟨by simp [runesAt_zero], by simp [runesAt_zero]⟩ ⟨rfl, rfl, rfl, trivial⟩ .refl ?_
  rintro ⟨i, n⟩ ⟨h1, h2⟩ ih
  dsimp only [ents] at *
  have hrc := fun h => runesAt_cons (w := s.last) (i := i) h
  have hrn := fun h => runesAt_nil (w := s.last) (i := i) h
  repeat' first | (show LD _ _ _ _; first | exact LX.ldPos kk | exact LX.ldWay kk | exact LX.ldLast kk | exact LX.ldRoom kk | exact LX.ldDone kk | exact LX.ldText kk) | (apply RR.lxIn; exact rfl; exact rfl; exact rfl; exact kk; refine fun _ => ?_) | (apply RR.lxOut; exact rfl; exact rfl; exact rfl; exact kk; refine fun _ => ?_) | (apply RR.storeS; exact rfl; exact rfl; first | exact LX.stPos 1 rfl kk | exact LX.stPos 2 rfl kk | exact LX.stPos 3 rfl kk | exact LX.stPos 6 rfl kk | exact LX.stPos 7 rfl kk | exact LX.stPos _ rfl kk | exact LX.stPos2 1 _ kk | exact LX.stPos2 2 _ kk | exact LX.stWay kk | exact LX.stLast kk | exact LX.stRoom kk | exact LX.stDone kk; exact rfl) | (show FC _ _ _ _ _; first | exact peek_F (n := n) kk (by first | omega | ((simp only [Md.Lx.adv, Md.Lx.say, Md.Lx.clr, List.nil_append, List.length_append, List.length_cons, List.length_nil]); omega)) (by omega) | exact peek0_F kk (by first | omega | ((simp only [Md.Lx.adv, Md.Lx.say, Md.Lx.clr, List.nil_append, List.length_append, List.length_cons, List.length_nil]); omega)) | exact peek1_F kk (by first | omega | ((simp only [Md.Lx.adv, Md.Lx.say, Md.Lx.clr, List.nil_append, List.length_append, List.length_cons, List.length_nil]); omega)) | exact peek6_F kk (by first | omega | ((simp only [Md.Lx.adv, Md.Lx.say, Md.Lx.clr, List.nil_append, List.length_append, List.length_cons, List.length_nil]); omega)) | exact next_F kk (by first | omega | ((simp only [Md.Lx.adv, Md.Lx.say, Md.Lx.clr, List.nil_append, List.length_append, List.length_cons, List.length_nil]); omega)) | exact back_F kk (by first | omega | ((simp only [Md.Lx.adv, Md.Lx.say, Md.Lx.clr, List.nil_append, List.length_append, List.length_cons, List.length_nil]); omega)) | exact blank_F | exact letter_F | exact small_F | exact encode_F rfl (by first | omega | ((simp only [Md.Lx.adv, Md.Lx.say, Md.Lx.clr, List.nil_append, List.length_append, List.length_cons, List.length_nil]); omega)) | exact say_F rfl kk kk (by first | omega | ((simp only [Md.Lx.adv, Md.Lx.say, Md.Lx.clr, List.nil_append, List.length_append, List.length_cons, List.length_nil]); omega)) | exact stands_F kk (by first | omega | ((simp only [Md.Lx.adv, Md.Lx.say, Md.Lx.clr, List.nil_append, List.length_append, List.length_cons, List.length_nil]); omega)) (by decide) (by first | omega | ((simp only [Md.Lx.adv, Md.Lx.say, Md.Lx.clr, List.nil_append, List.length_append, List.length_cons, List.length_nil]); omega)) | exact exact_F kk (by first | omega | ((simp only [Md.Lx.adv, Md.Lx.say, Md.Lx.clr, List.nil_append, List.length_append, List.length_cons, List.length_nil]); omega)) (by decide) (by first | omega | ((simp only [Md.Lx.adv, Md.Lx.say, Md.Lx.clr, List.nil_append, List.length_append, List.length_cons, List.length_nil]); omega))) | (refine fun (hc : _ = _) => ?_; (try simp only [BB] at hc); (try (first | contradiction | (exfalso; omega)))) | exact arI | refine Pst.mk ⟨?_, rfl⟩ kk | constructor | (refine fun _ _ (hq : Hold _) => ?_; replace hq := hq.out; obtain ⟨_, rfl, rfl⟩ := hq) | (refine fun _ _ (hq : Hold _) => ?_; replace hq := hq.out; obtain ⟨_, _, rfl, rfl⟩ := hq) | rintro _ _ ⟨rfl, rfl⟩ | rintro _ _ ⟨_, rfl, rfl⟩ | rintro _ _ ⟨_, _, rfl, rfl⟩ | (refine fun (hc : _ = _) => ?_; (try simp only [BB] at hc)) | refine fun (_ : Nat) => ?_ | refine fun (_ : _ ≤ _) => ?_ | refine fun (_ : _ < _) => ?_
  · rw [hrc (by omega)] at h2
    simp only [Md.goesOn, headD_adv, beq_false_of_ne hc, Bool.false_and] at h2
    rw [hcl, if_neg (by rw [← h2]; simp)]; rfl
  · rw [hrc (by omega)] at h1 h2
    simp only [Md.goesOn, headD_adv, tail_adv, List.length_cons, beq_iff_eq.2 hc, Bool.true_and] at h1 h2
    have hp := dec_pos ⟨s.last.toArray⟩ i
    exact ih _ _ (_, n + 1) ⟨by dsimp only; omega, h2⟩ (by dsimp only; omega) ⟨rfl, rfl, rfl, trivial⟩ kk
  all_goals
    rw [hrn (by omega)] at h1 h2
    simp only [List.length_nil, Nat.add_zero] at h1
    rw [hcl, ← h2, ← h1]
  · rw [if_pos ⟨rfl, by rw [over_t]; exact hc⟩]
  · rw [if_neg (fun h => by have h3 := h.2; rw [over_t] at h3; simp_all)]; rfl
theorem number_pos : ∀ (base : Int) (l : List Int) (n : Int) (k : Nat), k ≤ (Md.number base l n k).2 ∧ (Md.number base l n k).2 ≤ k + l.length
  | _, [], n, k => by simp [Md.number]
  | base, r :: l, n, k => by
    have := number_pos base l (min (n * base + Md.hex r) 0x110000) (k + 1)
    simp only [Md.number]
    split
    · simp
    · simp only [List.length_cons]; omega
theorem number_le : ∀ (base : Int) (l : List Int) (n : Int) (k : Nat), n ≤ 1114112 → (Md.number base l n k).1 ≤ 1114112
  | _, [], n, k, h => by simpa [Md.number] using h
  | base, r :: l, n, k, h => by
    simp only [Md.number]
    split
    · exact h
    · exact number_le base l _ _ (by omega)
theorem min_rest : s.inp.drop (min (s.pos : Int) (s.inp.length : Int)).toNat = s.rest := by
  unfold Md.Lx.rest
  by_cases h : s.pos ≤ s.inp.length
  · rw [Int.min_eq_left (by omega)]; simp
  · rw [Int.min_eq_right (by omega), List.drop_eq_nil_of_le (by simp), List.drop_eq_nil_of_le (by omega)]
theorem refer_hex {l : List Int} {v : Bool} (h0 : l.getD 0 (-1) = 35) (h1 : l.getD 1 (-1) = 120 ∨ l.getD 1 (-1) = 88) : Md.refer v l = if (Md.number 16 (l.drop 2) 0 0).2 = 0 then ([38], 0) else
    ([Md.numeric (Md.number 16 (l.drop 2) 0 0).1], if l.getD (2 + (Md.number 16 (l.drop 2) 0 0).2) (-1) = 59 then 2 + (Md.number 16 (l.drop 2) 0 0).2 + 1 else 2 + (Md.number 16 (l.drop 2) 0 0).2) := by
  simp only [Md.refer, if_pos h0, if_pos h1]
theorem refer_dec {l : List Int} {v : Bool} (h0 : l.getD 0 (-1) = 35) (h1 : ¬(l.getD 1 (-1) = 120 ∨ l.getD 1 (-1) = 88)) : Md.refer v l = if (Md.number 10 (l.drop 1) 0 0).2 = 0 then ([38], 0) else
    ([Md.numeric (Md.number 10 (l.drop 1) 0 0).1], if l.getD (1 + (Md.number 10 (l.drop 1) 0 0).2) (-1) = 59 then 1 + (Md.number 10 (l.drop 1) 0 0).2 + 1 else 1 + (Md.number 10 (l.drop 1) 0 0).2) := by
  simp only [Md.refer, if_pos h0, if_neg h1]
theorem refer_name {l : List Int} {v : Bool} (h0 : ¬l.getD 0 (-1) = 35) : Md.refer v l = if (Md.matchT runeBytes l).2.1 = 0 then ([38], 0) else
    if (v = true ∧ (Md.matchT runeBytes l).2.2 = false ∧ (Md.matchT runeBytes l).2.1 < l.length) ∧ (l.getD (Md.matchT runeBytes l).2.1 (-1) = 61 ∨ Md.letter (l.getD (Md.matchT runeBytes l).2.1 (-1)) = true ∨ Md.digit (l.getD (Md.matchT runeBytes l).2.1 (-1)) = true) then ([38], 0) else ((Md.matchT runeBytes l).1, (Md.matchT runeBytes l).2.1) := by
  simp only [Md.refer, if_neg h0]
theorem getD_some {l : List Int} {n : Nat} {x : Int} (h : (l.length : Int) > (n : Int) ∧ l.getD n default = x) : l.getD n (-1) = x := by
  rw [← getD_eof (by omega)]; exact h.2
theorem getD_none {l : List Int} {n : Nat} {x : Int} (hx : x ≠ -1) (h : (l.length : Int) > (n : Int) → ¬l.getD n default = x) : ¬l.getD n (-1) = x := by
  by_cases hl : n < l.length
  · rw [← getD_eof hl]; exact h (by omega)
  · rw [List.getD_eq_getElem?_getD, List.getElem?_eq_none (by omega)]; exact fun e => hx e.symm
def refA (s : Md.Lx) (value : Bool) : Md.Lx := (s.adv (Md.refer value s.rest).2).say (Md.refer value s.rest).1
set_option maxHeartbeats 1000000 in
theorem reference_F {value : Bool} {cs2 : Nat → List Ck} (hu : Upd (LX id s g) (fun a => LX id (refA s value) (g.1, a)) cs cs2) (hb : s.inp.length ≤ 1000000000 ∧ s.pos ≤ 20000000000 ∧ s.text.length ≤ 80000000000) :
    F D 70 [.ptr id 0, .bool value] cs (fun v cs' => Hold (∃ a, v = .tup [] ∧ cs2 a = cs')) := by
  refine F.atG hu fun R => F.of rfl rfl rfl ?_
  have hrl := rest_len (s := s)
  have hdl : (s.inp.drop (min (s.pos : Int) (s.inp.length : Int)).toNat).length ≤ 1000000000 := by rw [min_rest]; omega
  have hk1 := number_pos 16 ((s.inp.drop (min (s.pos : Int) (s.inp.length : Int)).toNat).drop (Int.toNat 2)) 0 0
  have hk2 := number_pos 10 ((s.inp.drop (min (s.pos : Int) (s.inp.length : Int)).toNat).drop (Int.toNat 1)) 0 0
  have hk3 := number_le 16 ((s.inp.drop (min (s.pos : Int) (s.inp.length : Int)).toNat).drop (Int.toNat 2)) 0 0 (by omega)
  have hk4 := number_le 10 ((s.inp.drop (min (s.pos : Int) (s.inp.length : Int)).toNat).drop (Int.toNat 1)) 0 0 (by omega)
  have hk5 := Md.matchT_le (s.inp.drop (min (s.pos : Int) (s.inp.length : Int)).toNat)
  have hk6 := Md.matchT_len (s.inp.drop (min (s.pos : Int) (s.inp.length : Int)).toNat)
  have hd1 : ((s.inp.drop (min (s.pos : Int) (s.inp.length : Int)).toNat).drop (Int.toNat 1)).length ≤ 1000000000 := by rw [List.length_drop]; omega
  have hd2 : ((s.inp.drop (min (s.pos : Int) (s.inp.length : Int)).toNat).drop (Int.toNat 2)).length ≤ 1000000000 := by rw [List.length_drop]; omega
  repeat' first | (show LD _ _ _ _; first | exact LX.ldPos kk | exact LX.ldWay kk | exact LX.ldLast kk | exact LX.ldRoom kk | exact LX.ldDone kk | exact LX.ldText kk) | (apply RR.lxIn; exact rfl; exact rfl; exact rfl; exact kk; refine fun _ => ?_) | (apply RR.lxOut; exact rfl; exact rfl; exact rfl; exact kk; refine fun _ => ?_) | (apply RR.storeS; exact rfl; exact rfl; first | exact LX.stPos 1 rfl kk | exact LX.stPos 2 rfl kk | exact LX.stPos 3 rfl kk | exact LX.stPos 6 rfl kk | exact LX.stPos 7 rfl kk | exact LX.stPos _ rfl kk | exact LX.stPos2 1 _ kk | exact LX.stPos2 2 _ kk | exact LX.stWay kk | exact LX.stLast kk | exact LX.stRoom kk | exact LX.stDone kk; exact rfl) | (show FC _ _ _ _ _; first | exact number_F rfl (by omega) (by omega) | exact numeric_F (by omega) | exact match_F rfl (by omega) | exact digit_F | exact peek0_F kk (by first | omega | ((simp only [Md.Lx.adv, Md.Lx.say, Md.Lx.clr, List.nil_append, List.length_append, List.length_cons, List.length_nil]); omega)) | exact peek1_F kk (by first | omega | ((simp only [Md.Lx.adv, Md.Lx.say, Md.Lx.clr, List.nil_append, List.length_append, List.length_cons, List.length_nil]); omega)) | exact peek6_F kk (by first | omega | ((simp only [Md.Lx.adv, Md.Lx.say, Md.Lx.clr, List.nil_append, List.length_append, List.length_cons, List.length_nil]); omega)) | exact next_F kk (by first | omega | ((simp only [Md.Lx.adv, Md.Lx.say, Md.Lx.clr, List.nil_append, List.length_append, List.length_cons, List.length_nil]); omega)) | exact back_F kk (by first | omega | ((simp only [Md.Lx.adv, Md.Lx.say, Md.Lx.clr, List.nil_append, List.length_append, List.length_cons, List.length_nil]); omega)) | exact blank_F | exact letter_F | exact small_F | exact encode_F rfl (by first | omega | ((simp only [Md.Lx.adv, Md.Lx.say, Md.Lx.clr, List.nil_append, List.length_append, List.length_cons, List.length_nil]); omega)) | exact say_F rfl kk kk (by first | omega | ((simp only [Md.Lx.adv, Md.Lx.say, Md.Lx.clr, List.nil_append, List.length_append, List.length_cons, List.length_nil]); omega)) | exact stands_F kk (by first | omega | ((simp only [Md.Lx.adv, Md.Lx.say, Md.Lx.clr, List.nil_append, List.length_append, List.length_cons, List.length_nil]); omega)) (by decide) (by first | omega | ((simp only [Md.Lx.adv, Md.Lx.say, Md.Lx.clr, List.nil_append, List.length_append, List.length_cons, List.length_nil]); omega)) | exact exact_F kk (by first | omega | ((simp only [Md.Lx.adv, Md.Lx.say, Md.Lx.clr, List.nil_append, List.length_append, List.length_cons, List.length_nil]); omega)) (by decide) (by first | omega | ((simp only [Md.Lx.adv, Md.Lx.say, Md.Lx.clr, List.nil_append, List.length_append, List.length_cons, List.length_nil]); omega))) | (refine fun (hc : _ = _) => ?_; (try simp only [BB] at hc); (try (first | contradiction | (exfalso; omega)))) | exact arI | refine Pst.mk ⟨?_, rfl⟩ kk | constructor | (refine fun _ _ (hq : Hold _) => ?_; replace hq := hq.out; obtain ⟨_, rfl, rfl⟩ := hq) | (refine fun _ _ (hq : Hold _) => ?_; replace hq := hq.out; obtain ⟨_, _, rfl, rfl⟩ := hq) | rintro _ _ ⟨rfl, rfl⟩ | rintro _ _ ⟨_, rfl, rfl⟩ | rintro _ _ ⟨_, _, rfl, rfl⟩ | (refine fun (hc : _ = _) => ?_; (try simp only [BB] at hc)) | refine fun (_ : Nat) => ?_ | refine fun (_ : _ ≤ _) => ?_ | refine fun (_ : _ < _) => ?_
  all_goals simp only [min_rest, show Int.toNat 2 = 2 from rfl, show Int.toNat 1 = 1 from rfl] at *
  all_goals (try simp only [pk_adv, pk_say, Nat.add_zero, adv_adv, say_say, say_adv, pk_clr, adv_clr] at *)
  · rename_i h0 h1
    rw [refA, refer_hex (getD_some h0) (h1.2.imp (fun h => getD_some ⟨h1.1, h⟩) (fun h => getD_some ⟨h1.1, h⟩)), if_pos (Int.ofNat.inj hc)]
    exact Pst.mk (.mk ⟨_, trivial, rfl⟩) kk
  · rename_i h0 h1 h2
    rw [refA, refer_hex (getD_some h0) (h1.2.imp (fun h => getD_some ⟨h1.1, h⟩) (fun h => getD_some ⟨h1.1, h⟩)), if_neg (fun h => h2 (congrArg Int.ofNat h))]
    dsimp only
    rw [← pk_rest, if_pos hc]
    exact Pst.mk (.mk ⟨_, trivial, rfl⟩) kk
  · rename_i h0 h1 h2
    rw [refA, refer_hex (getD_some h0) (h1.2.imp (fun h => getD_some ⟨h1.1, h⟩) (fun h => getD_some ⟨h1.1, h⟩)), if_neg (fun h => h2 (congrArg Int.ofNat h))]
    dsimp only
    rw [← pk_rest, if_neg hc]
    exact Pst.mk (.mk ⟨_, trivial, rfl⟩) kk
  · rename_i h0 h1
    rw [refA, refer_dec (getD_some h0) (fun h => h.elim (getD_none (by decide) (fun a => (h1 a).1)) (getD_none (by decide) (fun a => (h1 a).2))), if_pos (Int.ofNat.inj hc)]
    exact Pst.mk (.mk ⟨_, trivial, rfl⟩) kk
  · rename_i h0 h1 h2
    rw [refA, refer_dec (getD_some h0) (fun h => h.elim (getD_none (by decide) (fun a => (h1 a).1)) (getD_none (by decide) (fun a => (h1 a).2))), if_neg (fun h => h2 (congrArg Int.ofNat h))]
    dsimp only
    rw [← pk_rest, if_pos hc]
    exact Pst.mk (.mk ⟨_, trivial, rfl⟩) kk
  · rename_i h0 h1 h2
    rw [refA, refer_dec (getD_some h0) (fun h => h.elim (getD_none (by decide) (fun a => (h1 a).1)) (getD_none (by decide) (fun a => (h1 a).2))), if_neg (fun h => h2 (congrArg Int.ofNat h))]
    dsimp only
    rw [← pk_rest, if_neg hc]
    exact Pst.mk (.mk ⟨_, trivial, rfl⟩) kk
  · rename_i h0
    rw [refA, refer_name (getD_none (by decide) h0), if_pos (Int.ofNat.inj hc)]
    exact Pst.mk (.mk ⟨_, trivial, rfl⟩) kk
  · rename_i h0 h1 h2 h3 h4
    have h5 : (Md.matchT runeBytes s.rest).2.1 < s.rest.length := by omega
    rw [refA, refer_name (getD_none (by decide) h0), if_neg (fun h => h1 (congrArg Int.ofNat h)), if_pos ⟨⟨h2.1.1, h2.1.2, h5⟩, by rw [← getD_eof h5]; exact or_assoc.1 hc⟩]
    exact Pst.mk (.mk ⟨_, trivial, rfl⟩) kk
  · rename_i h0 h1 h2 h3 h4
    have h5 : (Md.matchT runeBytes s.rest).2.1 < s.rest.length := by omega
    rw [refA, refer_name (getD_none (by decide) h0), if_neg (fun h => h1 (congrArg Int.ofNat h)), if_neg (fun h => by
      have h6 := h.2
      rw [← getD_eof h5, hc.1.2, hc.2] at h6
      simp at h6
      exact hc.1.1 h6)]
    exact Pst.mk (.mk ⟨_, trivial, rfl⟩) kk
  · rename_i h0 h1 h2 h3 h4
    have h5 : (Md.matchT runeBytes s.rest).2.1 < s.rest.length := by omega
    rw [refA, refer_name (getD_none (by decide) h0), if_neg (fun h => h1 (congrArg Int.ofNat h)), if_pos ⟨⟨h2.1.1, h2.1.2, h5⟩, by rw [← getD_eof h5]; exact h4.imp (fun h => h) .inl⟩]
    exact Pst.mk (.mk ⟨_, trivial, rfl⟩) kk
  · rename_i h0 h1 h2 h3 h4
    rcases h4 with h4 | h4
    · exact absurd h4 hc.1
    · rw [hc.2] at h4; cases h4
  · rename_i h0 h1 h2 h3 h4
    have h5 : (Md.matchT runeBytes s.rest).2.1 < s.rest.length := by omega
    rw [refA, refer_name (getD_none (by decide) h0), if_neg (fun h => h1 (congrArg Int.ofNat h)), if_pos ⟨⟨h2.1.1, h2.1.2, h5⟩, by rw [← getD_eof h5]; exact .inl h3⟩]
    exact Pst.mk (.mk ⟨_, trivial, rfl⟩) kk
  · rename_i h0 h1
    rw [refA, refer_name (getD_none (by decide) h0), if_neg (fun h => h1 (congrArg Int.ofNat h)), if_neg (fun h => hc ⟨h.1.1, h.1.2.1⟩ (by have := h.1.2.2; omega))]
    exact Pst.mk (.mk ⟨_, trivial, rfl⟩) kk
end Go.Proofs.YticnenofiibpgaaDoor.Code
/- What the lexer's value does. -/
namespace Go.Proofs.YticnenofiibpgaaDoor.Code
open Go.Dm Go.Dm.C
set_option linter.unusedSimpArgs false
set_option linter.unusedVariables false
set_option linter.unnecessarySimpa false
set_option maxRecDepth 10000
attribute [local irreducible] Go.Dm.F Go.Dm.RS Go.Dm.Y Go.Dm.FD Go.Dm.FZ1 Go.Dm.Hold
variable {id : Nat} {s : Md.Lx} {g : Nat × Nat} {cs : List Ck}
theorem numeric_nn (n : Int) : 0 ≤ Md.numeric n := by
  unfold Md.numeric
  split
  · omega
  · split
    · have h : ∀ i, i < 32 → 0 ≤ Md.windows.getD i 0 := by decide
      exact h _ (by omega)
    · omega
theorem refer_facts (v : Bool) (l : List Int) : (Md.refer v l).1.length ≤ 2 ∧ (Md.refer v l).2 ≤ l.length ∧ ∀ r ∈ (Md.refer v l).1, 0 ≤ r := by
  have hm1 := Md.matchT_le l
  have hm2 := Md.matchT_len l
  have hm3 := Md.matchT_nn l
  by_cases h0 : l.getD 0 (-1) = 35
  · by_cases h1 : l.getD 1 (-1) = 120 ∨ l.getD 1 (-1) = 88
    · rw [refer_hex h0 h1]
      have hl : 1 < l.length := by
        by_cases h : 1 < l.length
        · exact h
        · rw [List.getD_eq_getElem?_getD, List.getElem?_eq_none (by omega)] at h1; simp at h1
      have hn := numeric_nn (Md.number 16 (l.drop 2) 0 0).1
      have hk := number_pos 16 (l.drop 2) 0 0
      rw [List.length_drop] at hk
      split
      · simp
      · refine ⟨by simp, ?_, by simpa using hn⟩
        dsimp only
        split
        · rename_i h2
          by_cases h : 2 + (Md.number 16 (l.drop 2) 0 0).2 < l.length
          · omega
          · rw [List.getD_eq_getElem?_getD, List.getElem?_eq_none (by omega)] at h2; simp at h2
        · omega
    · rw [refer_dec h0 h1]
      have hl : 0 < l.length := by
        by_cases h : 0 < l.length
        · exact h
        · rw [List.getD_eq_getElem?_getD, List.getElem?_eq_none (by omega)] at h0; simp at h0
      have hn := numeric_nn (Md.number 10 (l.drop 1) 0 0).1
      have hk := number_pos 10 (l.drop 1) 0 0
      rw [List.length_drop] at hk
      split
      · simp
      · refine ⟨by simp, ?_, by simpa using hn⟩
        dsimp only
        split
        · rename_i h2
          by_cases h : 1 + (Md.number 10 (l.drop 1) 0 0).2 < l.length
          · omega
          · rw [List.getD_eq_getElem?_getD, List.getElem?_eq_none (by omega)] at h2; simp at h2
        · omega
  · rw [refer_name h0]
    split
    · simp
    · split
      · simp
      · exact ⟨hm2, hm1, hm3⟩
theorem valueGo_nil (q : Int) (acc : List Int) : Md.valueGo q [] acc = (acc, false, 0) := by rw [Md.valueGo]
theorem valueGo_cons (q r : Int) (l acc : List Int) : Md.valueGo q (r :: l) acc = if q ≠ 0 ∧ r = q then (acc, true, 1) else if q = 0 ∧ (Md.blank r = true ∨ r = 62) then (acc, true, 0) else if r = 38 then
    ((Md.valueGo q (l.drop (Md.refer true l).2) (acc ++ (Md.refer true l).1)).1, (Md.valueGo q (l.drop (Md.refer true l).2) (acc ++ (Md.refer true l).1)).2.1, (Md.valueGo q (l.drop (Md.refer true l).2) (acc ++ (Md.refer true l).1)).2.2 + (Md.refer true l).2 + 1)
    else ((Md.valueGo q l (acc ++ [Md.fixr r])).1, (Md.valueGo q l (acc ++ [Md.fixr r])).2.1, (Md.valueGo q l (acc ++ [Md.fixr r])).2.2 + 1) := by rw [Md.valueGo]
theorem value1_FD {q t5 tt : Nat} {text : List Int} {c1 cs2 : List Ck} (h1 : Me (.obj t5 (.cells [.lst tt (zOf tt 1) (text.map I32)] none)) cs) (h2 : Me (.obj q (.cells [.ptr id 0] none)) cs) (hr : Rem (.own tt 1 (text.map I32)) cs c1) (hu : Upd1 (LX id s g) (LX id { s with text := text } (g.1, tt)) c1 cs2) :
    FD D 120 [.ptr t5 0, .ptr q 0] cs (fun cs' => cs2 = cs') := by
  refine FD.of rfl rfl ?_
  repeat' first | (show LD _ _ _ _; first | exact .ptr h1 (.one rfl) | exact .ptr h2 (.one rfl)) | (apply RR.storeS; exact rfl; exact rfl; exact LX.stTextBack hr hu; exact rfl) | exact arI | refine Pst.mk ⟨?_, rfl⟩ kk | constructor | (refine fun _ _ (hq : Hold _) => ?_; replace hq := hq.out; obtain ⟨_, rfl, rfl⟩ := hq) | (refine fun _ _ (hq : Hold _) => ?_; replace hq := hq.out; obtain ⟨_, _, rfl, rfl⟩ := hq) | rintro _ _ ⟨rfl, rfl⟩ | rintro _ _ ⟨_, rfl, rfl⟩ | rintro _ _ ⟨_, _, rfl, rfl⟩ | (refine fun (hc : _ = _) => ?_; (try simp only [BB] at hc)) | refine fun (_ : Nat) => ?_ | refine fun (_ : _ ≤ _) => ?_ | refine fun (_ : _ < _) => ?_
  exact Pst.mk rfl .refl
theorem rest_say (a : List Int) : (s.say a).rest = s.rest := rfl
theorem filter_nn {l : List Int} (h : ∀ r ∈ l, 0 ≤ r) : l.filter (· != -1) = l := by
  rw [List.filter_eq_self]; intro r hr; have := h r hr; simp; omega
theorem value_eq : Md.value s.rest = if s.pk (Md.blanksN s.rest) = 62 then ([], true, Md.blanksN s.rest) else if s.pk (Md.blanksN s.rest) = 34 ∨ s.pk (Md.blanksN s.rest) = 39 then
    (Md.encode (Md.valueGo (s.pk (Md.blanksN s.rest)) (s.adv (Md.blanksN s.rest + 1)).rest []).1, (Md.valueGo (s.pk (Md.blanksN s.rest)) (s.adv (Md.blanksN s.rest + 1)).rest []).2.1, Md.blanksN s.rest + 1 + (Md.valueGo (s.pk (Md.blanksN s.rest)) (s.adv (Md.blanksN s.rest + 1)).rest []).2.2)
    else (Md.encode (Md.valueGo 0 (s.adv (Md.blanksN s.rest)).rest []).1, (Md.valueGo 0 (s.adv (Md.blanksN s.rest)).rest []).2.1, Md.blanksN s.rest + (Md.valueGo 0 (s.adv (Md.blanksN s.rest)).rest []).2.2) := by
  simp only [Md.value, pk_rest, rest_adv]
theorem refA_eq {k : Nat} {acc : List Int} {v : Bool} : refA ((s.adv k).clr.say acc) v = ((s.adv (k + (Md.refer v (s.adv k).rest).2)).clr.say (acc ++ (Md.refer v (s.adv k).rest).1)) := by
  simp only [refA, rest_say, rest_clr, say_adv, adv_clr, adv_adv, say_say]
set_option maxHeartbeats 1000000 in
theorem value_F {cs2 : List Ck} (hu : Upd1 (LX id s g) (LX id (s.adv (Md.value s.rest).2.2) g) cs cs2) (hb : s.inp.length ≤ 1000000000 ∧ s.pos ≤ s.inp.length) (hn : ∀ r ∈ s.inp, 0 ≤ r) :
    F D 118 [.ptr id 0] cs (fun v cs' => v = .tup [.str (Md.value s.rest).1, .bool (Md.value s.rest).2.1] ∧ cs2 = cs') := by
  refine F.at1 hu fun R => F.of rfl rfl rfl ?_
  repeat' first | (show LD _ _ _ _; first | exact LX.ldPos kk | exact LX.ldWay kk | exact LX.ldLast kk | exact LX.ldRoom kk | exact LX.ldDone kk | exact LX.ldText kk) | (apply RR.lxIn; exact rfl; exact rfl; exact rfl; exact kk; refine fun _ => ?_) | (apply RR.lxOut; exact rfl; exact rfl; exact rfl; exact kk; refine fun _ => ?_) | (apply RR.storeS; exact rfl; exact rfl; first | exact LX.stPos 1 rfl kk | exact LX.stPos 2 rfl kk | exact LX.stPos 3 rfl kk | exact LX.stPos 6 rfl kk | exact LX.stPos 7 rfl kk | exact LX.stPos _ rfl kk | exact LX.stPos2 1 _ kk | exact LX.stPos2 2 _ kk | exact LX.stWay kk | exact LX.stLast kk | exact LX.stRoom kk | exact LX.stDone kk; exact rfl) | (show FC _ _ _ _ _; first | exact peek0_F kk (by first | omega | ((simp only [Md.Lx.adv, Md.Lx.say, Md.Lx.clr, List.nil_append, List.length_append, List.length_cons, List.length_nil]); omega)) | exact peek1_F kk (by first | omega | ((simp only [Md.Lx.adv, Md.Lx.say, Md.Lx.clr, List.nil_append, List.length_append, List.length_cons, List.length_nil]); omega)) | exact peek6_F kk (by first | omega | ((simp only [Md.Lx.adv, Md.Lx.say, Md.Lx.clr, List.nil_append, List.length_append, List.length_cons, List.length_nil]); omega)) | exact next_F kk (by first | omega | ((simp only [Md.Lx.adv, Md.Lx.say, Md.Lx.clr, List.nil_append, List.length_append, List.length_cons, List.length_nil]); omega)) | exact back_F kk (by first | omega | ((simp only [Md.Lx.adv, Md.Lx.say, Md.Lx.clr, List.nil_append, List.length_append, List.length_cons, List.length_nil]); omega)) | exact blank_F | exact letter_F | exact small_F | exact encode_F rfl (by first | omega | ((simp only [Md.Lx.adv, Md.Lx.say, Md.Lx.clr, List.nil_append, List.length_append, List.length_cons, List.length_nil]); omega)) | exact say_F rfl kk kk (by first | omega | ((simp only [Md.Lx.adv, Md.Lx.say, Md.Lx.clr, List.nil_append, List.length_append, List.length_cons, List.length_nil]); omega)) | exact stands_F kk (by first | omega | ((simp only [Md.Lx.adv, Md.Lx.say, Md.Lx.clr, List.nil_append, List.length_append, List.length_cons, List.length_nil]); omega)) (by decide) (by first | omega | ((simp only [Md.Lx.adv, Md.Lx.say, Md.Lx.clr, List.nil_append, List.length_append, List.length_cons, List.length_nil]); omega)) | exact exact_F kk (by first | omega | ((simp only [Md.Lx.adv, Md.Lx.say, Md.Lx.clr, List.nil_append, List.length_append, List.length_cons, List.length_nil]); omega)) (by decide) (by first | omega | ((simp only [Md.Lx.adv, Md.Lx.say, Md.Lx.clr, List.nil_append, List.length_append, List.length_cons, List.length_nil]); omega))) | (refine fun (hc : _ = _) => ?_; (try simp only [BB] at hc); (try (first | contradiction | (exfalso; omega)))) | (refine Arith.mk ?_; (try intro _); simp only [Md.Lx.adv, Md.Lx.say, Md.Lx.clr, List.nil_append, List.length_append, List.length_cons, List.length_nil]; omega) | exact arI | refine Pst.mk ⟨?_, rfl⟩ kk | constructor | (refine fun _ _ (hq : Hold _) => ?_; replace hq := hq.out; obtain ⟨_, rfl, rfl⟩ := hq) | (refine fun _ _ (hq : Hold _) => ?_; replace hq := hq.out; obtain ⟨_, _, rfl, rfl⟩ := hq) | rintro _ _ ⟨rfl, rfl⟩ | rintro _ _ ⟨_, rfl, rfl⟩ | rintro _ _ ⟨_, _, rfl, rfl⟩ | (refine fun (hc : _ = _) => ?_; (try simp only [BB] at hc)) | refine fun (_ : Nat) => ?_ | refine fun (_ : _ ≤ _) => ?_ | refine fun (_ : _ < _) => ?_
  rename_i q hq
  refine RS.loopW (α := Nat) (fun i => [(1, .ptr q 0), (2, .str []), (3, .bool false)]) (fun i => .obj q (.cells [.ptr id 0] none) :: LX id (s.adv i) g :: R)
    (fun i => i + Md.blanksN (s.adv i).rest = Md.blanksN s.rest ∧ (i = 0 ∨ s.pos + i ≤ s.inp.length)) (fun i => s.inp.length - (s.pos + i)) 0 ⟨by simp [adv_zero], .inl rfl⟩ ⟨rfl, rfl, rfl, trivial⟩ .refl ?_
  rintro i ⟨h1, h2⟩ ih
  dsimp only [ents] at *
  (have hst := fun h => rest_adv_cons (s := s) (i := i) h; have hnil := fun h => rest_adv_nil (s := s) (i := i) h; have hpn := fun h => pk_out (s := s) (i := i) h; have hpi := fun h => pk_in (s := s) (i := i) hn h)
  have hbs := fun h => blanksN_step (s := s.adv i) h
  rw [adv_adv] at hbs
  repeat' first | (show LD _ _ _ _; first | exact LX.ldText kk) | (apply RR.storeS; exact rfl; exact rfl; exact LX.stTextNil kk; exact rfl) | (show FC _ _ _ _ _; first | exact peek0_F kk (by first | omega | ((simp only [Md.Lx.adv, Md.Lx.say, Md.Lx.clr, List.nil_append, List.length_append, List.length_cons, List.length_nil]); omega)) | exact peek1_F kk (by first | omega | ((simp only [Md.Lx.adv, Md.Lx.say, Md.Lx.clr, List.nil_append, List.length_append, List.length_cons, List.length_nil]); omega)) | exact peek6_F kk (by first | omega | ((simp only [Md.Lx.adv, Md.Lx.say, Md.Lx.clr, List.nil_append, List.length_append, List.length_cons, List.length_nil]); omega)) | exact next_F kk (by first | omega | ((simp only [Md.Lx.adv, Md.Lx.say, Md.Lx.clr, List.nil_append, List.length_append, List.length_cons, List.length_nil]); omega)) | exact back_F kk (by first | omega | ((simp only [Md.Lx.adv, Md.Lx.say, Md.Lx.clr, List.nil_append, List.length_append, List.length_cons, List.length_nil]); omega)) | exact blank_F | exact letter_F | exact small_F | exact encode_F rfl (by first | omega | ((simp only [Md.Lx.adv, Md.Lx.say, Md.Lx.clr, List.nil_append, List.length_append, List.length_cons, List.length_nil]); omega)) | exact say_F rfl kk kk (by first | omega | ((simp only [Md.Lx.adv, Md.Lx.say, Md.Lx.clr, List.nil_append, List.length_append, List.length_cons, List.length_nil]); omega)) | exact stands_F kk (by first | omega | ((simp only [Md.Lx.adv, Md.Lx.say, Md.Lx.clr, List.nil_append, List.length_append, List.length_cons, List.length_nil]); omega)) (by decide) (by first | omega | ((simp only [Md.Lx.adv, Md.Lx.say, Md.Lx.clr, List.nil_append, List.length_append, List.length_cons, List.length_nil]); omega)) | exact exact_F kk (by first | omega | ((simp only [Md.Lx.adv, Md.Lx.say, Md.Lx.clr, List.nil_append, List.length_append, List.length_cons, List.length_nil]); omega)) (by decide) (by first | omega | ((simp only [Md.Lx.adv, Md.Lx.say, Md.Lx.clr, List.nil_append, List.length_append, List.length_cons, List.length_nil]); omega))) | (refine fun (hc : _ = _) => ?_; (try simp only [BB] at hc); (try (first | contradiction | (exfalso; omega)))) | exact arI | refine Pst.mk ⟨?_, rfl⟩ kk | constructor | (refine fun _ _ (hq : Hold _) => ?_; replace hq := hq.out; obtain ⟨_, rfl, rfl⟩ := hq) | (refine fun _ _ (hq : Hold _) => ?_; replace hq := hq.out; obtain ⟨_, _, rfl, rfl⟩ := hq) | rintro _ _ ⟨rfl, rfl⟩ | rintro _ _ ⟨_, rfl, rfl⟩ | rintro _ _ ⟨_, _, rfl, rfl⟩ | (refine fun (hc : _ = _) => ?_; (try simp only [BB] at hc)) | refine fun (_ : Nat) => ?_ | refine fun (_ : _ ≤ _) => ?_ | refine fun (_ : _ < _) => ?_
  · have hlt : s.pos + i < s.inp.length := by
      by_cases h : s.pos + i < s.inp.length
      · exact h
      · have e : (s.adv i).pk 0 = -1 := by rw [pk_adv, Nat.add_zero]; exact hpn (by omega)
        rw [e] at hc; cases hc
    have h3 := hbs hlt
    rw [if_pos hc] at h3
    exact ih _ _ (i + 1) ⟨by omega, .inr (by omega)⟩ (by omega) ⟨rfl, rfl, rfl, trivial⟩ kk
  all_goals
    have hib : i = Md.blanksN s.rest := by
      by_cases h : s.pos + i < s.inp.length
      · have h3 := hbs h
        rw [if_neg (by simp_all)] at h3; omega
      · have h3 := hnil (by omega); rw [h3] at h1; simpa [Md.blanksN] using h1
    have e0 : (s.adv i).pk 0 = s.pk i := by rw [pk_adv, Nat.add_zero]
    have hve := value_eq (s := s)
    rw [← hib] at hve
  · rename_i t5 _
    generalize i = i0 at *
    rw [if_neg (by omega), if_pos (by omega)] at hve
    refine RS.loopW (α := Nat × Nat × List Int) (fun a => [(1, .ptr q 0), (4, .int .i32 (s.pk i0))]) (fun a => .own g.2 1 (s.text.map I32) :: .obj t5 (.cells [.lst g.2 (zOf g.2 1) (s.text.map I32)] none) :: .obj q (.cells [.ptr id 0] none) :: LX id ((s.adv a.1).clr.say a.2.2) (g.1, a.2.1) :: R)
      (fun a => (Md.valueGo (s.pk i0) (s.adv a.1).rest a.2.2).1 = (Md.valueGo (s.pk i0) (s.adv (i0 + 1)).rest []).1 ∧ (Md.valueGo (s.pk i0) (s.adv a.1).rest a.2.2).2.1 = (Md.valueGo (s.pk i0) (s.adv (i0 + 1)).rest []).2.1 ∧ a.1 + (Md.valueGo (s.pk i0) (s.adv a.1).rest a.2.2).2.2 = i0 + 1 + (Md.valueGo (s.pk i0) (s.adv (i0 + 1)).rest []).2.2 ∧ (∀ r ∈ a.2.2, 0 ≤ r) ∧ a.2.2.length ≤ 2 * a.1 ∧ s.pos + a.1 ≤ s.inp.length) (fun a => s.inp.length - (s.pos + a.1)) (i0 + 1, 0, []) ⟨rfl, rfl, rfl, by simp, by simp, by dsimp only; omega⟩ ⟨rfl, rfl, trivial⟩ .refl ?_
    clear hst hnil hpn hpi hbs
    rintro ⟨i, tt, acc⟩ ⟨k1, k2, k3, k4, k5, k6⟩ ih
    dsimp only [ents] at *
    (have hst := fun h => rest_adv_cons (s := s) (i := i) h; have hnil := fun h => rest_adv_nil (s := s) (i := i) h; have hpn := fun h => pk_out (s := s) (i := i) h; have hpi := fun h => pk_in (s := s) (i := i) hn h)
    have hfl := filter_le acc
    repeat' first | (show LD _ _ _ _; first | exact LX.ldText kk) | exact value1_FD kk kk kk kk | (show FC _ _ _ _ _; first | exact reference_F kk (by simp only [Md.Lx.adv, Md.Lx.say, Md.Lx.clr, List.nil_append, List.length_append]; omega) | exact say_F rfl kk kk (by simp only [Md.Lx.adv, Md.Lx.say, Md.Lx.clr, List.nil_append, List.length_append, List.length_cons, List.length_nil]; omega) | exact encode_F (rs := ([] ++ acc.filter (· != -1))) rfl (by simp only [List.nil_append]; omega) | exact peek0_F kk (by first | omega | ((simp only [Md.Lx.adv, Md.Lx.say, Md.Lx.clr, List.nil_append, List.length_append, List.length_cons, List.length_nil]); omega)) | exact peek1_F kk (by first | omega | ((simp only [Md.Lx.adv, Md.Lx.say, Md.Lx.clr, List.nil_append, List.length_append, List.length_cons, List.length_nil]); omega)) | exact peek6_F kk (by first | omega | ((simp only [Md.Lx.adv, Md.Lx.say, Md.Lx.clr, List.nil_append, List.length_append, List.length_cons, List.length_nil]); omega)) | exact next_F kk (by first | omega | ((simp only [Md.Lx.adv, Md.Lx.say, Md.Lx.clr, List.nil_append, List.length_append, List.length_cons, List.length_nil]); omega)) | exact back_F kk (by first | omega | ((simp only [Md.Lx.adv, Md.Lx.say, Md.Lx.clr, List.nil_append, List.length_append, List.length_cons, List.length_nil]); omega)) | exact blank_F | exact letter_F | exact small_F | exact encode_F rfl (by first | omega | ((simp only [Md.Lx.adv, Md.Lx.say, Md.Lx.clr, List.nil_append, List.length_append, List.length_cons, List.length_nil]); omega)) | exact say_F rfl kk kk (by first | omega | ((simp only [Md.Lx.adv, Md.Lx.say, Md.Lx.clr, List.nil_append, List.length_append, List.length_cons, List.length_nil]); omega)) | exact stands_F kk (by first | omega | ((simp only [Md.Lx.adv, Md.Lx.say, Md.Lx.clr, List.nil_append, List.length_append, List.length_cons, List.length_nil]); omega)) (by decide) (by first | omega | ((simp only [Md.Lx.adv, Md.Lx.say, Md.Lx.clr, List.nil_append, List.length_append, List.length_cons, List.length_nil]); omega)) | exact exact_F kk (by first | omega | ((simp only [Md.Lx.adv, Md.Lx.say, Md.Lx.clr, List.nil_append, List.length_append, List.length_cons, List.length_nil]); omega)) (by decide) (by first | omega | ((simp only [Md.Lx.adv, Md.Lx.say, Md.Lx.clr, List.nil_append, List.length_append, List.length_cons, List.length_nil]); omega))) | (refine fun _ (hq : _ = _) => ?_; subst hq) | (refine fun (hc : _ = _) => ?_; (try simp only [BB] at hc); (try (first | contradiction | (exfalso; omega)))) | exact arI | refine Pst.mk ⟨?_, rfl⟩ kk | constructor | (refine fun _ _ (hq : Hold _) => ?_; replace hq := hq.out; obtain ⟨_, rfl, rfl⟩ := hq) | (refine fun _ _ (hq : Hold _) => ?_; replace hq := hq.out; obtain ⟨_, _, rfl, rfl⟩ := hq) | rintro _ _ ⟨rfl, rfl⟩ | rintro _ _ ⟨_, rfl, rfl⟩ | rintro _ _ ⟨_, _, rfl, rfl⟩ | (refine fun (hc : _ = _) => ?_; (try simp only [BB] at hc)) | refine fun (_ : Nat) => ?_ | refine fun (_ : _ ≤ _) => ?_ | refine fun (_ : _ < _) => ?_
    all_goals (try simp only [pk_adv, pk_say, Nat.add_zero, adv_adv, say_say, say_adv, pk_clr, adv_clr] at *)
    · have hge : s.inp.length ≤ s.pos + i := by by_cases h : s.pos + i < s.inp.length; (have := hpi h; omega); omega
      rw [hnil hge, valueGo_nil] at k1 k2 k3
      dsimp only at k1 k2 k3
      rw [List.nil_append, filter_nn k4, hve]
      dsimp only
      rw [← k1, ← k2, ← k3]
      exact Pst.mk ⟨rfl, rfl⟩ kk
    · have hlt : s.pos + i < s.inp.length := by by_cases h : s.pos + i < s.inp.length; exact h; have := hpn (by omega); omega
      rw [hst hlt, valueGo_cons, if_pos (by omega)] at k1 k2 k3
      dsimp only at k1 k2 k3
      rw [List.nil_append, filter_nn k4, hve]
      dsimp only
      rw [← k1, ← k2, ← k3]
      exact Pst.mk ⟨rfl, rfl⟩ kk
    · rename_i hA hB
      have hlt : s.pos + i < s.inp.length := by by_cases h : s.pos + i < s.inp.length; exact h; have := hpn (by omega); omega
      have hrf := refer_facts true (s.adv (i + 1)).rest
      have hrl := rest_len (s := s.adv (i + 1))
      have hrp : (s.adv (i + 1)).pos = s.pos + (i + 1) := rfl
      have hri : (s.adv (i + 1)).inp = s.inp := rfl
      rw [hrp, hri] at hrl
      rw [hst hlt, valueGo_cons, if_neg (fun h => by omega), if_neg (fun h => by omega), if_pos hc, ← rest_adv, adv_adv] at k1 k2 k3
      refine ih _ _ (i + 1 + (Md.refer true (s.adv (i + 1)).rest).2, _, acc ++ (Md.refer true (s.adv (i + 1)).rest).1) ⟨k1, k2, ?_, ?_, ?_, ?_⟩ ?_ ⟨rfl, rfl, trivial⟩ (by rw [refA_eq]; exact kk)
      · dsimp only at k3 ⊢; omega
      · intro r hr; rcases List.mem_append.1 hr with hr | hr; exact k4 r hr; exact hrf.2.2 r hr
      · simp only [List.length_append]; omega
      · dsimp only; omega
      · dsimp only; omega
    all_goals
      rename_i hA hB hC
      have hlt : s.pos + i < s.inp.length := by by_cases h : s.pos + i < s.inp.length; exact h; have := hpn (by omega); omega
      rw [hst hlt, valueGo_cons, if_neg (fun h => by omega), if_neg (fun h => by omega), if_neg hC] at k1 k2 k3
    · rw [Md.fixr, if_pos hc] at k1 k2 k3
      refine ih _ _ (i + 1, _, acc ++ [65533]) ⟨k1, k2, by dsimp only at k3 ⊢; omega, ?_, by simp; omega, by dsimp only; omega⟩ (by dsimp only; omega) ⟨rfl, rfl, trivial⟩ kk
      intro r hr; rcases List.mem_append.1 hr with hr | hr; exact k4 r hr; simp at hr; omega
    · rw [Md.fixr, if_neg hc] at k1 k2 k3
      refine ih _ _ (i + 1, _, acc ++ [s.pk i]) ⟨k1, k2, by dsimp only at k3 ⊢; omega, ?_, by simp; omega, by dsimp only; omega⟩ (by dsimp only; omega) ⟨rfl, rfl, trivial⟩ kk
      have := hpi hlt
      intro r hr; rcases List.mem_append.1 hr with hr | hr; exact k4 r hr; simp at hr; omega
  · rename_i t5 _
    generalize i = i0 at *
    rw [if_neg (by omega), if_pos (by omega)] at hve
    refine RS.loopW (α := Nat × Nat × List Int) (fun a => [(1, .ptr q 0), (4, .int .i32 (s.pk i0))]) (fun a => .own g.2 1 (s.text.map I32) :: .obj t5 (.cells [.lst g.2 (zOf g.2 1) (s.text.map I32)] none) :: .obj q (.cells [.ptr id 0] none) :: LX id ((s.adv a.1).clr.say a.2.2) (g.1, a.2.1) :: R)
      (fun a => (Md.valueGo (s.pk i0) (s.adv a.1).rest a.2.2).1 = (Md.valueGo (s.pk i0) (s.adv (i0 + 1)).rest []).1 ∧ (Md.valueGo (s.pk i0) (s.adv a.1).rest a.2.2).2.1 = (Md.valueGo (s.pk i0) (s.adv (i0 + 1)).rest []).2.1 ∧ a.1 + (Md.valueGo (s.pk i0) (s.adv a.1).rest a.2.2).2.2 = i0 + 1 + (Md.valueGo (s.pk i0) (s.adv (i0 + 1)).rest []).2.2 ∧ (∀ r ∈ a.2.2, 0 ≤ r) ∧ a.2.2.length ≤ 2 * a.1 ∧ s.pos + a.1 ≤ s.inp.length) (fun a => s.inp.length - (s.pos + a.1)) (i0 + 1, 0, []) ⟨rfl, rfl, rfl, by simp, by simp, by dsimp only; omega⟩ ⟨rfl, rfl, trivial⟩ .refl ?_
    clear hst hnil hpn hpi hbs
    rintro ⟨i, tt, acc⟩ ⟨k1, k2, k3, k4, k5, k6⟩ ih
    dsimp only [ents] at *
    (have hst := fun h => rest_adv_cons (s := s) (i := i) h; have hnil := fun h => rest_adv_nil (s := s) (i := i) h; have hpn := fun h => pk_out (s := s) (i := i) h; have hpi := fun h => pk_in (s := s) (i := i) hn h)
    have hfl := filter_le acc
    repeat' first | (show LD _ _ _ _; first | exact LX.ldText kk) | exact value1_FD kk kk kk kk | (show FC _ _ _ _ _; first | exact reference_F kk (by simp only [Md.Lx.adv, Md.Lx.say, Md.Lx.clr, List.nil_append, List.length_append]; omega) | exact say_F rfl kk kk (by simp only [Md.Lx.adv, Md.Lx.say, Md.Lx.clr, List.nil_append, List.length_append, List.length_cons, List.length_nil]; omega) | exact encode_F (rs := ([] ++ acc.filter (· != -1))) rfl (by simp only [List.nil_append]; omega) | exact peek0_F kk (by first | omega | ((simp only [Md.Lx.adv, Md.Lx.say, Md.Lx.clr, List.nil_append, List.length_append, List.length_cons, List.length_nil]); omega)) | exact peek1_F kk (by first | omega | ((simp only [Md.Lx.adv, Md.Lx.say, Md.Lx.clr, List.nil_append, List.length_append, List.length_cons, List.length_nil]); omega)) | exact peek6_F kk (by first | omega | ((simp only [Md.Lx.adv, Md.Lx.say, Md.Lx.clr, List.nil_append, List.length_append, List.length_cons, List.length_nil]); omega)) | exact next_F kk (by first | omega | ((simp only [Md.Lx.adv, Md.Lx.say, Md.Lx.clr, List.nil_append, List.length_append, List.length_cons, List.length_nil]); omega)) | exact back_F kk (by first | omega | ((simp only [Md.Lx.adv, Md.Lx.say, Md.Lx.clr, List.nil_append, List.length_append, List.length_cons, List.length_nil]); omega)) | exact blank_F | exact letter_F | exact small_F | exact encode_F rfl (by first | omega | ((simp only [Md.Lx.adv, Md.Lx.say, Md.Lx.clr, List.nil_append, List.length_append, List.length_cons, List.length_nil]); omega)) | exact say_F rfl kk kk (by first | omega | ((simp only [Md.Lx.adv, Md.Lx.say, Md.Lx.clr, List.nil_append, List.length_append, List.length_cons, List.length_nil]); omega)) | exact stands_F kk (by first | omega | ((simp only [Md.Lx.adv, Md.Lx.say, Md.Lx.clr, List.nil_append, List.length_append, List.length_cons, List.length_nil]); omega)) (by decide) (by first | omega | ((simp only [Md.Lx.adv, Md.Lx.say, Md.Lx.clr, List.nil_append, List.length_append, List.length_cons, List.length_nil]); omega)) | exact exact_F kk (by first | omega | ((simp only [Md.Lx.adv, Md.Lx.say, Md.Lx.clr, List.nil_append, List.length_append, List.length_cons, List.length_nil]); omega)) (by decide) (by first | omega | ((simp only [Md.Lx.adv, Md.Lx.say, Md.Lx.clr, List.nil_append, List.length_append, List.length_cons, List.length_nil]); omega))) | (refine fun _ (hq : _ = _) => ?_; subst hq) | (refine fun (hc : _ = _) => ?_; (try simp only [BB] at hc); (try (first | contradiction | (exfalso; omega)))) | exact arI | refine Pst.mk ⟨?_, rfl⟩ kk | constructor | (refine fun _ _ (hq : Hold _) => ?_; replace hq := hq.out; obtain ⟨_, rfl, rfl⟩ := hq) | (refine fun _ _ (hq : Hold _) => ?_; replace hq := hq.out; obtain ⟨_, _, rfl, rfl⟩ := hq) | rintro _ _ ⟨rfl, rfl⟩ | rintro _ _ ⟨_, rfl, rfl⟩ | rintro _ _ ⟨_, _, rfl, rfl⟩ | (refine fun (hc : _ = _) => ?_; (try simp only [BB] at hc)) | refine fun (_ : Nat) => ?_ | refine fun (_ : _ ≤ _) => ?_ | refine fun (_ : _ < _) => ?_
    all_goals (try simp only [pk_adv, pk_say, Nat.add_zero, adv_adv, say_say, say_adv, pk_clr, adv_clr] at *)
    · have hge : s.inp.length ≤ s.pos + i := by by_cases h : s.pos + i < s.inp.length; (have := hpi h; omega); omega
      rw [hnil hge, valueGo_nil] at k1 k2 k3
      dsimp only at k1 k2 k3
      rw [List.nil_append, filter_nn k4, hve]
      dsimp only
      rw [← k1, ← k2, ← k3]
      exact Pst.mk ⟨rfl, rfl⟩ kk
    · have hlt : s.pos + i < s.inp.length := by by_cases h : s.pos + i < s.inp.length; exact h; have := hpn (by omega); omega
      rw [hst hlt, valueGo_cons, if_pos (by omega)] at k1 k2 k3
      dsimp only at k1 k2 k3
      rw [List.nil_append, filter_nn k4, hve]
      dsimp only
      rw [← k1, ← k2, ← k3]
      exact Pst.mk ⟨rfl, rfl⟩ kk
    · rename_i hA hB
      have hlt : s.pos + i < s.inp.length := by by_cases h : s.pos + i < s.inp.length; exact h; have := hpn (by omega); omega
      have hrf := refer_facts true (s.adv (i + 1)).rest
      have hrl := rest_len (s := s.adv (i + 1))
      have hrp : (s.adv (i + 1)).pos = s.pos + (i + 1) := rfl
      have hri : (s.adv (i + 1)).inp = s.inp := rfl
      rw [hrp, hri] at hrl
      rw [hst hlt, valueGo_cons, if_neg (fun h => by omega), if_neg (fun h => by omega), if_pos hc, ← rest_adv, adv_adv] at k1 k2 k3
      refine ih _ _ (i + 1 + (Md.refer true (s.adv (i + 1)).rest).2, _, acc ++ (Md.refer true (s.adv (i + 1)).rest).1) ⟨k1, k2, ?_, ?_, ?_, ?_⟩ ?_ ⟨rfl, rfl, trivial⟩ (by rw [refA_eq]; exact kk)
      · dsimp only at k3 ⊢; omega
      · intro r hr; rcases List.mem_append.1 hr with hr | hr; exact k4 r hr; exact hrf.2.2 r hr
      · simp only [List.length_append]; omega
      · dsimp only; omega
      · dsimp only; omega
    all_goals
      rename_i hA hB hC
      have hlt : s.pos + i < s.inp.length := by by_cases h : s.pos + i < s.inp.length; exact h; have := hpn (by omega); omega
      rw [hst hlt, valueGo_cons, if_neg (fun h => by omega), if_neg (fun h => by omega), if_neg hC] at k1 k2 k3
    · rw [Md.fixr, if_pos hc] at k1 k2 k3
      refine ih _ _ (i + 1, _, acc ++ [65533]) ⟨k1, k2, by dsimp only at k3 ⊢; omega, ?_, by simp; omega, by dsimp only; omega⟩ (by dsimp only; omega) ⟨rfl, rfl, trivial⟩ kk
      intro r hr; rcases List.mem_append.1 hr with hr | hr; exact k4 r hr; simp at hr; omega
    · rw [Md.fixr, if_neg hc] at k1 k2 k3
      refine ih _ _ (i + 1, _, acc ++ [s.pk i]) ⟨k1, k2, by dsimp only at k3 ⊢; omega, ?_, by simp; omega, by dsimp only; omega⟩ (by dsimp only; omega) ⟨rfl, rfl, trivial⟩ kk
      have := hpi hlt
      intro r hr; rcases List.mem_append.1 hr with hr | hr; exact k4 r hr; simp at hr; omega
  · rw [hve, if_pos (by omega)]
    exact Pst.mk ⟨rfl, rfl⟩ kk
  · rename_i t5 _
    generalize i = i0 at *
    rw [if_neg (by omega), if_neg (by omega)] at hve
    refine RS.loopW (α := Nat × Nat × List Int) (fun a => [(1, .ptr q 0), (4, .int .i32 (0))]) (fun a => .own g.2 1 (s.text.map I32) :: .obj t5 (.cells [.lst g.2 (zOf g.2 1) (s.text.map I32)] none) :: .obj q (.cells [.ptr id 0] none) :: LX id ((s.adv a.1).clr.say a.2.2) (g.1, a.2.1) :: R)
      (fun a => (Md.valueGo (0) (s.adv a.1).rest a.2.2).1 = (Md.valueGo (0) (s.adv (i0)).rest []).1 ∧ (Md.valueGo (0) (s.adv a.1).rest a.2.2).2.1 = (Md.valueGo (0) (s.adv (i0)).rest []).2.1 ∧ a.1 + (Md.valueGo (0) (s.adv a.1).rest a.2.2).2.2 = i0 + (Md.valueGo (0) (s.adv (i0)).rest []).2.2 ∧ (∀ r ∈ a.2.2, 0 ≤ r) ∧ a.2.2.length ≤ 2 * a.1 ∧ s.pos + a.1 ≤ s.inp.length) (fun a => s.inp.length - (s.pos + a.1)) (i0, 0, []) ⟨rfl, rfl, rfl, by simp, by simp, by dsimp only; omega⟩ ⟨rfl, rfl, trivial⟩ .refl ?_
    clear hst hnil hpn hpi hbs
    rintro ⟨i, tt, acc⟩ ⟨k1, k2, k3, k4, k5, k6⟩ ih
    dsimp only [ents] at *
    (have hst := fun h => rest_adv_cons (s := s) (i := i) h; have hnil := fun h => rest_adv_nil (s := s) (i := i) h; have hpn := fun h => pk_out (s := s) (i := i) h; have hpi := fun h => pk_in (s := s) (i := i) hn h)
    have hfl := filter_le acc
    repeat' first | (show LD _ _ _ _; first | exact LX.ldText kk) | exact value1_FD kk kk kk kk | (show FC _ _ _ _ _; first | exact reference_F kk (by simp only [Md.Lx.adv, Md.Lx.say, Md.Lx.clr, List.nil_append, List.length_append]; omega) | exact say_F rfl kk kk (by simp only [Md.Lx.adv, Md.Lx.say, Md.Lx.clr, List.nil_append, List.length_append, List.length_cons, List.length_nil]; omega) | exact encode_F (rs := ([] ++ acc.filter (· != -1))) rfl (by simp only [List.nil_append]; omega) | exact peek0_F kk (by first | omega | ((simp only [Md.Lx.adv, Md.Lx.say, Md.Lx.clr, List.nil_append, List.length_append, List.length_cons, List.length_nil]); omega)) | exact peek1_F kk (by first | omega | ((simp only [Md.Lx.adv, Md.Lx.say, Md.Lx.clr, List.nil_append, List.length_append, List.length_cons, List.length_nil]); omega)) | exact peek6_F kk (by first | omega | ((simp only [Md.Lx.adv, Md.Lx.say, Md.Lx.clr, List.nil_append, List.length_append, List.length_cons, List.length_nil]); omega)) | exact next_F kk (by first | omega | ((simp only [Md.Lx.adv, Md.Lx.say, Md.Lx.clr, List.nil_append, List.length_append, List.length_cons, List.length_nil]); omega)) | exact back_F kk (by first | omega | ((simp only [Md.Lx.adv, Md.Lx.say, Md.Lx.clr, List.nil_append, List.length_append, List.length_cons, List.length_nil]); omega)) | exact blank_F | exact letter_F | exact small_F | exact encode_F rfl (by first | omega | ((simp only [Md.Lx.adv, Md.Lx.say, Md.Lx.clr, List.nil_append, List.length_append, List.length_cons, List.length_nil]); omega)) | exact say_F rfl kk kk (by first | omega | ((simp only [Md.Lx.adv, Md.Lx.say, Md.Lx.clr, List.nil_append, List.length_append, List.length_cons, List.length_nil]); omega)) | exact stands_F kk (by first | omega | ((simp only [Md.Lx.adv, Md.Lx.say, Md.Lx.clr, List.nil_append, List.length_append, List.length_cons, List.length_nil]); omega)) (by decide) (by first | omega | ((simp only [Md.Lx.adv, Md.Lx.say, Md.Lx.clr, List.nil_append, List.length_append, List.length_cons, List.length_nil]); omega)) | exact exact_F kk (by first | omega | ((simp only [Md.Lx.adv, Md.Lx.say, Md.Lx.clr, List.nil_append, List.length_append, List.length_cons, List.length_nil]); omega)) (by decide) (by first | omega | ((simp only [Md.Lx.adv, Md.Lx.say, Md.Lx.clr, List.nil_append, List.length_append, List.length_cons, List.length_nil]); omega))) | (refine fun _ (hq : _ = _) => ?_; subst hq) | (refine fun (hc : _ = _) => ?_; (try simp only [BB] at hc); (try (first | contradiction | (exfalso; omega)))) | exact arI | refine Pst.mk ⟨?_, rfl⟩ kk | constructor | (refine fun _ _ (hq : Hold _) => ?_; replace hq := hq.out; obtain ⟨_, rfl, rfl⟩ := hq) | (refine fun _ _ (hq : Hold _) => ?_; replace hq := hq.out; obtain ⟨_, _, rfl, rfl⟩ := hq) | rintro _ _ ⟨rfl, rfl⟩ | rintro _ _ ⟨_, rfl, rfl⟩ | rintro _ _ ⟨_, _, rfl, rfl⟩ | (refine fun (hc : _ = _) => ?_; (try simp only [BB] at hc)) | refine fun (_ : Nat) => ?_ | refine fun (_ : _ ≤ _) => ?_ | refine fun (_ : _ < _) => ?_
    all_goals (try simp only [pk_adv, pk_say, Nat.add_zero, adv_adv, say_say, say_adv, pk_clr, adv_clr] at *)
    · have hge : s.inp.length ≤ s.pos + i := by by_cases h : s.pos + i < s.inp.length; (have := hpi h; omega); omega
      rw [hnil hge, valueGo_nil] at k1 k2 k3
      dsimp only at k1 k2 k3
      rw [List.nil_append, filter_nn k4, hve]
      dsimp only
      rw [← k1, ← k2, ← k3]
      exact Pst.mk ⟨rfl, rfl⟩ kk
    · have hlt : s.pos + i < s.inp.length := by by_cases h : s.pos + i < s.inp.length; exact h; have := hpn (by omega); omega
      rw [hst hlt, valueGo_cons, if_neg (fun h => h.1 rfl), if_pos ⟨rfl, hc⟩] at k1 k2 k3
      dsimp only at k1 k2 k3
      rw [List.nil_append, filter_nn k4, hve]
      dsimp only
      rw [← k1, ← k2, ← k3]
      exact Pst.mk ⟨rfl, rfl⟩ kk
    · rename_i hA hB
      have hlt : s.pos + i < s.inp.length := by by_cases h : s.pos + i < s.inp.length; exact h; have := hpn (by omega); omega
      have hrf := refer_facts true (s.adv (i + 1)).rest
      have hrl := rest_len (s := s.adv (i + 1))
      have hrp : (s.adv (i + 1)).pos = s.pos + (i + 1) := rfl
      have hri : (s.adv (i + 1)).inp = s.inp := rfl
      rw [hrp, hri] at hrl
      rw [hst hlt, valueGo_cons, if_neg (fun h => h.1 rfl), if_neg (fun h => h.2.elim (fun hx => by rw [hB.1] at hx; cases hx) hB.2), if_pos hc, ← rest_adv, adv_adv] at k1 k2 k3
      refine ih _ _ (i + 1 + (Md.refer true (s.adv (i + 1)).rest).2, _, acc ++ (Md.refer true (s.adv (i + 1)).rest).1) ⟨k1, k2, ?_, ?_, ?_, ?_⟩ ?_ ⟨rfl, rfl, trivial⟩ (by rw [refA_eq]; exact kk)
      · dsimp only at k3 ⊢; omega
      · intro r hr; rcases List.mem_append.1 hr with hr | hr; exact k4 r hr; exact hrf.2.2 r hr
      · simp only [List.length_append]; omega
      · dsimp only; omega
      · dsimp only; omega
    all_goals
      rename_i hA hB hC
      have hlt : s.pos + i < s.inp.length := by by_cases h : s.pos + i < s.inp.length; exact h; have := hpn (by omega); omega
      rw [hst hlt, valueGo_cons, if_neg (fun h => h.1 rfl), if_neg (fun h => h.2.elim (fun hx => by rw [hB.1] at hx; cases hx) hB.2), if_neg hC] at k1 k2 k3
    · rw [Md.fixr, if_pos hc] at k1 k2 k3
      refine ih _ _ (i + 1, _, acc ++ [65533]) ⟨k1, k2, by dsimp only at k3 ⊢; omega, ?_, by simp; omega, by dsimp only; omega⟩ (by dsimp only; omega) ⟨rfl, rfl, trivial⟩ kk
      intro r hr; rcases List.mem_append.1 hr with hr | hr; exact k4 r hr; simp at hr; omega
    · rw [Md.fixr, if_neg hc] at k1 k2 k3
      refine ih _ _ (i + 1, _, acc ++ [s.pk i]) ⟨k1, k2, by dsimp only at k3 ⊢; omega, ?_, by simp; omega, by dsimp only; omega⟩ (by dsimp only; omega) ⟨rfl, rfl, trivial⟩ kk
      have := hpi hlt
      intro r hr; rcases List.mem_append.1 hr with hr | hr; exact k4 r hr; simp at hr; omega
end Go.Proofs.YticnenofiibpgaaDoor.Code
/- What attributes' look-up, the lexer's attr, attrs, tag do. -/
namespace Go.Md
/-- The place of the first attribute of a name; -1: there is none. -/
def idxA (n : Str) : List (Str × Str) → Nat → Int
  | [], _ => -1
  | a :: l, i => if a.1 = n then i else idxA n l (i + 1)
def getA (al : List (Str × Str)) (n : Str) : Str × Bool := if idxA n al 0 < 0 then ([], false) else ((al.getD (idxA n al 0).toNat default).2, true)
theorem idxA_spec (n : Str) : ∀ (l : List (Str × Str)) (i : Nat), (hasAttr l n = false ∧ idxA n l i = -1) ∨ (hasAttr l n = true ∧ (i : Int) ≤ idxA n l i ∧ idxA n l i < i + l.length)
  | [], i => .inl ⟨rfl, rfl⟩
  | a :: l, i => by
    simp only [hasAttr, List.any_cons, idxA]
    by_cases h : a.1 = n
    · right; simp [h]
      omega
    · rw [if_neg h, beq_false_of_ne h, Bool.false_or]
      have := idxA_spec n l (i + 1)
      simp only [hasAttr] at this
      rcases this with ⟨h1, h2⟩ | ⟨h1, h2, h3⟩
      · exact .inl ⟨h1, h2⟩
      · exact .inr ⟨h1, by omega, by simp only [List.length_cons]; omega⟩
theorem getA_snd (al : List (Str × Str)) (n : Str) : (getA al n).2 = hasAttr al n := by
  unfold getA
  rcases idxA_spec n al 0 with ⟨h1, h2⟩ | ⟨h1, h2, h3⟩
  · rw [if_pos (by omega), h1]
  · rw [if_neg (by omega), h1]
end Go.Md
namespace Go.Proofs.YticnenofiibpgaaDoor.Code
open Go.Dm Go.Dm.C
set_option linter.unusedSimpArgs false
set_option linter.unusedVariables false
set_option linter.unnecessarySimpa false
set_option maxRecDepth 10000
attribute [local irreducible] Go.Dm.F Go.Dm.RS Go.Dm.Y Go.Dm.FD Go.Dm.FZ1 Go.Dm.Hold
theorem drop_cons_getD {α : Type} [Inhabited α] {l : List α} {i : Nat} (h : i < l.length) : l.drop i = l.getD i default :: l.drop (i + 1) := by
  rw [List.drop_eq_getElem_cons h, List.getD_eq_getElem?_getD, List.getElem?_eq_getElem h]; rfl
section
variable {R : List Ck} {cs : List Ck}
theorem get1_F {q : Nat} {a b n : Md.Str} (hm : Me (.obj q (.cells [.str n] none)) cs) : F D 122 [.agg [.str a, .str b], .ptr q 0] cs (fun v cs' => v = .bool (decide (a = n)) ∧ cs = cs') := by
  refine F.atM hm fun R => F.of rfl rfl rfl ?_
  repeat' first | exact arI | refine Pst.mk ⟨?_, rfl⟩ kk | constructor | (refine fun _ _ (hq : Hold _) => ?_; replace hq := hq.out; obtain ⟨_, rfl, rfl⟩ := hq) | (refine fun _ _ (hq : Hold _) => ?_; replace hq := hq.out; obtain ⟨_, _, rfl, rfl⟩ := hq) | rintro _ _ ⟨rfl, rfl⟩ | rintro _ _ ⟨_, rfl, rfl⟩ | rintro _ _ ⟨_, _, rfl, rfl⟩ | (refine fun (hc : _ = _) => ?_; (try simp only [BB] at hc)) | refine fun (_ : Nat) => ?_ | refine fun (_ : _ ≤ _) => ?_ | refine fun (_ : _ < _) => ?_
theorem indexFunc_F {q t z : Nat} {n : Md.Str} {al : List (Md.Str × Md.Str)} (hz : z = zOf t 2) (hl : al.length ≤ 100000000000) (hm : Me (.obj q (.cells [.str n] none)) cs) :
    F D 76 [.lst t z (al.map encA), .fn (.func 122) [] [.ptr q 0]] cs (fun v cs' => v = .int .i64 (Md.idxA n al 0) ∧ cs = cs') := by
  subst hz
  refine F.atM hm fun R => F.of rfl rfl rfl ?_
  repeat' first | exact arI | refine Pst.mk ⟨?_, rfl⟩ kk | constructor | (refine fun _ _ (hq : Hold _) => ?_; replace hq := hq.out; obtain ⟨_, rfl, rfl⟩ := hq) | (refine fun _ _ (hq : Hold _) => ?_; replace hq := hq.out; obtain ⟨_, _, rfl, rfl⟩ := hq) | rintro _ _ ⟨rfl, rfl⟩ | rintro _ _ ⟨_, rfl, rfl⟩ | rintro _ _ ⟨_, _, rfl, rfl⟩ | (refine fun (hc : _ = _) => ?_; (try simp only [BB] at hc)) | refine fun (_ : Nat) => ?_ | refine fun (_ : _ ≤ _) => ?_ | refine fun (_ : _ < _) => ?_
  refine RS.loopW (α := Nat) (fun i => [(0, .lst t (zOf t 2) (al.map encA)), (1, .fn (.func 122) [] [.ptr q 0]), (7, .int .i64 al.length), (8, .int .i64 (i : Nat))]) (fun _ => .obj q (.cells [.str n] none) :: R)
    (fun i => i ≤ al.length ∧ Md.idxA n (al.drop i) i = Md.idxA n al 0) (fun i => al.length - i) 0 ⟨by simp, by simp⟩ ⟨rfl, rfl, rfl, rfl, trivial⟩ .refl ?_
  rintro i ⟨h1, h2⟩ ih
  dsimp only [ents] at *
  repeat' first | (show FC _ _ _ _ _; exact get1_F kk) | (refine fun (hc : _ = _) => ?_; (try simp only [BB] at hc); (try (first | contradiction | (exfalso; omega)))) | exact arI | refine Pst.mk ⟨?_, rfl⟩ kk | constructor | (refine fun _ _ (hq : Hold _) => ?_; replace hq := hq.out; obtain ⟨_, rfl, rfl⟩ := hq) | (refine fun _ _ (hq : Hold _) => ?_; replace hq := hq.out; obtain ⟨_, _, rfl, rfl⟩ := hq) | rintro _ _ ⟨rfl, rfl⟩ | rintro _ _ ⟨_, rfl, rfl⟩ | rintro _ _ ⟨_, _, rfl, rfl⟩ | (refine fun (hc : _ = _) => ?_; (try simp only [BB] at hc)) | refine fun (_ : Nat) => ?_ | refine fun (_ : _ ≤ _) => ?_ | refine fun (_ : _ < _) => ?_
  all_goals
    by_cases hlt : i < al.length
    · rw [drop_cons_getD hlt] at h2
      simp only [Md.idxA] at h2
      first
        | (rw [if_pos hc] at h2; rw [← h2])
        | (rw [if_neg hc] at h2; exact ih _ _ (i + 1) ⟨by omega, h2⟩ (by omega) ⟨rfl, rfl, rfl, rfl, trivial⟩ kk)
        | omega
    · rw [List.drop_eq_nil_of_le (by omega)] at h2
      first | omega | (rw [← h2]; rfl)
theorem tget_F {t z : Nat} {n : Md.Str} {al : List (Md.Str × Md.Str)} (hz : z = zOf t 2) (hl : al.length ≤ 100000000000) : F D 121 [.lst t z (al.map encA), .str n] R (fun v cs' => v = .tup [.str (Md.getA al n).1, .bool (Md.getA al n).2] ∧ R = cs') := by
  subst hz
  have hs := Md.idxA_spec n al 0
  refine F.of rfl rfl rfl ?_
  repeat' first | (show FC _ _ _ _ _; exact indexFunc_F rfl hl kk) | (refine fun (hc : _ = _) => ?_; (try simp only [BB] at hc); (try (first | contradiction | (exfalso; omega)))) | exact arI | refine Pst.mk ⟨?_, rfl⟩ kk | constructor | (refine fun _ _ (hq : Hold _) => ?_; replace hq := hq.out; obtain ⟨_, rfl, rfl⟩ := hq) | (refine fun _ _ (hq : Hold _) => ?_; replace hq := hq.out; obtain ⟨_, _, rfl, rfl⟩ := hq) | rintro _ _ ⟨rfl, rfl⟩ | rintro _ _ ⟨_, rfl, rfl⟩ | rintro _ _ ⟨_, _, rfl, rfl⟩ | (refine fun (hc : _ = _) => ?_; (try simp only [BB] at hc)) | refine fun (_ : Nat) => ?_ | refine fun (_ : _ ≤ _) => ?_ | refine fun (_ : _ < _) => ?_
  · rw [Md.getA, if_pos hc]
  · rw [Md.getA, if_neg hc]
theorem ttget_F {t : Md.Tok} {ta : Nat} {n : Md.Str} {xs : List DV} (hx : xs = [.int .i64 t.kind, .str t.name, .lst ta (zOf ta 2) (t.attrs.map encA), .bool t.self, .str t.data, .str t.pub, .str t.sys, .bool t.hasPub, .bool t.hasSys, .bool t.quirks]) (hl : t.attrs.length ≤ 100000000000) :
    F D 119 [.agg xs, .str n] R (fun v cs' => v = .tup [.str (Md.getA t.attrs n).1, .bool (Md.getA t.attrs n).2] ∧ R = cs') := by
  subst hx
  refine F.of rfl rfl rfl ?_
  repeat' first | (show FC _ _ _ _ _; exact tget_F rfl hl) | (refine fun (hc : _ = _) => ?_; (try simp only [BB] at hc); (try (first | contradiction | (exfalso; omega)))) | exact arI | refine Pst.mk ⟨?_, rfl⟩ kk | constructor | (refine fun _ _ (hq : Hold _) => ?_; replace hq := hq.out; obtain ⟨_, rfl, rfl⟩ := hq) | (refine fun _ _ (hq : Hold _) => ?_; replace hq := hq.out; obtain ⟨_, _, rfl, rfl⟩ := hq) | rintro _ _ ⟨rfl, rfl⟩ | rintro _ _ ⟨_, rfl, rfl⟩ | rintro _ _ ⟨_, _, rfl, rfl⟩ | (refine fun (hc : _ = _) => ?_; (try simp only [BB] at hc)) | refine fun (_ : Nat) => ?_ | refine fun (_ : _ ≤ _) => ?_ | refine fun (_ : _ < _) => ?_
end
end Go.Proofs.YticnenofiibpgaaDoor.Code
/- What the lexer's attr does. -/
namespace Go.Proofs.YticnenofiibpgaaDoor.Code
open Go.Dm Go.Dm.C
set_option linter.unusedSimpArgs false
set_option linter.unusedVariables false
set_option linter.unnecessarySimpa false
set_option maxRecDepth 10000
attribute [local irreducible] Go.Dm.F Go.Dm.RS Go.Dm.Y Go.Dm.FD Go.Dm.FZ1 Go.Dm.Hold
abbrev tcell (t : Md.Tok) (ta : Nat) : HObj := .cells [.int .i64 t.kind, .str t.name, .lst ta (zOf ta 2) (t.attrs.map encA), .bool t.self, .str t.data, .str t.pub, .str t.sys, .bool t.hasPub, .bool t.hasSys, .bool t.quirks] none
variable {id : Nat} {s : Md.Lx} {g : Nat × Nat} {cs : List Ck}
def attrTail (l : List Int) : List Int := l.takeWhile fun r => !(Md.over r || r == 61)
theorem attrTail_cons {r : Int} {l : List Int} : attrTail (r :: l) = if Md.over r = true ∨ r = 61 then [] else r :: attrTail l := by
  simp only [attrTail, List.takeWhile_cons]
  by_cases h1 : Md.over r = true
  · simp [h1]
  · rw [Bool.not_eq_true] at h1
    by_cases h2 : r = 61
    · simp [h2]
    · simp [h1, h2]
theorem attrName_cons {r : Int} {l : List Int} : Md.attrName (r :: l) = if Md.over r = true then [] else r :: attrTail l := rfl
def attrPart (i : Nat) (l : List Int) : List Int := if i = 0 then Md.attrName l else attrTail l
theorem attrPart_nil (i : Nat) : attrPart i [] = [] := by unfold attrPart; split <;> rfl
theorem attrPart_stop {i : Nat} {r : Int} {l : List Int} (h : Md.over r = true ∨ (r = 61 ∧ i ≠ 0)) : attrPart i (r :: l) = [] := by
  unfold attrPart
  by_cases hi : i = 0
  · rw [if_pos hi, attrName_cons, if_pos (h.resolve_right fun h => h.2 hi)]
  · rw [if_neg hi, attrTail_cons, if_pos (h.imp (fun h => h) (fun h => h.1))]
theorem attrPart_go {i : Nat} {r : Int} {l : List Int} (h1 : Md.over r = false) (h2 : r = 61 → i = 0) : attrPart i (r :: l) = r :: attrPart (i + 1) l := by
  unfold attrPart
  rw [if_neg (show ¬ i + 1 = 0 by omega)]
  by_cases hi : i = 0
  · rw [if_pos hi, attrName_cons, if_neg (by simp [h1])]
  · rw [if_neg hi, attrTail_cons, if_neg (by rintro (h | h); (rw [h1] at h; cases h); exact hi (h2 h))]
theorem attr1_eq : Md.attr1 s.rest = if s.pk ((Md.attrName s.rest).length + Md.blanksN (s.adv (Md.attrName s.rest).length).rest) = 61 then
    ((Md.encode ((Md.attrName s.rest).map fun r => Md.small (Md.fixr r)), (Md.value (s.adv ((Md.attrName s.rest).length + Md.blanksN (s.adv (Md.attrName s.rest).length).rest + 1)).rest).1), (Md.value (s.adv ((Md.attrName s.rest).length + Md.blanksN (s.adv (Md.attrName s.rest).length).rest + 1)).rest).2.1, (Md.attrName s.rest).length + Md.blanksN (s.adv (Md.attrName s.rest).length).rest + 1 + (Md.value (s.adv ((Md.attrName s.rest).length + Md.blanksN (s.adv (Md.attrName s.rest).length).rest + 1)).rest).2.2)
    else ((Md.encode ((Md.attrName s.rest).map fun r => Md.small (Md.fixr r)), []), true, (Md.attrName s.rest).length + Md.blanksN (s.adv (Md.attrName s.rest).length).rest) := by
  simp only [Md.attr1, pk_rest, rest_adv]
set_option maxHeartbeats 1000000 in
theorem attr_F {t : Md.Tok} {ta q : Nat} {c1 c2 R : List Ck} (h1 : Rem (LX id s g) cs c1) (h2 : Rem (.obj q (tcell t ta)) c1 c2) (h3 : Rem (.own ta 2 (t.attrs.map encA)) c2 R) (hb : s.inp.length ≤ 1000000000 ∧ s.pos ≤ s.inp.length ∧ t.attrs.length ≤ 1000000000) (hn : ∀ r ∈ s.inp, 0 ≤ r) :
    F D 116 [.ptr id 0, .ptr q 0] cs (fun v cs' => Hold (∃ a, v = .bool (Md.attr1 s.rest).2.1 ∧ (LX id (s.adv (Md.attr1 s.rest).2.2) g :: .obj q (tcell { t with attrs := Md.putAttr t.attrs (Md.attr1 s.rest).1 } a) :: .own a 2 ((Md.putAttr t.attrs (Md.attr1 s.rest).1).map encA) :: R) = cs')) := by
  refine F.perm (h1.perm'.trans ((h2.perm'.trans (h3.perm'.cons _)).cons _)) (F.of rfl rfl rfl ?_)
  repeat' first | exact arI | refine Pst.mk ⟨?_, rfl⟩ kk | constructor | (refine fun _ _ (hq : Hold _) => ?_; replace hq := hq.out; obtain ⟨_, rfl, rfl⟩ := hq) | (refine fun _ _ (hq : Hold _) => ?_; replace hq := hq.out; obtain ⟨_, _, rfl, rfl⟩ := hq) | rintro _ _ ⟨rfl, rfl⟩ | rintro _ _ ⟨_, rfl, rfl⟩ | rintro _ _ ⟨_, _, rfl, rfl⟩ | (refine fun (hc : _ = _) => ?_; (try simp only [BB] at hc)) | refine fun (_ : Nat) => ?_ | refine fun (_ : _ ≤ _) => ?_ | refine fun (_ : _ < _) => ?_
  refine RS.nilOwn 1 (RS.loopW (α := Nat × Nat × List Int) (fun a => [(0, .ptr id 0), (1, .ptr q 0), (5, .lst a.2.1 (zOf a.2.1 1) (a.2.2.map I32)), (6, .bool (decide (a.1 = 0)))]) (fun a => .own a.2.1 1 (a.2.2.map I32) :: LX id (s.adv a.1) g :: .obj q (tcell t ta) :: .own ta 2 (t.attrs.map encA) :: R)
    (fun a => a.1 + (attrPart a.1 (s.adv a.1).rest).length = (Md.attrName s.rest).length ∧ s.pos + a.1 ≤ s.inp.length ∧ a.2.2.length = a.1 ∧ a.2.2 ++ (attrPart a.1 (s.adv a.1).rest).map (fun r => Md.small (Md.fixr r)) = (Md.attrName s.rest).map (fun r => Md.small (Md.fixr r))) (fun a => s.inp.length - (s.pos + a.1)) (0, 0, []) ⟨by simp [adv_zero, attrPart], by dsimp only; omega, rfl, by simp [adv_zero, attrPart]⟩ ⟨rfl, rfl, rfl, rfl, trivial⟩ .refl ?_)
  rintro ⟨i, tb, acc⟩ ⟨k1, k2, k3, k4⟩ ih
  dsimp only [ents] at *
  (have hst := fun h => rest_adv_cons (s := s) (i := i) h; have hnil := fun h => rest_adv_nil (s := s) (i := i) h; have hpn := fun h => pk_out (s := s) (i := i) h; have hpi := fun h => pk_in (s := s) (i := i) hn h)
  repeat' first | (show LD _ _ _ _; first | exact LX.ldPos kk | exact LX.ldWay kk | exact LX.ldLast kk | exact LX.ldRoom kk | exact LX.ldDone kk | exact LX.ldText kk) | (apply RR.lxIn; exact rfl; exact rfl; exact rfl; exact kk; refine fun _ => ?_) | (apply RR.lxOut; exact rfl; exact rfl; exact rfl; exact kk; refine fun _ => ?_) | (apply RR.storeS; exact rfl; exact rfl; first | exact LX.stPos 1 rfl kk | exact LX.stPos 2 rfl kk | exact LX.stPos 3 rfl kk | exact LX.stPos 6 rfl kk | exact LX.stPos 7 rfl kk | exact LX.stPos _ rfl kk | exact LX.stPos2 1 _ kk | exact LX.stPos2 2 _ kk | exact LX.stWay kk | exact LX.stLast kk | exact LX.stRoom kk | exact LX.stDone kk; exact rfl) | (show FC _ _ _ _ _; first | exact peek0_F kk (by first | omega | ((simp only [Md.Lx.adv, Md.Lx.say, Md.Lx.clr, List.nil_append, List.length_append, List.length_cons, List.length_nil]); omega)) | exact peek1_F kk (by first | omega | ((simp only [Md.Lx.adv, Md.Lx.say, Md.Lx.clr, List.nil_append, List.length_append, List.length_cons, List.length_nil]); omega)) | exact peek6_F kk (by first | omega | ((simp only [Md.Lx.adv, Md.Lx.say, Md.Lx.clr, List.nil_append, List.length_append, List.length_cons, List.length_nil]); omega)) | exact next_F kk (by first | omega | ((simp only [Md.Lx.adv, Md.Lx.say, Md.Lx.clr, List.nil_append, List.length_append, List.length_cons, List.length_nil]); omega)) | exact back_F kk (by first | omega | ((simp only [Md.Lx.adv, Md.Lx.say, Md.Lx.clr, List.nil_append, List.length_append, List.length_cons, List.length_nil]); omega)) | exact blank_F | exact letter_F | exact small_F | exact encode_F rfl (by first | omega | ((simp only [Md.Lx.adv, Md.Lx.say, Md.Lx.clr, List.nil_append, List.length_append, List.length_cons, List.length_nil]); omega)) | exact say_F rfl kk kk (by first | omega | ((simp only [Md.Lx.adv, Md.Lx.say, Md.Lx.clr, List.nil_append, List.length_append, List.length_cons, List.length_nil]); omega)) | exact stands_F kk (by first | omega | ((simp only [Md.Lx.adv, Md.Lx.say, Md.Lx.clr, List.nil_append, List.length_append, List.length_cons, List.length_nil]); omega)) (by decide) (by first | omega | ((simp only [Md.Lx.adv, Md.Lx.say, Md.Lx.clr, List.nil_append, List.length_append, List.length_cons, List.length_nil]); omega)) | exact exact_F kk (by first | omega | ((simp only [Md.Lx.adv, Md.Lx.say, Md.Lx.clr, List.nil_append, List.length_append, List.length_cons, List.length_nil]); omega)) (by decide) (by first | omega | ((simp only [Md.Lx.adv, Md.Lx.say, Md.Lx.clr, List.nil_append, List.length_append, List.length_cons, List.length_nil]); omega))) | (refine fun (hc : _ = _) => ?_; (try simp only [BB] at hc); (try (first | contradiction | (exfalso; omega)))) | (refine Arith.mk ?_; (try intro _); simp only [Md.Lx.adv, Md.Lx.say, Md.Lx.clr, List.nil_append, List.length_append, List.length_cons, List.length_nil]; omega) | exact arI | refine Pst.mk ⟨?_, rfl⟩ kk | constructor | (refine fun _ _ (hq : Hold _) => ?_; replace hq := hq.out; obtain ⟨_, rfl, rfl⟩ := hq) | (refine fun _ _ (hq : Hold _) => ?_; replace hq := hq.out; obtain ⟨_, _, rfl, rfl⟩ := hq) | rintro _ _ ⟨rfl, rfl⟩ | rintro _ _ ⟨_, rfl, rfl⟩ | rintro _ _ ⟨_, _, rfl, rfl⟩ | (refine fun (hc : _ = _) => ?_; (try simp only [BB] at hc)) | refine fun (_ : Nat) => ?_ | refine fun (_ : _ ≤ _) => ?_ | refine fun (_ : _ < _) => ?_
  all_goals (try simp only [pk_adv, pk_say, Nat.add_zero, adv_adv, say_say, say_adv, pk_clr, adv_clr] at *)
  rotate_left
  · rename_i hA
    have hlt : s.pos + i < s.inp.length := by by_cases h : s.pos + i < s.inp.length; exact h; have := hpn (by omega); omega
    rw [hst hlt, attrPart_go (by rw [over_f]; exact hA.1.1) hA.2] at k1 k4
    simp only [List.map_cons, List.length_cons] at k1 k4
    rw [show Md.fixr (s.pk i) = 65533 from if_pos hc] at k4
    exact ih _ _ (i + 1, _, acc ++ [Md.small 65533]) ⟨by dsimp only; omega, by dsimp only; omega, by simp [k3], by rw [← k4]; simp⟩ (by dsimp only; omega) ⟨rfl, rfl, rfl, rfl, trivial⟩ kk
  · rename_i hA
    have hlt : s.pos + i < s.inp.length := by by_cases h : s.pos + i < s.inp.length; exact h; have := hpn (by omega); omega
    rw [hst hlt, attrPart_go (by rw [over_f]; exact hA.1.1) hA.2] at k1 k4
    simp only [List.map_cons, List.length_cons] at k1 k4
    rw [show Md.fixr (s.pk i) = s.pk i from if_neg hc] at k4
    exact ih _ _ (i + 1, _, acc ++ [Md.small (s.pk i)]) ⟨by dsimp only; omega, by dsimp only; omega, by simp [k3], by rw [← k4]; simp⟩ (by dsimp only; omega) ⟨rfl, rfl, rfl, rfl, trivial⟩ kk
  rename_i t8 _
  have hstop : attrPart i (s.adv i).rest = [] := by
    by_cases hlt : s.pos + i < s.inp.length
    · rw [hst hlt]
      refine attrPart_stop ?_
      have := hpi hlt
      rcases hc with (hc | hc) | hc
      · exact .inl (by rw [over_t]; exact hc)
      · omega
      · exact .inr hc
    · rw [hnil (by omega)]; exact attrPart_nil i
  rw [hstop] at k1 k4
  simp only [List.map_nil, List.append_nil, List.length_nil, Nat.add_zero] at k1 k4
  subst k4
  generalize i = n0 at *
  refine RS.loopW (α := Nat) (fun a => [(0, .ptr id 0), (1, .ptr q 0), (8, .ptr t8 0)]) (fun a => .obj t8 (.cells [.str (Md.encode ((Md.attrName s.rest).map fun r => Md.small (Md.fixr r))), .str []] none) :: LX id (s.adv a) g :: .obj q (tcell t ta) :: .own ta 2 (t.attrs.map encA) :: R)
    (fun a => a + Md.blanksN (s.adv a).rest = n0 + Md.blanksN (s.adv n0).rest ∧ s.pos + a ≤ s.inp.length) (fun a => s.inp.length - (s.pos + a)) n0 ⟨rfl, k2⟩ ⟨rfl, rfl, rfl, trivial⟩ kk ?_
  clear hst hnil hpn hpi ih hc hstop
  rintro i ⟨m1, m2⟩ ih
  dsimp only [ents] at *
  (have hst := fun h => rest_adv_cons (s := s) (i := i) h; have hnil := fun h => rest_adv_nil (s := s) (i := i) h; have hpn := fun h => pk_out (s := s) (i := i) h; have hpi := fun h => pk_in (s := s) (i := i) hn h)
  have hbs := fun h => blanksN_step (s := s.adv i) h
  rw [adv_adv] at hbs
  have e0 : (s.adv i).pk 0 = s.pk i := pk_adv i 0
  repeat' first | (show FC _ _ _ _ _; first | exact value_F kk (by simp only [Md.Lx.adv]; omega) (by exact hn) | exact ttget_F (t := t) (ta := ta) rfl (by omega) | exact peek0_F kk (by first | omega | ((simp only [Md.Lx.adv, Md.Lx.say, Md.Lx.clr, List.nil_append, List.length_append, List.length_cons, List.length_nil]); omega)) | exact peek1_F kk (by first | omega | ((simp only [Md.Lx.adv, Md.Lx.say, Md.Lx.clr, List.nil_append, List.length_append, List.length_cons, List.length_nil]); omega)) | exact peek6_F kk (by first | omega | ((simp only [Md.Lx.adv, Md.Lx.say, Md.Lx.clr, List.nil_append, List.length_append, List.length_cons, List.length_nil]); omega)) | exact next_F kk (by first | omega | ((simp only [Md.Lx.adv, Md.Lx.say, Md.Lx.clr, List.nil_append, List.length_append, List.length_cons, List.length_nil]); omega)) | exact back_F kk (by first | omega | ((simp only [Md.Lx.adv, Md.Lx.say, Md.Lx.clr, List.nil_append, List.length_append, List.length_cons, List.length_nil]); omega)) | exact blank_F | exact letter_F | exact small_F | exact encode_F rfl (by first | omega | ((simp only [Md.Lx.adv, Md.Lx.say, Md.Lx.clr, List.nil_append, List.length_append, List.length_cons, List.length_nil]); omega)) | exact say_F rfl kk kk (by first | omega | ((simp only [Md.Lx.adv, Md.Lx.say, Md.Lx.clr, List.nil_append, List.length_append, List.length_cons, List.length_nil]); omega)) | exact stands_F kk (by first | omega | ((simp only [Md.Lx.adv, Md.Lx.say, Md.Lx.clr, List.nil_append, List.length_append, List.length_cons, List.length_nil]); omega)) (by decide) (by first | omega | ((simp only [Md.Lx.adv, Md.Lx.say, Md.Lx.clr, List.nil_append, List.length_append, List.length_cons, List.length_nil]); omega)) | exact exact_F kk (by first | omega | ((simp only [Md.Lx.adv, Md.Lx.say, Md.Lx.clr, List.nil_append, List.length_append, List.length_cons, List.length_nil]); omega)) (by decide) (by first | omega | ((simp only [Md.Lx.adv, Md.Lx.say, Md.Lx.clr, List.nil_append, List.length_append, List.length_cons, List.length_nil]); omega))) | exact MapL.cons (f := encA) (y := (_, _)) .nil | (refine fun (hc : _ = _) => ?_; (try simp only [BB] at hc); (try (first | contradiction | (exfalso; omega)))) | exact arI | refine Pst.mk ⟨?_, rfl⟩ kk | constructor | (refine fun _ _ (hq : Hold _) => ?_; replace hq := hq.out; obtain ⟨_, rfl, rfl⟩ := hq) | (refine fun _ _ (hq : Hold _) => ?_; replace hq := hq.out; obtain ⟨_, _, rfl, rfl⟩ := hq) | rintro _ _ ⟨rfl, rfl⟩ | rintro _ _ ⟨_, rfl, rfl⟩ | rintro _ _ ⟨_, _, rfl, rfl⟩ | (refine fun (hc : _ = _) => ?_; (try simp only [BB] at hc)) | refine fun (_ : Nat) => ?_ | refine fun (_ : _ ≤ _) => ?_ | refine fun (_ : _ < _) => ?_
  all_goals (try simp only [pk_adv, pk_say, Nat.add_zero, adv_adv, say_say, say_adv, pk_clr, adv_clr] at *)
  · have hlt : s.pos + i < s.inp.length := by
      by_cases h : s.pos + i < s.inp.length
      · exact h
      · rw [hpn (by omega)] at hc; cases hc
    have h4 := hbs hlt
    rw [if_pos hc] at h4
    exact ih _ _ (i + 1) ⟨by omega, by omega⟩ (by omega) ⟨rfl, rfl, rfl, trivial⟩ kk
  all_goals
    have hA : Md.blank (s.pk i) = false := by assumption
    have hib : n0 + Md.blanksN (s.adv n0).rest = i := by
      by_cases h : s.pos + i < s.inp.length
      · have h4 := hbs h
        rw [if_neg (by rw [hA]; simp)] at h4; omega
      · have h4 := hnil (by omega); rw [h4] at m1; simpa [Md.blanksN] using m1.symm
    have ha := attr1_eq (s := s)
    rw [← k1, hib] at ha
    first | rw [if_pos hc] at ha | rw [if_neg hc] at ha
    rw [ha]
    dsimp only
    rw [Md.putAttr, ← Md.getA_snd]
    dsimp only
    first
      | (rw [show (Md.getA t.attrs (Md.encode ((Md.attrName s.rest).map fun r => Md.small (Md.fixr r)))).2 = false from (by assumption), if_neg (by simp)]; exact Pst.mk (.mk ⟨_, rfl, rfl⟩) kk)
      | (rw [show (Md.getA t.attrs (Md.encode ((Md.attrName s.rest).map fun r => Md.small (Md.fixr r)))).2 = true from (by assumption), if_pos rfl]; exact Pst.mk (.mk ⟨_, rfl, rfl⟩) kk)
end Go.Proofs.YticnenofiibpgaaDoor.Code
/- What the lexer's attrs, tag do. -/
namespace Go.Proofs.YticnenofiibpgaaDoor.Code
open Go.Dm Go.Dm.C
set_option linter.unusedSimpArgs false
set_option linter.unusedVariables false
set_option linter.unnecessarySimpa false
set_option maxRecDepth 10000
attribute [local irreducible] Go.Dm.F Go.Dm.RS Go.Dm.Y Go.Dm.FD Go.Dm.FZ1 Go.Dm.Hold
variable {id : Nat} {s : Md.Lx} {g : Nat × Nat} {cs : List Ck}
theorem valueGo_le : ∀ (n : Nat) (q : Int) (l acc : List Int), l.length ≤ n → (Md.valueGo q l acc).2.2 ≤ l.length := by
  intro n
  induction n with
  | zero => intro q l acc h; have : l = [] := List.eq_nil_of_length_eq_zero (by omega); subst this; rw [valueGo_nil]; simp
  | succ n ih =>
    intro q l acc h
    cases l with
    | nil => rw [valueGo_nil]; simp
    | cons r l =>
      have hr := (refer_facts true l).2.1
      simp only [List.length_cons] at h ⊢
      rw [valueGo_cons]
      split
      · simp
      · split
        · simp
        · split
          · have h1 := ih q (l.drop (Md.refer true l).2) (acc ++ (Md.refer true l).1) (by rw [List.length_drop]; omega)
            rw [List.length_drop] at h1
            dsimp only; omega
          · have h1 := ih q l (acc ++ [Md.fixr r]) (by omega)
            dsimp only; omega
theorem blanksN_le (l : List Int) : Md.blanksN l ≤ l.length := (List.takeWhile_sublist _).length_le
theorem value_le (l : List Int) : (Md.value l).2.2 ≤ l.length := by
  have hb := blanksN_le l
  unfold Md.value
  dsimp only
  split
  · exact hb
  · split
    · rename_i h
      have hlt : Md.blanksN l < l.length := by
        by_cases hx : Md.blanksN l < l.length
        · exact hx
        · rw [List.getD_eq_getElem?_getD, List.getElem?_eq_none (by omega)] at h; simp at h
      have := valueGo_le _ (l.getD (Md.blanksN l) (-1)) (l.drop (Md.blanksN l + 1)) [] (Nat.le_refl _)
      rw [List.length_drop] at this
      dsimp only; omega
    · have := valueGo_le _ 0 (l.drop (Md.blanksN l)) [] (Nat.le_refl _)
      rw [List.length_drop] at this
      dsimp only; omega
theorem attrName_le (l : List Int) : (Md.attrName l).length ≤ l.length := by
  cases l with
  | nil => simp [Md.attrName]
  | cons r l =>
    rw [attrName_cons]
    split
    · simp
    · have : (attrTail l).length ≤ l.length := (List.takeWhile_sublist _).length_le
      simp only [List.length_cons]; omega
theorem attr1_le (l : List Int) : (Md.attr1 l).2.2 ≤ l.length := by
  have h1 := attrName_le l
  have h2 := blanksN_le (l.drop (Md.attrName l).length)
  rw [List.length_drop] at h2
  unfold Md.attr1
  dsimp only
  split
  · rename_i h
    have hlt : (Md.attrName l).length + Md.blanksN (l.drop (Md.attrName l).length) < l.length := by
      by_cases hx : (Md.attrName l).length + Md.blanksN (l.drop (Md.attrName l).length) < l.length
      · exact hx
      · rw [List.getD_eq_getElem?_getD, List.getElem?_eq_none (by omega)] at h; simp at h
    have := value_le (l.drop ((Md.attrName l).length + Md.blanksN (l.drop (Md.attrName l).length) + 1))
    rw [List.length_drop] at this
    dsimp only; omega
  · dsimp only; omega
theorem attr1_ge {r : Int} {l : List Int} (h : Md.over r = false) : 1 ≤ (Md.attr1 (r :: l)).2.2 := by
  have h3 := Md.attrName_pos (l := l) h
  unfold Md.attr1
  dsimp only
  split
  · dsimp only; omega
  · dsimp only; omega
theorem attrsGo_nil (acc : List (Md.Str × Md.Str)) : Md.attrsGo [] acc = (acc, false, false, 0) := by rw [Md.attrsGo]
theorem attrsGo_blank {r : Int} {l : List Int} {acc : List (Md.Str × Md.Str)} (h : Md.blank r = true) : Md.attrsGo (r :: l) acc = ((Md.attrsGo l acc).1, (Md.attrsGo l acc).2.1, (Md.attrsGo l acc).2.2.1, (Md.attrsGo l acc).2.2.2 + 1) := by rw [Md.attrsGo, dif_pos h]
theorem attrsGo_end {l : List Int} {acc : List (Md.Str × Md.Str)} : Md.attrsGo (62 :: l) acc = (acc, false, true, 1) := by rw [Md.attrsGo, dif_neg (by decide), dif_pos rfl]
theorem attrsGo_slash {l : List Int} {acc : List (Md.Str × Md.Str)} : Md.attrsGo (47 :: l) acc = if l.headD (-1) = 62 then (acc, true, true, 2) else ((Md.attrsGo l acc).1, (Md.attrsGo l acc).2.1, (Md.attrsGo l acc).2.2.1, (Md.attrsGo l acc).2.2.2 + 1) := by rw [Md.attrsGo, dif_neg (by decide), dif_neg (by decide), dif_pos rfl]
theorem attrsGo_attr {r : Int} {l : List Int} {acc : List (Md.Str × Md.Str)} (hb : Md.blank r = false) (h1 : r ≠ 62) (h2 : r ≠ 47) : Md.attrsGo (r :: l) acc = if (Md.attr1 (r :: l)).2.1 = true then
    ((Md.attrsGo ((r :: l).drop (Md.attr1 (r :: l)).2.2) (Md.putAttr acc (Md.attr1 (r :: l)).1)).1, (Md.attrsGo ((r :: l).drop (Md.attr1 (r :: l)).2.2) (Md.putAttr acc (Md.attr1 (r :: l)).1)).2.1, (Md.attrsGo ((r :: l).drop (Md.attr1 (r :: l)).2.2) (Md.putAttr acc (Md.attr1 (r :: l)).1)).2.2.1, (Md.attrsGo ((r :: l).drop (Md.attr1 (r :: l)).2.2) (Md.putAttr acc (Md.attr1 (r :: l)).1)).2.2.2 + (Md.attr1 (r :: l)).2.2)
    else (Md.putAttr acc (Md.attr1 (r :: l)).1, false, false, (Md.attr1 (r :: l)).2.2) := by rw [Md.attrsGo, dif_neg (by simp [hb]), dif_neg h1, dif_neg h2]
theorem putAttr_len (acc : List (Md.Str × Md.Str)) (a : Md.Str × Md.Str) : (Md.putAttr acc a).length ≤ acc.length + 1 := by
  unfold Md.putAttr; split <;> simp
def selfed (t : Md.Tok) (al : List (Md.Str × Md.Str)) (b : Bool) : Md.Tok := { t with attrs := al, self := b }
set_option maxHeartbeats 1000000 in
theorem attrs_F {t : Md.Tok} {ta q : Nat} {c1 c2 R : List Ck} (h1 : Rem (LX id s g) cs c1) (h2 : Rem (.obj q (tcell t ta)) c1 c2) (h3 : Rem (.own ta 2 (t.attrs.map encA)) c2 R) (hb : s.inp.length ≤ 1000000000 ∧ s.pos ≤ s.inp.length ∧ t.attrs.length = 0) (hn : ∀ r ∈ s.inp, 0 ≤ r) (hs : t.self = false) :
    F D 106 [.ptr id 0, .ptr q 0] cs (fun v cs' => Hold (∃ a, v = .bool (Md.attrsGo s.rest t.attrs).2.2.1 ∧ (LX id (s.adv (Md.attrsGo s.rest t.attrs).2.2.2) g :: .obj q (tcell (selfed t (Md.attrsGo s.rest t.attrs).1 (Md.attrsGo s.rest t.attrs).2.1) a) :: .own a 2 ((Md.attrsGo s.rest t.attrs).1.map encA) :: R) = cs')) := by
  refine F.perm (h1.perm'.trans ((h2.perm'.trans (h3.perm'.cons _)).cons _)) (F.of rfl rfl rfl ?_)
  repeat' first | exact arI | refine Pst.mk ⟨?_, rfl⟩ kk | constructor | (refine fun _ _ (hq : Hold _) => ?_; replace hq := hq.out; obtain ⟨_, rfl, rfl⟩ := hq) | (refine fun _ _ (hq : Hold _) => ?_; replace hq := hq.out; obtain ⟨_, _, rfl, rfl⟩ := hq) | rintro _ _ ⟨rfl, rfl⟩ | rintro _ _ ⟨_, rfl, rfl⟩ | rintro _ _ ⟨_, _, rfl, rfl⟩ | (refine fun (hc : _ = _) => ?_; (try simp only [BB] at hc)) | refine fun (_ : Nat) => ?_ | refine fun (_ : _ ≤ _) => ?_ | refine fun (_ : _ < _) => ?_
  refine RS.loopW (α := Nat × Nat × List (Md.Str × Md.Str)) (fun a => [(0, .ptr id 0), (1, .ptr q 0)]) (fun a => LX id (s.adv a.1) g :: .obj q (tcell (selfed t a.2.2 false) a.2.1) :: .own a.2.1 2 (a.2.2.map encA) :: R)
    (fun a => (Md.attrsGo (s.adv a.1).rest a.2.2).1 = (Md.attrsGo s.rest t.attrs).1 ∧ (Md.attrsGo (s.adv a.1).rest a.2.2).2.1 = (Md.attrsGo s.rest t.attrs).2.1 ∧ (Md.attrsGo (s.adv a.1).rest a.2.2).2.2.1 = (Md.attrsGo s.rest t.attrs).2.2.1 ∧ a.1 + (Md.attrsGo (s.adv a.1).rest a.2.2).2.2.2 = (Md.attrsGo s.rest t.attrs).2.2.2 ∧ s.pos + a.1 ≤ s.inp.length ∧ a.2.2.length ≤ a.1) (fun a => s.inp.length - (s.pos + a.1)) (0, ta, t.attrs) ⟨rfl, rfl, rfl, by simp [adv_zero], by dsimp only; omega, by dsimp only; omega⟩ ⟨rfl, rfl, trivial⟩ (by rw [← hs]; exact .refl) ?_
  rintro ⟨i, tb, al⟩ ⟨k1, k2, k3, k4, k5, k6⟩ ih
  dsimp only [ents] at *
  (have hst := fun h => rest_adv_cons (s := s) (i := i) h; have hnil := fun h => rest_adv_nil (s := s) (i := i) h; have hpn := fun h => pk_out (s := s) (i := i) h; have hpi := fun h => pk_in (s := s) (i := i) hn h)
  have e0 : (s.adv i).pk 0 = s.pk i := pk_adv i 0
  repeat' first | (show LD _ _ _ _; first | exact LX.ldPos kk | exact LX.ldWay kk | exact LX.ldLast kk | exact LX.ldRoom kk | exact LX.ldDone kk | exact LX.ldText kk) | (apply RR.lxIn; exact rfl; exact rfl; exact rfl; exact kk; refine fun _ => ?_) | (apply RR.lxOut; exact rfl; exact rfl; exact rfl; exact kk; refine fun _ => ?_) | (show FC _ _ _ _ _; first | exact attr_F (t := selfed t al false) (ta := tb) kk kk kk (by simp only [Md.Lx.adv, selfed]; omega) (by exact hn) | exact peek0_F kk (by first | omega | ((simp only [Md.Lx.adv, Md.Lx.say, Md.Lx.clr, List.nil_append, List.length_append, List.length_cons, List.length_nil]); omega)) | exact peek1_F kk (by first | omega | ((simp only [Md.Lx.adv, Md.Lx.say, Md.Lx.clr, List.nil_append, List.length_append, List.length_cons, List.length_nil]); omega)) | exact peek6_F kk (by first | omega | ((simp only [Md.Lx.adv, Md.Lx.say, Md.Lx.clr, List.nil_append, List.length_append, List.length_cons, List.length_nil]); omega)) | exact next_F kk (by first | omega | ((simp only [Md.Lx.adv, Md.Lx.say, Md.Lx.clr, List.nil_append, List.length_append, List.length_cons, List.length_nil]); omega)) | exact back_F kk (by first | omega | ((simp only [Md.Lx.adv, Md.Lx.say, Md.Lx.clr, List.nil_append, List.length_append, List.length_cons, List.length_nil]); omega)) | exact blank_F | exact letter_F | exact small_F | exact encode_F rfl (by first | omega | ((simp only [Md.Lx.adv, Md.Lx.say, Md.Lx.clr, List.nil_append, List.length_append, List.length_cons, List.length_nil]); omega)) | exact say_F rfl kk kk (by first | omega | ((simp only [Md.Lx.adv, Md.Lx.say, Md.Lx.clr, List.nil_append, List.length_append, List.length_cons, List.length_nil]); omega)) | exact stands_F kk (by first | omega | ((simp only [Md.Lx.adv, Md.Lx.say, Md.Lx.clr, List.nil_append, List.length_append, List.length_cons, List.length_nil]); omega)) (by decide) (by first | omega | ((simp only [Md.Lx.adv, Md.Lx.say, Md.Lx.clr, List.nil_append, List.length_append, List.length_cons, List.length_nil]); omega)) | exact exact_F kk (by first | omega | ((simp only [Md.Lx.adv, Md.Lx.say, Md.Lx.clr, List.nil_append, List.length_append, List.length_cons, List.length_nil]); omega)) (by decide) (by first | omega | ((simp only [Md.Lx.adv, Md.Lx.say, Md.Lx.clr, List.nil_append, List.length_append, List.length_cons, List.length_nil]); omega))) | (refine fun (hc : _ = _) => ?_; (try simp only [BB] at hc); (try (first | contradiction | (exfalso; omega)))) | exact arI | refine Pst.mk ⟨?_, rfl⟩ kk | constructor | (refine fun _ _ (hq : Hold _) => ?_; replace hq := hq.out; obtain ⟨_, rfl, rfl⟩ := hq) | (refine fun _ _ (hq : Hold _) => ?_; replace hq := hq.out; obtain ⟨_, _, rfl, rfl⟩ := hq) | rintro _ _ ⟨rfl, rfl⟩ | rintro _ _ ⟨_, rfl, rfl⟩ | rintro _ _ ⟨_, _, rfl, rfl⟩ | (refine fun (hc : _ = _) => ?_; (try simp only [BB] at hc)) | refine fun (_ : Nat) => ?_ | refine fun (_ : _ ≤ _) => ?_ | refine fun (_ : _ < _) => ?_
  all_goals (try simp only [pk_adv, pk_say, Nat.add_zero, adv_adv, say_say, say_adv, pk_clr, adv_clr] at *)
  · have hge : s.inp.length ≤ s.pos + i := by by_cases h : s.pos + i < s.inp.length; (have := hpi h; omega); omega
    rw [hnil hge, attrsGo_nil] at k1 k2 k3 k4
    dsimp only at k1 k2 k3 k4
    rw [← k1, ← k2, ← k3, ← k4]
    exact Pst.mk (.mk ⟨_, rfl, rfl⟩) kk
  · have hlt : s.pos + i < s.inp.length := by by_cases h : s.pos + i < s.inp.length; exact h; have := hpn (by omega); omega
    rw [hst hlt, attrsGo_blank hc] at k1 k2 k3 k4
    dsimp only at k1 k2 k3 k4
    exact ih _ _ (i + 1, _, al) ⟨k1, k2, k3, by dsimp only; omega, by dsimp only; omega, by dsimp only; omega⟩ (by dsimp only; omega) ⟨rfl, rfl, trivial⟩ kk
  · have hlt : s.pos + i < s.inp.length := by by_cases h : s.pos + i < s.inp.length; exact h; have := hpn (by omega); omega
    rw [hst hlt, hc, attrsGo_end] at k1 k2 k3 k4
    dsimp only at k1 k2 k3 k4
    rw [← k1, ← k2, ← k3, ← k4]
    exact Pst.mk (.mk ⟨_, rfl, rfl⟩) kk
  · rename_i hB
    have hlt : s.pos + i < s.inp.length := by by_cases h : s.pos + i < s.inp.length; exact h; have := hpn (by omega); omega
    rw [hst hlt, hB, attrsGo_slash, headD_adv, if_pos hc] at k1 k2 k3 k4
    dsimp only at k1 k2 k3 k4
    rw [← k1, ← k2, ← k3, ← k4]
    exact Pst.mk (.mk ⟨_, rfl, rfl⟩) kk
  · rename_i hB
    have hlt : s.pos + i < s.inp.length := by by_cases h : s.pos + i < s.inp.length; exact h; have := hpn (by omega); omega
    rw [hst hlt, hB, attrsGo_slash, headD_adv, if_neg hc] at k1 k2 k3 k4
    dsimp only at k1 k2 k3 k4
    exact ih _ _ (i + 1, _, al) ⟨k1, k2, k3, by dsimp only; omega, by dsimp only; omega, by dsimp only; omega⟩ (by dsimp only; omega) ⟨rfl, rfl, trivial⟩ kk
  · rename_i hok _ _ hB hC
    have hok : (Md.attr1 (s.adv i).rest).2.1 = false := by assumption
    have hlt : s.pos + i < s.inp.length := by by_cases h : s.pos + i < s.inp.length; exact h; have := hpn (by omega); omega
    rw [hst hlt, attrsGo_attr hB hC hc, ← hst hlt, if_neg (by rw [hok]; simp)] at k1 k2 k3 k4
    dsimp only at k1 k2 k3 k4
    rw [← k1, ← k2, ← k3, ← k4]
    exact Pst.mk (.mk ⟨_, rfl, rfl⟩) kk
  · rename_i _ _ _ hB hC
    have hok : (Md.attr1 (s.adv i).rest).2.1 = true := by assumption
    have hlt : s.pos + i < s.inp.length := by by_cases h : s.pos + i < s.inp.length; exact h; have := hpn (by omega); omega
    have hl := attr1_le (s.adv i).rest
    have hg : 1 ≤ (Md.attr1 (s.adv i).rest).2.2 := by rw [hst hlt]; exact attr1_ge (by rw [over_f]; exact ⟨⟨hB, hc⟩, hC⟩)
    have hpl := putAttr_len al (Md.attr1 (s.adv i).rest).1
    have hrl := rest_len (s := s.adv i)
    have hrp : (s.adv i).pos = s.pos + i := rfl
    have hri : (s.adv i).inp = s.inp := rfl
    rw [hrp, hri] at hrl
    rw [hst hlt, attrsGo_attr hB hC hc, ← hst hlt, if_pos hok, ← rest_adv, adv_adv] at k1 k2 k3 k4
    dsimp only at k1 k2 k3 k4
    exact ih _ _ (i + (Md.attr1 (s.adv i).rest).2.2, _, Md.putAttr al (Md.attr1 (s.adv i).rest).1) ⟨k1, k2, k3, by dsimp only; omega, by dsimp only; omega, by dsimp only; omega⟩ (by dsimp only; omega) ⟨rfl, rfl, trivial⟩ kk
theorem nameOf_le (l : List Int) : (Md.nameOf l).length ≤ l.length := (List.takeWhile_sublist _).length_le
def tagTok (kind : Int) (name : Md.Str) : Md.Tok := { Md.Tok.zero with kind := kind, name := name }
theorem attrs0_F {t : Md.Tok} {q : Nat} {c1 R : List Ck} (h1 : Rem (LX id s g) cs c1) (h2 : Rem (.obj q (tcell t 0)) c1 R) (ht : t.attrs = []) (hb : s.inp.length ≤ 1000000000 ∧ s.pos ≤ s.inp.length) (hn : ∀ r ∈ s.inp, 0 ≤ r) (hs : t.self = false) :
    F D 106 [.ptr id 0, .ptr q 0] cs (fun v cs' => Hold (∃ a, v = .bool (Md.attrsGo s.rest []).2.2.1 ∧ (LX id (s.adv (Md.attrsGo s.rest []).2.2.2) g :: .obj q (tcell (selfed t (Md.attrsGo s.rest []).1 (Md.attrsGo s.rest []).2.1) a) :: .own a 2 ((Md.attrsGo s.rest []).1.map encA) :: R) = cs')) := by
  rw [← ht]
  exact F.from (fun h hs => hs.nilOwn 2) (attrs_F (.tail h1) (.tail h2) (by rw [ht]; exact .head) ⟨hb.1, hb.2, by rw [ht]; rfl⟩ hn hs)
set_option maxHeartbeats 1000000 in
theorem tag_F {kind : Int} {cs2 : Nat × Nat → List Ck} (hu : Upd (LX id s g) (fun a => LX id (s.tag kind) a) cs cs2) (hb : s.inp.length ≤ 1000000000 ∧ s.pos ≤ s.inp.length ∧ s.text.length ≤ 80000000000 ∧ s.out.length ≤ 10000000) (hn : ∀ r ∈ s.inp, 0 ≤ r) :
    F D 91 [.ptr id 0, .int .i64 kind] cs (fun v cs' => Hold (∃ a, v = .tup [] ∧ cs2 a = cs')) := by
  refine F.atG hu fun R => F.of rfl rfl rfl ?_
  have hnl := nameOf_le s.rest
  have hrl := rest_len (s := s)
  have e : s.tag kind = if (Md.attrsGo (s.adv (Md.nameOf s.rest).length).rest []).2.2.1 = true then (s.adv ((Md.nameOf s.rest).length + (Md.attrsGo (s.adv (Md.nameOf s.rest).length).rest []).2.2.2)).emit { Md.Tok.zero with kind := kind, name := Md.encode ((Md.nameOf s.rest).map fun r => Md.small (Md.fixr r)), attrs := if kind = 3 then [] else (Md.attrsGo (s.adv (Md.nameOf s.rest).length).rest []).1, self := if kind = 3 then false else (Md.attrsGo (s.adv (Md.nameOf s.rest).length).rest []).2.1 } else s.adv ((Md.nameOf s.rest).length + (Md.attrsGo (s.adv (Md.nameOf s.rest).length).rest []).2.2.2) := by
    simp only [Md.Lx.tag, rest_adv]
  repeat' first | (show FC _ _ _ _ _; first | exact name_F kk (by omega) hn | exact attrs0_F (t := tagTok kind (Md.encode ((Md.nameOf s.rest).map fun r => Md.small (Md.fixr r)))) kk kk rfl (by simp only [Md.Lx.adv]; omega) (by exact hn) rfl | exact emit_F (t := tagTok kind (Md.encode ((Md.nameOf s.rest).map fun r => Md.small (Md.fixr r)))) (ta := 0) rfl kk (by first | omega | ((simp only [Md.Lx.adv, Md.Lx.say, Md.Lx.clr, List.nil_append, List.length_append, List.length_cons, List.length_nil]); omega)) | exact emit_F (t := selfed (tagTok kind (Md.encode ((Md.nameOf s.rest).map fun r => Md.small (Md.fixr r)))) (Md.attrsGo (s.adv (Md.nameOf s.rest).length).rest []).1 (Md.attrsGo (s.adv (Md.nameOf s.rest).length).rest []).2.1) rfl kk (by first | omega | ((simp only [Md.Lx.adv, Md.Lx.say, Md.Lx.clr, List.nil_append, List.length_append, List.length_cons, List.length_nil]); omega))) | (refine fun (hc : _ = _) => ?_; (try simp only [BB] at hc); (try (first | contradiction | (exfalso; omega)))) | exact arI | refine Pst.mk ⟨?_, rfl⟩ kk | constructor | (refine fun _ _ (hq : Hold _) => ?_; replace hq := hq.out; obtain ⟨_, rfl, rfl⟩ := hq) | (refine fun _ _ (hq : Hold _) => ?_; replace hq := hq.out; obtain ⟨_, _, rfl, rfl⟩ := hq) | rintro _ _ ⟨rfl, rfl⟩ | rintro _ _ ⟨_, rfl, rfl⟩ | rintro _ _ ⟨_, _, rfl, rfl⟩ | (refine fun (hc : _ = _) => ?_; (try simp only [BB] at hc)) | refine fun (_ : Nat) => ?_ | refine fun (_ : _ ≤ _) => ?_ | refine fun (_ : _ < _) => ?_
  all_goals (try simp only [pk_adv, pk_say, Nat.add_zero, adv_adv, say_say, say_adv, pk_clr, adv_clr] at *)
  · rename_i hok _ 
    have hok : (Md.attrsGo (s.adv (Md.nameOf s.rest).length).rest []).2.2.1 = true := by assumption
    rw [if_pos hok, if_pos hc, if_pos hc] at e
    rw [e]; exact Pst.mk (.mk ⟨_, trivial, rfl⟩) kk
  · rename_i hok _ 
    have hok : (Md.attrsGo (s.adv (Md.nameOf s.rest).length).rest []).2.2.1 = true := by assumption
    rw [if_pos hok, if_neg hc, if_neg hc] at e
    rw [e]; exact Pst.mk (.mk ⟨_, trivial, rfl⟩) kk
  · rw [if_neg (by rw [hc]; simp)] at e
    rw [e]; exact Pst.mk (.mk ⟨_, trivial, rfl⟩) kk
end Go.Proofs.YticnenofiibpgaaDoor.Code
/- What the lexer's comment does. -/
namespace Go
theorem Md.enc_bytes (r : Int) : (∃ b : UInt8, b.toNat < 128 ∧ r = b.toNat ∧ (Utf8.encode r).data.toList = [b]) ∨ ((Utf8.encode r).data.toList ≠ [] ∧ ∀ b ∈ (Utf8.encode r).data.toList, 128 ≤ b.toNat) := by
  by_cases h : 0 ≤ r ∧ r < 128
  · left
    refine ⟨UInt8.ofNat r.toNat, ?_, ?_, Md.enc_low h⟩
    · rw [UInt8.toNat_ofNat']; omega
    · rw [UInt8.toNat_ofNat']; omega
  · right
    unfold Utf8.encode
    have hc : 128 ≤ (if Utf8.valid r = true then r.toNat else Utf8.runeError) ∧ (if Utf8.valid r = true then r.toNat else Utf8.runeError) < 1114112 := by
      split
      · rename_i hv
        simp [Utf8.valid] at hv
        omega
      · decide
    dsimp only
    generalize (if Utf8.valid r = true then r.toNat else Utf8.runeError) = c at hc
    rw [if_neg (by omega)]
    split
    · refine ⟨by simp, fun b hb => ?_⟩
      simp only [List.mem_cons, List.not_mem_nil, or_false] at hb
      rcases hb with rfl | rfl <;> rw [UInt8.toNat_ofNat'] <;> omega
    · split
      · refine ⟨by simp, fun b hb => ?_⟩
        simp only [List.mem_cons, List.not_mem_nil, or_false] at hb
        rcases hb with rfl | rfl | rfl <;> rw [UInt8.toNat_ofNat'] <;> omega
      · refine ⟨by simp, fun b hb => ?_⟩
        simp only [List.mem_cons, List.not_mem_nil, or_false] at hb
        rcases hb with rfl | rfl | rfl | rfl <;> rw [UInt8.toNat_ofNat'] <;> omega
theorem Md.runeBytes_app (a b : List Int) : Go.Dm.runeBytes (a ++ b) = Go.Dm.runeBytes a ++ Go.Dm.runeBytes b := by simp [Go.Dm.runeBytes]
/-- Low bytes at a text's end are signs at its end. -/
theorem Md.low_end : ∀ (n : Nat) (w : List UInt8) (d : List Int) (x : List UInt8), w.length = n → (∀ b ∈ w, b.toNat < 128) → Go.Dm.runeBytes d = x ++ w → ∃ d', d = d' ++ w.map (fun b => (b.toNat : Int)) ∧ Go.Dm.runeBytes d' = x := by
  intro n
  induction n with
  | zero => intro w d x hw _ h; have : w = [] := List.eq_nil_of_length_eq_zero hw; subst this; exact ⟨d, by simp, by simpa using h⟩
  | succ n ih =>
    intro w d x hw hb h
    obtain ⟨w', b, rfl⟩ : ∃ w' b, w = w' ++ [b] := ⟨w.dropLast, w.getLast (by intro e; rw [e] at hw; simp at hw), (List.dropLast_concat_getLast _).symm⟩
    have hbl : b.toNat < 128 := hb b (by simp)
    rcases List.eq_nil_or_concat d with rfl | ⟨d', r, rfl⟩
    · simp [Go.Dm.runeBytes] at h
    · rw [List.concat_eq_append, Md.runeBytes_app, ← List.append_assoc] at h
      have er : Go.Dm.runeBytes [r] = (Utf8.encode r).data.toList := by simp [Go.Dm.runeBytes]
      rw [er] at h
      rcases Md.enc_bytes r with ⟨c, h1, h2, h3⟩ | ⟨h1, h2⟩
      · rw [h3] at h
        obtain ⟨h4, h5⟩ := List.append_inj' h rfl
        simp only [List.cons.injEq, and_true] at h5
        obtain ⟨d2, e1, e2⟩ := ih w' d' x (by simp at hw; omega) (fun y hy => hb y (by simp [hy])) h4
        exact ⟨d2, by rw [e1, h2, h5]; simp, e2⟩
      · exfalso
        have hl := congrArg List.getLast? h
        rw [List.getLast?_append, List.getLast?_append] at hl
        simp only [List.getLast?_singleton, Option.some_or] at hl
        cases hg : (Utf8.encode r).data.toList.getLast? with
        | none => rw [List.getLast?_eq_none_iff] at hg; exact h1 hg
        | some y =>
          rw [hg] at hl
          simp only [Option.some_or, Option.some.injEq] at hl
          have := h2 y (List.mem_of_getLast? hg)
          rw [hl] at this; omega
theorem Md.suffix_len {d : List Int} {w : List UInt8} (hw : ∀ b ∈ w, b.toNat < 128) (h : Md.hasSuffix (Go.Dm.runeBytes d) w = true) : w.length ≤ d.length := by
  simp only [Md.hasSuffix, Bool.and_eq_true, decide_eq_true_eq, beq_iff_eq] at h
  have e : Go.Dm.runeBytes d = (Go.Dm.runeBytes d).take ((Go.Dm.runeBytes d).length - w.length) ++ w := by
    conv => lhs; rw [← List.take_append_drop ((Go.Dm.runeBytes d).length - w.length) (Go.Dm.runeBytes d)]
    rw [h.2]
  obtain ⟨d', h1, _⟩ := Md.low_end _ w d _ rfl hw e
  rw [h1]; simp
end Go
namespace Go.Proofs.YticnenofiibpgaaDoor.Code
open Go.Dm Go.Dm.C
set_option linter.unusedSimpArgs false
set_option linter.unusedVariables false
set_option linter.unnecessarySimpa false
set_option maxRecDepth 10000
attribute [local irreducible] Go.Dm.F Go.Dm.RS Go.Dm.Y Go.Dm.FD Go.Dm.FZ1 Go.Dm.Hold
variable {id : Nat} {s : Md.Lx} {g : Nat × Nat} {cs : List Ck}
theorem hasSuffix2_F {R : List Ck} {a b : Md.Str} (hl : a.length ≤ 1000000000000 ∧ b.length ≤ 1000000000000) : F D 117 [.str a, .str b] R (fun v cs' => v = .bool (Md.hasSuffix a b) ∧ R = cs') := by
  refine F.of rfl rfl rfl ?_
  repeat' first | exact arI | refine Pst.mk ⟨?_, rfl⟩ kk | constructor | (refine fun _ _ (hq : Hold _) => ?_; replace hq := hq.out; obtain ⟨_, rfl, rfl⟩ := hq) | (refine fun _ _ (hq : Hold _) => ?_; replace hq := hq.out; obtain ⟨_, _, rfl, rfl⟩ := hq) | rintro _ _ ⟨rfl, rfl⟩ | rintro _ _ ⟨_, rfl, rfl⟩ | rintro _ _ ⟨_, _, rfl, rfl⟩ | (refine fun (hc : _ = _) => ?_; (try simp only [BB] at hc)) | refine fun (_ : Nat) => ?_ | refine fun (_ : _ ≤ _) => ?_ | refine fun (_ : _ < _) => ?_
  rw [show ((a.length : Int) - (b.length : Int)).toNat = a.length - b.length by omega]
  congr 1
  unfold Md.hasSuffix
  rw [show decide (List.drop (a.length - b.length) a = b) = (List.drop (a.length - b.length) a == b) by rw [Bool.eq_iff_iff]; simp]
  congr 1
  by_cases h : b.length ≤ a.length
  · rw [decide_eq_true (show (a.length : Int) ≥ (b.length : Int) by omega), decide_eq_true h]
  · rw [decide_eq_false (show ¬(a.length : Int) ≥ (b.length : Int) by omega), decide_eq_false h]
theorem hasSuffix_F {R : List Ck} {a b : Md.Str} (hl : a.length ≤ 1000000000000 ∧ b.length ≤ 1000000000000) : F D 111 [.str a, .str b] R (fun v cs' => v = .bool (Md.hasSuffix a b) ∧ R = cs') := by
  refine F.of rfl rfl rfl ?_
  repeat' first | exact hasSuffix2_F hl | exact arI | refine Pst.mk ⟨?_, rfl⟩ kk | constructor | (refine fun _ _ (hq : Hold _) => ?_; replace hq := hq.out; obtain ⟨_, rfl, rfl⟩ := hq) | (refine fun _ _ (hq : Hold _) => ?_; replace hq := hq.out; obtain ⟨_, _, rfl, rfl⟩ := hq) | rintro _ _ ⟨rfl, rfl⟩ | rintro _ _ ⟨_, rfl, rfl⟩ | rintro _ _ ⟨_, _, rfl, rfl⟩ | (refine fun (hc : _ = _) => ?_; (try simp only [BB] at hc)) | refine fun (_ : Nat) => ?_ | refine fun (_ : _ ≤ _) => ?_ | refine fun (_ : _ < _) => ?_
theorem commentEnd_F {q d td : Nat} {data : List Int} {c1 c2 R : List Ck} (h1 : Rem (.obj q (.cells [.ptr id 0] none)) cs c1) (h2 : Rem (.obj d (.cells [.lst td (zOf td 1) (data.map I32)] none)) c1 c2) (h3 : Rem (LX id s g) c2 R) (hb : s.text.length ≤ 80000000000 ∧ s.out.length ≤ 10000000 ∧ data.length ≤ 10000000000) :
    F D 110 [.ptr q 0, .ptr d 0] cs (fun v cs' => Hold (∃ a, v = .tup [] ∧ (LX id (s.emit (Md.commentTok data)) a :: .obj q (.cells [.ptr id 0] none) :: .obj d (.cells [.lst td (zOf td 1) (data.map I32)] none) :: R) = cs')) := by
  refine F.perm ((h1.perm'.trans ((h2.perm'.trans (h3.perm'.cons _)).cons _)).trans ((((List.Perm.swap ..).cons _).trans (.swap ..)))) (F.of rfl rfl rfl ?_)
  repeat' first | (show FC _ _ _ _ _; first | exact encode_F rfl (by omega) | exact emit_F (t := Md.commentTok data) (ta := 0) rfl kk (by omega)) | (refine fun (hc : _ = _) => ?_; (try simp only [BB] at hc); (try (first | contradiction | (exfalso; omega)))) | exact arI | refine Pst.mk ⟨?_, rfl⟩ kk | constructor | (refine fun _ _ (hq : Hold _) => ?_; replace hq := hq.out; obtain ⟨_, rfl, rfl⟩ := hq) | (refine fun _ _ (hq : Hold _) => ?_; replace hq := hq.out; obtain ⟨_, _, rfl, rfl⟩ := hq) | rintro _ _ ⟨rfl, rfl⟩ | rintro _ _ ⟨_, rfl, rfl⟩ | rintro _ _ ⟨_, _, rfl, rfl⟩ | (refine fun (hc : _ = _) => ?_; (try simp only [BB] at hc)) | refine fun (_ : Nat) => ?_ | refine fun (_ : _ ≤ _) => ?_ | refine fun (_ : _ < _) => ?_
  exact Pst.mk (.mk ⟨_, rfl, rfl⟩) kk
theorem commentGo_cons {i : Nat} (h : s.pos + i < s.inp.length) : Md.commentGo (s.adv i).rest = if s.pk i = 45 ∧ Md.exact [45, 62] (s.adv (i + 1)).rest = true then ([], 3, true) else if s.pk i = 45 ∧ Md.exact [45, 33, 62] (s.adv (i + 1)).rest = true then ([], 4, true) else
    (Md.fixr (s.pk i) :: (Md.commentGo (s.adv (i + 1)).rest).1, (Md.commentGo (s.adv (i + 1)).rest).2.1 + 1, (Md.commentGo (s.adv (i + 1)).rest).2.2) := by
  rw [rest_adv_cons h]; rfl
theorem tail3 : ∀ b ∈ ([45, 45, 33] : List UInt8), b.toNat < 128 := by decide
theorem tail2 : ∀ b ∈ ([45, 45] : List UInt8), b.toNat < 128 := by decide
theorem tail1 : ∀ b ∈ ([45] : List UInt8), b.toNat < 128 := by decide
theorem runeBytes_len : ∀ d : List Int, (runeBytes d).length ≤ 4 * d.length
  | [] => by simp [runeBytes]
  | r :: d => by
    have h := runeBytes_len d
    have e : runeBytes (r :: d) = (Utf8.encode r).data.toList ++ runeBytes d := by simp [runeBytes]
    have h4 : (Utf8.encode r).data.toList.length ≤ 4 := by
      unfold Utf8.encode; dsimp only; repeat' split
      all_goals simp
    rw [e, List.length_append, List.length_cons]; omega
set_option maxHeartbeats 2000000 in
theorem comment_F {cs2 : Nat × Nat → List Ck} (hu : Upd (LX id s g) (fun a => LX id s.comment a) cs cs2) (hb : s.inp.length ≤ 1000000000 ∧ s.pos ≤ 20000000000 ∧ s.text.length ≤ 80000000000 ∧ s.out.length ≤ 10000000) (hn : ∀ r ∈ s.inp, 0 ≤ r) :
    F D 102 [.ptr id 0] cs (fun v cs' => Hold (∃ a, v = .tup [] ∧ cs2 a = cs')) := by
  refine F.atG hu fun R => F.of rfl rfl rfl ?_
  repeat' first | (show LD _ _ _ _; first | exact LX.ldPos kk | exact LX.ldWay kk | exact LX.ldLast kk | exact LX.ldRoom kk | exact LX.ldDone kk | exact LX.ldText kk) | (apply RR.lxIn; exact rfl; exact rfl; exact rfl; exact kk; refine fun _ => ?_) | (apply RR.lxOut; exact rfl; exact rfl; exact rfl; exact kk; refine fun _ => ?_) | (apply RR.storeS; exact rfl; exact rfl; first | exact LX.stPos 1 rfl kk | exact LX.stPos 2 rfl kk | exact LX.stPos 3 rfl kk | exact LX.stPos 6 rfl kk | exact LX.stPos 7 rfl kk | exact LX.stPos _ rfl kk | exact LX.stPos2 1 _ kk | exact LX.stPos2 2 _ kk | exact LX.stWay kk | exact LX.stLast kk | exact LX.stRoom kk | exact LX.stDone kk; exact rfl) | (show FC _ _ _ _ _; first | exact commentEnd_F (td := 0) (data := []) kk kk kk (by first | omega | ((simp only [Md.Lx.adv, Md.Lx.say, Md.Lx.clr, List.nil_append, List.length_append, List.length_cons, List.length_nil]); omega)) | exact peek0_F kk (by first | omega | ((simp only [Md.Lx.adv, Md.Lx.say, Md.Lx.clr, List.nil_append, List.length_append, List.length_cons, List.length_nil]); omega)) | exact peek1_F kk (by first | omega | ((simp only [Md.Lx.adv, Md.Lx.say, Md.Lx.clr, List.nil_append, List.length_append, List.length_cons, List.length_nil]); omega)) | exact peek6_F kk (by first | omega | ((simp only [Md.Lx.adv, Md.Lx.say, Md.Lx.clr, List.nil_append, List.length_append, List.length_cons, List.length_nil]); omega)) | exact next_F kk (by first | omega | ((simp only [Md.Lx.adv, Md.Lx.say, Md.Lx.clr, List.nil_append, List.length_append, List.length_cons, List.length_nil]); omega)) | exact back_F kk (by first | omega | ((simp only [Md.Lx.adv, Md.Lx.say, Md.Lx.clr, List.nil_append, List.length_append, List.length_cons, List.length_nil]); omega)) | exact blank_F | exact letter_F | exact small_F | exact encode_F rfl (by first | omega | ((simp only [Md.Lx.adv, Md.Lx.say, Md.Lx.clr, List.nil_append, List.length_append, List.length_cons, List.length_nil]); omega)) | exact say_F rfl kk kk (by first | omega | ((simp only [Md.Lx.adv, Md.Lx.say, Md.Lx.clr, List.nil_append, List.length_append, List.length_cons, List.length_nil]); omega)) | exact stands_F kk (by first | omega | ((simp only [Md.Lx.adv, Md.Lx.say, Md.Lx.clr, List.nil_append, List.length_append, List.length_cons, List.length_nil]); omega)) (by decide) (by first | omega | ((simp only [Md.Lx.adv, Md.Lx.say, Md.Lx.clr, List.nil_append, List.length_append, List.length_cons, List.length_nil]); omega)) | exact exact_F kk (by first | omega | ((simp only [Md.Lx.adv, Md.Lx.say, Md.Lx.clr, List.nil_append, List.length_append, List.length_cons, List.length_nil]); omega)) (by decide) (by first | omega | ((simp only [Md.Lx.adv, Md.Lx.say, Md.Lx.clr, List.nil_append, List.length_append, List.length_cons, List.length_nil]); omega))) | (refine fun (hc : _ = _) => ?_; (try simp only [BB] at hc); (try (first | contradiction | (exfalso; omega)))) | exact arI | refine Pst.mk ⟨?_, rfl⟩ kk | constructor | (refine fun _ _ (hq : Hold _) => ?_; replace hq := hq.out; obtain ⟨_, rfl, rfl⟩ := hq) | (refine fun _ _ (hq : Hold _) => ?_; replace hq := hq.out; obtain ⟨_, _, rfl, rfl⟩ := hq) | rintro _ _ ⟨rfl, rfl⟩ | rintro _ _ ⟨_, rfl, rfl⟩ | rintro _ _ ⟨_, _, rfl, rfl⟩ | (refine fun (hc : _ = _) => ?_; (try simp only [BB] at hc)) | refine fun (_ : Nat) => ?_ | refine fun (_ : _ ≤ _) => ?_ | refine fun (_ : _ < _) => ?_
  · rw [Md.Lx.comment, if_pos hc]; exact Pst.mk (.mk ⟨_, rfl, rfl⟩) kk
  · rw [Md.Lx.comment, if_neg (by omega), if_pos hc]; exact Pst.mk (.mk ⟨_, rfl, rfl⟩) kk
  all_goals
    rename_i q _ d _ hA hB
    have hcm : s.comment = (s.adv (Md.commentGo s.rest).2.1).emit (Md.commentTok (if (Md.commentGo s.rest).2.2 = true then (Md.commentGo s.rest).1 else Md.stripTail (Md.commentGo s.rest).1)) := by
      rw [Md.Lx.comment, if_neg hA, if_neg (fun h => by omega)]
    refine RS.nilOwn 1 (RS.loopW (α := Nat × Nat × List Int) (fun a => [(1, .ptr q 0), (2, .ptr d 0), (3, .fn (.func 110) [] [.ptr q 0, .ptr d 0])]) (fun a => .own a.2.1 1 (a.2.2.map I32) :: .obj d (.cells [.lst a.2.1 (zOf a.2.1 1) (a.2.2.map I32)] none) :: .obj q (.cells [.ptr id 0] none) :: LX id (s.adv a.1) g :: R)
      (fun a => a.2.2.length ≤ a.1 ∧ (a.1 = 0 ∨ s.pos + a.1 ≤ s.inp.length) ∧ a.2.2 ++ (Md.commentGo (s.adv a.1).rest).1 = (Md.commentGo s.rest).1 ∧ a.1 + (Md.commentGo (s.adv a.1).rest).2.1 = (Md.commentGo s.rest).2.1 ∧ (Md.commentGo (s.adv a.1).rest).2.2 = (Md.commentGo s.rest).2.2) (fun a => s.inp.length - (s.pos + a.1)) (0, 0, []) ⟨by simp, .inl rfl, by simp [adv_zero], by simp [adv_zero], by simp [adv_zero]⟩ ⟨rfl, rfl, rfl, trivial⟩ .refl ?_)
    rintro ⟨i, td, acc⟩ ⟨k1, k2, k3, k4, k5⟩ ih
    dsimp only [ents] at *
    (have hst := fun h => rest_adv_cons (s := s) (i := i) h; have hnil := fun h => rest_adv_nil (s := s) (i := i) h; have hpn := fun h => pk_out (s := s) (i := i) h; have hpi := fun h => pk_in (s := s) (i := i) hn h)
    have hgo := fun h => commentGo_cons (s := s) (i := i) h
    have hbl := runeBytes_len acc
    have hs3 : Md.hasSuffix (runeBytes acc) [45, 45, 33] = true → 3 ≤ acc.length := fun h => Md.suffix_len tail3 h
    have hs2 : Md.hasSuffix (runeBytes acc) [45, 45] = true → 2 ≤ acc.length := fun h => Md.suffix_len tail2 h
    have hs1 : Md.hasSuffix (runeBytes acc) [45] = true → 1 ≤ acc.length := fun h => Md.suffix_len tail1 h
    repeat' first | (show LD _ _ _ _; first | exact LX.ldPos kk | exact LX.ldWay kk | exact LX.ldLast kk | exact LX.ldRoom kk | exact LX.ldDone kk | exact LX.ldText kk) | (apply RR.lxIn; exact rfl; exact rfl; exact rfl; exact kk; refine fun _ => ?_) | (apply RR.lxOut; exact rfl; exact rfl; exact rfl; exact kk; refine fun _ => ?_) | (apply RR.storeS; exact rfl; exact rfl; first | exact LX.stPos 1 rfl kk | exact LX.stPos 2 rfl kk | exact LX.stPos 3 rfl kk | exact LX.stPos 6 rfl kk | exact LX.stPos 7 rfl kk | exact LX.stPos _ rfl kk | exact LX.stPos2 1 _ kk | exact LX.stPos2 2 _ kk | exact LX.stWay kk | exact LX.stLast kk | exact LX.stRoom kk | exact LX.stDone kk; exact rfl) | (show FC _ _ _ _ _; first | exact commentEnd_F kk kk kk (by first | omega | ((simp only [Md.Lx.adv, Md.Lx.say, Md.Lx.clr, List.nil_append, List.length_append, List.length_cons, List.length_nil]); omega)) | exact peek0_F kk (by first | omega | ((simp only [Md.Lx.adv, Md.Lx.say, Md.Lx.clr, List.nil_append, List.length_append, List.length_cons, List.length_nil]); omega)) | exact peek1_F kk (by first | omega | ((simp only [Md.Lx.adv, Md.Lx.say, Md.Lx.clr, List.nil_append, List.length_append, List.length_cons, List.length_nil]); omega)) | exact peek6_F kk (by first | omega | ((simp only [Md.Lx.adv, Md.Lx.say, Md.Lx.clr, List.nil_append, List.length_append, List.length_cons, List.length_nil]); omega)) | exact next_F kk (by first | omega | ((simp only [Md.Lx.adv, Md.Lx.say, Md.Lx.clr, List.nil_append, List.length_append, List.length_cons, List.length_nil]); omega)) | exact back_F kk (by first | omega | ((simp only [Md.Lx.adv, Md.Lx.say, Md.Lx.clr, List.nil_append, List.length_append, List.length_cons, List.length_nil]); omega)) | exact blank_F | exact letter_F | exact small_F | exact encode_F rfl (by first | omega | ((simp only [Md.Lx.adv, Md.Lx.say, Md.Lx.clr, List.nil_append, List.length_append, List.length_cons, List.length_nil]); omega)) | exact say_F rfl kk kk (by first | omega | ((simp only [Md.Lx.adv, Md.Lx.say, Md.Lx.clr, List.nil_append, List.length_append, List.length_cons, List.length_nil]); omega)) | exact stands_F kk (by first | omega | ((simp only [Md.Lx.adv, Md.Lx.say, Md.Lx.clr, List.nil_append, List.length_append, List.length_cons, List.length_nil]); omega)) (by decide) (by first | omega | ((simp only [Md.Lx.adv, Md.Lx.say, Md.Lx.clr, List.nil_append, List.length_append, List.length_cons, List.length_nil]); omega)) | exact exact_F kk (by first | omega | ((simp only [Md.Lx.adv, Md.Lx.say, Md.Lx.clr, List.nil_append, List.length_append, List.length_cons, List.length_nil]); omega)) (by decide) (by first | omega | ((simp only [Md.Lx.adv, Md.Lx.say, Md.Lx.clr, List.nil_append, List.length_append, List.length_cons, List.length_nil]); omega))) | (refine fun (hc : _ = _) => ?_; (try simp only [BB] at hc); (try (first | contradiction | (exfalso; omega)))) | (refine Arith.mk ?_; (try intro _); simp only [Md.Lx.adv, Md.Lx.say, Md.Lx.clr, List.nil_append, List.length_append, List.length_cons, List.length_nil]; omega) | exact arI | refine Pst.mk ⟨?_, rfl⟩ kk | constructor | (refine fun _ _ (hq : Hold _) => ?_; replace hq := hq.out; obtain ⟨_, rfl, rfl⟩ := hq) | (refine fun _ _ (hq : Hold _) => ?_; replace hq := hq.out; obtain ⟨_, _, rfl, rfl⟩ := hq) | rintro _ _ ⟨rfl, rfl⟩ | rintro _ _ ⟨_, rfl, rfl⟩ | rintro _ _ ⟨_, _, rfl, rfl⟩ | (refine fun (hc : _ = _) => ?_; (try simp only [BB] at hc)) | refine fun (_ : Nat) => ?_ | refine fun (_ : _ ≤ _) => ?_ | refine fun (_ : _ < _) => ?_
    all_goals (try simp only [pk_adv, pk_say, Nat.add_zero, adv_adv, say_say, say_adv, pk_clr, adv_clr] at *)
    · have hge : s.inp.length ≤ s.pos + i := by by_cases h : s.pos + i < s.inp.length; (have := hpi h; omega); omega
      rw [hnil hge] at k3 k4 k5
      simp only [Md.commentGo, List.append_nil, Nat.add_zero] at k3 k4 k5
      rw [← k3, ← k4, ← k5] at hcm
      have ht : (if false = true then acc else Md.stripTail acc) = Md.stripTail acc := rfl
      rw [ht, Md.stripTail] at hcm
      refine RS.loop ?_
      repeat' first | exact Arith.mk (fun _ => ⟨by decide, rfl⟩) | (show LD _ _ _ _; first | exact LX.ldPos kk | exact LX.ldWay kk | exact LX.ldLast kk | exact LX.ldRoom kk | exact LX.ldDone kk | exact LX.ldText kk) | (apply RR.lxIn; exact rfl; exact rfl; exact rfl; exact kk; refine fun _ => ?_) | (apply RR.lxOut; exact rfl; exact rfl; exact rfl; exact kk; refine fun _ => ?_) | (apply RR.storeS; exact rfl; exact rfl; first | exact LX.stPos 1 rfl kk | exact LX.stPos 2 rfl kk | exact LX.stPos 3 rfl kk | exact LX.stPos 6 rfl kk | exact LX.stPos 7 rfl kk | exact LX.stPos _ rfl kk | exact LX.stPos2 1 _ kk | exact LX.stPos2 2 _ kk | exact LX.stWay kk | exact LX.stLast kk | exact LX.stRoom kk | exact LX.stDone kk; exact rfl) | (show FC _ _ _ _ _; first | exact commentEnd_F kk kk kk (by simp only [Md.Lx.adv, List.length_take]; omega) | exact hasSuffix_F (by simp only [List.length_cons, List.length_nil]; omega) | exact peek0_F kk (by first | omega | ((simp only [Md.Lx.adv, Md.Lx.say, Md.Lx.clr, List.nil_append, List.length_append, List.length_cons, List.length_nil]); omega)) | exact peek1_F kk (by first | omega | ((simp only [Md.Lx.adv, Md.Lx.say, Md.Lx.clr, List.nil_append, List.length_append, List.length_cons, List.length_nil]); omega)) | exact peek6_F kk (by first | omega | ((simp only [Md.Lx.adv, Md.Lx.say, Md.Lx.clr, List.nil_append, List.length_append, List.length_cons, List.length_nil]); omega)) | exact next_F kk (by first | omega | ((simp only [Md.Lx.adv, Md.Lx.say, Md.Lx.clr, List.nil_append, List.length_append, List.length_cons, List.length_nil]); omega)) | exact back_F kk (by first | omega | ((simp only [Md.Lx.adv, Md.Lx.say, Md.Lx.clr, List.nil_append, List.length_append, List.length_cons, List.length_nil]); omega)) | exact blank_F | exact letter_F | exact small_F | exact encode_F rfl (by first | omega | ((simp only [Md.Lx.adv, Md.Lx.say, Md.Lx.clr, List.nil_append, List.length_append, List.length_cons, List.length_nil]); omega)) | exact say_F rfl kk kk (by first | omega | ((simp only [Md.Lx.adv, Md.Lx.say, Md.Lx.clr, List.nil_append, List.length_append, List.length_cons, List.length_nil]); omega)) | exact stands_F kk (by first | omega | ((simp only [Md.Lx.adv, Md.Lx.say, Md.Lx.clr, List.nil_append, List.length_append, List.length_cons, List.length_nil]); omega)) (by decide) (by first | omega | ((simp only [Md.Lx.adv, Md.Lx.say, Md.Lx.clr, List.nil_append, List.length_append, List.length_cons, List.length_nil]); omega)) | exact exact_F kk (by first | omega | ((simp only [Md.Lx.adv, Md.Lx.say, Md.Lx.clr, List.nil_append, List.length_append, List.length_cons, List.length_nil]); omega)) (by decide) (by first | omega | ((simp only [Md.Lx.adv, Md.Lx.say, Md.Lx.clr, List.nil_append, List.length_append, List.length_cons, List.length_nil]); omega))) | (refine fun (hc : _ = _) => ?_; (try simp only [BB] at hc); (try (first | contradiction | (exfalso; omega)))) | (refine Arith.mk ?_; (try intro _); have h9 := hs3 (by assumption); simp only [List.length_cons, List.length_nil]; omega) | (refine Arith.mk ?_; (try intro _); simp only [Md.Lx.adv, Md.Lx.say, Md.Lx.clr, List.nil_append, List.length_append, List.length_cons, List.length_nil]; omega) | exact arI | refine Pst.mk ⟨?_, rfl⟩ kk | constructor | (refine fun _ _ (hq : Hold _) => ?_; replace hq := hq.out; obtain ⟨_, rfl, rfl⟩ := hq) | (refine fun _ _ (hq : Hold _) => ?_; replace hq := hq.out; obtain ⟨_, _, rfl, rfl⟩ := hq) | rintro _ _ ⟨rfl, rfl⟩ | rintro _ _ ⟨_, rfl, rfl⟩ | rintro _ _ ⟨_, _, rfl, rfl⟩ | (refine fun (hc : _ = _) => ?_; (try simp only [BB] at hc)) | refine fun (_ : Nat) => ?_ | refine fun (_ : _ ≤ _) => ?_ | refine fun (_ : _ < _) => ?_
      all_goals (try simp only [pk_adv, pk_say, Nat.add_zero, adv_adv, say_say, say_adv, pk_clr, adv_clr] at *)
      · have e3 : ((acc.length : Int) - ((([45, 45, 33] : List UInt8).length : Nat) : Int)).toNat = acc.length - 3 := by simp only [List.length_cons, List.length_nil]; omega
        rw [e3, hcm, if_pos hc]; exact Pst.mk (.mk ⟨_, trivial, rfl⟩) kk
      rename_i hN0
      have hN3 : ¬Md.hasSuffix (runeBytes acc) [45, 45, 33] = true := by rw [hc]; simp
      rw [if_neg hN3] at hcm
      clear hc
      refine RS.lp (RS.loop ?_)
      repeat' first | exact Arith.mk (fun _ => ⟨by decide, rfl⟩) | (show LD _ _ _ _; first | exact LX.ldPos kk | exact LX.ldWay kk | exact LX.ldLast kk | exact LX.ldRoom kk | exact LX.ldDone kk | exact LX.ldText kk) | (apply RR.lxIn; exact rfl; exact rfl; exact rfl; exact kk; refine fun _ => ?_) | (apply RR.lxOut; exact rfl; exact rfl; exact rfl; exact kk; refine fun _ => ?_) | (apply RR.storeS; exact rfl; exact rfl; first | exact LX.stPos 1 rfl kk | exact LX.stPos 2 rfl kk | exact LX.stPos 3 rfl kk | exact LX.stPos 6 rfl kk | exact LX.stPos 7 rfl kk | exact LX.stPos _ rfl kk | exact LX.stPos2 1 _ kk | exact LX.stPos2 2 _ kk | exact LX.stWay kk | exact LX.stLast kk | exact LX.stRoom kk | exact LX.stDone kk; exact rfl) | (show FC _ _ _ _ _; first | exact commentEnd_F kk kk kk (by simp only [Md.Lx.adv, List.length_take]; omega) | exact hasSuffix_F (by simp only [List.length_cons, List.length_nil]; omega) | exact peek0_F kk (by first | omega | ((simp only [Md.Lx.adv, Md.Lx.say, Md.Lx.clr, List.nil_append, List.length_append, List.length_cons, List.length_nil]); omega)) | exact peek1_F kk (by first | omega | ((simp only [Md.Lx.adv, Md.Lx.say, Md.Lx.clr, List.nil_append, List.length_append, List.length_cons, List.length_nil]); omega)) | exact peek6_F kk (by first | omega | ((simp only [Md.Lx.adv, Md.Lx.say, Md.Lx.clr, List.nil_append, List.length_append, List.length_cons, List.length_nil]); omega)) | exact next_F kk (by first | omega | ((simp only [Md.Lx.adv, Md.Lx.say, Md.Lx.clr, List.nil_append, List.length_append, List.length_cons, List.length_nil]); omega)) | exact back_F kk (by first | omega | ((simp only [Md.Lx.adv, Md.Lx.say, Md.Lx.clr, List.nil_append, List.length_append, List.length_cons, List.length_nil]); omega)) | exact blank_F | exact letter_F | exact small_F | exact encode_F rfl (by first | omega | ((simp only [Md.Lx.adv, Md.Lx.say, Md.Lx.clr, List.nil_append, List.length_append, List.length_cons, List.length_nil]); omega)) | exact say_F rfl kk kk (by first | omega | ((simp only [Md.Lx.adv, Md.Lx.say, Md.Lx.clr, List.nil_append, List.length_append, List.length_cons, List.length_nil]); omega)) | exact stands_F kk (by first | omega | ((simp only [Md.Lx.adv, Md.Lx.say, Md.Lx.clr, List.nil_append, List.length_append, List.length_cons, List.length_nil]); omega)) (by decide) (by first | omega | ((simp only [Md.Lx.adv, Md.Lx.say, Md.Lx.clr, List.nil_append, List.length_append, List.length_cons, List.length_nil]); omega)) | exact exact_F kk (by first | omega | ((simp only [Md.Lx.adv, Md.Lx.say, Md.Lx.clr, List.nil_append, List.length_append, List.length_cons, List.length_nil]); omega)) (by decide) (by first | omega | ((simp only [Md.Lx.adv, Md.Lx.say, Md.Lx.clr, List.nil_append, List.length_append, List.length_cons, List.length_nil]); omega))) | (refine fun (hc : _ = _) => ?_; (try simp only [BB] at hc); (try (first | contradiction | (exfalso; omega)))) | (refine Arith.mk ?_; (try intro _); have h9 := hs2 (by assumption); simp only [List.length_cons, List.length_nil]; omega) | (refine Arith.mk ?_; (try intro _); simp only [Md.Lx.adv, Md.Lx.say, Md.Lx.clr, List.nil_append, List.length_append, List.length_cons, List.length_nil]; omega) | exact arI | refine Pst.mk ⟨?_, rfl⟩ kk | constructor | (refine fun _ _ (hq : Hold _) => ?_; replace hq := hq.out; obtain ⟨_, rfl, rfl⟩ := hq) | (refine fun _ _ (hq : Hold _) => ?_; replace hq := hq.out; obtain ⟨_, _, rfl, rfl⟩ := hq) | rintro _ _ ⟨rfl, rfl⟩ | rintro _ _ ⟨_, rfl, rfl⟩ | rintro _ _ ⟨_, _, rfl, rfl⟩ | (refine fun (hc : _ = _) => ?_; (try simp only [BB] at hc)) | refine fun (_ : Nat) => ?_ | refine fun (_ : _ ≤ _) => ?_ | refine fun (_ : _ < _) => ?_
      all_goals (try simp only [pk_adv, pk_say, Nat.add_zero, adv_adv, say_say, say_adv, pk_clr, adv_clr] at *)
      · have e3 : ((acc.length : Int) - ((([45, 45] : List UInt8).length : Nat) : Int)).toNat = acc.length - 2 := by simp only [List.length_cons, List.length_nil]; omega
        rw [e3, hcm, if_pos hc]; exact Pst.mk (.mk ⟨_, trivial, rfl⟩) kk
      have hN2 : ¬Md.hasSuffix (runeBytes acc) [45, 45] = true := by rw [hc]; simp
      rw [if_neg hN2] at hcm
      clear hc
      refine RS.lp (RS.loop ?_)
      repeat' first | exact Arith.mk (fun _ => ⟨by decide, rfl⟩) | (show LD _ _ _ _; first | exact LX.ldPos kk | exact LX.ldWay kk | exact LX.ldLast kk | exact LX.ldRoom kk | exact LX.ldDone kk | exact LX.ldText kk) | (apply RR.lxIn; exact rfl; exact rfl; exact rfl; exact kk; refine fun _ => ?_) | (apply RR.lxOut; exact rfl; exact rfl; exact rfl; exact kk; refine fun _ => ?_) | (apply RR.storeS; exact rfl; exact rfl; first | exact LX.stPos 1 rfl kk | exact LX.stPos 2 rfl kk | exact LX.stPos 3 rfl kk | exact LX.stPos 6 rfl kk | exact LX.stPos 7 rfl kk | exact LX.stPos _ rfl kk | exact LX.stPos2 1 _ kk | exact LX.stPos2 2 _ kk | exact LX.stWay kk | exact LX.stLast kk | exact LX.stRoom kk | exact LX.stDone kk; exact rfl) | (show FC _ _ _ _ _; first | exact commentEnd_F kk kk kk (by simp only [Md.Lx.adv, List.length_take]; omega) | exact hasSuffix_F (by simp only [List.length_cons, List.length_nil]; omega) | exact peek0_F kk (by first | omega | ((simp only [Md.Lx.adv, Md.Lx.say, Md.Lx.clr, List.nil_append, List.length_append, List.length_cons, List.length_nil]); omega)) | exact peek1_F kk (by first | omega | ((simp only [Md.Lx.adv, Md.Lx.say, Md.Lx.clr, List.nil_append, List.length_append, List.length_cons, List.length_nil]); omega)) | exact peek6_F kk (by first | omega | ((simp only [Md.Lx.adv, Md.Lx.say, Md.Lx.clr, List.nil_append, List.length_append, List.length_cons, List.length_nil]); omega)) | exact next_F kk (by first | omega | ((simp only [Md.Lx.adv, Md.Lx.say, Md.Lx.clr, List.nil_append, List.length_append, List.length_cons, List.length_nil]); omega)) | exact back_F kk (by first | omega | ((simp only [Md.Lx.adv, Md.Lx.say, Md.Lx.clr, List.nil_append, List.length_append, List.length_cons, List.length_nil]); omega)) | exact blank_F | exact letter_F | exact small_F | exact encode_F rfl (by first | omega | ((simp only [Md.Lx.adv, Md.Lx.say, Md.Lx.clr, List.nil_append, List.length_append, List.length_cons, List.length_nil]); omega)) | exact say_F rfl kk kk (by first | omega | ((simp only [Md.Lx.adv, Md.Lx.say, Md.Lx.clr, List.nil_append, List.length_append, List.length_cons, List.length_nil]); omega)) | exact stands_F kk (by first | omega | ((simp only [Md.Lx.adv, Md.Lx.say, Md.Lx.clr, List.nil_append, List.length_append, List.length_cons, List.length_nil]); omega)) (by decide) (by first | omega | ((simp only [Md.Lx.adv, Md.Lx.say, Md.Lx.clr, List.nil_append, List.length_append, List.length_cons, List.length_nil]); omega)) | exact exact_F kk (by first | omega | ((simp only [Md.Lx.adv, Md.Lx.say, Md.Lx.clr, List.nil_append, List.length_append, List.length_cons, List.length_nil]); omega)) (by decide) (by first | omega | ((simp only [Md.Lx.adv, Md.Lx.say, Md.Lx.clr, List.nil_append, List.length_append, List.length_cons, List.length_nil]); omega))) | (refine fun (hc : _ = _) => ?_; (try simp only [BB] at hc); (try (first | contradiction | (exfalso; omega)))) | (refine Arith.mk ?_; (try intro _); have h9 := hs1 (by assumption); simp only [List.length_cons, List.length_nil]; omega) | (refine Arith.mk ?_; (try intro _); simp only [Md.Lx.adv, Md.Lx.say, Md.Lx.clr, List.nil_append, List.length_append, List.length_cons, List.length_nil]; omega) | exact arI | refine Pst.mk ⟨?_, rfl⟩ kk | constructor | (refine fun _ _ (hq : Hold _) => ?_; replace hq := hq.out; obtain ⟨_, rfl, rfl⟩ := hq) | (refine fun _ _ (hq : Hold _) => ?_; replace hq := hq.out; obtain ⟨_, _, rfl, rfl⟩ := hq) | rintro _ _ ⟨rfl, rfl⟩ | rintro _ _ ⟨_, rfl, rfl⟩ | rintro _ _ ⟨_, _, rfl, rfl⟩ | (refine fun (hc : _ = _) => ?_; (try simp only [BB] at hc)) | refine fun (_ : Nat) => ?_ | refine fun (_ : _ ≤ _) => ?_ | refine fun (_ : _ < _) => ?_
      all_goals (try simp only [pk_adv, pk_say, Nat.add_zero, adv_adv, say_say, say_adv, pk_clr, adv_clr] at *)
      · have e3 : ((acc.length : Int) - ((([45] : List UInt8).length : Nat) : Int)).toNat = acc.length - 1 := by simp only [List.length_cons, List.length_nil]; omega
        rw [e3, hcm, if_pos hc]; exact Pst.mk (.mk ⟨_, trivial, rfl⟩) kk
      have hN1 : ¬Md.hasSuffix (runeBytes acc) [45] = true := by rw [hc]; simp
      rw [if_neg hN1] at hcm
      clear hc
      refine RS.lp (RS.loop ?_)
      repeat' first | exact Arith.mk (fun _ => ⟨by decide, rfl⟩) | (show LD _ _ _ _; first | exact LX.ldPos kk | exact LX.ldWay kk | exact LX.ldLast kk | exact LX.ldRoom kk | exact LX.ldDone kk | exact LX.ldText kk) | (apply RR.lxIn; exact rfl; exact rfl; exact rfl; exact kk; refine fun _ => ?_) | (apply RR.lxOut; exact rfl; exact rfl; exact rfl; exact kk; refine fun _ => ?_) | (apply RR.storeS; exact rfl; exact rfl; first | exact LX.stPos 1 rfl kk | exact LX.stPos 2 rfl kk | exact LX.stPos 3 rfl kk | exact LX.stPos 6 rfl kk | exact LX.stPos 7 rfl kk | exact LX.stPos _ rfl kk | exact LX.stPos2 1 _ kk | exact LX.stPos2 2 _ kk | exact LX.stWay kk | exact LX.stLast kk | exact LX.stRoom kk | exact LX.stDone kk; exact rfl) | (show FC _ _ _ _ _; first | exact commentEnd_F kk kk kk (by simp only [Md.Lx.adv, List.length_take]; omega) | exact hasSuffix_F (by simp only [List.length_cons, List.length_nil]; omega) | exact peek0_F kk (by first | omega | ((simp only [Md.Lx.adv, Md.Lx.say, Md.Lx.clr, List.nil_append, List.length_append, List.length_cons, List.length_nil]); omega)) | exact peek1_F kk (by first | omega | ((simp only [Md.Lx.adv, Md.Lx.say, Md.Lx.clr, List.nil_append, List.length_append, List.length_cons, List.length_nil]); omega)) | exact peek6_F kk (by first | omega | ((simp only [Md.Lx.adv, Md.Lx.say, Md.Lx.clr, List.nil_append, List.length_append, List.length_cons, List.length_nil]); omega)) | exact next_F kk (by first | omega | ((simp only [Md.Lx.adv, Md.Lx.say, Md.Lx.clr, List.nil_append, List.length_append, List.length_cons, List.length_nil]); omega)) | exact back_F kk (by first | omega | ((simp only [Md.Lx.adv, Md.Lx.say, Md.Lx.clr, List.nil_append, List.length_append, List.length_cons, List.length_nil]); omega)) | exact blank_F | exact letter_F | exact small_F | exact encode_F rfl (by first | omega | ((simp only [Md.Lx.adv, Md.Lx.say, Md.Lx.clr, List.nil_append, List.length_append, List.length_cons, List.length_nil]); omega)) | exact say_F rfl kk kk (by first | omega | ((simp only [Md.Lx.adv, Md.Lx.say, Md.Lx.clr, List.nil_append, List.length_append, List.length_cons, List.length_nil]); omega)) | exact stands_F kk (by first | omega | ((simp only [Md.Lx.adv, Md.Lx.say, Md.Lx.clr, List.nil_append, List.length_append, List.length_cons, List.length_nil]); omega)) (by decide) (by first | omega | ((simp only [Md.Lx.adv, Md.Lx.say, Md.Lx.clr, List.nil_append, List.length_append, List.length_cons, List.length_nil]); omega)) | exact exact_F kk (by first | omega | ((simp only [Md.Lx.adv, Md.Lx.say, Md.Lx.clr, List.nil_append, List.length_append, List.length_cons, List.length_nil]); omega)) (by decide) (by first | omega | ((simp only [Md.Lx.adv, Md.Lx.say, Md.Lx.clr, List.nil_append, List.length_append, List.length_cons, List.length_nil]); omega))) | (refine fun (hc : _ = _) => ?_; (try simp only [BB] at hc); (try (first | contradiction | (exfalso; omega)))) | (refine Arith.mk ?_; (try intro _); simp only [Md.Lx.adv, Md.Lx.say, Md.Lx.clr, List.nil_append, List.length_append, List.length_cons, List.length_nil]; omega) | exact arI | refine Pst.mk ⟨?_, rfl⟩ kk | constructor | (refine fun _ _ (hq : Hold _) => ?_; replace hq := hq.out; obtain ⟨_, rfl, rfl⟩ := hq) | (refine fun _ _ (hq : Hold _) => ?_; replace hq := hq.out; obtain ⟨_, _, rfl, rfl⟩ := hq) | rintro _ _ ⟨rfl, rfl⟩ | rintro _ _ ⟨_, rfl, rfl⟩ | rintro _ _ ⟨_, _, rfl, rfl⟩ | (refine fun (hc : _ = _) => ?_; (try simp only [BB] at hc)) | refine fun (_ : Nat) => ?_ | refine fun (_ : _ ≤ _) => ?_ | refine fun (_ : _ < _) => ?_
      all_goals (try simp only [pk_adv, pk_say, Nat.add_zero, adv_adv, say_say, say_adv, pk_clr, adv_clr] at *)
      rw [hcm]; exact Pst.mk (.mk ⟨_, trivial, rfl⟩) kk
    · have hlt : s.pos + i < s.inp.length := by by_cases h : s.pos + i < s.inp.length; exact h; have := hpn (by omega); omega
      rw [hgo hlt, if_pos hc] at k3 k4 k5
      simp only [List.append_nil] at k3 k4 k5
      rw [hcm, ← k3, ← k4, ← k5, if_pos rfl]; exact Pst.mk (.mk ⟨_, trivial, rfl⟩) kk
    · have hlt : s.pos + i < s.inp.length := by by_cases h : s.pos + i < s.inp.length; exact h; have := hpn (by omega); omega
      rw [hgo hlt, if_neg (fun h => by first | (have h9 := (‹s.pk i = 45 → Md.exact [45, 62] (s.adv (i + 1)).rest = false›) h.1; rw [h9] at h; cases h.2) | omega), if_pos hc] at k3 k4 k5
      simp only [List.append_nil] at k3 k4 k5
      rw [hcm, ← k3, ← k4, ← k5, if_pos rfl]; exact Pst.mk (.mk ⟨_, trivial, rfl⟩) kk
    all_goals
      have hlt : s.pos + i < s.inp.length := by by_cases h : s.pos + i < s.inp.length; exact h; have := hpn (by omega); omega
      rw [hgo hlt, if_neg (fun h => by first | (have h9 := (‹s.pk i = 45 → Md.exact [45, 62] (s.adv (i + 1)).rest = false›) h.1; rw [h9] at h; cases h.2) | omega), if_neg (fun h => by first | (have h9 := (‹s.pk i = 45 → Md.exact [45, 33, 62] (s.adv (i + 1)).rest = false›) h.1; rw [h9] at h; cases h.2) | omega)] at k3 k4 k5
      dsimp only at k3 k4 k5
      first
        | (rw [show Md.fixr (s.pk i) = 65533 from if_pos hc] at k3
           exact ih _ _ (i + 1, _, acc ++ [65533]) ⟨by simp; omega, .inr (by dsimp only; omega), by rw [← k3]; simp, by rw [← k4]; dsimp only; omega, k5⟩ (by dsimp only; omega) ⟨rfl, rfl, rfl, trivial⟩ kk)
        | (rw [show Md.fixr (s.pk i) = s.pk i from if_neg hc] at k3
           exact ih _ _ (i + 1, _, acc ++ [s.pk i]) ⟨by simp; omega, .inr (by dsimp only; omega), by rw [← k3]; simp, by rw [← k4]; dsimp only; omega, k5⟩ (by dsimp only; omega) ⟨rfl, rfl, rfl, trivial⟩ kk)
end Go.Proofs.YticnenofiibpgaaDoor.Code
