/- SerReads returns true for every input: part 6 of the proof (several texts joined). -/
import Derived.Test.YticnenofiibpgaaDoorJ5
/- What the lexer's doctype does. -/
namespace Go.Proofs.YticnenofiibpgaaDoor.Code
open Go.Dm Go.Dm.C
set_option linter.unusedSimpArgs false
set_option linter.unusedVariables false
set_option linter.unnecessarySimpa false
set_option maxRecDepth 10000
attribute [local irreducible] Go.Dm.F Go.Dm.RS Go.Dm.Y Go.Dm.FD Go.Dm.FZ1 Go.Dm.Hold
variable {id : Nat} {s : Md.Lx} {g : Nat × Nat} {cs : List Ck}
theorem in_adv {n : Nat} (h : s.pos ≤ s.inp.length) (hn : n ≤ s.rest.length) : (s.adv n).pos ≤ (s.adv n).inp.length := by
  rw [rest_len] at hn
  show s.pos + n ≤ s.inp.length
  omega
theorem in_blanks (h : s.pos ≤ s.inp.length) : s.blanks.pos ≤ s.blanks.inp.length := in_adv h (blanksN_le _)
theorem skipN_le : ∀ l : List Int, Md.skipN l ≤ l.length
  | [] => by simp [Md.skipN]
  | r :: l => by
    have := skipN_le l
    simp only [Md.skipN, List.length_cons]
    split <;> omega
theorem in_skip (h : s.pos ≤ s.inp.length) : s.skip.pos ≤ s.skip.inp.length := in_adv h (skipN_le _)
theorem quotedGo_le (q : Int) : ∀ l : List Int, (Md.quotedGo q l).2.2 ≤ l.length
  | [] => by simp [Md.quotedGo]
  | r :: l => by
    have := quotedGo_le q l
    simp only [Md.quotedGo, List.length_cons]
    split
    · dsimp only; omega
    · split
      · dsimp only; omega
      · dsimp only; omega
theorem quoted_le (l : List Int) : (Md.quoted l).2.2.2 ≤ l.length := by
  unfold Md.quoted
  dsimp only
  split
  · cases l with
    | nil => rename_i h; simp at h
    | cons r l => have := quotedGo_le r l; simp only [List.headD_cons, List.tail_cons, List.length_cons]; omega
  · exact skipN_le l
theorem in_quoted (h : s.pos ≤ s.inp.length) : (s.adv (Md.quoted s.rest).2.2.2).pos ≤ (s.adv (Md.quoted s.rest).2.2.2).inp.length := in_adv h (quoted_le _)
theorem in_adv1 (h : s.pk 0 ≠ -1) : (s.adv 1).pos ≤ (s.adv 1).inp.length := by
  show s.pos + 1 ≤ s.inp.length
  by_cases hl : s.inp.length ≤ s.pos
  · exact absurd (pk_nil hl) h
  · omega
theorem stands_le : ∀ (w : List UInt8) (l : List Int), Md.stands w l = true → w.length ≤ l.length
  | [], l, _ => by simp
  | c :: w, [], h => by
    simp only [Md.stands, List.headD_nil, Bool.and_eq_true, beq_iff_eq] at h
    have h1 : Md.small (-1) = -1 := by decide
    have h2 : 0 ≤ Md.small (c.toNat : Int) := by unfold Md.small; split <;> omega
    omega
  | c :: w, r :: l, h => by
    simp only [Md.stands, List.tail_cons, Bool.and_eq_true] at h
    have := stands_le w l h.2
    simp only [List.length_cons]; omega
theorem in_stands (n : Nat) (w : List UInt8) (h : Md.stands w s.rest = true) (hw : w.length = n) (hp : s.pos ≤ s.inp.length) : (s.adv n).pos ≤ (s.adv n).inp.length := in_adv hp (by rw [← hw]; exact stands_le _ _ h)
theorem in_pubsys (h : Md.stands [112, 117, 98, 108, 105, 99] s.rest = false → Md.stands [115, 121, 115, 116, 101, 109] s.rest = true) (hp : s.pos ≤ s.inp.length) : (s.adv 6).pos ≤ (s.adv 6).inp.length := by
  cases h1 : Md.stands [112, 117, 98, 108, 105, 99] s.rest with
  | true => exact in_stands 6 _ h1 rfl hp
  | false => exact in_stands 6 _ (h h1) rfl hp
theorem arith_pos {x : Md.Lx} {k : Int} {p : Bool} (h : x.pos ≤ 20000000000) (hk : 0 ≤ k ∧ k ≤ 1000) : Arith (p = true → -9223372036854775808 ≤ (x.pos : Int) + k ∧ (x.pos : Int) + k ≤ 9223372036854775807) := Arith.mk fun _ => by omega
theorem doctypeEnd_F {nm pb sy : Md.Str} {hp hs qk : Bool} {q d : Nat} {b : Bool} {c1 c2 R : List Ck} (h1 : Rem (.obj q (.cells [.ptr id 0] none)) cs c1) (h2 : Rem (.obj d (.cells [.int .i64 5, .str nm, .lst 0 0 [], .bool false, .str [], .str pb, .str sy, .bool hp, .bool hs, .bool qk] none)) c1 c2) (h3 : Rem (LX id s g) c2 R) (hb : s.text.length ≤ 80000000000 ∧ s.out.length ≤ 10000000) :
    F D 112 [.bool b, .ptr d 0, .ptr q 0] cs (fun v cs' => Hold (∃ a, v = .tup [] ∧ (LX id (s.emit ⟨5, nm, [], false, [], pb, sy, hp, hs, qk || b⟩) a :: .obj q (.cells [.ptr id 0] none) :: .obj d (.cells [.int .i64 5, .str nm, .lst 0 0 [], .bool false, .str [], .str pb, .str sy, .bool hp, .bool hs, .bool (qk || b)] none) :: R) = cs')) := by
  refine F.perm ((h1.perm'.trans ((h2.perm'.trans (h3.perm'.cons _)).cons _)).trans ((((List.Perm.swap ..).cons _).trans (.swap ..)))) (F.of rfl rfl rfl ?_)
  repeat' first | (show FC _ _ _ _ _; first | exact emit_F (t := ⟨5, nm, [], false, [], pb, sy, hp, hs, qk || b⟩) (ta := 0) rfl kk (by omega)) | (refine fun (hc : _ = _) => ?_; (try simp only [BB] at hc); (try (first | contradiction | (exfalso; omega)))) | exact arI | refine Pst.mk ⟨?_, rfl⟩ kk | constructor | (refine fun _ _ (hq : Hold _) => ?_; replace hq := hq.out; obtain ⟨_, rfl, rfl⟩ := hq) | (refine fun _ _ (hq : Hold _) => ?_; replace hq := hq.out; obtain ⟨_, _, rfl, rfl⟩ := hq) | rintro _ _ ⟨rfl, rfl⟩ | rintro _ _ ⟨_, rfl, rfl⟩ | rintro _ _ ⟨_, _, rfl, rfl⟩ | (refine fun (hc : _ = _) => ?_; (try simp only [BB] at hc)) | refine fun (_ : Nat) => ?_ | refine fun (_ : _ ≤ _) => ?_ | refine fun (_ : _ < _) => ?_
  exact Pst.mk (.mk ⟨_, rfl, rfl⟩) kk
theorem dname_cons {r : Int} {l : List Int} : Md.doctypeName (r :: l) = if Md.blank r = true ∨ r = 62 then [] else r :: Md.doctypeName l := by
  simp only [Md.doctypeName, List.takeWhile_cons]
  by_cases h1 : Md.blank r = true
  · simp [h1]
  · rw [Bool.not_eq_true] at h1
    by_cases h2 : r = 62
    · simp [h2]
    · simp [h1, h2]
set_option maxHeartbeats 4000000 in
theorem doctype_F {cs2 : Nat × Nat → List Ck} (hu : Upd (LX id s g) (fun a => LX id s.doctype a) cs cs2) (hb : s.inp.length ≤ 1000000000 ∧ s.pos ≤ s.inp.length ∧ s.text.length ≤ 80000000000 ∧ s.out.length ≤ 10000000) (hn : ∀ r ∈ s.inp, 0 ≤ r) :
    F D 103 [.ptr id 0] cs (fun v cs' => Hold (∃ a, v = .tup [] ∧ cs2 a = cs')) := by
  refine F.atG hu fun R => F.of rfl rfl rfl ?_
  have hin : s.pos ≤ s.inp.length := hb.2.1
  repeat' first | (show LD _ _ _ _; first | exact LX.ldPos kk | exact LX.ldWay kk | exact LX.ldLast kk | exact LX.ldRoom kk | exact LX.ldDone kk | exact LX.ldText kk) | (apply RR.lxIn; exact rfl; exact rfl; exact rfl; exact kk; refine fun _ => ?_) | (apply RR.lxOut; exact rfl; exact rfl; exact rfl; exact kk; refine fun _ => ?_) | (apply RR.storeS; exact rfl; exact rfl; first | exact LX.stPos 1 rfl kk | exact LX.stPos 2 rfl kk | exact LX.stPos 3 rfl kk | exact LX.stPos 6 rfl kk | exact LX.stPos 7 rfl kk | exact LX.stPos _ rfl kk | exact LX.stPos2 1 _ kk | exact LX.stPos2 2 _ kk | exact LX.stWay kk | exact LX.stLast kk | exact LX.stRoom kk | exact LX.stDone kk; exact rfl) | (show FC _ _ _ _ _; first | exact doctypeEnd_F kk kk kk (by exact hb.2.2) | exact blanks_F kk (by exact ⟨hb.1, Nat.le_trans (by (repeat' first | assumption | (apply in_blanks) | (apply in_skip) | (apply in_quoted) | (apply in_adv1; omega) | (apply in_pubsys (by assumption))); first | done | fail) (Nat.le_trans hb.1 (by decide))⟩) | exact peek0_F kk (by exact ⟨hb.1, Nat.le_trans (by (repeat' first | assumption | (apply in_blanks) | (apply in_skip) | (apply in_quoted) | (apply in_adv1; omega) | (apply in_pubsys (by assumption))); first | done | fail) (Nat.le_trans hb.1 (by decide))⟩) | exact peek0_F kk (by first | omega | ((simp only [Md.Lx.adv, Md.Lx.say, Md.Lx.clr, List.nil_append, List.length_append, List.length_cons, List.length_nil]); omega)) | exact peek1_F kk (by first | omega | ((simp only [Md.Lx.adv, Md.Lx.say, Md.Lx.clr, List.nil_append, List.length_append, List.length_cons, List.length_nil]); omega)) | exact peek6_F kk (by first | omega | ((simp only [Md.Lx.adv, Md.Lx.say, Md.Lx.clr, List.nil_append, List.length_append, List.length_cons, List.length_nil]); omega)) | exact next_F kk (by first | omega | ((simp only [Md.Lx.adv, Md.Lx.say, Md.Lx.clr, List.nil_append, List.length_append, List.length_cons, List.length_nil]); omega)) | exact back_F kk (by first | omega | ((simp only [Md.Lx.adv, Md.Lx.say, Md.Lx.clr, List.nil_append, List.length_append, List.length_cons, List.length_nil]); omega)) | exact blank_F | exact letter_F | exact small_F | exact encode_F rfl (by first | omega | ((simp only [Md.Lx.adv, Md.Lx.say, Md.Lx.clr, List.nil_append, List.length_append, List.length_cons, List.length_nil]); omega)) | exact say_F rfl kk kk (by first | omega | ((simp only [Md.Lx.adv, Md.Lx.say, Md.Lx.clr, List.nil_append, List.length_append, List.length_cons, List.length_nil]); omega)) | exact stands_F kk (by first | omega | ((simp only [Md.Lx.adv, Md.Lx.say, Md.Lx.clr, List.nil_append, List.length_append, List.length_cons, List.length_nil]); omega)) (by decide) (by first | omega | ((simp only [Md.Lx.adv, Md.Lx.say, Md.Lx.clr, List.nil_append, List.length_append, List.length_cons, List.length_nil]); omega)) | exact exact_F kk (by first | omega | ((simp only [Md.Lx.adv, Md.Lx.say, Md.Lx.clr, List.nil_append, List.length_append, List.length_cons, List.length_nil]); omega)) (by decide) (by first | omega | ((simp only [Md.Lx.adv, Md.Lx.say, Md.Lx.clr, List.nil_append, List.length_append, List.length_cons, List.length_nil]); omega))) | (refine fun (hc : _ = _) => ?_; (try simp only [BB] at hc); (try (first | contradiction | (exfalso; omega)))) | exact arith_pos (by exact (Nat.le_trans (by (repeat' first | assumption | (apply in_blanks) | (apply in_skip) | (apply in_quoted) | (apply in_adv1; omega) | (apply in_pubsys (by assumption))); first | done | fail) (Nat.le_trans hb.1 (by decide)))) (by decide) | exact arI | refine Pst.mk ⟨?_, rfl⟩ kk | constructor | (refine fun _ _ (hq : Hold _) => ?_; replace hq := hq.out; obtain ⟨_, rfl, rfl⟩ := hq) | (refine fun _ _ (hq : Hold _) => ?_; replace hq := hq.out; obtain ⟨_, _, rfl, rfl⟩ := hq) | rintro _ _ ⟨rfl, rfl⟩ | rintro _ _ ⟨_, rfl, rfl⟩ | rintro _ _ ⟨_, _, rfl, rfl⟩ | (refine fun (hc : _ = _) => ?_; (try simp only [BB] at hc)) | refine fun (_ : Nat) => ?_ | refine fun (_ : _ ≤ _) => ?_ | refine fun (_ : _ < _) => ?_
  · rw [Md.Lx.doctype, if_pos hc]; exact Pst.mk (.mk ⟨_, rfl, rfl⟩) kk
  · rw [Md.Lx.doctype, if_neg hc, if_pos (by omega)]; exact Pst.mk (.mk ⟨_, rfl, rfl⟩) kk
  rename_i q hq d hd
  have hdm : s.doctype = (s.blanks.adv (Md.doctypeName s.blanks.rest).length).blanks.doctypeRest { Md.dtok with name := Md.encode ((Md.doctypeName s.blanks.rest).map fun r => Md.small (Md.fixr r)) } := by
    rw [Md.Lx.doctype, if_neg hc.1, if_neg hc.2]
  rw [hdm]
  have hin2 := in_blanks hin
  have hub : s.blanks.inp.length ≤ 1000000000 ∧ s.blanks.text.length ≤ 80000000000 ∧ s.blanks.out.length ≤ 10000000 := ⟨hb.1, hb.2.2⟩
  have hun : ∀ r ∈ s.blanks.inp, 0 ≤ r := hn
  clear hdm hc hb hin hn hu
  generalize s.blanks = u at *
  have hb := hub
  refine RS.nilOwn 1 (RS.loopW (α := Nat × Nat × List Int) (fun a => [(1, .ptr q 0), (2, .ptr d 0), (3, .fn (.func 112) [] [.ptr d 0, .ptr q 0]), (5, .lst a.2.1 (zOf a.2.1 1) (a.2.2.map I32)), (6, .int .i32 (u.pk a.1))]) (fun a => .own a.2.1 1 (a.2.2.map I32) :: .obj d (.cells [.int .i64 5, .str [], .lst 0 0 [], .bool false, .str [], .str [], .str [], .bool false, .bool false, .bool false] none) :: .obj q (.cells [.ptr id 0] none) :: LX id (u.adv a.1) g :: R)
    (fun a => a.1 + (Md.doctypeName (u.adv a.1).rest).length = (Md.doctypeName u.rest).length ∧ u.pos + a.1 ≤ u.inp.length ∧ a.2.2.length = a.1 ∧ a.2.2 ++ (Md.doctypeName (u.adv a.1).rest).map (fun r => Md.small (Md.fixr r)) = (Md.doctypeName u.rest).map (fun r => Md.small (Md.fixr r))) (fun a => u.inp.length - (u.pos + a.1)) (0, 0, []) ⟨by simp [adv_zero], by dsimp only; omega, rfl, by simp [adv_zero]⟩ ⟨rfl, rfl, rfl, rfl, rfl, trivial⟩ .refl ?_)
  rintro ⟨i, tb, acc⟩ ⟨k1, k2, k3, k4⟩ ih
  dsimp only [ents] at *
  (have hst := fun h => rest_adv_cons (s := u) (i := i) h; have hnil := fun h => rest_adv_nil (s := u) (i := i) h; have hpn := fun h => pk_out (s := u) (i := i) h; have hpi := fun h => pk_in (s := u) (i := i) hun h)
  have hin3 : (u.adv i).pos ≤ (u.adv i).inp.length := k2
  have e0 : (u.adv i).pk 0 = u.pk i := pk_adv i 0
  repeat' first | (show LD _ _ _ _; first | exact LX.ldPos kk | exact LX.ldWay kk | exact LX.ldLast kk | exact LX.ldRoom kk | exact LX.ldDone kk | exact LX.ldText kk) | (apply RR.lxIn; exact rfl; exact rfl; exact rfl; exact kk; refine fun _ => ?_) | (apply RR.lxOut; exact rfl; exact rfl; exact rfl; exact kk; refine fun _ => ?_) | (apply RR.storeS; exact rfl; exact rfl; first | exact LX.stPos 1 rfl kk | exact LX.stPos 2 rfl kk | exact LX.stPos 3 rfl kk | exact LX.stPos 6 rfl kk | exact LX.stPos 7 rfl kk | exact LX.stPos _ rfl kk | exact LX.stPos2 1 _ kk | exact LX.stPos2 2 _ kk | exact LX.stWay kk | exact LX.stLast kk | exact LX.stRoom kk | exact LX.stDone kk; exact rfl) | (show FC _ _ _ _ _; first | exact doctypeEnd_F kk kk kk (by exact hb.2) | exact blanks_F kk (by exact ⟨hb.1, Nat.le_trans (by (repeat' first | assumption | (apply in_blanks) | (apply in_skip) | (apply in_quoted) | (apply in_adv1; omega) | (apply in_pubsys (by assumption))); first | done | fail) (Nat.le_trans hb.1 (by decide))⟩) | exact skip_F kk (by exact ⟨hb.1, Nat.le_trans (by (repeat' first | assumption | (apply in_blanks) | (apply in_skip) | (apply in_quoted) | (apply in_adv1; omega) | (apply in_pubsys (by assumption))); first | done | fail) (Nat.le_trans hb.1 (by decide))⟩) (by exact hun) | exact peek0_F kk (by exact ⟨hb.1, Nat.le_trans (by (repeat' first | assumption | (apply in_blanks) | (apply in_skip) | (apply in_quoted) | (apply in_adv1; omega) | (apply in_pubsys (by assumption))); first | done | fail) (Nat.le_trans hb.1 (by decide))⟩) | exact blank_F | exact small_F | exact encode_F rfl (by omega)) | (refine fun (hc : _ = _) => ?_; (try simp only [BB] at hc); (try (first | contradiction | (exfalso; omega)))) | (show Arith _; exact arith_pos (by exact (Nat.le_trans (by (repeat' first | assumption | (apply in_blanks) | (apply in_skip) | (apply in_quoted) | (apply in_adv1; omega) | (apply in_pubsys (by assumption))); first | done | fail) (Nat.le_trans hb.1 (by decide)))) (by decide)) | exact arI | refine Pst.mk ⟨?_, rfl⟩ kk | constructor | (refine fun _ _ (hq : Hold _) => ?_; replace hq := hq.out; obtain ⟨_, rfl, rfl⟩ := hq) | (refine fun _ _ (hq : Hold _) => ?_; replace hq := hq.out; obtain ⟨_, _, rfl, rfl⟩ := hq) | rintro _ _ ⟨rfl, rfl⟩ | rintro _ _ ⟨_, rfl, rfl⟩ | rintro _ _ ⟨_, _, rfl, rfl⟩ | (refine fun (hc : _ = _) => ?_; (try simp only [BB] at hc)) | refine fun (_ : Nat) => ?_ | refine fun (_ : _ ≤ _) => ?_ | refine fun (_ : _ < _) => ?_
  rotate_left
  rotate_left
  · exact stands_F (w := [112, 117, 98, 108, 105, 99]) kk (by exact ⟨hb.1, Nat.le_trans (by (repeat' first | assumption | (apply in_blanks) | (apply in_skip) | (apply in_quoted) | (apply in_adv1; omega) | (apply in_pubsys (by assumption))); first | done | fail) (Nat.le_trans hb.1 (by decide))⟩) (by decide) (by decide)
  · rintro _ _ ⟨rfl, rfl⟩
    have hnm : Md.doctypeName (u.adv i).rest = [] := by
      by_cases hlt : u.pos + i < u.inp.length
      · rw [hst hlt, dname_cons, if_pos]
        have := hpi hlt
        by_cases h1 : Md.blank (u.pk i) = true
        · exact .inl h1
        · rw [Bool.not_eq_true] at h1
          by_cases h2 : u.pk i = 62
          · exact .inr h2
          · have := hc ⟨h1, h2⟩; omega
      · rw [hnil (by omega)]; rfl
    rw [hnm] at k1 k4
    simp only [List.map_nil, List.append_nil, List.length_nil, Nat.add_zero] at k1 k4
    rw [← k1, ← k4]
    have hin4 := in_blanks hin3
    have hvb : (u.adv i).blanks.inp.length ≤ 1000000000 ∧ (u.adv i).blanks.text.length ≤ 80000000000 ∧ (u.adv i).blanks.out.length ≤ 10000000 := hb
    have hvn : ∀ r ∈ (u.adv i).blanks.inp, 0 ≤ r := hun
    clear ih hst hnil hpn hpi hnm hin3 hun hb hub hin2 k1 k2 k3 k4 hc e0
    generalize (u.adv i).blanks = v at *
    have hb := hvb
    have hun := hvn
    repeat' first | (show LD _ _ _ _; first | exact LX.ldPos kk | exact LX.ldWay kk | exact LX.ldLast kk | exact LX.ldRoom kk | exact LX.ldDone kk | exact LX.ldText kk) | (apply RR.lxIn; exact rfl; exact rfl; exact rfl; exact kk; refine fun _ => ?_) | (apply RR.lxOut; exact rfl; exact rfl; exact rfl; exact kk; refine fun _ => ?_) | (apply RR.storeS; exact rfl; exact rfl; first | exact LX.stPos 1 rfl kk | exact LX.stPos 2 rfl kk | exact LX.stPos 3 rfl kk | exact LX.stPos 6 rfl kk | exact LX.stPos 7 rfl kk | exact LX.stPos _ rfl kk | exact LX.stPos2 1 _ kk | exact LX.stPos2 2 _ kk | exact LX.stWay kk | exact LX.stLast kk | exact LX.stRoom kk | exact LX.stDone kk; exact rfl) | (show FC _ _ _ _ _; first | exact doctypeEnd_F kk kk kk (by exact hb.2) | exact blanks_F kk (by exact ⟨hb.1, Nat.le_trans (by (repeat' first | assumption | (apply in_blanks) | (apply in_skip) | (apply in_quoted) | (apply in_adv1; omega) | (apply in_pubsys (by assumption))); first | done | fail) (Nat.le_trans hb.1 (by decide))⟩) | exact skip_F kk (by exact ⟨hb.1, Nat.le_trans (by (repeat' first | assumption | (apply in_blanks) | (apply in_skip) | (apply in_quoted) | (apply in_adv1; omega) | (apply in_pubsys (by assumption))); first | done | fail) (Nat.le_trans hb.1 (by decide))⟩) (by exact hun) | exact peek0_F kk (by exact ⟨hb.1, Nat.le_trans (by (repeat' first | assumption | (apply in_blanks) | (apply in_skip) | (apply in_quoted) | (apply in_adv1; omega) | (apply in_pubsys (by assumption))); first | done | fail) (Nat.le_trans hb.1 (by decide))⟩) | exact stands_F (w := [115, 121, 115, 116, 101, 109]) kk (by exact ⟨hb.1, Nat.le_trans (by (repeat' first | assumption | (apply in_blanks) | (apply in_skip) | (apply in_quoted) | (apply in_adv1; omega) | (apply in_pubsys (by assumption))); first | done | fail) (Nat.le_trans hb.1 (by decide))⟩) (by decide) (by decide) | exact blank_F | exact small_F | exact encode_F rfl (by omega)) | (refine fun (hc : _ = _) => ?_; (try simp only [BB] at hc); (try (first | contradiction | (exfalso; omega)))) | (show Arith _; exact arith_pos (by exact (Nat.le_trans (by (repeat' first | assumption | (apply in_blanks) | (apply in_skip) | (apply in_quoted) | (apply in_adv1; omega) | (apply in_pubsys (by assumption))); first | done | fail) (Nat.le_trans hb.1 (by decide)))) (by decide)) | exact arI | refine Pst.mk ⟨?_, rfl⟩ kk | constructor | (refine fun _ _ (hq : Hold _) => ?_; replace hq := hq.out; obtain ⟨_, rfl, rfl⟩ := hq) | (refine fun _ _ (hq : Hold _) => ?_; replace hq := hq.out; obtain ⟨_, _, rfl, rfl⟩ := hq) | rintro _ _ ⟨rfl, rfl⟩ | rintro _ _ ⟨_, rfl, rfl⟩ | rintro _ _ ⟨_, _, rfl, rfl⟩ | (refine fun (hc : _ = _) => ?_; (try simp only [BB] at hc)) | refine fun (_ : Nat) => ?_ | refine fun (_ : _ ≤ _) => ?_ | refine fun (_ : _ < _) => ?_
    · rw [Md.Lx.doctypeRest, if_pos hc]; exact Pst.mk (.mk ⟨_, rfl, rfl⟩) kk
    · rw [Md.Lx.doctypeRest, if_neg (by assumption), if_pos hc]; exact Pst.mk (.mk ⟨_, rfl, rfl⟩) kk
    · rename_i hcB hcA _
      rw [Md.Lx.doctypeRest, if_neg hcB, if_neg hcA, if_neg (by rw [hc.1]; simp), if_neg (by rw [hc.2]; simp)]; exact Pst.mk (.mk ⟨_, rfl, rfl⟩) kk
    · exact quoted_F kk (by exact ⟨hb.1, Nat.le_trans (by (repeat' first | assumption | (apply in_blanks) | (apply in_skip) | (apply in_quoted) | (apply in_adv1; omega) | (apply in_pubsys (by assumption))); first | done | fail) (Nat.le_trans hb.1 (by decide))⟩) (by exact hun)
    · rintro _ _ ⟨rfl, rfl⟩
      rename_i hcC hcB hcA
      rw [Md.Lx.doctypeRest, if_neg hcC, if_neg hcB, if_pos hc, Md.Lx.doctypePub]
      dsimp only
      have hinx := in_blanks (in_pubsys hcA hin4)
      have hiny := in_quoted hinx
      have hb0 : ((v.adv 6).blanks.adv (Md.quoted (v.adv 6).blanks.rest).2.2.2).inp.length ≤ 1000000000 ∧ ((v.adv 6).blanks.adv (Md.quoted (v.adv 6).blanks.rest).2.2.2).text.length ≤ 80000000000 ∧ ((v.adv 6).blanks.adv (Md.quoted (v.adv 6).blanks.rest).2.2.2).out.length ≤ 10000000 := hb
      have hn0 : ∀ r ∈ ((v.adv 6).blanks.adv (Md.quoted (v.adv 6).blanks.rest).2.2.2).inp, 0 ≤ r := hun
      clear hb hun hvb hvn hinx hc hcC hcB hcA hin4
      generalize (v.adv 6).blanks.adv (Md.quoted (v.adv 6).blanks.rest).2.2.2 = z at *
      generalize Md.quoted (v.adv 6).blanks.rest = P at *
      obtain ⟨ps, ph, pok, pn⟩ := P
      dsimp only at *
      have hb := hb0
      have hun := hn0
      have hinz := hiny
      repeat' first | (show LD _ _ _ _; first | exact LX.ldPos kk | exact LX.ldWay kk | exact LX.ldLast kk | exact LX.ldRoom kk | exact LX.ldDone kk | exact LX.ldText kk) | (apply RR.lxIn; exact rfl; exact rfl; exact rfl; exact kk; refine fun _ => ?_) | (apply RR.lxOut; exact rfl; exact rfl; exact rfl; exact kk; refine fun _ => ?_) | (apply RR.storeS; exact rfl; exact rfl; first | exact LX.stPos 1 rfl kk | exact LX.stPos 2 rfl kk | exact LX.stPos 3 rfl kk | exact LX.stPos 6 rfl kk | exact LX.stPos 7 rfl kk | exact LX.stPos _ rfl kk | exact LX.stPos2 1 _ kk | exact LX.stPos2 2 _ kk | exact LX.stWay kk | exact LX.stLast kk | exact LX.stRoom kk | exact LX.stDone kk; exact rfl) | (show FC _ _ _ _ _; first | exact doctypeEnd_F kk kk kk (by exact hb.2) | exact blanks_F kk (by exact ⟨hb.1, Nat.le_trans (by (repeat' first | assumption | (apply in_blanks) | (apply in_skip) | (apply in_quoted) | (apply in_adv1; omega) | (apply in_pubsys (by assumption))); first | done | fail) (Nat.le_trans hb.1 (by decide))⟩) | exact skip_F kk (by exact ⟨hb.1, Nat.le_trans (by (repeat' first | assumption | (apply in_blanks) | (apply in_skip) | (apply in_quoted) | (apply in_adv1; omega) | (apply in_pubsys (by assumption))); first | done | fail) (Nat.le_trans hb.1 (by decide))⟩) (by exact hun) | exact peek0_F kk (by exact ⟨hb.1, Nat.le_trans (by (repeat' first | assumption | (apply in_blanks) | (apply in_skip) | (apply in_quoted) | (apply in_adv1; omega) | (apply in_pubsys (by assumption))); first | done | fail) (Nat.le_trans hb.1 (by decide))⟩) | exact blank_F | exact small_F | exact encode_F rfl (by omega)) | (refine fun (hc : _ = _) => ?_; (try simp only [BB] at hc); (try (first | contradiction | (exfalso; omega)))) | (show Arith _; exact arith_pos (by exact (Nat.le_trans (by (repeat' first | assumption | (apply in_blanks) | (apply in_skip) | (apply in_quoted) | (apply in_adv1; omega) | (apply in_pubsys (by assumption))); first | done | fail) (Nat.le_trans hb.1 (by decide)))) (by decide)) | exact arI | refine Pst.mk ⟨?_, rfl⟩ kk | constructor | (refine fun _ _ (hq : Hold _) => ?_; replace hq := hq.out; obtain ⟨_, rfl, rfl⟩ := hq) | (refine fun _ _ (hq : Hold _) => ?_; replace hq := hq.out; obtain ⟨_, _, rfl, rfl⟩ := hq) | rintro _ _ ⟨rfl, rfl⟩ | rintro _ _ ⟨_, rfl, rfl⟩ | rintro _ _ ⟨_, _, rfl, rfl⟩ | (refine fun (hc : _ = _) => ?_; (try simp only [BB] at hc)) | refine fun (_ : Nat) => ?_ | refine fun (_ : _ ≤ _) => ?_ | refine fun (_ : _ < _) => ?_
      · rw [if_pos hc]; exact Pst.mk (.mk ⟨_, rfl, rfl⟩) kk
      · rw [if_neg (by simp_all), if_pos hc]; exact Pst.mk (.mk ⟨_, rfl, rfl⟩) kk
      · exact quoted_F kk (by exact ⟨hb.1, Nat.le_trans (by (repeat' first | assumption | (apply in_blanks) | (apply in_skip) | (apply in_quoted) | (apply in_adv1; omega) | (apply in_pubsys (by assumption))); first | done | fail) (Nat.le_trans hb.1 (by decide))⟩) (by exact hun)
      · rintro _ _ ⟨rfl, rfl⟩
        have hinx := in_blanks hinz
        have hb0 : (z.blanks).inp.length ≤ 1000000000 ∧ (z.blanks).text.length ≤ 80000000000 ∧ (z.blanks).out.length ≤ 10000000 := hb
        have hn0 : ∀ r ∈ (z.blanks).inp, 0 ≤ r := hun
        rw [if_neg (by simp_all), if_neg hc]
        clear hb hun
        generalize z.blanks = x at *
        have hiny := in_quoted hinx
        have hb : (x.adv (Md.quoted x.rest).2.2.2).inp.length ≤ 1000000000 ∧ (x.adv (Md.quoted x.rest).2.2.2).text.length ≤ 80000000000 ∧ (x.adv (Md.quoted x.rest).2.2.2).out.length ≤ 10000000 := hb0
        have hun : ∀ r ∈ (x.adv (Md.quoted x.rest).2.2.2).inp, 0 ≤ r := hn0
        rw [Md.Lx.doctypeSys]
        dsimp only
        clear hinx hb0 hn0
        generalize x.adv (Md.quoted x.rest).2.2.2 = y at *
        generalize Md.quoted x.rest = Q at *
        obtain ⟨ys, yh, yok, yn⟩ := Q
        dsimp only at *
        repeat' first | (show LD _ _ _ _; first | exact LX.ldPos kk | exact LX.ldWay kk | exact LX.ldLast kk | exact LX.ldRoom kk | exact LX.ldDone kk | exact LX.ldText kk) | (apply RR.lxIn; exact rfl; exact rfl; exact rfl; exact kk; refine fun _ => ?_) | (apply RR.lxOut; exact rfl; exact rfl; exact rfl; exact kk; refine fun _ => ?_) | (apply RR.storeS; exact rfl; exact rfl; first | exact LX.stPos 1 rfl kk | exact LX.stPos 2 rfl kk | exact LX.stPos 3 rfl kk | exact LX.stPos 6 rfl kk | exact LX.stPos 7 rfl kk | exact LX.stPos _ rfl kk | exact LX.stPos2 1 _ kk | exact LX.stPos2 2 _ kk | exact LX.stWay kk | exact LX.stLast kk | exact LX.stRoom kk | exact LX.stDone kk; exact rfl) | (show FC _ _ _ _ _; first | exact doctypeEnd_F kk kk kk (by exact hb.2) | exact blanks_F kk (by exact ⟨hb.1, Nat.le_trans (by (repeat' first | assumption | (apply in_blanks) | (apply in_skip) | (apply in_quoted) | (apply in_adv1; omega) | (apply in_pubsys (by assumption))); first | done | fail) (Nat.le_trans hb.1 (by decide))⟩) | exact skip_F kk (by exact ⟨hb.1, Nat.le_trans (by (repeat' first | assumption | (apply in_blanks) | (apply in_skip) | (apply in_quoted) | (apply in_adv1; omega) | (apply in_pubsys (by assumption))); first | done | fail) (Nat.le_trans hb.1 (by decide))⟩) (by exact hun) | exact peek0_F kk (by exact ⟨hb.1, Nat.le_trans (by (repeat' first | assumption | (apply in_blanks) | (apply in_skip) | (apply in_quoted) | (apply in_adv1; omega) | (apply in_pubsys (by assumption))); first | done | fail) (Nat.le_trans hb.1 (by decide))⟩) | exact blank_F | exact small_F | exact encode_F rfl (by omega)) | (refine fun (hc : _ = _) => ?_; (try simp only [BB] at hc); (try (first | contradiction | (exfalso; omega)))) | (show Arith _; exact arith_pos (by exact (Nat.le_trans (by (repeat' first | assumption | (apply in_blanks) | (apply in_skip) | (apply in_quoted) | (apply in_adv1; omega) | (apply in_pubsys (by assumption))); first | done | fail) (Nat.le_trans hb.1 (by decide)))) (by decide)) | exact arI | refine Pst.mk ⟨?_, rfl⟩ kk | constructor | (refine fun _ _ (hq : Hold _) => ?_; replace hq := hq.out; obtain ⟨_, rfl, rfl⟩ := hq) | (refine fun _ _ (hq : Hold _) => ?_; replace hq := hq.out; obtain ⟨_, _, rfl, rfl⟩ := hq) | rintro _ _ ⟨rfl, rfl⟩ | rintro _ _ ⟨_, rfl, rfl⟩ | rintro _ _ ⟨_, _, rfl, rfl⟩ | (refine fun (hc : _ = _) => ?_; (try simp only [BB] at hc)) | refine fun (_ : Nat) => ?_ | refine fun (_ : _ ≤ _) => ?_ | refine fun (_ : _ < _) => ?_
        · rw [if_pos hc]; exact Pst.mk (.mk ⟨_, rfl, rfl⟩) kk
        · rename_i hok
          rw [if_neg (by simp_all), if_pos hc]; exact Pst.mk (.mk ⟨_, rfl, rfl⟩) kk
        · rename_i hok
          rw [if_neg (by simp_all), if_neg hc]; exact Pst.mk (.mk ⟨_, rfl, rfl⟩) kk
    · rename_i hcC hcB hcA
      exact quoted_F kk (by exact ⟨hb.1, Nat.le_trans (by (repeat' first | assumption | (apply in_blanks) | (apply in_skip) | (apply in_quoted) | (apply in_adv1; omega) | (apply in_pubsys (by assumption))); first | done | fail) (Nat.le_trans hb.1 (by decide))⟩) (by exact hun)
    · rintro _ _ ⟨rfl, rfl⟩
      rename_i hcC hcB hcA
      have hinx := in_blanks (in_pubsys hcA hin4)
      have hb0 : ((v.adv 6).blanks).inp.length ≤ 1000000000 ∧ ((v.adv 6).blanks).text.length ≤ 80000000000 ∧ ((v.adv 6).blanks).out.length ≤ 10000000 := hb
      have hn0 : ∀ r ∈ ((v.adv 6).blanks).inp, 0 ≤ r := hun
      rw [Md.Lx.doctypeRest, if_neg hcC, if_neg hcB, if_neg (by rw [hc]; simp), if_pos (hcA hc)]
      clear hb hun
      generalize (v.adv 6).blanks = x at *
      have hiny := in_quoted hinx
      have hb : (x.adv (Md.quoted x.rest).2.2.2).inp.length ≤ 1000000000 ∧ (x.adv (Md.quoted x.rest).2.2.2).text.length ≤ 80000000000 ∧ (x.adv (Md.quoted x.rest).2.2.2).out.length ≤ 10000000 := hb0
      have hun : ∀ r ∈ (x.adv (Md.quoted x.rest).2.2.2).inp, 0 ≤ r := hn0
      rw [Md.Lx.doctypeSys]
      dsimp only
      clear hinx hb0 hn0
      generalize x.adv (Md.quoted x.rest).2.2.2 = y at *
      generalize Md.quoted x.rest = Q at *
      obtain ⟨ys, yh, yok, yn⟩ := Q
      dsimp only at *
      repeat' first | (show LD _ _ _ _; first | exact LX.ldPos kk | exact LX.ldWay kk | exact LX.ldLast kk | exact LX.ldRoom kk | exact LX.ldDone kk | exact LX.ldText kk) | (apply RR.lxIn; exact rfl; exact rfl; exact rfl; exact kk; refine fun _ => ?_) | (apply RR.lxOut; exact rfl; exact rfl; exact rfl; exact kk; refine fun _ => ?_) | (apply RR.storeS; exact rfl; exact rfl; first | exact LX.stPos 1 rfl kk | exact LX.stPos 2 rfl kk | exact LX.stPos 3 rfl kk | exact LX.stPos 6 rfl kk | exact LX.stPos 7 rfl kk | exact LX.stPos _ rfl kk | exact LX.stPos2 1 _ kk | exact LX.stPos2 2 _ kk | exact LX.stWay kk | exact LX.stLast kk | exact LX.stRoom kk | exact LX.stDone kk; exact rfl) | (show FC _ _ _ _ _; first | exact doctypeEnd_F kk kk kk (by exact hb.2) | exact blanks_F kk (by exact ⟨hb.1, Nat.le_trans (by (repeat' first | assumption | (apply in_blanks) | (apply in_skip) | (apply in_quoted) | (apply in_adv1; omega) | (apply in_pubsys (by assumption))); first | done | fail) (Nat.le_trans hb.1 (by decide))⟩) | exact skip_F kk (by exact ⟨hb.1, Nat.le_trans (by (repeat' first | assumption | (apply in_blanks) | (apply in_skip) | (apply in_quoted) | (apply in_adv1; omega) | (apply in_pubsys (by assumption))); first | done | fail) (Nat.le_trans hb.1 (by decide))⟩) (by exact hun) | exact peek0_F kk (by exact ⟨hb.1, Nat.le_trans (by (repeat' first | assumption | (apply in_blanks) | (apply in_skip) | (apply in_quoted) | (apply in_adv1; omega) | (apply in_pubsys (by assumption))); first | done | fail) (Nat.le_trans hb.1 (by decide))⟩) | exact blank_F | exact small_F | exact encode_F rfl (by omega)) | (refine fun (hc : _ = _) => ?_; (try simp only [BB] at hc); (try (first | contradiction | (exfalso; omega)))) | (show Arith _; exact arith_pos (by exact (Nat.le_trans (by (repeat' first | assumption | (apply in_blanks) | (apply in_skip) | (apply in_quoted) | (apply in_adv1; omega) | (apply in_pubsys (by assumption))); first | done | fail) (Nat.le_trans hb.1 (by decide)))) (by decide)) | exact arI | refine Pst.mk ⟨?_, rfl⟩ kk | constructor | (refine fun _ _ (hq : Hold _) => ?_; replace hq := hq.out; obtain ⟨_, rfl, rfl⟩ := hq) | (refine fun _ _ (hq : Hold _) => ?_; replace hq := hq.out; obtain ⟨_, _, rfl, rfl⟩ := hq) | rintro _ _ ⟨rfl, rfl⟩ | rintro _ _ ⟨_, rfl, rfl⟩ | rintro _ _ ⟨_, _, rfl, rfl⟩ | (refine fun (hc : _ = _) => ?_; (try simp only [BB] at hc)) | refine fun (_ : Nat) => ?_ | refine fun (_ : _ ≤ _) => ?_ | refine fun (_ : _ < _) => ?_
      · rw [if_pos hc]; exact Pst.mk (.mk ⟨_, rfl, rfl⟩) kk
      · rename_i hok
        rw [if_neg (by simp_all), if_pos hc]; exact Pst.mk (.mk ⟨_, rfl, rfl⟩) kk
      · rename_i hok
        rw [if_neg (by simp_all), if_neg hc]; exact Pst.mk (.mk ⟨_, rfl, rfl⟩) kk
  all_goals
    have hlt : u.pos + i < u.inp.length := by
      by_cases h : u.pos + i < u.inp.length
      · exact h
      · have := hpn (by omega); omega
    have hA : Md.blank (u.pk i) = false ∧ ¬u.pk i = 62 := by first | exact hc.1 | (rename_i hA; exact hA.1) | (rename_i hA _ _ _; exact hA.1)
    rw [hst hlt, dname_cons, if_neg (fun h => h.elim (fun h => by rw [hA.1] at h; cases h) hA.2)] at k1 k4
    simp only [List.map_cons, List.length_cons] at k1 k4
    rw [pk_adv] at *
    first
      | (rw [show Md.fixr (u.pk i) = 65533 from if_pos hc] at k4
         exact ih _ _ (i + 1, _, acc ++ [Md.small 65533]) ⟨by dsimp only; omega, by dsimp only; omega, by simp [k3], by rw [← k4]; simp⟩ (by dsimp only; omega) ⟨rfl, rfl, rfl, rfl, rfl, trivial⟩ kk)
      | (rw [show Md.fixr (u.pk i) = u.pk i from if_neg hc] at k4
         exact ih _ _ (i + 1, _, acc ++ [Md.small (u.pk i)]) ⟨by dsimp only; omega, by dsimp only; omega, by simp [k3], by rw [← k4]; simp⟩ (by dsimp only; omega) ⟨rfl, rfl, rfl, rfl, rfl, trivial⟩ kk)
end Go.Proofs.YticnenofiibpgaaDoor.Code
/- What the lexer's declare, ending, open, close do. -/
namespace Go.Proofs.YticnenofiibpgaaDoor.Code
open Go.Dm Go.Dm.C
set_option linter.unusedSimpArgs false
set_option linter.unusedVariables false
set_option linter.unnecessarySimpa false
set_option maxRecDepth 10000
attribute [local irreducible] Go.Dm.F Go.Dm.RS Go.Dm.Y Go.Dm.FD Go.Dm.FZ1 Go.Dm.Hold
variable {id : Nat} {s : Md.Lx} {g : Nat × Nat} {cs : List Ck}
theorem exact_le : ∀ (w : List UInt8) (l : List Int), Md.exact w l = true → w.length ≤ l.length
  | [], l, _ => by simp
  | c :: w, [], h => by
    simp only [Md.exact, List.headD_nil, Bool.and_eq_true, beq_iff_eq] at h
    omega
  | c :: w, r :: l, h => by
    simp only [Md.exact, List.tail_cons, Bool.and_eq_true] at h
    have := exact_le w l h.2
    simp only [List.length_cons]; omega
theorem in_exact (n : Nat) (w : List UInt8) (h : Md.exact w s.rest = true) (hw : w.length = n) (hp : s.pos ≤ s.inp.length) : (s.adv n).pos ≤ (s.adv n).inp.length := in_adv hp (by rw [← hw]; exact exact_le _ _ h)
/-- What bounds a state. -/
structure MB (s : Md.Lx) : Prop where
  len : s.inp.length ≤ 1000000000
  pos : s.pos ≤ s.inp.length
  text : s.text.length ≤ 70000000000
  out : s.out.length ≤ 1000000
  last : s.last.length ≤ 10000000000
  nn : ∀ r ∈ s.inp, 0 ≤ r
theorem MB.adv {n : Nat} (h : MB s) (hp : (s.adv n).pos ≤ (s.adv n).inp.length) : MB (s.adv n) := ⟨h.len, hp, h.text, h.out, h.last, h.nn⟩
theorem MB.b1 (h : MB s) : s.inp.length ≤ 1000000000 ∧ s.pos ≤ 20000000000 := ⟨h.len, Nat.le_trans h.pos (Nat.le_trans h.len (by decide))⟩
theorem MB.b2 (h : MB s) : s.inp.length ≤ 1000000000 ∧ s.pos ≤ 100000000000 := ⟨h.len, Nat.le_trans h.pos (Nat.le_trans h.len (by decide))⟩
theorem MB.b3 (h : MB s) : s.inp.length ≤ 1000000000 ∧ s.pos ≤ s.inp.length ∧ s.text.length ≤ 80000000000 ∧ s.out.length ≤ 10000000 := ⟨h.len, h.pos, Nat.le_trans h.text (by decide), Nat.le_trans h.out (by decide)⟩
theorem MB.b4 (h : MB s) : s.inp.length ≤ 1000000000 ∧ s.pos ≤ 20000000000 ∧ s.text.length ≤ 80000000000 ∧ s.out.length ≤ 10000000 := ⟨h.len, h.b1.2, Nat.le_trans h.text (by decide), Nat.le_trans h.out (by decide)⟩
theorem MB.b5 (h : MB s) : s.inp.length ≤ 1000000000 ∧ s.pos ≤ 20000000000 ∧ s.text.length ≤ 80000000000 := ⟨h.len, h.b1.2, Nat.le_trans h.text (by decide)⟩
theorem MB.b6 (h : MB s) : s.inp.length ≤ 1000000000 ∧ s.pos ≤ 20000000000 ∧ s.last.length ≤ 10000000000 := ⟨h.len, h.b1.2, h.last⟩
theorem MB.b7 (h : MB s) : s.text.length ≤ 90000000000 ∧ s.out.length ≤ 1000000000 := ⟨Nat.le_trans h.text (by decide), Nat.le_trans h.out (by decide)⟩
theorem MB.b8 (h : MB s) {rs : List Int} (hr : rs.length ≤ 10000000000) : s.text.length ≤ 100000000000 ∧ rs.length ≤ 10000000000 := ⟨Nat.le_trans h.text (by decide), hr⟩
theorem MB.flush (h : MB s) (ho : s.out.length ≤ 999999) : MB s.flush := ⟨by rw [flush_inp]; exact h.len, by rw [flush_inp, flush_pos]; exact h.pos, by rw [flush_text]; simp, by have := flush_out (s := s); omega, by rw [flush_last]; exact h.last, by rw [flush_inp]; exact h.nn⟩
theorem arith_pos2 {x : Md.Lx} {k : Int} {p : Bool} (h : MB x) (hk : 0 ≤ k ∧ k ≤ 1000) : Arith (p = true → -9223372036854775808 ≤ (x.pos : Int) + k ∧ (x.pos : Int) + k ≤ 9223372036854775807) := arith_pos h.b1.2 hk
set_option maxHeartbeats 1000000 in
theorem declare_F {cs2 : Nat × Nat → List Ck} (hu : Upd (LX id s g) (fun a => LX id s.declare a) cs cs2) (hb : MB s) : F D 88 [.ptr id 0] cs (fun v cs' => Hold (∃ a, v = .tup [] ∧ cs2 a = cs')) := by
  refine F.atG hu fun R => F.of rfl rfl rfl ?_
  have m2 := fun h => hb.adv (in_stands 2 [45, 45] h rfl hb.pos)
  have m7 := fun h => hb.adv (in_stands 7 [100, 111, 99, 116, 121, 112, 101] h rfl hb.pos)
  have m7' := fun h => hb.adv (in_exact 7 [91, 67, 68, 65, 84, 65, 91] h rfl hb.pos)
  repeat' first | (show LD _ _ _ _; first | exact LX.ldPos kk | exact LX.ldWay kk | exact LX.ldLast kk | exact LX.ldRoom kk | exact LX.ldDone kk | exact LX.ldText kk) | (apply RR.lxIn; exact rfl; exact rfl; exact rfl; exact kk; refine fun _ => ?_) | (apply RR.lxOut; exact rfl; exact rfl; exact rfl; exact kk; refine fun _ => ?_) | (apply RR.storeS; exact rfl; exact rfl; first | exact LX.stPos 1 rfl kk | exact LX.stPos 2 rfl kk | exact LX.stPos 3 rfl kk | exact LX.stPos 6 rfl kk | exact LX.stPos 7 rfl kk | exact LX.stPos _ rfl kk | exact LX.stPos2 1 _ kk | exact LX.stPos2 2 _ kk | exact LX.stWay kk | exact LX.stLast kk | exact LX.stRoom kk | exact LX.stDone kk; exact rfl) | (show FC _ _ _ _ _; first | exact stands_F (w := [45, 45]) kk (by exact hb.b2) (by decide) (by decide) | exact stands_F (w := [100, 111, 99, 116, 121, 112, 101]) kk (by exact hb.b2) (by decide) (by decide) | exact exact_F (w := [91, 67, 68, 65, 84, 65, 91]) kk (by exact hb.b2) (by decide) (by decide) | exact peek0_F kk (by exact hb.b2) | exact comment_F kk (by exact (m2 (by assumption)).b4) (by exact hb.nn) | exact doctype_F kk (by exact (m7 (by assumption)).b3) (by exact hb.nn) | exact section_F kk (by exact (m7' hc.2).b5) (by exact hb.nn) | exact bogus_F kk (by exact hb.b4) (by exact hb.nn)) | (refine fun (hc : _ = _) => ?_; (try simp only [BB] at hc); (try (first | contradiction | (exfalso; omega)))) | (show Arith _; exact arith_pos2 hb (by decide)) | (show Arith _; refine Arith.mk ?_; intro h9; simp_all [Go.Dm.eqB]; done) | exact arI | refine Pst.mk ⟨?_, rfl⟩ kk | constructor | (refine fun _ _ (hq : Hold _) => ?_; replace hq := hq.out; obtain ⟨_, rfl, rfl⟩ := hq) | (refine fun _ _ (hq : Hold _) => ?_; replace hq := hq.out; obtain ⟨_, _, rfl, rfl⟩ := hq) | rintro _ _ ⟨rfl, rfl⟩ | rintro _ _ ⟨_, rfl, rfl⟩ | rintro _ _ ⟨_, _, rfl, rfl⟩ | (refine fun (hc : _ = _) => ?_; (try simp only [BB] at hc)) | refine fun (_ : Nat) => ?_ | refine fun (_ : _ ≤ _) => ?_ | refine fun (_ : _ < _) => ?_
  · rw [Md.Lx.declare, if_pos hc]; exact Pst.mk (.mk ⟨_, rfl, rfl⟩) kk
  · rw [Md.Lx.declare, if_neg (by simp_all), if_pos hc]; exact Pst.mk (.mk ⟨_, rfl, rfl⟩) kk
  · rw [Md.Lx.declare, if_neg (by simp_all), if_neg (by simp_all), if_pos ⟨hc.1.1, hc.1.2, hc.2⟩]; exact Pst.mk (.mk ⟨_, rfl, rfl⟩) kk
  · rename_i h1 h2 _ _ _
    rw [Md.Lx.declare, if_neg (by simp_all), if_neg (by simp_all), if_neg (fun h => by have := hc ⟨h.1, h.2.1⟩; rw [h.2.2] at this; cases this)]; exact Pst.mk (.mk ⟨_, rfl, rfl⟩) kk
  all_goals
    rw [Md.Lx.declare, if_neg (by simp_all), if_neg (by simp_all), if_neg (fun h => by simp_all)]; exact Pst.mk (.mk ⟨_, rfl, rfl⟩) kk
theorem ending_F {cs2 : Nat × Nat → List Ck} (hu : Upd (LX id s g) (fun a => LX id s.ending a) cs cs2) (hb : MB s) : F D 89 [.ptr id 0] cs (fun v cs' => Hold (∃ a, v = .tup [] ∧ cs2 a = cs')) := by
  refine F.atG hu fun R => F.of rfl rfl rfl ?_
  repeat' first | (show FC _ _ _ _ _; first | exact next_F kk (by exact hb.b2) | exact back_F kk (by exact hb.b2.2) | exact letter_F | exact tag_F kk (by exact hb.b3) (by exact hb.nn) | exact bogus_F kk (by exact hb.b4) (by exact hb.nn) | exact say_F rfl kk kk (by exact hb.b8 (by decide))) | (refine fun (hc : _ = _) => ?_; (try simp only [BB] at hc); (try (first | contradiction | (exfalso; omega)))) | exact arI | refine Pst.mk ⟨?_, rfl⟩ kk | constructor | (refine fun _ _ (hq : Hold _) => ?_; replace hq := hq.out; obtain ⟨_, rfl, rfl⟩ := hq) | (refine fun _ _ (hq : Hold _) => ?_; replace hq := hq.out; obtain ⟨_, _, rfl, rfl⟩ := hq) | rintro _ _ ⟨rfl, rfl⟩ | rintro _ _ ⟨_, rfl, rfl⟩ | rintro _ _ ⟨_, _, rfl, rfl⟩ | (refine fun (hc : _ = _) => ?_; (try simp only [BB] at hc)) | refine fun (_ : Nat) => ?_ | refine fun (_ : _ ≤ _) => ?_ | refine fun (_ : _ < _) => ?_
  · rw [Md.Lx.ending, if_pos hc]; exact Pst.mk (.mk ⟨_, rfl, rfl⟩) kk
  · rw [Md.Lx.ending, if_neg (by simp_all), if_pos hc]; exact Pst.mk (.mk ⟨g, rfl, rfl⟩) kk
  · rw [Md.Lx.ending, if_neg (by simp_all), if_neg (by assumption), if_pos hc]; exact Pst.mk (.mk ⟨(g.1, _), rfl, rfl⟩) kk
  · rw [Md.Lx.ending, if_neg (by simp_all), if_neg (by assumption), if_neg hc]; exact Pst.mk (.mk ⟨_, rfl, rfl⟩) kk
theorem open_F {cs2 : Nat × Nat → List Ck} (hu : Upd (LX id s g) (fun a => LX id s.open_ a) cs cs2) (hb : MB s) : F D 71 [.ptr id 0] cs (fun v cs' => Hold (∃ a, v = .tup [] ∧ cs2 a = cs')) := by
  refine F.atG hu fun R => F.of rfl rfl rfl ?_
  have m1 := fun h => hb.adv (n := 1) (in_adv1 h)
  repeat' first | (show FC _ _ _ _ _; first | exact next_F kk (by exact hb.b2) | exact back_F kk (by exact hb.b2.2) | exact letter_F | exact declare_F kk (by exact m1 (by omega)) | exact ending_F kk (by exact m1 (by omega)) | exact tag_F kk (by exact hb.b3) (by exact hb.nn) | exact bogus_F kk (by exact hb.b4) (by exact hb.nn) | exact say_F rfl kk kk (by exact hb.b8 (by decide))) | (refine fun (hc : _ = _) => ?_; (try simp only [BB] at hc); (try (first | contradiction | (exfalso; omega)))) | exact arI | refine Pst.mk ⟨?_, rfl⟩ kk | constructor | (refine fun _ _ (hq : Hold _) => ?_; replace hq := hq.out; obtain ⟨_, rfl, rfl⟩ := hq) | (refine fun _ _ (hq : Hold _) => ?_; replace hq := hq.out; obtain ⟨_, _, rfl, rfl⟩ := hq) | rintro _ _ ⟨rfl, rfl⟩ | rintro _ _ ⟨_, rfl, rfl⟩ | rintro _ _ ⟨_, _, rfl, rfl⟩ | (refine fun (hc : _ = _) => ?_; (try simp only [BB] at hc)) | refine fun (_ : Nat) => ?_ | refine fun (_ : _ ≤ _) => ?_ | refine fun (_ : _ < _) => ?_
  · rw [Md.Lx.open_, if_pos hc]; exact Pst.mk (.mk ⟨_, rfl, rfl⟩) kk
  · rw [Md.Lx.open_, if_neg (by assumption), if_pos hc]; exact Pst.mk (.mk ⟨_, rfl, rfl⟩) kk
  · rw [Md.Lx.open_, if_neg (by assumption), if_neg (by assumption), if_pos hc]; exact Pst.mk (.mk ⟨_, rfl, rfl⟩) kk
  · rw [Md.Lx.open_, if_neg (by assumption), if_neg (by assumption), if_neg (by simp_all), if_pos hc]; exact Pst.mk (.mk ⟨_, rfl, rfl⟩) kk
  · rw [Md.Lx.open_, if_neg (by assumption), if_neg (by assumption), if_neg (by simp_all), if_neg hc]; exact Pst.mk (.mk ⟨(g.1, _), rfl, rfl⟩) kk
theorem closes_le (last : Md.Str) (l : List Int) : (0 < Md.closes last l → l.getD 0 (-1) = 47) := by
  intro h
  unfold Md.closes at h
  by_cases h1 : l.getD 0 (-1) ≠ 47 ∨ Md.letter (l.getD 1 (-1)) = false ∨ last = []
  · rw [if_pos h1] at h; omega
  · by_cases h2 : l.getD 0 (-1) = 47
    · exact h2
    · exact absurd (.inl h2) h1
theorem close_F {cs2 : Nat × Nat → List Ck} (hu : Upd (LX id s g) (fun a => LX id s.close a) cs cs2) (hb : MB s) : F D 72 [.ptr id 0] cs (fun v cs' => Hold (∃ a, (∃ b, v = .bool b) ∧ cs2 a = cs')) := by
  refine F.atG hu fun R => F.of rfl rfl rfl ?_
  have m1 : ¬ ((Md.closes s.last s.rest : Nat) : Int) = 0 → MB { s.adv 1 with way := 0 } := fun h => by
    have h2 := closes_le s.last s.rest (by omega)
    rw [← pk_rest] at h2
    have h3 := hb.adv (n := 1) (in_adv1 (by omega))
    exact ⟨h3.len, h3.pos, h3.text, h3.out, h3.last, h3.nn⟩
  repeat' first | (show LD _ _ _ _; first | exact LX.ldPos kk | exact LX.ldWay kk | exact LX.ldLast kk | exact LX.ldRoom kk | exact LX.ldDone kk | exact LX.ldText kk) | (apply RR.lxIn; exact rfl; exact rfl; exact rfl; exact kk; refine fun _ => ?_) | (apply RR.lxOut; exact rfl; exact rfl; exact rfl; exact kk; refine fun _ => ?_) | (apply RR.storeS; exact rfl; exact rfl; first | exact LX.stPos 1 rfl kk | exact LX.stPos 2 rfl kk | exact LX.stPos 3 rfl kk | exact LX.stPos 6 rfl kk | exact LX.stPos 7 rfl kk | exact LX.stPos _ rfl kk | exact LX.stPos2 1 _ kk | exact LX.stPos2 2 _ kk | exact LX.stWay kk | exact LX.stLast kk | exact LX.stRoom kk | exact LX.stDone kk; exact rfl) | (show FC _ _ _ _ _; first | exact closes_F kk (by exact hb.b6) | exact tag_F kk (by exact (m1 (by assumption)).b3) (by exact hb.nn) | exact say_F rfl kk kk (by exact hb.b8 (by decide))) | (refine fun (hc : _ = _) => ?_; (try simp only [BB] at hc); (try (first | contradiction | (exfalso; omega)))) | (show Arith _; exact arith_pos2 hb (by decide)) | exact arI | refine Pst.mk ⟨?_, rfl⟩ kk | constructor | (refine fun _ _ (hq : Hold _) => ?_; replace hq := hq.out; obtain ⟨_, rfl, rfl⟩ := hq) | (refine fun _ _ (hq : Hold _) => ?_; replace hq := hq.out; obtain ⟨_, _, rfl, rfl⟩ := hq) | rintro _ _ ⟨rfl, rfl⟩ | rintro _ _ ⟨_, rfl, rfl⟩ | rintro _ _ ⟨_, _, rfl, rfl⟩ | (refine fun (hc : _ = _) => ?_; (try simp only [BB] at hc)) | refine fun (_ : Nat) => ?_ | refine fun (_ : _ ≤ _) => ?_ | refine fun (_ : _ < _) => ?_
  · rw [Md.Lx.close, if_pos (Int.ofNat.inj hc)]; exact Pst.mk (.mk ⟨(g.1, _), ⟨_, rfl⟩, rfl⟩) kk
  · rw [Md.Lx.close, if_neg (fun h => hc (congrArg Int.ofNat h))]; exact Pst.mk (.mk ⟨_, ⟨_, rfl⟩, rfl⟩) kk
end Go.Proofs.YticnenofiibpgaaDoor.Code
/- What the lexer's script does. -/
namespace Go.Proofs.YticnenofiibpgaaDoor.Code
open Go.Dm Go.Dm.C
set_option linter.unusedSimpArgs false
set_option linter.unusedVariables false
set_option linter.unnecessarySimpa false
set_option maxRecDepth 10000
attribute [local irreducible] Go.Dm.F Go.Dm.RS Go.Dm.Y Go.Dm.FD Go.Dm.FZ1 Go.Dm.Hold
variable {id : Nat} {s : Md.Lx} {g : Nat × Nat} {cs : List Ck}
theorem scriptGo_nil (last : Md.Str) (d : Nat) (h : Bool) : Md.scriptGo last [] d h = ([], 0, false) := by rw [Md.scriptGo]
theorem scriptGo_cons (last : Md.Str) (r : Int) (l : List Int) (d : Nat) (h : Bool) : Md.scriptGo last (r :: l) d h =
    if r = 45 then (r :: (Md.scriptGo last l (d + 1) h).1, (Md.scriptGo last l (d + 1) h).2.1 + 1, (Md.scriptGo last l (d + 1) h).2.2)
    else if r = 62 ∧ 2 ≤ d then ([62], 1, false)
    else if r = 60 ∧ h = false then
      if 0 < Md.closes last l then ([], 1, true) else
      (r :: (l.take (Md.word l) ++ (Md.scriptGo last (l.drop (Md.word l)) 0 (decide (0 < Md.word l))).1), (Md.scriptGo last (l.drop (Md.word l)) 0 (decide (0 < Md.word l))).2.1 + Md.word l + 1, (Md.scriptGo last (l.drop (Md.word l)) 0 (decide (0 < Md.word l))).2.2)
    else if r = 60 then
      if l.headD (-1) = 47 then
        (r :: 47 :: (l.tail.take (Md.word l.tail) ++ (Md.scriptGo last (l.tail.drop (Md.word l.tail)) 0 (decide (Md.word l.tail = 0))).1), (Md.scriptGo last (l.tail.drop (Md.word l.tail)) 0 (decide (Md.word l.tail = 0))).2.1 + Md.word l.tail + 2, (Md.scriptGo last (l.tail.drop (Md.word l.tail)) 0 (decide (Md.word l.tail = 0))).2.2)
      else (r :: (Md.scriptGo last l 0 h).1, (Md.scriptGo last l 0 h).2.1 + 1, (Md.scriptGo last l 0 h).2.2)
    else (Md.fixr r :: (Md.scriptGo last l 0 h).1, (Md.scriptGo last l 0 h).2.1 + 1, (Md.scriptGo last l 0 h).2.2) := by rw [Md.scriptGo]
theorem word_le (l : List Int) : Md.word l ≤ l.length := by
  unfold Md.word
  split
  · rename_i h
    have h1 := stands_le _ _ h.1
    simp only [List.length_cons, List.length_nil] at h1
    by_cases h2 : l.length = 6
    · have h3 := h.2
      rw [List.getD_eq_getElem?_getD, List.getElem?_eq_none (by omega)] at h3
      exact absurd h3 (by decide)
    · omega
  · omega
theorem word_in (h : s.pos ≤ s.inp.length) : s.pos + Md.word s.rest ≤ s.inp.length := by
  have h1 := word_le s.rest
  rw [rest_len] at h1; omega
theorem last_say (a : List Int) : (s.say a).last = s.last := rfl
theorem last_adv (n : Nat) : (s.adv n).last = s.last := rfl
theorem MB.say {u : Md.Lx} {i : Nat} {acc : List Int} (h : MB u) (ht : u.text.length ≤ 60000000004) (hp : u.pos + i ≤ u.inp.length) (ha : acc.length ≤ 2 * i) : MB ((u.adv i).say acc) := ⟨h.len, hp, by
  have := filter_le acc
  have := h.len
  simp only [Md.Lx.say, Md.Lx.adv, List.length_append]; omega, h.out, h.last, h.nn⟩
set_option maxHeartbeats 4000000 in
theorem script_F {cs2 : Nat × Nat → List Ck} (hu : Upd (LX id s g) (fun a => LX id s.script a) cs cs2) (hb : MB s) (ht : s.text.length ≤ 60000000000 ∧ s.out.length ≤ 900000) : F D 73 [.ptr id 0] cs (fun v cs' => Hold (∃ a, v = .tup [] ∧ cs2 a = cs')) := by
  refine F.atG hu fun R => F.of rfl rfl rfl ?_
  repeat' first | (show LD _ _ _ _; first | exact LX.ldPos kk | exact LX.ldWay kk | exact LX.ldLast kk | exact LX.ldRoom kk | exact LX.ldDone kk | exact LX.ldText kk) | (apply RR.lxIn; exact rfl; exact rfl; exact rfl; exact kk; refine fun _ => ?_) | (apply RR.lxOut; exact rfl; exact rfl; exact rfl; exact kk; refine fun _ => ?_) | (apply RR.storeS; exact rfl; exact rfl; first | exact LX.stPos 1 rfl kk | exact LX.stPos 2 rfl kk | exact LX.stPos 3 rfl kk | exact LX.stPos 6 rfl kk | exact LX.stPos 7 rfl kk | exact LX.stPos _ rfl kk | exact LX.stPos2 1 _ kk | exact LX.stPos2 2 _ kk | exact LX.stWay kk | exact LX.stLast kk | exact LX.stRoom kk | exact LX.stDone kk; exact rfl) | (show FC _ _ _ _ _; first | exact exact_F kk (by exact hb.b2) (by decide) (by decide) | exact close_F kk (by exact hb) | exact say_F rfl kk kk (by exact hb.b8 (by decide))) | (refine fun _ _ (hq : Hold _) => ?_; replace hq := hq.out; obtain ⟨_, ⟨_, rfl⟩, rfl⟩ := hq) | (refine fun (hc : _ = _) => ?_; (try simp only [BB] at hc); (try (first | contradiction | (exfalso; omega)))) | (show Arith _; exact arith_pos (by exact hb.b1.2) (by decide)) | exact arI | refine Pst.mk ⟨?_, rfl⟩ kk | constructor | (refine fun _ _ (hq : Hold _) => ?_; replace hq := hq.out; obtain ⟨_, rfl, rfl⟩ := hq) | (refine fun _ _ (hq : Hold _) => ?_; replace hq := hq.out; obtain ⟨_, _, rfl, rfl⟩ := hq) | rintro _ _ ⟨rfl, rfl⟩ | rintro _ _ ⟨_, rfl, rfl⟩ | rintro _ _ ⟨_, _, rfl, rfl⟩ | (refine fun (hc : _ = _) => ?_; (try simp only [BB] at hc)) | refine fun (_ : Nat) => ?_ | refine fun (_ : _ ≤ _) => ?_ | refine fun (_ : _ < _) => ?_
  · rw [Md.Lx.script, if_pos hc]; exact Pst.mk (.mk ⟨_, rfl, rfl⟩) kk
  rename_i t0 _ tt0
  have hin := in_exact 3 [33, 45, 45] hc rfl hb.pos
  have hsm : s.script = if (Md.scriptGo ((s.say [60, 33, 45, 45]).adv 3).last ((s.say [60, 33, 45, 45]).adv 3).rest 2 false).2.2 = true then ((((s.say [60, 33, 45, 45]).adv 3).say (Md.scriptGo ((s.say [60, 33, 45, 45]).adv 3).last ((s.say [60, 33, 45, 45]).adv 3).rest 2 false).1).adv (Md.scriptGo ((s.say [60, 33, 45, 45]).adv 3).last ((s.say [60, 33, 45, 45]).adv 3).rest 2 false).2.1).flush.close else ((((s.say [60, 33, 45, 45]).adv 3).say (Md.scriptGo ((s.say [60, 33, 45, 45]).adv 3).last ((s.say [60, 33, 45, 45]).adv 3).rest 2 false).1).adv (Md.scriptGo ((s.say [60, 33, 45, 45]).adv 3).last ((s.say [60, 33, 45, 45]).adv 3).rest 2 false).2.1) := by
    rw [Md.Lx.script, if_neg (by rw [hc]; simp)]; rfl
  have hub : MB ((s.say [60, 33, 45, 45]).adv 3) := ⟨hb.len, hin, by
    have := filter_le [60, 33, 45, 45]
    simp only [Md.Lx.say, Md.Lx.adv, List.length_append, List.length_cons, List.length_nil] at this ⊢; omega, hb.out, hb.last, hb.nn⟩
  have hut : ((s.say [60, 33, 45, 45]).adv 3).text.length ≤ 60000000004 := by
    have := filter_le [60, 33, 45, 45]
    simp only [Md.Lx.say, Md.Lx.adv, List.length_append, List.length_cons, List.length_nil] at this ⊢; omega
  have huo : ((s.say [60, 33, 45, 45]).adv 3).out.length ≤ 900000 := ht.2
  rw [hsm]
  clear hsm hin hb ht hu hc
  generalize (s.say [60, 33, 45, 45]).adv 3 = u at *
  have hun := hub.nn
  have hul := hub.len
  have hup := hub.pos
  obtain ⟨V, hV⟩ : ∃ V, V = Md.scriptGo u.last u.rest 2 false := ⟨_, rfl⟩
  rw [← hV]
  refine RS.loopW (α := Nat × Nat × List Int × Nat × Bool) (fun a => [(0, .ptr id 0), (2, .int .i64 (a.2.2.2.1 : Nat)), (3, .bool a.2.2.2.2)]) (fun a => LX id ((u.adv a.1).say a.2.2.1) (g.1, a.2.1) :: R)
    (fun a => a.2.2.1 ++ (Md.scriptGo u.last (u.adv a.1).rest a.2.2.2.1 a.2.2.2.2).1 = V.1 ∧ a.1 + (Md.scriptGo u.last (u.adv a.1).rest a.2.2.2.1 a.2.2.2.2).2.1 = V.2.1 ∧ (Md.scriptGo u.last (u.adv a.1).rest a.2.2.2.1 a.2.2.2.2).2.2 = V.2.2 ∧ a.2.2.1.length ≤ a.1 ∧ u.pos + a.1 ≤ u.inp.length ∧ a.2.2.2.1 ≤ 2 + a.1) (fun a => u.inp.length - (u.pos + a.1)) (0, tt0, [], 2, false) ⟨by simp [adv_zero, hV], by simp [adv_zero, hV], by simp [adv_zero, hV], by simp, by dsimp only; omega, by simp⟩ ⟨rfl, rfl, rfl, trivial⟩ (by simpa [Md.Lx.say, Md.Lx.adv] using KK.drop .refl) ?_
  rintro ⟨i, tt, acc, d, h⟩ ⟨k1, k2, k3, k4, k5, k6⟩ ih
  dsimp only [ents] at *
  (have hst := fun h => rest_adv_cons (s := u) (i := i) h; have hnil := fun h => rest_adv_nil (s := u) (i := i) h; have hpn := fun h => pk_out (s := u) (i := i) h; have hpi := fun h => pk_in (s := u) (i := i) hun h)
  have e0 : ((u.adv i).say acc).pk 0 = u.pk i := by rw [pk_say, pk_adv, Nat.add_zero]
  have e1 : ((((u.adv i).say acc).adv 1).say [((u.adv i).say acc).pk 0]).pk 0 = u.pk (i + 1) := by rw [pk_say, say_adv, pk_say, adv_adv, pk_adv, Nat.add_zero]
  have hpn2 := fun h => pk_out (s := u) (i := i + 1) h
  have hfl2 := filter_le [((u.adv i).say acc).pk 0]
  have hfl3 := filter_le [((((u.adv i).say acc).adv 1).say [((u.adv i).say acc).pk 0]).pk 0]
  rw [List.length_cons, List.length_nil] at hfl2 hfl3
  have mb0 := hub.say (acc := acc) hut k5 (by omega)
  have m1 : u.pk i ≠ -1 → MB ((u.adv (i + 1)).say acc) := fun h => hub.say (acc := acc) hut (by by_cases hx : u.pos + i < u.inp.length; omega; have := hpn (by omega); omega) (by omega)
  have hfl := filter_le acc
  have hut2 := hut
  repeat' first | (show FC _ _ _ _ _; first | exact next_F kk (by first | omega | ((simp only [Md.Lx.adv, Md.Lx.say, Md.Lx.clr, List.nil_append, List.length_append, List.length_cons, List.length_nil]); omega)) | exact back_F kk (by first | omega | ((simp only [Md.Lx.adv, Md.Lx.say, Md.Lx.clr, List.nil_append, List.length_append, List.length_cons, List.length_nil]); omega)) | exact take_F kk (by have h7 := hfl; have h8 := hfl2; have h9 := hfl3; simp only [Md.Lx.adv, Md.Lx.say, List.length_append, List.length_cons, List.length_nil] at h7 h8 h9 ⊢; omega) (by exact word_in (by simp only [Md.Lx.adv, Md.Lx.say]; omega)) | exact closes_F kk (by exact (m1 (by omega)).b6) | exact word_F kk (by first | omega | ((simp only [Md.Lx.adv, Md.Lx.say, Md.Lx.clr, List.nil_append, List.length_append, List.length_cons, List.length_nil]); omega)) | exact flush_F kk (by exact (m1 (by omega)).b7) | exact close_F kk (by exact (m1 (by omega)).flush (by exact Nat.le_trans huo (by decide))) | exact peek0_F kk (by first | omega | ((simp only [Md.Lx.adv, Md.Lx.say, Md.Lx.clr, List.nil_append, List.length_append, List.length_cons, List.length_nil]); omega)) | exact say_F rfl kk kk (by first | omega | ((simp only [Md.Lx.adv, Md.Lx.say, Md.Lx.clr, List.nil_append, List.length_append, List.length_cons, List.length_nil]); omega)) | exact say_F rfl kk kk (by have h7 := hfl; have h8 := hfl2; have h9 := hfl3; simp only [Md.Lx.adv, Md.Lx.say, List.length_append, List.length_cons, List.length_nil] at h7 h8 h9 ⊢; omega)) | (refine fun _ _ (hq : Hold _) => ?_; replace hq := hq.out; obtain ⟨_, ⟨_, rfl⟩, rfl⟩ := hq) | (refine fun (hc : _ = _) => ?_; (try simp only [BB] at hc); (try (first | contradiction | (exfalso; omega)))) | (refine Arith.mk ?_; (try intro _); simp only [Md.Lx.adv, Md.Lx.say, Md.Lx.clr, List.nil_append, List.length_append, List.length_cons, List.length_nil]; omega) | exact arI | refine Pst.mk ⟨?_, rfl⟩ kk | constructor | (refine fun _ _ (hq : Hold _) => ?_; replace hq := hq.out; obtain ⟨_, rfl, rfl⟩ := hq) | (refine fun _ _ (hq : Hold _) => ?_; replace hq := hq.out; obtain ⟨_, _, rfl, rfl⟩ := hq) | rintro _ _ ⟨rfl, rfl⟩ | rintro _ _ ⟨_, rfl, rfl⟩ | rintro _ _ ⟨_, _, rfl, rfl⟩ | (refine fun (hc : _ = _) => ?_; (try simp only [BB] at hc)) | refine fun (_ : Nat) => ?_ | refine fun (_ : _ ≤ _) => ?_ | refine fun (_ : _ < _) => ?_
  all_goals (try simp only [pk_adv, pk_say, Nat.add_zero, adv_adv, say_say, say_adv, rest_say, last_say, last_adv] at *)
  · have hge : u.inp.length ≤ u.pos + i := by (by_cases h : u.pos + i < u.inp.length; (have := hpi h; omega); omega)
    rw [hnil hge, scriptGo_nil] at k1 k2 k3
    simp only [List.append_nil, Nat.add_zero] at k1 k2 k3
    rw [← k1, ← k2, ← k3, if_neg (by simp)]
    exact Pst.mk (.mk ⟨_, trivial, rfl⟩) kk
  · have hlt : u.pos + i < u.inp.length := by (by_cases h : u.pos + i < u.inp.length; exact h; have := hpn (by omega); omega)
    rw [hst hlt, scriptGo_cons, if_pos hc] at k1 k2 k3
    dsimp only at k1 k2 k3
    exact ih _ _ (i + 1, _, acc ++ [u.pk i], d + 1, h) ⟨by rw [← k1]; simp, by rw [← k2]; dsimp only; omega, k3, by simp; omega, by dsimp only; omega, by dsimp only; omega⟩ (by dsimp only; omega) ⟨rfl, rfl, rfl, trivial⟩ kk
  · have hlt : u.pos + i < u.inp.length := by (by_cases h : u.pos + i < u.inp.length; exact h; have := hpn (by omega); omega)
    rename_i hA
    rw [hst hlt, scriptGo_cons, if_neg hA, if_pos ⟨hc.1, by omega⟩] at k1 k2 k3
    dsimp only at k1 k2 k3
    rw [← k1, ← k2, ← k3, if_neg (by simp), ← hc.1]
    exact Pst.mk (.mk ⟨_, trivial, rfl⟩) kk
  · have hlt : u.pos + i < u.inp.length := by (by_cases h : u.pos + i < u.inp.length; exact h; have := hpn (by omega); omega)
    rename_i hA hB hC
    rw [hst hlt, scriptGo_cons, if_neg hA, if_neg (fun h => hB h.1 (by omega)), if_pos hC, if_pos (by omega)] at k1 k2 k3
    dsimp only at k1 k2 k3
    rw [← k1, ← k2, ← k3, if_pos rfl, List.append_nil]
    exact Pst.mk (.mk ⟨_, trivial, rfl⟩) kk
  · have hlt : u.pos + i < u.inp.length := by (by_cases h : u.pos + i < u.inp.length; exact h; have := hpn (by omega); omega)
    rename_i hA hB hC hD
    rw [hst hlt, scriptGo_cons, if_neg hA, if_neg (fun h => hB h.1 (by omega)), if_pos hC, if_neg (by omega), ← rest_adv, adv_adv, decide_eq_true (show 0 < Md.word (u.adv (i + 1)).rest by omega)] at k1 k2 k3
    dsimp only at k1 k2 k3
    have hw := word_le (u.adv (i + 1)).rest
    have hwl := rest_len (s := u.adv (i + 1))
    have e5 : (u.adv (i + 1)).inp = u.inp := rfl
    have e6 : (u.adv (i + 1)).pos = u.pos + (i + 1) := rfl
    rw [e5, e6] at hwl
    exact ih _ _ (i + 1 + Md.word (u.adv (i + 1)).rest, _, acc ++ [u.pk i] ++ (u.adv (i + 1)).rest.take (Md.word (u.adv (i + 1)).rest), 0, true) ⟨by rw [← k1]; simp, by rw [← k2]; dsimp only; omega, k3, by simp; omega, by dsimp only; omega, by dsimp only; omega⟩ (by dsimp only; omega) ⟨rfl, rfl, rfl, trivial⟩ kk
  · have hlt : u.pos + i < u.inp.length := by (by_cases h : u.pos + i < u.inp.length; exact h; have := hpn (by omega); omega)
    rename_i hA hB hC hD
    obtain rfl := hC.2
    have hw0 : Md.word (u.adv (i + 1)).rest = 0 := by omega
    rw [hst hlt, scriptGo_cons, if_neg hA, if_neg (fun h => hB h.1 (by omega)), if_pos hC, if_neg (by omega), hw0] at k1 k2 k3
    simp only [List.drop_zero, List.take_zero, List.nil_append, Nat.lt_irrefl, decide_false] at k1 k2 k3
    exact ih _ _ (i + 1, _, acc ++ [u.pk i], 0, false) ⟨by rw [← k1]; simp, by rw [← k2]; dsimp only; omega, k3, by simp; omega, by dsimp only; omega, by dsimp only; omega⟩ (by dsimp only; omega) ⟨rfl, rfl, rfl, trivial⟩ kk
  · have hlt : u.pos + i < u.inp.length := by (by_cases h : u.pos + i < u.inp.length; exact h; have := hpn (by omega); omega)
    rename_i hA hB hC hD hE
    have hlt2 : u.pos + (i + 1) < u.inp.length := by (by_cases h : u.pos + (i + 1) < u.inp.length; exact h; have := hpn2 (by omega); omega)
    rw [hst hlt, scriptGo_cons, if_neg hA, if_neg (fun h => hB h.1 (by omega)), if_neg (fun h => by rw [hD.2] at h; cases h.2), if_pos hD.1, headD_adv, if_pos hE, tail_adv, ← rest_adv, adv_adv, decide_eq_false (show ¬Md.word (u.adv (i + 1 + 1)).rest = 0 by omega)] at k1 k2 k3
    dsimp only at k1 k2 k3
    have hw := word_le (u.adv (i + 1 + 1)).rest
    have hwl := rest_len (s := u.adv (i + 1 + 1))
    have e5 : (u.adv (i + 1 + 1)).inp = u.inp := rfl
    have e6 : (u.adv (i + 1 + 1)).pos = u.pos + (i + 1 + 1) := rfl
    rw [e5, e6] at hwl
    rw [← hE] at k1
    exact ih _ _ (i + 1 + 1 + Md.word (u.adv (i + 1 + 1)).rest, _, acc ++ ([u.pk i] ++ ([u.pk (i + 1)] ++ (u.adv (i + 1 + 1)).rest.take (Md.word (u.adv (i + 1 + 1)).rest))), 0, false) ⟨by rw [← k1]; simp, by rw [← k2]; dsimp only; omega, k3, by simp; omega, by dsimp only; omega, by dsimp only; omega⟩ (by dsimp only; omega) ⟨rfl, rfl, rfl, trivial⟩ (by simp only [List.append_assoc]; exact kk)
  · have hlt : u.pos + i < u.inp.length := by (by_cases h : u.pos + i < u.inp.length; exact h; have := hpn (by omega); omega)
    rename_i hA hB hC hD hE
    obtain rfl := hD.2
    have hlt2 : u.pos + (i + 1) < u.inp.length := by (by_cases h : u.pos + (i + 1) < u.inp.length; exact h; have := hpn2 (by omega); omega)
    have hw0 : Md.word (u.adv (i + 1 + 1)).rest = 0 := by omega
    rw [hst hlt, scriptGo_cons, if_neg hA, if_neg (fun h => hB h.1 (by omega)), if_neg (fun h => by cases h.2), if_pos hD.1, headD_adv, if_pos hE, tail_adv, hw0] at k1 k2 k3
    simp only [List.drop_zero, List.take_zero, List.nil_append, decide_true] at k1 k2 k3
    rw [← hE] at k1
    exact ih _ _ (i + 1 + 1, _, acc ++ ([u.pk i] ++ [u.pk (i + 1)]), 0, true) ⟨by rw [← k1]; simp, by rw [← k2]; dsimp only; omega, k3, by simp; omega, by dsimp only; omega, by dsimp only; omega⟩ (by dsimp only; omega) ⟨rfl, rfl, rfl, trivial⟩ (by simp only [List.append_assoc]; exact kk)
  · have hlt : u.pos + i < u.inp.length := by (by_cases h : u.pos + i < u.inp.length; exact h; have := hpn (by omega); omega)
    rename_i hA hB hC hD
    obtain rfl := hD.2
    rw [hst hlt, scriptGo_cons, if_neg hA, if_neg (fun h => hB h.1 (by omega)), if_neg (fun h => by cases h.2), if_pos hD.1, headD_adv, if_neg hc] at k1 k2 k3
    dsimp only at k1 k2 k3
    exact ih _ _ (i + 1, _, acc ++ [u.pk i], 0, true) ⟨by rw [← k1]; simp, by rw [← k2]; dsimp only; omega, k3, by simp; omega, by dsimp only; omega, by dsimp only; omega⟩ (by dsimp only; omega) ⟨rfl, rfl, rfl, trivial⟩ kk
  all_goals
    have hlt : u.pos + i < u.inp.length := by (by_cases h : u.pos + i < u.inp.length; exact h; have := hpn (by omega); omega)
    rename_i hA hB hC hD
    have h60 : ¬u.pk i = 60 := fun h9 => by have h7 := hC h9; have h8 := hD h9; rw [h7] at h8; cases h8
    rw [hst hlt, scriptGo_cons, if_neg hA, if_neg (fun h => hB h.1 (by omega)), if_neg (fun h => h60 h.1), if_neg h60] at k1 k2 k3
    dsimp only at k1 k2 k3
    first
      | (rw [show Md.fixr (u.pk i) = 65533 from if_pos hc] at k1
         exact ih _ _ (i + 1, _, acc ++ [65533], 0, h) ⟨by rw [← k1]; simp, by rw [← k2]; dsimp only; omega, k3, by simp; omega, by dsimp only; omega, by dsimp only; omega⟩ (by dsimp only; omega) ⟨rfl, rfl, rfl, trivial⟩ kk)
      | (rw [show Md.fixr (u.pk i) = u.pk i from if_neg hc] at k1
         exact ih _ _ (i + 1, _, acc ++ [u.pk i], 0, h) ⟨by rw [← k1]; simp, by rw [← k2]; dsimp only; omega, k3, by simp; omega, by dsimp only; omega, by dsimp only; omega⟩ (by dsimp only; omega) ⟨rfl, rfl, rfl, trivial⟩ kk)
end Go.Proofs.YticnenofiibpgaaDoor.Code
/- How far the lexer's functions go. -/
namespace Go.Md
/-- How many bytes tokens hold. -/
def dl (ts : List Tok) : Nat := ((ts.map Tok.data).flatten).length
theorem dl_nil : dl [] = 0 := rfl
theorem dl_snoc (ts : List Tok) (t : Tok) : dl (ts ++ [t]) = dl ts + t.data.length := by simp [dl]
/-- How much a lexer holds. -/
def Lx.wt (s : Lx) : Nat := dl s.out + 4 * s.text.length
end Go.Md
namespace Go.Proofs.YticnenofiibpgaaDoor.Code
open Go.Dm
set_option linter.unusedSimpArgs false
set_option linter.unusedVariables false
variable {s : Md.Lx}
theorem encode_len (rs : List Int) : (Md.encode rs).length ≤ 4 * rs.length := by
  induction rs with
  | nil => simp [Md.encode]
  | cons r rs ih =>
    have e : Md.encode (r :: rs) = Md.putR r ++ Md.encode rs := by simp [Md.encode]
    have h4 := putR_len r
    rw [e, List.length_append, List.length_cons]; omega
theorem flush_wt : s.flush.wt ≤ s.wt := by
  unfold Md.Lx.flush Md.Lx.wt
  split
  · exact Nat.le_refl _
  · have := encode_len s.text
    dsimp only [Md.textTok]
    rw [Md.dl_snoc]
    simp only [List.length_nil]; omega
theorem adv_wt {n : Nat} : (s.adv n).wt = s.wt := rfl
/-- What a function may turn. -/
structure Bd (s x : Md.Lx) : Prop where
  inp : x.inp = s.inp
  room : x.room = s.room
  done : x.done = s.done
  ge : s.pos ≤ x.pos
  le : x.pos ≤ s.inp.length
  text : x.text.length ≤ s.text.length + 10 * (x.pos - s.pos) + 4
  out : x.out.length ≤ s.out.length + 2
  last : s.last.length ≤ 10000000000 → x.last.length ≤ 10000000000
  dat : x.wt ≤ s.wt + 40 * (x.pos - s.pos) + 16
theorem Bd.emit {n : Nat} {t : Md.Tok} (hn : s.pos + n ≤ s.inp.length) (ht : t.kind = 2 → t.name.length ≤ 10000000000) (hd : t.data.length ≤ 40 * n + 16) : Bd s ((s.adv n).emit t) := by
  have hw := flush_wt (s := s.adv n)
  rw [adv_wt] at hw
  have hfo := flush_out (s := s.adv n)
  have e : (s.adv n).out = s.out := rfl
  rw [e] at hfo
  refine ⟨?_, ?_, ?_, ?_, ?_, ?_, ?_, ?_, ?_⟩ <;> simp only [Md.Lx.emit]
  · rw [flush_inp]; rfl
  · rw [flush_room]; rfl
  · rw [flush_done]; rfl
  · rw [flush_pos]; show s.pos ≤ s.pos + n; omega
  · rw [flush_pos]; exact hn
  · rw [flush_text]; simp
  · rw [List.length_append]; simp; omega
  · intro hl
    split
    · rename_i h; exact ht h
    · rw [flush_last]; exact hl
  · unfold Md.Lx.wt at hw ⊢
    dsimp only
    rw [Md.dl_snoc, flush_pos]
    rw [flush_text] at hw ⊢
    show _ ≤ _ + 40 * (s.pos + n - s.pos) + 16
    simp only [List.length_nil] at hw ⊢; omega
theorem Bd.adv {n : Nat} (hn : s.pos + n ≤ s.inp.length) : Bd s (s.adv n) := ⟨rfl, rfl, rfl, Nat.le_add_right .., hn, by show s.text.length ≤ _; omega, by show s.out.length ≤ _; omega, fun h => h, by rw [adv_wt]; omega⟩
theorem Bd.pre {k : Nat} {x : Md.Lx} (h : Bd (s.adv k) x) : s.pos ≤ x.pos ∧ Bd s x := by
  have h1 : s.pos + k ≤ x.pos := h.ge
  have h2 := h.text
  have h3 : (s.adv k).pos = s.pos + k := rfl
  have h4 : (s.adv k).text = s.text := rfl
  have h5 := h.dat
  rw [adv_wt, h3] at h5
  rw [h3, h4] at h2
  exact ⟨by omega, h.inp, h.room, h.done, by omega, h.le, by omega, h.out, h.last, by omega⟩
theorem Bd.say {n : Nat} {rs : List Int} (hn : s.pos + n ≤ s.inp.length) (hr : rs.length ≤ 10 * n + 4) : Bd s ((s.adv n).say rs) := ⟨rfl, rfl, rfl, Nat.le_add_right .., hn, by
  have h1 := filter_le rs
  show (s.text ++ rs.filter (· != -1)).length ≤ s.text.length + 10 * (s.pos + n - s.pos) + 4
  rw [List.length_append]; omega, by show s.out.length ≤ _; omega, fun h => h, by
  have h1 := filter_le rs
  show Md.dl s.out + 4 * (s.text ++ rs.filter (· != -1)).length ≤ Md.dl s.out + 4 * s.text.length + 40 * (s.pos + n - s.pos) + 16
  rw [List.length_append]; omega⟩
theorem rlen (h : s.pos ≤ s.inp.length) : s.pos + s.rest.length = s.inp.length := by rw [rest_len]; omega
theorem attrsGo_le : ∀ (n : Nat) (l : List Int) (acc : List (Md.Str × Md.Str)), l.length ≤ n → (Md.attrsGo l acc).2.2.2 ≤ l.length := by
  intro n
  induction n with
  | zero => intro l acc h; have : l = [] := List.eq_nil_of_length_eq_zero (by omega); subst this; rw [attrsGo_nil]; simp
  | succ n ih =>
    intro l acc h
    cases l with
    | nil => rw [attrsGo_nil]; simp
    | cons r l =>
      simp only [List.length_cons] at h ⊢
      cases hb : Md.blank r with
      | true => rw [attrsGo_blank hb]; have := ih l acc (by omega); dsimp only; omega
      | false =>
        by_cases h1 : r = 62
        · subst h1; rw [attrsGo_end]; simp
        · by_cases h2 : r = 47
          · subst h2
            rw [attrsGo_slash]
            split
            · rename_i h3
              cases l with
              | nil => simp at h3
              | cons a l => simp
            · have := ih l acc (by omega); dsimp only; omega
          · have hl := attr1_le (r :: l)
            have hg : 1 ≤ (Md.attr1 (r :: l)).2.2 := attr1_ge (by rw [over_f]; exact ⟨⟨hb, h2⟩, h1⟩)
            simp only [List.length_cons] at hl
            rw [attrsGo_attr hb h1 h2]
            split
            · have := ih ((r :: l).drop (Md.attr1 (r :: l)).2.2) (Md.putAttr acc (Md.attr1 (r :: l)).1) (by rw [List.length_drop, List.length_cons]; omega)
              rw [List.length_drop, List.length_cons] at this
              dsimp only; omega
            · dsimp only; omega
theorem Bd.tag (k : Int) (h : s.pos ≤ s.inp.length) (hl : s.inp.length ≤ 1000000000) : Bd s (s.tag k) := by
  have h1 := nameOf_le s.rest
  have h2 := attrsGo_le _ (s.rest.drop (Md.nameOf s.rest).length) [] (Nat.le_refl _)
  rw [List.length_drop] at h2
  have h3 := rlen h
  unfold Md.Lx.tag
  dsimp only
  split
  · refine Bd.emit (by omega) (fun _ => ?_) (Nat.zero_le _)
    dsimp only
    have := encode_len ((Md.nameOf s.rest).map fun r => Md.small (Md.fixr r))
    rw [List.length_map] at this; omega
  · exact Bd.adv (by omega)
theorem bogusGo_le : ∀ l : List Int, (Md.bogusGo l).2 ≤ l.length
  | [] => by simp [Md.bogusGo]
  | r :: l => by
    have := bogusGo_le l
    simp only [Md.bogusGo, List.length_cons]
    split
    · dsimp only; omega
    · dsimp only; omega
theorem bogusGo_fst : ∀ l : List Int, (Md.bogusGo l).1.length ≤ (Md.bogusGo l).2
  | [] => by simp [Md.bogusGo]
  | r :: l => by
    have := bogusGo_fst l
    simp only [Md.bogusGo]
    split
    · simp
    · simp only [List.length_cons]; omega
theorem Bd.bogus (h : s.pos ≤ s.inp.length) : Bd s s.bogus := by
  have h1 := bogusGo_le s.rest
  have h3 := rlen h
  have h4 := bogusGo_fst s.rest
  have h5 := encode_len (Md.bogusGo s.rest).1
  exact Bd.emit (by omega) (fun h => by cases h) (by dsimp only; omega)
theorem commentGo_le : ∀ l : List Int, (Md.commentGo l).2.1 ≤ l.length
  | [] => by simp [Md.commentGo]
  | r :: l => by
    have := commentGo_le l
    simp only [Md.commentGo, List.length_cons]
    split
    · rename_i h; have := exact_le _ _ h.2; simp only [List.length_cons, List.length_nil] at this; dsimp only; omega
    · split
      · rename_i h; have := exact_le _ _ h.2; simp only [List.length_cons, List.length_nil] at this; dsimp only; omega
      · dsimp only; omega
theorem commentGo_fst : ∀ l : List Int, (Md.commentGo l).1.length ≤ (Md.commentGo l).2.1
  | [] => by simp [Md.commentGo]
  | r :: l => by
    have := commentGo_fst l
    simp only [Md.commentGo]
    split
    · simp
    · split
      · simp
      · simp only [List.length_cons]; omega
theorem stripTail_le (d : List Int) : (Md.stripTail d).length ≤ d.length := by
  unfold Md.stripTail
  repeat' split
  all_goals first | exact Nat.le_refl _ | (rw [List.length_take]; exact Nat.min_le_right ..)
theorem in_pk {n : Nat} (h : s.pk n ≠ -1) : s.pos + n < s.inp.length := by
  by_cases hl : s.inp.length ≤ s.pos + n
  · exact absurd (pk_out hl) h
  · omega
theorem Bd.comment (h : s.pos ≤ s.inp.length) : Bd s s.comment := by
  have h1 := commentGo_le s.rest
  have h3 := rlen h
  have h5 := commentGo_fst s.rest
  have h6 := stripTail_le (Md.commentGo s.rest).1
  unfold Md.Lx.comment
  split
  · rename_i h4
    have := in_pk (s := s) (n := 0) (by omega)
    exact Bd.emit (by omega) (fun h => by cases h) (Nat.zero_le _)
  · split
    · rename_i h4
      have := in_pk (s := s) (n := 1) (by omega)
      exact Bd.emit (by omega) (fun h => by cases h) (Nat.zero_le _)
    · refine Bd.emit (by omega) (fun h => by cases h) ?_
      show (Md.encode _).length ≤ _
      split
      · have := encode_len (Md.commentGo s.rest).1; omega
      · have := encode_len (Md.stripTail (Md.commentGo s.rest).1); omega
theorem Bd.section_ (h : s.pos ≤ s.inp.length) : Bd s s.section_ := by
  have h1 := sec_len s.rest
  have h3 := rlen h
  have h2 : ∀ l : List Int, (Md.sectionGo l).1.length ≤ (Md.sectionGo l).2 := by
    intro l
    induction l with
    | nil => simp [Md.sectionGo]
    | cons r l ih => simp only [Md.sectionGo]; split <;> simp; omega
  have h4 := h2 s.rest
  exact Bd.say (by omega) (by omega)
theorem Bd.trans0 {k : Nat} {x : Md.Lx} (h : Bd (s.adv k) x) : Bd s x := h.pre.2
theorem dname_le (l : List Int) : (Md.doctypeName l).length ≤ l.length := (List.takeWhile_sublist _).length_le
theorem Bd.emit0 {t : Md.Tok} (h : s.pos ≤ s.inp.length) (ht : t.kind ≠ 2) (hd : t.data = []) : Bd s (s.emit t) := Bd.emit (n := 0) h (fun e => absurd e ht) (by rw [hd]; exact Nat.zero_le _)
theorem Bd.sys {t : Md.Tok} (h : s.pos ≤ s.inp.length) (ht : t.kind ≠ 2) (hd : t.data = []) : Bd s (s.doctypeSys t) := by
  have h1 := in_quoted h
  unfold Md.Lx.doctypeSys
  dsimp only
  split
  · exact (Bd.emit0 h1 (by exact ht) (by exact hd)).trans0
  · split
    · exact (Bd.emit0 (in_blanks h1) (by exact ht) (by exact hd)).trans0.trans0
    · exact (Bd.emit0 (in_skip (in_blanks h1)) (by exact ht) (by exact hd)).trans0.trans0.trans0
theorem Bd.pub {t : Md.Tok} (h : s.pos ≤ s.inp.length) (ht : t.kind ≠ 2) (hd : t.data = []) : Bd s (s.doctypePub t) := by
  have h1 := in_quoted h
  unfold Md.Lx.doctypePub
  dsimp only
  split
  · exact (Bd.emit0 h1 (by exact ht) (by exact hd)).trans0
  · split
    · rename_i h4
      exact (Bd.emit0 (in_adv1 (s := (s.adv (Md.quoted s.rest).2.2.2).blanks) (by omega)) (by exact ht) (by exact hd)).trans0.trans0.trans0
    · exact (Bd.sys (in_blanks h1) (by exact ht) (by exact hd)).trans0.trans0
theorem Bd.rest {t : Md.Tok} (h : s.pos ≤ s.inp.length) (ht : t.kind ≠ 2) (hd : t.data = []) : Bd s (s.doctypeRest t) := by
  unfold Md.Lx.doctypeRest
  split
  · exact (Bd.emit0 (in_adv1 (by omega)) (by exact ht) (by exact hd)).trans0
  · split
    · exact Bd.emit0 h (by exact ht) (by exact hd)
    · split
      · rename_i h5
        exact (Bd.pub (in_blanks (in_stands 6 _ h5 rfl h)) (by exact ht) (by exact hd)).trans0.trans0
      · split
        · rename_i h5
          exact (Bd.sys (in_blanks (in_stands 6 _ h5 rfl h)) (by exact ht) (by exact hd)).trans0.trans0
        · exact (Bd.emit0 (in_skip h) (by exact ht) (by exact hd)).trans0
theorem Bd.doctype (h : s.pos ≤ s.inp.length) : Bd s s.doctype := by
  have hb := in_blanks h
  unfold Md.Lx.doctype
  dsimp only
  split
  · exact (Bd.emit0 (in_adv1 (s := s.blanks) (by omega)) (by decide) rfl).trans0.trans0
  · split
    · exact (Bd.emit0 hb (by decide) rfl).trans0
    · exact (Bd.rest (in_blanks (in_adv hb (dname_le _))) (by show (5 : Int) ≠ 2; decide) rfl).trans0.trans0.trans0
theorem Bd.declare (h : s.pos ≤ s.inp.length) : Bd s s.declare := by
  unfold Md.Lx.declare
  split
  · rename_i h5; exact (Bd.comment (in_stands 2 _ h5 rfl h)).trans0
  · split
    · rename_i h5; exact (Bd.doctype (in_stands 7 _ h5 rfl h)).trans0
    · split
      · rename_i h5; exact (Bd.section_ (in_exact 7 _ h5.2.2 rfl h)).trans0
      · exact Bd.bogus h
theorem Bd.ending (h : s.pos ≤ s.inp.length) (hl : s.inp.length ≤ 1000000000) : Bd s s.ending := by
  unfold Md.Lx.ending
  split
  · exact Bd.tag _ h hl
  · split
    · have := in_pk (s := s) (n := 0) (by omega)
      exact Bd.adv (by omega)
    · split
      · exact Bd.say (n := 0) h (by simp)
      · exact Bd.bogus h
theorem Bd.open_ (h : s.pos ≤ s.inp.length) (hl : s.inp.length ≤ 1000000000) : Bd s s.open_ := by
  unfold Md.Lx.open_
  split
  · exact (Bd.declare (in_adv1 (by omega))).trans0
  · split
    · exact (Bd.ending (in_adv1 (by omega)) hl).trans0
    · split
      · exact Bd.tag _ h hl
      · split
        · exact Bd.bogus h
        · exact Bd.say (n := 0) h (by simp)
theorem Bd.close (h : s.pos ≤ s.inp.length) (hl : s.inp.length ≤ 1000000000) : Bd s s.close := by
  unfold Md.Lx.close
  split
  · exact Bd.say (n := 0) h (by simp)
  · rename_i h5
    have h2 := closes_le s.last s.rest (by omega)
    rw [← pk_rest] at h2
    have h3 := in_pk (s := s) (n := 0) (by omega)
    have h4 := Bd.tag (s := { s.adv 1 with way := 0 }) 3 (show s.pos + 1 ≤ s.inp.length by omega) hl
    have h6 : s.pos + 1 ≤ (Md.Lx.tag { s.adv 1 with way := 0 } 3).pos := h4.ge
    have h7 := h4.text
    exact ⟨h4.inp, h4.room, h4.done, by omega, h4.le, by
      have e1 : ({ s.adv 1 with way := 0 } : Md.Lx).text = s.text := rfl
      have e2 : ({ s.adv 1 with way := 0 } : Md.Lx).pos = s.pos + 1 := rfl
      rw [e1, e2] at h7; omega, h4.out, h4.last, by
      have h8 := h4.dat
      have e1 : ({ s.adv 1 with way := 0 } : Md.Lx).wt = s.wt := rfl
      have e2 : ({ s.adv 1 with way := 0 } : Md.Lx).pos = s.pos + 1 := rfl
      rw [e1, e2] at h8; omega⟩
theorem scriptGo_le (last : Md.Str) : ∀ (n : Nat) (l : List Int) (d : Nat) (h : Bool), l.length ≤ n → (Md.scriptGo last l d h).2.1 ≤ l.length ∧ (Md.scriptGo last l d h).1.length ≤ (Md.scriptGo last l d h).2.1 := by
  intro n
  induction n with
  | zero => intro l d h hl; have : l = [] := List.eq_nil_of_length_eq_zero (by omega); subst this; rw [scriptGo_nil]; simp
  | succ n ih =>
    intro l d h hl
    cases l with
    | nil => rw [scriptGo_nil]; simp
    | cons r l =>
      simp only [List.length_cons] at hl ⊢
      have hw := word_le l
      have hwt := word_le l.tail
      rw [List.length_tail] at hwt
      rw [scriptGo_cons]
      split
      · have := ih l (d + 1) h (by omega); simp only [List.length_cons]; omega
      · split
        · simp
        · split
          · split
            · simp
            · have := ih (l.drop (Md.word l)) 0 (decide (0 < Md.word l)) (by rw [List.length_drop]; omega)
              rw [List.length_drop] at this
              simp only [List.length_cons, List.length_append, List.length_take]; omega
          · split
            · split
              · rename_i h3
                have h4 : 1 ≤ l.length := by
                  cases l with
                  | nil => simp at h3
                  | cons a l => simp
                have := ih (l.tail.drop (Md.word l.tail)) 0 (decide (Md.word l.tail = 0)) (by rw [List.length_drop, List.length_tail]; omega)
                rw [List.length_drop, List.length_tail] at this
                simp only [List.length_cons, List.length_append, List.length_take, List.length_tail]; omega
              · have := ih l 0 h (by omega); simp only [List.length_cons]; omega
            · have := ih l 0 h (by omega); simp only [List.length_cons]; omega
/-- What a step may turn. -/
structure Sd (s x : Md.Lx) : Prop where
  inp : x.inp = s.inp
  room : x.room = s.room
  gt : s.pos < x.pos
  le : x.pos ≤ s.inp.length + 1
  le2 : x.done = false → x.pos ≤ s.inp.length
  text : x.text.length ≤ s.text.length + 10 * (x.pos - s.pos)
  out : x.out.length ≤ s.out.length + 6
  last : s.last.length ≤ 10000000000 → x.last.length ≤ 10000000000
  dat : x.wt ≤ s.wt + 40 * (x.pos - s.pos)
theorem Sd.of {x : Md.Lx} (h : Bd (s.adv 1) x) : Sd s x := by
  have h1 : s.pos + 1 ≤ x.pos := h.ge
  have h2 := h.text
  have h3 : (s.adv 1).pos = s.pos + 1 := rfl
  have h4 : (s.adv 1).text = s.text := rfl
  have h5 : x.out.length ≤ s.out.length + 2 := h.out
  have h6 : x.pos ≤ s.inp.length := h.le
  have h7 := h.dat
  rw [adv_wt, h3] at h7
  rw [h3, h4] at h2
  exact ⟨h.inp, h.room, by omega, by omega, fun _ => by omega, by omega, by omega, h.last, by omega⟩
theorem Sd.fl {x : Md.Lx} (h : Bd (s.adv 1).flush x) : Sd s x := by
  have h1 := h.ge
  rw [flush_pos] at h1
  have h3 : (s.adv 1).pos = s.pos + 1 := rfl
  rw [h3] at h1
  have h2 := h.text
  rw [flush_text, flush_pos, h3] at h2
  have h5 := h.out
  have h7 := flush_out (s := s.adv 1)
  have h4 : (s.adv 1).out = s.out := rfl
  rw [h4] at h7
  have h6 := h.le
  rw [flush_inp] at h6
  have h8 : (s.adv 1).inp = s.inp := rfl
  rw [h8] at h6
  simp only [List.length_nil] at h2
  have h9 := h.dat
  have hw := flush_wt (s := s.adv 1)
  rw [adv_wt] at hw
  rw [flush_pos, h3] at h9
  exact ⟨by rw [h.inp, flush_inp]; rfl, by rw [h.room, flush_room]; rfl, by omega, by omega, fun _ => h6, by omega, by omega, fun hl => h.last (by rw [flush_last]; exact hl), by omega⟩
theorem Sd.script (hp : s.pos < s.inp.length) (hl : s.inp.length ≤ 1000000000) : Sd s (s.adv 1).flush.script := by
  have hp1 : (s.adv 1).flush.pos ≤ (s.adv 1).flush.inp.length := by rw [flush_pos, flush_inp]; exact hp
  have hl1 : (s.adv 1).flush.inp.length ≤ 1000000000 := by rw [flush_inp]; exact hl
  unfold Md.Lx.script
  split
  · exact Sd.fl (Bd.close hp1 hl1)
  · rename_i hx
    have hin := in_exact (s := (s.adv 1).flush) 3 [33, 45, 45] (by simpa using hx) rfl hp1
    dsimp only
    have e1 : (((s.adv 1).flush.say [60, 33, 45, 45]).adv 3).rest = ((s.adv 1).flush.adv 3).rest := rfl
    have e2 : (s.adv 1).flush.last = s.last := by rw [flush_last]; rfl
    have hq := scriptGo_le (s.adv 1).flush.last _ (((s.adv 1).flush.say [60, 33, 45, 45]).adv 3).rest 2 false (Nat.le_refl _)
    rw [e1] at hq ⊢
    have hr := rest_len (s := (s.adv 1).flush.adv 3)
    have e3 : ((s.adv 1).flush.adv 3).inp = s.inp := by show (s.adv 1).flush.inp = _; rw [flush_inp]; rfl
    have e4 : ((s.adv 1).flush.adv 3).pos = s.pos + 1 + 3 := by show (s.adv 1).flush.pos + 3 = _; rw [flush_pos]; rfl
    rw [e3, e4] at hr hin
    generalize Md.scriptGo (s.adv 1).flush.last ((s.adv 1).flush.adv 3).rest 2 false = q at *
    obtain ⟨q1, q2, q3⟩ := q
    dsimp only at hq ⊢
    have hf1 := filter_le [60, 33, 45, 45]
    have hf2 := filter_le q1
    simp only [List.length_cons, List.length_nil] at hf1
    have y1 : (((((s.adv 1).flush.say [60, 33, 45, 45]).adv 3).say q1).adv q2).inp = s.inp := e3
    have y2 : (((((s.adv 1).flush.say [60, 33, 45, 45]).adv 3).say q1).adv q2).pos = s.pos + 4 + q2 := by show ((s.adv 1).flush.adv 3).pos + q2 = _; rw [e4]
    have y3 : (((((s.adv 1).flush.say [60, 33, 45, 45]).adv 3).say q1).adv q2).text.length ≤ 4 + q1.length := by
      show (((s.adv 1).flush.text ++ _) ++ _).length ≤ _
      rw [flush_text, List.length_append, List.length_append, List.length_nil]; omega
    have y4 : (((((s.adv 1).flush.say [60, 33, 45, 45]).adv 3).say q1).adv q2).out.length ≤ s.out.length + 1 := flush_out (s := s.adv 1)
    have y5 : (((((s.adv 1).flush.say [60, 33, 45, 45]).adv 3).say q1).adv q2).last = s.last := e2
    have y6 : (((((s.adv 1).flush.say [60, 33, 45, 45]).adv 3).say q1).adv q2).room = s.room := by show (s.adv 1).flush.room = _; rw [flush_room]; rfl
    have y7 : (((((s.adv 1).flush.say [60, 33, 45, 45]).adv 3).say q1).adv q2).wt ≤ s.wt + 4 * (4 + q1.length) := by
      have hw := flush_wt (s := s.adv 1)
      rw [adv_wt] at hw
      unfold Md.Lx.wt at hw ⊢
      have e : (((((s.adv 1).flush.say [60, 33, 45, 45]).adv 3).say q1).adv q2).out = (s.adv 1).flush.out := rfl
      rw [e]; omega
    generalize ((((s.adv 1).flush.say [60, 33, 45, 45]).adv 3).say q1).adv q2 = y at *
    split
    · have hc := Bd.close (s := y.flush) (by rw [flush_pos, flush_inp, y1, y2]; omega) (by rw [flush_inp, y1]; exact hl)
      have c1 := hc.ge
      have c2 := hc.le
      have c3 := hc.text
      have c4 := hc.out
      have c5 := flush_out (s := y)
      have c6 := hc.dat
      have c7 := flush_wt (s := y)
      rw [flush_pos, y2] at c6
      rw [flush_pos, y2] at c1
      rw [flush_inp, y1] at c2
      rw [flush_text, flush_pos, y2] at c3
      simp only [List.length_nil] at c3
      exact ⟨by rw [hc.inp, flush_inp, y1], by rw [hc.room, flush_room, y6], by omega, by omega, fun _ => c2, by omega, by omega, fun h => hc.last (by rw [flush_last, y5]; exact h), by omega⟩
    · exact ⟨y1, y6, by omega, by omega, fun _ => by omega, by omega, by omega, fun h => by rw [y5]; exact h, by omega⟩
end Go.Proofs.YticnenofiibpgaaDoor.Code
/- What the lexer's step does. -/
namespace Go.Proofs.YticnenofiibpgaaDoor.Code
open Go.Dm Go.Dm.C
set_option linter.unusedSimpArgs false
set_option linter.unusedVariables false
set_option linter.unnecessarySimpa false
set_option maxRecDepth 10000
attribute [local irreducible] Go.Dm.F Go.Dm.RS Go.Dm.Y Go.Dm.FD Go.Dm.FZ1 Go.Dm.Hold
variable {id : Nat} {s : Md.Lx} {g : Nat × Nat} {cs : List Ck}
def stepEnd : DC := match c_lex_Lexer_step.body with
  | .seq _ (.seq _ e) => e
  | _ => .skip
def stepFin (x : Md.Lx) : Md.Lx := if x.out = [] ∧ x.text ≠ [] ∧ (x.pk 0 = 60 ∨ x.pk 0 = -1) then x.flush else x
def stepMid (s : Md.Lx) : Md.Lx :=
  if s.pk 0 = -1 then { (s.adv 1).flush with done := true }
  else if s.pk 0 = 38 ∧ (s.way = 0 ∨ s.way = 1) then refA (s.adv 1) false
  else if s.pk 0 = 60 ∧ s.way = 0 then (s.adv 1).flush.open_
  else if s.pk 0 = 60 ∧ (s.way = 1 ∨ s.way = 2) then (s.adv 1).flush.close
  else if s.pk 0 = 60 ∧ s.way = 3 then (s.adv 1).flush.script
  else if s.pk 0 = 0 ∧ s.way = 0 then (s.adv 1).say [0]
  else if s.pk 0 = 0 then (s.adv 1).say [65533]
  else ((s.adv 1).adv ((s.adv 1).rest.takeWhile Md.plainSign).length).say (s.pk 0 :: (s.adv 1).rest.takeWhile Md.plainSign)
theorem step_eq : s.step = stepFin (stepMid s) := rfl
set_option maxHeartbeats 1000000 in
theorem stepEnd_R {x y : Md.Lx} {R : List Ck} {es : List En} {cs2 : Nat × Nat → List Ck} (hu : Upd (LX id x g) (fun a => LX id x.flush a) cs cs2) (hk : ∀ a, KK (cs2 a) (LX id x.flush a :: R)) (hm : KK cs (LX id x g :: R)) (hsub : Dm.Sub es [(0, .ptr id 0)]) (he : stepFin x = y)
    (hb : x.inp.length ≤ 1000000000 ∧ x.pos ≤ 100000000000 ∧ x.text.length ≤ 90000000000 ∧ x.out.length ≤ 1000000000) :
    RR D [It.code stepEnd] ⟨151, es, [], none⟩ cs (Fin D (fun v cs' => Hold (∃ a, v = .tup [] ∧ LX id y a :: R = cs')) []) := by
  refine RR.weak _ ?_ hsub
  subst he
  dsimp only [ents]
  have hP : ∀ a, x.out = [] ∧ x.text ≠ [] ∧ (x.pk 0 = 60 ∨ x.pk 0 = -1) → Pst (fun cs' => Hold (∃ a, DV.tup [] = .tup [] ∧ LX id (stepFin x) a :: R = cs')) (cs2 a) := fun a h => by
    rw [stepFin, if_pos h]; exact Pst.mk (.mk ⟨a, rfl, rfl⟩) (hk a)
  have hN : ¬(x.out = [] ∧ x.text ≠ [] ∧ (x.pk 0 = 60 ∨ x.pk 0 = -1)) → Pst (fun cs' => Hold (∃ a, DV.tup [] = .tup [] ∧ LX id (stepFin x) a :: R = cs')) cs := fun h => by
    rw [stepFin, if_neg h]; exact Pst.mk (.mk ⟨g, rfl, rfl⟩) hm
  have hme : Me (LX id x g) cs := Me.mem' hu.mem'
  unfold stepEnd
  dsimp only [c_lex_Lexer_step]
  repeat' first | (show LD _ _ _ _; first | exact LX.ldText hme) | (apply RR.lxOut; exact rfl; exact rfl; exact rfl; exact hme; refine fun _ => ?_) | (show FC _ _ _ _ _; first | exact peek0_F hme ⟨hb.1, hb.2.1⟩ | exact flush_F hu hb.2.2) | (refine fun (hc : _ = _) => ?_; (try simp only [BB] at hc); (try (first | contradiction | (exfalso; omega)))) | exact arI | refine Pst.mk ⟨?_, rfl⟩ kk | constructor | (refine fun _ _ (hq : Hold _) => ?_; replace hq := hq.out; obtain ⟨_, rfl, rfl⟩ := hq) | (refine fun _ _ (hq : Hold _) => ?_; replace hq := hq.out; obtain ⟨_, _, rfl, rfl⟩ := hq) | rintro _ _ ⟨rfl, rfl⟩ | rintro _ _ ⟨_, rfl, rfl⟩ | rintro _ _ ⟨_, _, rfl, rfl⟩ | (refine fun (hc : _ = _) => ?_; (try simp only [BB] at hc)) | refine fun (_ : Nat) => ?_ | refine fun (_ : _ ≤ _) => ?_ | refine fun (_ : _ < _) => ?_
  all_goals
    have hl : ∀ l : { l : List (Md.Tok × Nat) // l.map Prod.fst = x.out }, (l.1.length : Int) = x.out.length := fun l => by have := congrArg List.length l.2; rw [List.length_map] at this; omega
    have hO : x.out = [] ↔ x.out.length = 0 := List.length_eq_zero_iff.symm
    have hT : x.text = [] ↔ x.text.length = 0 := List.length_eq_zero_iff.symm
  · rename_i l _ _ _
    have := hl l
    exact hP _ ⟨hO.2 (by omega), fun h => by have := hT.1 h; omega, hc.2⟩
  · rename_i l _ _
    have := hl l
    exact hN fun h => by
      have h1 := hO.1 h.1
      have h2 : x.text.length ≠ 0 := fun e => h.2.1 (hT.2 e)
      have h3 := hc ⟨by omega, by omega⟩
      exact h.2.2.elim h3.1 h3.2
  · rename_i l _ _ _
    have := hl l
    exact hP _ ⟨hO.2 (by omega), fun h => by have := hT.1 h; omega, .inl (hc.2.resolve_right (fun h => h))⟩
  · rename_i l h5 _
    have := hl l
    exact hN fun h => by
      have h1 := hO.1 h.1
      have h2 : x.text.length ≠ 0 := fun e => h.2.1 (hT.2 e)
      exact h5 (by omega) (by omega)
theorem plain_cons {r : Int} {l : List Int} : (r :: l).takeWhile Md.plainSign = if r = 38 ∨ r = 60 ∨ r = 0 then [] else r :: l.takeWhile Md.plainSign := by
  simp only [List.takeWhile_cons, Md.plainSign]
  by_cases h1 : r = 38
  · simp [h1]
  · by_cases h2 : r = 60
    · simp [h2]
    · by_cases h3 : r = 0
      · simp [h3]
      · simp [h1, h2, h3]
def stepA : DC := match c_lex_Lexer_step.body with
  | .seq a (.seq _ _) => a
  | _ => .skip
def stepB : DC := match c_lex_Lexer_step.body with
  | .seq _ (.seq b _) => b
  | _ => .skip
attribute [local irreducible] stepEnd
set_option maxHeartbeats 1000000 in
theorem step_F {cs2 : Nat × Nat → List Ck} (hu : Upd (LX id s g) (fun a => LX id s.step a) cs cs2) (hb : MB s) (ht : s.text.length ≤ 50000000000 ∧ s.out.length ≤ 1000) : F D 55 [.ptr id 0] cs (fun v cs' => Hold (∃ a, v = .tup [] ∧ cs2 a = cs')) := by
  rw [step_eq] at hu
  refine F.atG hu fun R => F.of (body := .seq stepA (.seq stepB stepEnd)) rfl (by with_unfolding_all rfl) rfl ?_
  dsimp only [stepA, stepB, c_lex_Lexer_step]
  have m1 : s.pk 0 ≠ -1 → MB (s.adv 1) := fun h => hb.adv (n := 1) (in_adv1 h)
  have mf : s.pk 0 ≠ -1 → MB (s.adv 1).flush := fun h => (m1 h).flush (Nat.le_trans ht.2 (by decide))
  have tf : (s.adv 1).flush.text.length ≤ 60000000000 ∧ (s.adv 1).flush.out.length ≤ 900000 := ⟨by rw [flush_text]; simp, by
    have := flush_out (s := s.adv 1)
    have h2 : (s.adv 1).out = s.out := rfl
    rw [h2] at this; omega⟩
  have ew : (s.adv 1).way = s.way := rfl
  have hbt := hb.text
  have hbo := hb.out
  have hbl := hb.len
  have hbp := hb.pos
  repeat' first | (show LD _ _ _ _; first | exact LX.ldPos kk | exact LX.ldWay kk | exact LX.ldLast kk | exact LX.ldRoom kk | exact LX.ldDone kk | exact LX.ldText kk) | (apply RR.lxIn; exact rfl; exact rfl; exact rfl; exact kk; refine fun _ => ?_) | (apply RR.lxOut; exact rfl; exact rfl; exact rfl; exact kk; refine fun _ => ?_) | (apply RR.storeS; exact rfl; exact rfl; first | exact LX.stPos 1 rfl kk | exact LX.stPos 2 rfl kk | exact LX.stPos 3 rfl kk | exact LX.stPos 6 rfl kk | exact LX.stPos 7 rfl kk | exact LX.stPos _ rfl kk | exact LX.stPos2 1 _ kk | exact LX.stPos2 2 _ kk | exact LX.stWay kk | exact LX.stLast kk | exact LX.stRoom kk | exact LX.stDone kk; exact rfl) | (show FC _ _ _ _ _; first | exact next_F kk (by exact hb.b2) | exact flush_F kk (by first | omega | ((simp only [Md.Lx.adv, Md.Lx.say, Md.Lx.clr, List.nil_append, List.length_append, List.length_cons, List.length_nil]); omega)) | exact reference_F kk (by first | omega | ((simp only [Md.Lx.adv, Md.Lx.say, Md.Lx.clr, List.nil_append, List.length_append, List.length_cons, List.length_nil]); omega)) | exact open_F kk (by exact mf (by omega)) | exact close_F kk (by exact mf (by omega)) | exact script_F kk (by exact mf (by omega)) (by exact tf) | exact say_F rfl kk kk (by first | omega | ((simp only [Md.Lx.adv, Md.Lx.say, Md.Lx.clr, List.nil_append, List.length_append, List.length_cons, List.length_nil]); omega))) | (refine fun _ _ (hq : Hold _) => ?_; replace hq := hq.out; obtain ⟨_, ⟨_, rfl⟩, rfl⟩ := hq) | (refine fun (hc : _ = _) => ?_; (try simp only [BB] at hc); (try (first | contradiction | (exfalso; omega)))) | (refine Arith.mk ?_; (try intro _); simp only [Md.Lx.adv, Md.Lx.say, Md.Lx.clr, List.nil_append, List.length_append, List.length_cons, List.length_nil]; omega) | exact arI | refine Pst.mk ⟨?_, rfl⟩ kk | constructor | (refine fun _ _ (hq : Hold _) => ?_; replace hq := hq.out; obtain ⟨_, rfl, rfl⟩ := hq) | (refine fun _ _ (hq : Hold _) => ?_; replace hq := hq.out; obtain ⟨_, _, rfl, rfl⟩ := hq) | rintro _ _ ⟨rfl, rfl⟩ | rintro _ _ ⟨_, rfl, rfl⟩ | rintro _ _ ⟨_, _, rfl, rfl⟩ | (refine fun (hc : _ = _) => ?_; (try simp only [BB] at hc)) | refine fun (_ : Nat) => ?_ | refine fun (_ : _ ≤ _) => ?_ | refine fun (_ : _ < _) => ?_
  · refine (stepEnd_R kk (fun _ => kk) kk (by exact ⟨rfl, trivial⟩) ?_ ?_).sound
    · rw [stepMid, if_pos (by omega)]
    · have h1 := flush_out (s := s.adv 1)
      have e : (s.adv 1).out = s.out := rfl
      rw [e] at h1
      show (s.adv 1).flush.inp.length ≤ _ ∧ (s.adv 1).flush.pos ≤ _ ∧ (s.adv 1).flush.text.length ≤ _ ∧ (s.adv 1).flush.out.length ≤ _
      rw [flush_inp, flush_pos, flush_text]
      exact ⟨hbl, by show s.pos + 1 ≤ _; omega, by simp, by omega⟩
  · refine (stepEnd_R kk (fun _ => kk) kk (by exact ⟨rfl, trivial⟩) ?_ ?_).sound
    · rw [stepMid, if_neg (fun h => by omega), if_pos (by omega)]
    · have h2 := refer_facts false (s.adv 1).rest
      have h3 := rest_len (s := s.adv 1)
      have h4 := filter_le (Md.refer false (s.adv 1).rest).1
      simp only [refA, Md.Lx.adv, Md.Lx.say, List.length_append] at h2 h3 h4 ⊢; omega
  · skip
    have hsd := Sd.fl (s := s) (Bd.open_ (mf (by omega)).pos (mf (by omega)).len)
    refine (stepEnd_R kk (fun _ => kk) kk (by exact ⟨rfl, trivial⟩) ?_ ?_).sound
    · rw [stepMid, if_neg (fun h => by omega), if_neg (fun h => by omega), if_pos (by omega)]
    · rw [hsd.inp]; have h1 := hsd.le; have h2 := hsd.text; have h3 := hsd.out; omega
  · skip
    have hsd := Sd.fl (s := s) (Bd.close (mf (by omega)).pos (mf (by omega)).len)
    refine (stepEnd_R kk (fun _ => kk) kk (by exact ⟨rfl, trivial⟩) ?_ ?_).sound
    · rw [stepMid, if_neg (fun h => by omega), if_neg (fun h => by omega), if_neg (fun h => by omega), if_pos (by omega)]
    · rw [hsd.inp]; have h1 := hsd.le; have h2 := hsd.text; have h3 := hsd.out; omega
  · skip
    have hsd := Sd.script (s := s) (in_pk (n := 0) (by omega)) hbl
    refine (stepEnd_R kk (fun _ => kk) kk (by exact ⟨rfl, trivial⟩) ?_ ?_).sound
    · rw [stepMid, if_neg (fun h => by omega), if_neg (fun h => by omega), if_neg (fun h => by omega), if_neg (fun h => by omega), if_pos (by omega)]
    · rw [hsd.inp]; have h1 := hsd.le; have h2 := hsd.text; have h3 := hsd.out; omega
  · skip
    refine (stepEnd_R kk (fun _ => kk) kk (by exact ⟨rfl, trivial⟩) ?_ ?_).sound
    · rw [stepMid, if_neg (fun h => by omega), if_neg (fun h => by omega), if_neg (fun h => by omega), if_neg (fun h => by omega), if_neg (fun h => by omega), if_pos (by omega)]
    · simp only [Md.Lx.adv, Md.Lx.say, List.length_append]; have := filter_le [0]; rw [List.length_cons, List.length_nil] at this; omega
  · skip
    refine (stepEnd_R kk (fun _ => kk) kk (by exact ⟨rfl, trivial⟩) ?_ ?_).sound
    · rw [stepMid, if_neg (fun h => by omega), if_neg (fun h => by omega), if_neg (fun h => by omega), if_neg (fun h => by omega), if_neg (fun h => by omega), if_neg (fun h => by omega), if_pos (by omega)]
    · simp only [Md.Lx.adv, Md.Lx.say, List.length_append]; have := filter_le [65533]; rw [List.length_cons, List.length_nil] at this; omega
  rename_i hA hB hC hD hE hF t0 _ tt0
  have h0 : s.pos + 0 < s.inp.length := in_pk (n := 0) (by omega)
  have hmid : stepMid s = ((s.adv 1).adv ((s.adv 1).rest.takeWhile Md.plainSign).length).say (s.pk 0 :: (s.adv 1).rest.takeWhile Md.plainSign) := by
    rw [stepMid, if_neg (fun h => by omega), if_neg (fun h => by omega), if_neg (fun h => by omega), if_neg (fun h => by omega), if_neg (fun h => by omega), if_neg (fun h => by omega), if_neg (fun h => by omega)]
  rw [hmid]
  refine RS.loopW (α := Nat × Nat × List Int) (fun a => [(0, .ptr id 0)]) (fun a => LX id ((s.adv a.1).say a.2.2) (g.1, a.2.1) :: R)
    (fun a => a.2.2 ++ (s.adv a.1).rest.takeWhile Md.plainSign = s.pk 0 :: (s.adv 1).rest.takeWhile Md.plainSign ∧ a.2.2.length = a.1 ∧ s.pos + a.1 ≤ s.inp.length) (fun a => s.inp.length - (s.pos + a.1)) (1, tt0, [s.pk 0]) ⟨rfl, rfl, by dsimp only; omega⟩ ⟨rfl, trivial⟩ (.drop .refl) ?_
  clear hA hB hC hD hE hF hc m1 mf tf hmid
  have hn := hb.nn
  rintro ⟨i, tt, acc⟩ ⟨k1, k2, k3⟩ ih
  dsimp only [ents] at *
  (have hst := fun h => rest_adv_cons (s := s) (i := i) h; have hnil := fun h => rest_adv_nil (s := s) (i := i) h; have hpn := fun h => pk_out (s := s) (i := i) h; have hpi := fun h => pk_in (s := s) (i := i) hn h)
  have hfl := filter_le acc
  repeat' first | (show FC _ _ _ _ _; first | exact next_F kk (by first | omega | ((simp only [Md.Lx.adv, Md.Lx.say, Md.Lx.clr, List.nil_append, List.length_append, List.length_cons, List.length_nil]); omega)) | exact peek0_F kk (by first | omega | ((simp only [Md.Lx.adv, Md.Lx.say, Md.Lx.clr, List.nil_append, List.length_append, List.length_cons, List.length_nil]); omega)) | exact say_F rfl kk kk (by first | omega | ((simp only [Md.Lx.adv, Md.Lx.say, Md.Lx.clr, List.nil_append, List.length_append, List.length_cons, List.length_nil]); omega))) | (refine fun (hc : _ = _) => ?_; (try simp only [BB] at hc); (try (first | contradiction | (exfalso; omega)))) | exact arI | refine Pst.mk ⟨?_, rfl⟩ kk | constructor | (refine fun _ _ (hq : Hold _) => ?_; replace hq := hq.out; obtain ⟨_, rfl, rfl⟩ := hq) | (refine fun _ _ (hq : Hold _) => ?_; replace hq := hq.out; obtain ⟨_, _, rfl, rfl⟩ := hq) | rintro _ _ ⟨rfl, rfl⟩ | rintro _ _ ⟨_, rfl, rfl⟩ | rintro _ _ ⟨_, _, rfl, rfl⟩ | (refine fun (hc : _ = _) => ?_; (try simp only [BB] at hc)) | refine fun (_ : Nat) => ?_ | refine fun (_ : _ ≤ _) => ?_ | refine fun (_ : _ < _) => ?_
  all_goals (try simp only [pk_adv, pk_say, Nat.add_zero, adv_adv, say_say, say_adv, pk_clr, adv_clr] at *)
  · have hend : (s.adv i).rest.takeWhile Md.plainSign = [] := by
      by_cases h : s.pos + i < s.inp.length
      · rw [hst h, plain_cons, if_pos]
        have := hpi h
        omega
      · rw [hnil (by omega)]; rfl
    rw [hend, List.append_nil] at k1
    refine (stepEnd_R kk (fun _ => kk) kk (by exact ⟨rfl, trivial⟩) ?_ ?_).sound
    · rw [← k1]
      have e : 1 + ((s.adv 1).rest.takeWhile Md.plainSign).length = i := by rw [← k2, k1, List.length_cons]; omega
      rw [e]
    · simp only [Md.Lx.adv, Md.Lx.say, List.length_append]; omega
  · have hlt : s.pos + i < s.inp.length := by by_cases h : s.pos + i < s.inp.length; exact h; have := hpn (by omega); omega
    rw [hst hlt, plain_cons, if_neg (by omega)] at k1
    exact ih _ _ (i + 1, _, acc ++ [s.pk i]) ⟨by rw [← k1]; simp, by simp [k2], by dsimp only; omega⟩ (by dsimp only; omega) ⟨rfl, trivial⟩ kk
end Go.Proofs.YticnenofiibpgaaDoor.Code
/- What the lexer's Next does; its tokens gone through. -/
namespace Go.Proofs.YticnenofiibpgaaDoor.Code
open Go.Dm Go.Dm.C
set_option linter.unusedSimpArgs false
set_option linter.unusedVariables false
set_option linter.unnecessarySimpa false
set_option maxRecDepth 10000
attribute [local irreducible] Go.Dm.F Go.Dm.RS Go.Dm.Y Go.Dm.FD Go.Dm.FZ1 Go.Dm.Hold
variable {id : Nat} {s : Md.Lx} {g : Nat × Nat} {cs : List Ck}
/-- What holds of a lexer between its tokens. -/
structure NI (s : Md.Lx) : Prop where
  len : s.inp.length ≤ 1000000000
  nn : ∀ r ∈ s.inp, 0 ≤ r
  pos : s.pos ≤ s.inp.length + 1
  pos2 : s.done = false → s.pos ≤ s.inp.length
  text : s.text.length ≤ 10 * s.pos
  out : s.out.length ≤ 100
  last : s.last.length ≤ 10000000000
theorem NI.mb (h : NI s) (hd : s.done = false) : MB s := ⟨h.len, h.pos2 hd, by have := h.text; have := h.pos; have := h.len; omega, by have := h.out; omega, h.last, h.nn⟩
theorem stepMid_sd (h : NI s) (hd : s.done = false) : Sd s (stepMid s) := by
  have mb := h.mb hd
  unfold stepMid
  split
  · refine ⟨flush_inp, flush_room, ?_, ?_, (fun h => (by cases h)), ?_, ?_, (fun hl => ?_), ?_⟩
    · show s.pos < (s.adv 1).flush.pos; rw [flush_pos]; exact Nat.lt_succ_self _
    · show (s.adv 1).flush.pos ≤ _; rw [flush_pos]; have := mb.pos; show s.pos + 1 ≤ _; omega
    · show (s.adv 1).flush.text.length ≤ _; rw [flush_text]; simp
    · have := flush_out (s := s.adv 1); show (s.adv 1).flush.out.length ≤ _
      have e : (s.adv 1).out = s.out := rfl
      rw [e] at this; omega
    · show (s.adv 1).flush.last.length ≤ _; rw [flush_last]; exact hl
    · have := flush_wt (s := s.adv 1)
      rw [adv_wt] at this
      show (s.adv 1).flush.wt ≤ _; omega
  · rename_i h1
    have hp : s.pos + 0 < s.inp.length := in_pk (n := 0) (by omega)
    have mf : MB (s.adv 1).flush := (mb.adv (n := 1) (in_adv1 (by omega))).flush (by have := h.out; show s.out.length ≤ _; omega)
    split
    · have h2 := refer_facts false (s.adv 1).rest
      have h3 := rest_len (s := s.adv 1)
      have e1 : (s.adv 1).inp = s.inp := rfl
      have e2 : (s.adv 1).pos = s.pos + 1 := rfl
      rw [e1, e2] at h3
      have h4 : Bd (s.adv 1) (refA (s.adv 1) false) := Bd.say (by rw [e1, e2]; omega) (by omega)
      exact Sd.of h4
    · split
      · exact Sd.fl (Bd.open_ mf.pos mf.len)
      · split
        · exact Sd.fl (Bd.close mf.pos mf.len)
        · split
          · exact Sd.script hp h.len
          · have hs : ∀ r : Int, Sd s ((s.adv 1).say [r]) := fun r => Sd.of (Bd.say (s := s.adv 1) (n := 0) (by show s.pos + 1 + 0 ≤ s.inp.length; omega) (by simp))
            split
            · exact hs 0
            · split
              · exact hs 65533
              · have hw : ((s.adv 1).rest.takeWhile Md.plainSign).length ≤ (s.adv 1).rest.length := (List.takeWhile_sublist _).length_le
                rw [rest_len] at hw
                have e1 : (s.adv 1).inp = s.inp := rfl
                have e2 : (s.adv 1).pos = s.pos + 1 := rfl
                rw [e1, e2] at hw
                exact Sd.of (Bd.say (by rw [e1, e2]; omega) (by simp; omega))
theorem step_sd (h : NI s) (hd : s.done = false) : Sd s s.step := by
  have h1 := stepMid_sd h hd
  rw [step_eq, stepFin]
  split
  · rename_i hx
    refine ⟨by rw [flush_inp, h1.inp], by rw [flush_room, h1.room], by rw [flush_pos]; exact h1.gt, by rw [flush_pos]; exact h1.le, fun h => by rw [flush_pos]; exact h1.le2 (by rw [flush_done] at h; exact h), by rw [flush_text]; simp, ?_, fun h => by rw [flush_last]; exact h1.last h, by have h2 := h1.dat; have h3 := flush_wt (s := stepMid s); rw [flush_pos]; omega⟩
    have := flush_out (s := stepMid s)
    rw [hx.1] at this; simp at this; omega
  · exact h1
theorem NI.step (h : NI s) (hd : s.done = false) (ho : s.out = []) : NI s.step := by
  have h1 := step_sd h hd
  have h2 := h1.out
  have h3 := h1.text
  have h4 := h.text
  have h5 := h1.gt
  rw [ho, List.length_nil] at h2
  exact ⟨by rw [h1.inp]; exact h.len, by rw [h1.inp]; exact h.nn, by rw [h1.inp]; exact h1.le, fun hd => by rw [h1.inp]; exact h1.le2 hd, by omega, by omega, h1.last h.last⟩
theorem step_left (h : NI s) (hd : s.done = false) : s.step.left < s.left := by
  have h1 := step_sd h hd
  have := h1.gt
  have := h.pos2 hd
  unfold Md.Lx.left
  rw [h1.inp]; omega
/-- On to where a token is ready. -/
def pull (s : Md.Lx) : Md.Lx := if h : s.out = [] ∧ s.done = false ∧ s.step.left < s.left then pull s.step else s
  termination_by s.left
  decreasing_by exact h.2.2
theorem pull_step (h : NI s) (hd : s.done = false) (ho : s.out = []) : pull s = pull s.step := by
  rw [pull, dif_pos ⟨ho, hd, step_left h hd⟩]
theorem pull_stop (h : s.out ≠ [] ∨ s.done = true) : pull s = s := by
  rw [pull, dif_neg (fun hx => h.elim (fun h => h hx.1) (fun h => by rw [hx.2.1] at h; cases h))]
def nextVal (x : Md.Lx) (tag : Nat) : DV := match x.out with
  | [] => .tup [encT (Md.Tok.zero, 0), .bool false]
  | t :: _ => .tup [encT (t, tag), .bool true]
def nextSt (x : Md.Lx) : Md.Lx := { x with out := x.out.tail }
theorem next1_F {R : List Ck} (hN : NI s) : F D 41 [.ptr id 0] (LX id s g :: R) (fun v cs' => Hold (∃ a tag, v = nextVal (pull s) tag ∧ LX id (nextSt (pull s)) a :: R = cs')) := by
  refine F.of rfl rfl rfl ?_
  repeat' first | exact arI | refine Pst.mk ⟨?_, rfl⟩ kk | constructor | (refine fun _ _ (hq : Hold _) => ?_; replace hq := hq.out; obtain ⟨_, rfl, rfl⟩ := hq) | (refine fun _ _ (hq : Hold _) => ?_; replace hq := hq.out; obtain ⟨_, _, rfl, rfl⟩ := hq) | rintro _ _ ⟨rfl, rfl⟩ | rintro _ _ ⟨_, rfl, rfl⟩ | rintro _ _ ⟨_, _, rfl, rfl⟩ | (refine fun (hc : _ = _) => ?_; (try simp only [BB] at hc)) | refine fun (_ : Nat) => ?_ | refine fun (_ : _ ≤ _) => ?_ | refine fun (_ : _ < _) => ?_
  rename_i r hr
  refine RS.loopW (α := Md.Lx × (Nat × Nat)) (fun a => [(0, .ptr id 0), (2, .ptr r 0), (3, .bool false)]) (fun a => .obj r (.cells [.int .i64 0, .str [], .lst 0 0 [], .bool false, .str [], .str [], .str [], .bool false, .bool false, .bool false] none) :: LX id a.1 a.2 :: R)
    (fun a => NI a.1 ∧ pull a.1 = pull s) (fun a => a.1.left) (s, g) ⟨hN, rfl⟩ ⟨rfl, rfl, rfl, trivial⟩ .refl ?_
  rintro ⟨x, g⟩ ⟨h1, h2⟩ ih
  dsimp only [ents] at *
  have hl0 : ∀ l : { l : List (Md.Tok × Nat) // l.map Prod.fst = x.out }, l.1.length = x.out.length := fun l => by have := congrArg List.length l.2; rwa [List.length_map] at this
  have ho : x.out.length = 0 → x.out = [] := List.eq_nil_of_length_eq_zero
  have hmb := fun h => h1.mb h
  have hxo := h1.out
  have hxt := h1.text
  have hxl := h1.len
  have hxp := h1.pos
  repeat' first | (show LD _ _ _ _; first | exact LX.ldPos kk | exact LX.ldWay kk | exact LX.ldLast kk | exact LX.ldRoom kk | exact LX.ldDone kk | exact LX.ldText kk) | (apply RR.lxIn; exact rfl; exact rfl; exact rfl; exact kk; refine fun _ => ?_) | (apply RR.lxOut; exact rfl; exact rfl; exact rfl; exact kk; refine fun _ => ?_) | (show FC _ _ _ _ _; first | exact step_F kk (by exact hmb (by assumption)) (by omega)) | (apply RR.storeS; exact rfl; exact rfl; exact LX.stOut kk (by rw [List.length_drop, hl0]; omega); exact rfl) | (refine fun (hc : _ = _) => ?_; (try simp only [BB] at hc); (try (first | contradiction | (exfalso; omega)))) | exact arI | refine Pst.mk ⟨?_, rfl⟩ kk | constructor | (refine fun _ _ (hq : Hold _) => ?_; replace hq := hq.out; obtain ⟨_, rfl, rfl⟩ := hq) | (refine fun _ _ (hq : Hold _) => ?_; replace hq := hq.out; obtain ⟨_, _, rfl, rfl⟩ := hq) | rintro _ _ ⟨rfl, rfl⟩ | rintro _ _ ⟨_, rfl, rfl⟩ | rintro _ _ ⟨_, _, rfl, rfl⟩ | (refine fun (hc : _ = _) => ?_; (try simp only [BB] at hc)) | refine fun (_ : Nat) => ?_ | refine fun (_ : _ ≤ _) => ?_ | refine fun (_ : _ < _) => ?_
  · rename_i l hlc
    have hx := ho (by have := hl0 l; omega)
    have e : nextSt x = x := by unfold nextSt; cases x; simp_all
    rw [← h2, pull_stop (.inr hc), e]
    exact Pst.mk (.mk ⟨g, 0, by rw [nextVal, hx]; rfl, rfl⟩) kk
  · rename_i l hlc _
    have hx := ho (by have := hl0 l; omega)
    exact ih _ _ (x.step, _) ⟨h1.step hc hx, by rw [← pull_step h1 hc hx]; exact h2⟩ (step_left h1 hc) ⟨rfl, rfl, rfl, trivial⟩ kk
  · rename_i l1 l2
    have := hl0 l1; have := hl0 l2
    exact Arith.mk fun _ => by omega
  · rename_i l1 l2 _ _ l3
    have := hl0 l1; have := hl0 l3
    exact Arith.mk fun _ => by omega
  · rename_i l1 l2 _ _ l3
    have h1l := hl0 l1
    have hne : x.out ≠ [] := fun e => by
      have h8 : x.out.length = 0 := by rw [e]; rfl
      omega
    obtain ⟨v2, hv2⟩ := l2
    obtain ⟨v3, hv3⟩ := l3
    clear hl0 h1l hc
    dsimp only
    rw [← h2, pull_stop (.inl hne)]
    obtain ⟨t, o, hto⟩ : ∃ t o, x.out = t :: o := by
      cases h : x.out with
      | nil => exact absurd h hne
      | cons t o => exact ⟨t, o, rfl⟩
    have e2 : (v2.getD (Int.toNat 0) default).1 = t := by
      rw [hto] at hv2
      cases v2 with
      | nil => cases hv2
      | cons a b => simp only [List.map_cons, List.cons.injEq] at hv2; exact hv2.1
    have e3 : (v3.drop (Int.toNat 1)).map Prod.fst = x.out.tail := by
      rw [List.map_drop, hv3, hto]; rfl
    unfold nextSt
    rw [← e3]
    refine Pst.mk (.mk ⟨g, (v2.getD (Int.toNat 0) default).2, ?_, rfl⟩) kk
    rw [nextVal, hto, ← e2]; rfl
theorem next_NI (h : NI s) : NI (pull s) ∧ ((pull s).out = [] → (pull s).done = true) := by
  suffices H : ∀ n (s : Md.Lx), s.left ≤ n → NI s → NI (pull s) ∧ ((pull s).out = [] → (pull s).done = true) from H _ s (Nat.le_refl _) h
  intro n
  induction n with
  | zero =>
    intro s hn h
    by_cases hx : s.out = [] ∧ s.done = false
    · have := step_left h hx.2; omega
    · have e : pull s = s := pull_stop (by by_cases h1 : s.out = []; (right; cases h2 : s.done; (exact absurd ⟨h1, h2⟩ hx); rfl); exact .inl h1)
      rw [e]
      refine ⟨h, fun h1 => ?_⟩
      cases h2 : s.done
      · exact absurd ⟨h1, h2⟩ hx
      · rfl
  | succ n ih =>
    intro s hn h
    by_cases hx : s.out = [] ∧ s.done = false
    · have := step_left h hx.2
      rw [pull_step h hx.2 hx.1]
      exact ih s.step (by omega) (h.step hx.2 hx.1)
    · have e : pull s = s := pull_stop (by by_cases h1 : s.out = []; (right; cases h2 : s.done; (exact absurd ⟨h1, h2⟩ hx); rfl); exact .inl h1)
      rw [e]
      refine ⟨h, fun h1 => ?_⟩
      cases h2 : s.done
      · exact absurd ⟨h1, h2⟩ hx
      · rfl
end Go.Proofs.YticnenofiibpgaaDoor.Code
/- Rounds from a heap of which less is asked. -/
namespace Go.Dm
variable {D : DProg}
theorem Y.from {l : Nat} {args : List DV} {cs cs2 : List Ck} {P : Bool → List Ck → Prop} (hs : ∀ h, Sat h cs → Sat h cs2) (hf : Y D l args cs2 P) : Y D l args cs P := fun h hh => hf h (hs h hh)
end Go.Dm
/- The lexer's tokens gone through; New, Way, Sections. -/
namespace Go.Proofs.YticnenofiibpgaaDoor.Code
open Go.Dm Go.Dm.C
set_option linter.unusedSimpArgs false
set_option linter.unusedVariables false
set_option linter.unnecessarySimpa false
set_option maxRecDepth 10000
attribute [local irreducible] Go.Dm.F Go.Dm.RS Go.Dm.Y Go.Dm.FD Go.Dm.FZ1 Go.Dm.Hold
variable {id : Nat} {s : Md.Lx} {g : Nat × Nat} {cs : List Ck}
theorem toks_done (ho : s.out = []) (hd : s.done = true) : s.toks = [] := by rw [Md.Lx.toks, ho, if_pos hd]; rfl
theorem clearOut (ho : s.out = []) : ({ s with out := [] } : Md.Lx) = s := by cases s; simp_all
theorem toks_step (h : NI s) (hd : s.done = false) (ho : s.out = []) : s.toks = s.step.toks := by
  have hl := step_left h hd
  conv => lhs; rw [Md.Lx.toks, ho, if_neg (by rw [hd]; simp)]
  rw [clearOut ho, dif_pos hl]; rfl
theorem toks_cons {t : Md.Tok} {o : List Md.Tok} (ho : s.out = t :: o) : s.toks = t :: ({ s with out := o } : Md.Lx).toks := by
  conv => lhs; rw [Md.Lx.toks, ho]
  conv => rhs; rw [Md.Lx.toks]
  rfl
theorem toks_pull (h : NI s) : s.toks = (pull s).toks := by
  suffices H : ∀ n (s : Md.Lx), s.left ≤ n → NI s → s.toks = (pull s).toks from H _ s (Nat.le_refl _) h
  intro n
  induction n with
  | zero =>
    intro s hn h
    by_cases hx : s.out = [] ∧ s.done = false
    · have := step_left h hx.2; omega
    · rw [pull_stop (by by_cases h1 : s.out = []; (right; cases h2 : s.done; (exact absurd ⟨h1, h2⟩ hx); rfl); exact .inl h1)]
  | succ n ih =>
    intro s hn h
    by_cases hx : s.out = [] ∧ s.done = false
    · have := step_left h hx.2
      rw [pull_step h hx.2 hx.1, toks_step h hx.2 hx.1]
      exact ih s.step (by omega) (h.step hx.2 hx.1)
    · rw [pull_stop (by by_cases h1 : s.out = []; (right; cases h2 : s.done; (exact absurd ⟨h1, h2⟩ hx); rfl); exact .inl h1)]
theorem NI.next (h : NI s) : NI (nextSt (pull s)) := by
  have h1 := (next_NI h).1
  exact ⟨h1.len, h1.nn, h1.pos, h1.pos2, h1.text, by show (pull s).out.tail.length ≤ 100; rw [List.length_tail]; have := h1.out; omega, h1.last⟩
theorem toks_out (s : Md.Lx) : s.toks = s.out ++ ({ s with out := [] } : Md.Lx).toks := by
  conv => lhs; rw [Md.Lx.toks]
  conv => rhs; rw [Md.Lx.toks]
  rfl
theorem toks_bd : ∀ (n : Nat) (x : Md.Lx), x.left ≤ n → NI x → x.out = [] → x.toks.length ≤ 6 * x.left ∧ Md.dl x.toks ≤ 4 * x.text.length + 40 * x.left := by
  intro n
  induction n with
  | zero =>
    intro x hl hN ho
    cases hd : x.done with
    | true => rw [toks_done ho hd]; exact ⟨Nat.zero_le _, Nat.zero_le _⟩
    | false => have := step_left hN hd; omega
  | succ n ih =>
    intro x hl hN ho
    cases hd : x.done with
    | true => rw [toks_done ho hd]; exact ⟨Nat.zero_le _, Nat.zero_le _⟩
    | false =>
      have h1 := step_left hN hd
      have h2 := step_sd hN hd
      have h3 := hN.step hd ho
      have hN2 : NI ({ x.step with out := [] } : Md.Lx) := ⟨h3.len, h3.nn, h3.pos, h3.pos2, h3.text, by show (0 : Nat) ≤ 100; omega, h3.last⟩
      have ht := toks_out x.step
      have hlt : ({ x.step with out := [] } : Md.Lx).left = x.step.left := rfl
      have hte : ({ x.step with out := [] } : Md.Lx).text = x.step.text := rfl
      have hoe : ({ x.step with out := [] } : Md.Lx).out = [] := rfl
      generalize ({ x.step with out := [] } : Md.Lx) = y at *
      obtain ⟨b1, b2⟩ := ih y (by rw [hlt]; omega) hN2 hoe
      rw [hlt] at b1 b2
      rw [hte] at b2
      rw [toks_step hN hd ho, ht]
      have h4 := h2.out
      have h5 := h2.dat
      have h6 := h2.gt
      have h7 := h2.le
      have h8 : x.step.left = x.inp.length + 1 - x.step.pos := by unfold Md.Lx.left; rw [h2.inp]
      have h9 : x.left = x.inp.length + 1 - x.pos := rfl
      unfold Md.Lx.wt at h5
      rw [ho] at h4 h5
      rw [Md.dl_nil] at h5
      simp only [List.length_nil] at h4
      have e : Md.dl (x.step.out ++ y.toks) = Md.dl x.step.out + Md.dl y.toks := by simp [Md.dl]
      rw [e, List.length_append]
      omega
/-- The tokens, gone through. -/
theorem tokens_it {l q : Nat} (I : List Md.Tok → List Ck → Prop) (E : List Ck → Prop)
    (hy : ∀ t tag ts s g cs, I (t :: ts) cs → Y D l [encT (t, tag)] (.obj q (.cells [.ptr id 0] none) :: LX id s g :: cs) (fun c cs' => Hold (∃ cs1, .obj q (.cells [.ptr id 0] none) :: LX id s g :: cs1 = cs' ∧ ((c = true ∧ I ts cs1) ∨ (c = false ∧ E cs1)))))
    (hN : NI s) (h0 : I s.toks cs) :
    F D 40 [.fn (.yield l) [] [], .ptr q 0] (.obj q (.cells [.ptr id 0] none) :: LX id s g :: cs) (fun v cs' => Hold (∃ s' g' cs1, .obj q (.cells [.ptr id 0] none) :: LX id s' g' :: cs1 = cs' ∧ (I [] cs1 ∨ E cs1))) := by
  refine F.of rfl rfl rfl ?_
  repeat' first | exact arI | refine Pst.mk ⟨?_, rfl⟩ kk | constructor | (refine fun _ _ (hq : Hold _) => ?_; replace hq := hq.out; obtain ⟨_, rfl, rfl⟩ := hq) | (refine fun _ _ (hq : Hold _) => ?_; replace hq := hq.out; obtain ⟨_, _, rfl, rfl⟩ := hq) | rintro _ _ ⟨rfl, rfl⟩ | rintro _ _ ⟨_, rfl, rfl⟩ | rintro _ _ ⟨_, _, rfl, rfl⟩ | (refine fun (hc : _ = _) => ?_; (try simp only [BB] at hc)) | refine fun (_ : Nat) => ?_ | refine fun (_ : _ ≤ _) => ?_ | refine fun (_ : _ < _) => ?_
  refine RS.loopW (α := Md.Lx × (Nat × Nat) × List Ck) (fun a => [(0, .fn (.yield l) [] []), (1, .ptr q 0)]) (fun a => .obj q (.cells [.ptr id 0] none) :: LX id a.1 a.2.1 :: a.2.2)
    (fun a => NI a.1 ∧ I a.1.toks a.2.2) (fun a => a.1.toks.length) (s, g, cs) ⟨hN, h0⟩ ⟨rfl, rfl, trivial⟩ .refl ?_
  rintro ⟨x, g, cs⟩ ⟨h1, h2⟩ ih
  dsimp only [ents] at *
  rw [toks_pull h1] at h2 ih
  cases hp : (pull x).out with
  | nil =>
    have ht := toks_done hp ((next_NI h1).2 hp)
    rw [ht] at h2
    repeat' first | (show FC _ _ _ _ _; exact F.perm (.swap ..) (next1_F h1)) | (refine fun _ _ (hq : Hold _) => ?_; replace hq := hq.out; obtain ⟨g2, tag, rfl, rfl⟩ := hq; rw [nextVal, hp]) | (refine fun (hc : _ = _) => ?_; (try simp only [BB] at hc); (try (first | contradiction | (exfalso; omega)))) | exact arI | refine Pst.mk ⟨?_, rfl⟩ kk | constructor | (refine fun _ _ (hq : Hold _) => ?_; replace hq := hq.out; obtain ⟨_, rfl, rfl⟩ := hq) | (refine fun _ _ (hq : Hold _) => ?_; replace hq := hq.out; obtain ⟨_, _, rfl, rfl⟩ := hq) | rintro _ _ ⟨rfl, rfl⟩ | rintro _ _ ⟨_, rfl, rfl⟩ | rintro _ _ ⟨_, _, rfl, rfl⟩ | (refine fun (hc : _ = _) => ?_; (try simp only [BB] at hc)) | refine fun (_ : Nat) => ?_ | refine fun (_ : _ ≤ _) => ?_ | refine fun (_ : _ < _) => ?_
    exact Pst.mkP (.mk ⟨_, g2, cs, rfl, .inl h2⟩) (.drop .refl) (.swap ..)
  | cons t o =>
    have ht := toks_cons hp
    rw [ht] at h2 ih
    have hn : ({ pull x with out := o } : Md.Lx) = nextSt (pull x) := by unfold nextSt; rw [hp]; rfl
    rw [hn] at h2 ih
    repeat' first | (show FC _ _ _ _ _; first | exact F.perm (.swap ..) (next1_F h1) | exact FC.yield (Y.from (fun h hs => (hs.sub (List.sublist_cons_self ..)).perm (.swap ..)) (hy t _ _ (nextSt (pull x)) _ cs h2))) | (refine fun _ _ (hq : Hold _) => ?_; replace hq := hq.out; obtain ⟨g2, tag, rfl, rfl⟩ := hq; rw [nextVal, hp]) | (refine fun _ _ (hq : YPost _ _ _) => ?_; obtain ⟨hq⟩ := hq; replace hq := hq.out; obtain ⟨cs1, rfl, hq⟩ := hq) | (refine fun (hc : _ = _) => ?_; (try simp only [BB] at hc); (try (first | contradiction | (exfalso; omega)))) | exact arI | refine Pst.mk ⟨?_, rfl⟩ kk | constructor | (refine fun _ _ (hq : Hold _) => ?_; replace hq := hq.out; obtain ⟨_, rfl, rfl⟩ := hq) | (refine fun _ _ (hq : Hold _) => ?_; replace hq := hq.out; obtain ⟨_, _, rfl, rfl⟩ := hq) | rintro _ _ ⟨rfl, rfl⟩ | rintro _ _ ⟨_, rfl, rfl⟩ | rintro _ _ ⟨_, _, rfl, rfl⟩ | (refine fun (hc : _ = _) => ?_; (try simp only [BB] at hc)) | refine fun (_ : Nat) => ?_ | refine fun (_ : _ ≤ _) => ?_ | refine fun (_ : _ < _) => ?_
    · have hq' := hq.resolve_left (fun h => by rw [h.1] at hc; simp at hc)
      exact Pst.mk (.mk ⟨_, g2, cs1, rfl, .inr hq'.2⟩) .refl
    · have hq' := hq.resolve_right (fun h => by rw [h.1] at hc; cases hc)
      exact ih _ _ (nextSt (pull x), g2, cs1) ⟨h1.next, hq'.2⟩ (by simp) ⟨rfl, rfl, trivial⟩ .refl
section
variable {R : List Ck}
theorem tokens_F : F D 24 [.ptr id 0] R (fun v cs' => Hold (∃ q, v = .fn (.func 40) [] [.ptr q 0] ∧ .obj q (.cells [.ptr id 0] none) :: R = cs')) := by
  refine F.of rfl rfl rfl ?_
  repeat' first | exact arI | refine Pst.mk ⟨?_, rfl⟩ kk | constructor | (refine fun _ _ (hq : Hold _) => ?_; replace hq := hq.out; obtain ⟨_, rfl, rfl⟩ := hq) | (refine fun _ _ (hq : Hold _) => ?_; replace hq := hq.out; obtain ⟨_, _, rfl, rfl⟩ := hq) | rintro _ _ ⟨rfl, rfl⟩ | rintro _ _ ⟨_, rfl, rfl⟩ | rintro _ _ ⟨_, _, rfl, rfl⟩ | (refine fun (hc : _ = _) => ?_; (try simp only [BB] at hc)) | refine fun (_ : Nat) => ?_ | refine fun (_ : _ ≤ _) => ?_ | refine fun (_ : _ < _) => ?_
  exact Pst.mk (.mk ⟨_, rfl, rfl⟩) kk
theorem new_F {t z : Nat} {b : List UInt8} (hz : z = zOf t 1) (hl : b.length ≤ 1000000000) : F D 22 [.lst t z (bytesV b)] R (fun v cs' => Hold (∃ q, v = .ptr q 0 ∧ LX q (Md.Lx.new b) (0, 0) :: R = cs')) := by
  refine F.of rfl rfl rfl ?_
  repeat' first | exact decode_F hz (by omega) | exact arI | refine Pst.mk ⟨?_, rfl⟩ kk | constructor | (refine fun _ _ (hq : Hold _) => ?_; replace hq := hq.out; obtain ⟨_, rfl, rfl⟩ := hq) | (refine fun _ _ (hq : Hold _) => ?_; replace hq := hq.out; obtain ⟨_, _, rfl, rfl⟩ := hq) | rintro _ _ ⟨rfl, rfl⟩ | rintro _ _ ⟨_, rfl, rfl⟩ | rintro _ _ ⟨_, _, rfl, rfl⟩ | (refine fun (hc : _ = _) => ?_; (try simp only [BB] at hc)) | refine fun (_ : Nat) => ?_ | refine fun (_ : _ ≤ _) => ?_ | refine fun (_ : _ < _) => ?_
  rename_i w x hx
  exact Pst.of (fun h hs => LX.cls (s := Md.Lx.new b) (id := x) (to := 0) (tt := 0) (ti := w) (os := []) ((((hs.sub ((List.sublist_cons_self ..).cons_cons _)).nilOwn 10).nilOwn 1).perm ((((List.Perm.swap ..)).cons _).trans (.swap ..))) rfl) (.mk ⟨x, rfl, rfl⟩)
end
end Go.Proofs.YticnenofiibpgaaDoor.Code
/- Tokens in a list that is written into; token.Join. -/
namespace Go.Dm
set_option linter.unusedSimpArgs false
set_option linter.unusedVariables false
/-- The cells of tokens. -/
def cellsT (os : List (Md.Tok × Nat)) : List DV := os.flatMap fun o => (encT o).cells
theorem cellsT_len : ∀ os : List (Md.Tok × Nat), (cellsT os).length = os.length * 10
  | [] => rfl
  | o :: os => by
    have := cellsT_len os
    simp only [cellsT, List.flatMap_cons, List.length_append, List.length_cons] at *
    rw [this, show (encT o).cells.length = 10 from rfl]; omega
theorem cellsT_snoc (os : List (Md.Tok × Nat)) (o : Md.Tok × Nat) : cellsT (os ++ [o]) = cellsT os ++ (encT o).cells := by simp [cellsT]
theorem cellsT_group : ∀ os : List (Md.Tok × Nat), group (some 10) os.length (cellsT os) = os.map encT
  | [] => rfl
  | o :: os => by
    have e : cellsT (o :: os) = (encT o).cells ++ cellsT os := by simp [cellsT]
    have e1 : ((encT o).cells ++ cellsT os).take (Shape.size (some 10)) = (encT o).cells := List.take_left' rfl
    have e2 : ((encT o).cells ++ cellsT os).drop (Shape.size (some 10)) = cellsT os := List.drop_left' rfl
    rw [e]
    simp only [List.length_cons, group, List.map_cons]
    rw [e1, e2, cellsT_group os]; rfl
/-- A list of tokens that is written into. -/
abbrev mobj (id : Nat) (os : List (Md.Tok × Nat)) : Ck := .obj id (.cells (cellsT os) (some 10))
def mval (id : Nat) (os : List (Md.Tok × Nat)) : DV := if os = [] then .lst 0 0 [] else .arr id 10 0 os.length
def mpc (id : Nat) (os : List (Md.Tok × Nat)) : List Ck := if os = [] then [] else [mobj id os]
theorem mval_nil {id : Nat} : mval id [] = .lst 0 0 [] := rfl
theorem mpc_nil {id : Nat} : mpc id [] = [] := rfl
theorem mval_snoc {id : Nat} {os : List (Md.Tok × Nat)} {o : Md.Tok × Nat} : mval id (os ++ [o]) = .arr id 10 0 (os.length + 1) := by rw [mval, if_neg (by simp)]; simp
theorem mpc_snoc {id : Nat} {os : List (Md.Tok × Nat)} {o : Md.Tok × Nat} : mpc id (os ++ [o]) = [mobj id (os ++ [o])] := by rw [mpc, if_neg (by simp)]
theorem ldT {id off k : Nat} {os : List (Md.Tok × Nat)} {o : Md.Tok × Nat} {cs : List Ck} {v : DV} (hm : Me (mobj id (os ++ [o])) cs) (ho : off = os.length * 10 + k) (hv : (encT o).cells[k]? = some v) : LD cs none (.ptr id off) v :=
  .ptr hm (.one (by rw [cellsT_snoc, List.getElem?_append_right (by rw [cellsT_len]; omega), cellsT_len, ho, Nat.add_sub_cancel_left]; exact hv))
theorem stT {id off : Nat} {os : List (Md.Tok × Nat)} {o : Md.Tok × Nat} {d : Md.Str} {cs cs' : List Ck} (hu : Upd1 (mobj id (os ++ [o])) (mobj id (os ++ [({ o.1 with data := d }, o.2)])) cs cs') (ho : off = os.length * 10 + 4) : StS cs 1 id off (.str d) cs' := by
  refine ⟨fun h hs => ?_⟩
  have e := hs.obj (Me.mem' hu.mem)
  have hl : (cellsT (os ++ [o])).length = os.length * 10 + 10 := by rw [cellsT_len]; simp; omega
  have ho4 : overwrite (cellsT (os ++ [o])) off [.str d] = cellsT (os ++ [({ o.1 with data := d }, o.2)]) := by
    unfold overwrite
    rw [cellsT_snoc, cellsT_snoc, ho, List.take_append, List.drop_append, cellsT_len, List.take_of_length_le (by rw [cellsT_len]; omega), List.drop_of_length_le (by rw [cellsT_len]; simp; omega)]
    rw [show os.length * 10 + 4 - os.length * 10 = 4 by omega, show os.length * 10 + 4 + [DV.str d].length - os.length * 10 = 5 by simp only [List.length_cons, List.length_nil]; omega]
    rw [List.append_assoc, List.append_assoc]; rfl
  refine ⟨h.put id (.cells (cellsT (os ++ [({ o.1 with data := d }, o.2)])) (some 10)), ?_, hs.put hu⟩
  simp only [storeD, e]
  rw [if_pos ⟨rfl, by rw [hl]; omega, rfl⟩, ← ho4]; rfl
section
variable {D : DProg}
theorem drop_keep (h : Heap) {i j : Nat} (hn : j ≠ i) : (h.drop i).objs.get j = h.objs.get j ∧ (h.drop i).tags.get j = h.tags.get j := by
  refine ⟨?_, rfl⟩
  simp only [Heap.drop, Tr.get_set]; rw [if_neg hn]
theorem RR.mksT {d : Option Nat} {x : Opd} {zero : DV} {c : List (Opd × Shape × Nat × Option (Nat × Bool))} {os : List ROp} {k : List It} {nt : Nat} {es : List En} {ds : List DDef} {ir : Option Nat} {cs : List Ck} {Q : DX → St → List Ck → Prop} (p : Md.Tok × Nat)
    (h1 : lo D es [] x = some (encT p)) (hd : dstOk nt d = true) (hr : ∀ id, 2 ≤ id → RR D (.chk c :: .ops os :: k) (St.putO ⟨nt, es, ds, ir⟩ d (.arr id 10 0 1)) (mobj id [p] :: cs) Q) :
    RR D (.ops (⟨d, .mks true (some 10) zero 1 [(0, x)], none, c⟩ :: os) :: k) ⟨nt, es, ds, ir⟩ cs Q := .sem fun fr h ha hs => by
  have e1 := lo_ok (D := D) ha.es Tags.nil h1
  refine ops_ev ha (r := .newO (.cells (flat [encT p]) (some 10)) (fun i => .arr i 10 0 1)) (h1 := h.add (.cells (cellsT [p]) (some 10))) (v := .arr h.next 10 0 1) ?_ rfl hd (hs.addO _) (hr h.next hs.two).sound
  simp only [evalOp]
  rw [if_pos ⟨by decide, fun q hq => by
    simp only [List.mem_singleton] at hq; subst hq
    refine ⟨Nat.lt_succ_self 0, ?_, ?_⟩
    · rw [e1]; rfl
    · rw [e1]; rfl⟩]
  simp only [List.map_cons, List.map_nil, e1, fillL]
  rfl
theorem elemsT {h : Heap} {j : Nat} {p : Md.Tok × Nat} (hj : h.objs.get j = some (.cells (cellsT [p]) (some 10))) : elems h (some 10) (.arr j 10 0 1) = some [encT p] := by
  simp only [elems, hj]
  rw [if_pos ⟨trivial, rfl⟩]; rfl
theorem RR.appT0 {d : Option Nat} {x y : Opd} {bytes : Nat} {c : List (Opd × Shape × Nat × Option (Nat × Bool))} {os : List ROp} {k : List It} {nt : Nat} {es : List En} {ds : List DDef} {ir : Option Nat} {cs cs1 : List Ck} {Q : DX → St → List Ck → Prop} {j : Nat} {p : Md.Tok × Nat}
    (h1 : lo D es [] x = some (.lst 0 0 [])) (h2 : lo D es [] y = some (.arr j 10 0 1)) (hm : Rem (mobj j [p]) cs cs1) (hb : bytes ≤ 1000) (hd : dstOk nt d = true) (hr : ∀ id, 2 ≤ id → RR D (.chk c :: .ops os :: k) (St.putO ⟨nt, es, ds, ir⟩ d (.arr id 10 0 1)) (mobj id [p] :: cs1) Q) :
    RR D (.ops (⟨d, .append true (some 10) bytes x y, none, c⟩ :: os) :: k) ⟨nt, es, ds, ir⟩ cs Q := .sem fun fr h ha hs => by
  have e1 := lo_ok (D := D) ha.es Tags.nil h1
  have e2 := lo_ok (D := D) ha.es Tags.nil h2
  refine ops_ev ha (r := .newO (.cells (flat [encT p]) (some 10)) (fun i => .arr i 10 0 1)) (h1 := h.add (.cells (cellsT [p]) (some 10))) (v := .arr h.next 10 0 1) ?_ rfl hd ((hs.sub hm.sublist).addO _) (hr h.next hs.two).sound
  simp only [evalOp, e1, e2, appendD, elemsT (hs.obj (Me.mem' hm.mem))]
  rw [if_neg (by simp), if_pos ⟨.inl trivial, by simp only [List.length_nil, List.length_cons]; omega, by simp⟩]
  rfl
theorem RR.appT1 {d : Option Nat} {x y : Opd} {bytes n : Nat} {c : List (Opd × Shape × Nat × Option (Nat × Bool))} {os : List ROp} {k : List It} {nt : Nat} {es : List En} {ds : List DDef} {ir : Option Nat} {cs cs1 cs2 : List Ck} {Q : DX → St → List Ck → Prop} {i j : Nat} {p : Md.Tok × Nat} {l : List (Md.Tok × Nat)}
    (h1 : lo D es [] x = some (.arr i 10 0 n)) (h2 : lo D es [] y = some (.arr j 10 0 1)) (hm : Rem (mobj j [p]) cs cs1) (hm2 : Rem (mobj i l) cs1 cs2) (hn : n = l.length) (hb : bytes ≤ 1000 ∧ n ≤ 10000000000) (hd : dstOk nt d = true) (hr : ∀ id, 2 ≤ id → RR D (.chk c :: .ops os :: k) (St.putO ⟨nt, es, ds, ir⟩ d (.arr id 10 0 (n + 1))) (mobj id (l ++ [p]) :: cs2) Q) :
    RR D (.ops (⟨d, .append true (some 10) bytes x y, none, c⟩ :: os) :: k) ⟨nt, es, ds, ir⟩ cs Q := .sem fun fr h ha hs => by
  have e1 := lo_ok (D := D) ha.es Tags.nil h1
  have e2 := lo_ok (D := D) ha.es Tags.nil h2
  have hj := hs.obj (Me.mem' hm.mem)
  have hs1 := hs.sub hm.sublist
  have hi := hs1.obj (Me.mem' hm2.mem)
  have hcut : cut (cellsT l) 0 (n * Shape.size (some 10)) = some (cellsT l) := by
    unfold cut
    rw [show n * Shape.size (some 10) = l.length * 10 by rw [hn]; rfl, if_pos (by rw [cellsT_len]; omega), List.drop_zero, List.take_of_length_le (by rw [cellsT_len]; omega)]
  have hdr : Sat (h.drop i) cs2 := hm2.keep hs1 (Nat.le_refl _) fun q _ hq => drop_keep h (fun e => hq e)
  refine ops_ev ha (r := .eff (.arr h.next 10 0 (n + 1)) ((h.drop i).add (.cells (cellsT (l ++ [p])) (some 10)))) (h1 := (h.drop i).add (.cells (cellsT (l ++ [p])) (some 10))) (v := .arr h.next 10 0 (n + 1)) ?_ rfl hd (hdr.addO _) (hr h.next hs.two).sound
  simp only [evalOp, e1, e2, appendD, elemsT hj, hi]
  rw [if_neg (by simp)]
  simp only [hcut]
  have hmul : (n + 1) * bytes ≤ (10000000000 + 1) * 1000 := Nat.mul_le_mul (by omega) hb.1
  rw [if_pos ⟨trivial, rfl, trivial, by simp only [List.length_nil, List.length_cons]; rw [Nat.zero_add]; omega, by simp only [List.length_nil, List.length_cons]; omega⟩, cellsT_snoc]
  rfl
/-- What comes out is written into no more. -/
theorem FZ1.ofT {g : Nat} {args : List DV} {cs R : List Ck} {P : List (Md.Tok × Nat) → Prop} (hF : F D g args cs (fun v cs' => Hold (∃ id os, v = mval id os ∧ mpc id os ++ R = cs' ∧ P os))) :
    FZ1 D g args cs (fun v cs' => Hold (∃ t os, v = .lst t (zOf t 10) (os.map encT) ∧ (t = 0 ∧ os = [] ∨ t = 1) ∧ P os ∧ R = cs')) := fun h hs => by
  obtain ⟨v, h', cs', r1, r2, r3⟩ := hF h hs
  obtain ⟨id, os, rfl, rfl, hp⟩ := r3.out
  by_cases ho : os = []
  · subst ho
    exact ⟨_, h', _, h', R, r1, rfl, r2, Hold.mk ⟨0, [], rfl, .inl ⟨rfl, rfl⟩, hp, rfl⟩⟩
  · have e1 : mval id os = .arr id 10 0 os.length := by rw [mval, if_neg ho]
    have e2 : mpc id os = [mobj id os] := by rw [mpc, if_neg ho]
    rw [e1] at r1
    rw [e2] at r2
    have hi := r2.obj .head
    refine ⟨_, h', .lst 1 10 (os.map encT), h'.drop id, R, r1, ?_, (Rem.head (c := mobj id os) (r := R)).keep r2 (Nat.le_refl _) fun q _ hq => drop_keep h' (fun e => hq e), Hold.mk ⟨1, os, rfl, .inr rfl, hp, rfl⟩⟩
    simp only [frzV, hi]
    have hcut : cut (cellsT os) 0 (os.length * Shape.size (some 10)) = some (cellsT os) := by
      unfold cut
      rw [show os.length * Shape.size (some 10) = os.length * 10 from rfl, if_pos (by rw [cellsT_len]; omega), List.drop_zero, List.take_of_length_le (by rw [cellsT_len]; omega)]
    rw [if_pos ⟨rfl, by decide⟩, hcut, Option.map_some, cellsT_group]; rfl
end
end Go.Dm
/- What token.Join, slices.Collect and lex.All do. -/
namespace Go.Md
theorem joinStep_nil (t : Tok) : joinStep [] t = if t.kind = 1 ∧ t.data = [] then [] else [t] := by simp [joinStep]
theorem joinStep_snoc (l : List Tok) (u t : Tok) : joinStep (l ++ [u]) t = if t.kind = 1 ∧ u.kind = 1 then l ++ [{ u with data := u.data ++ t.data }] else if t.kind = 1 ∧ t.data = [] then l ++ [u] else l ++ [u] ++ [t] := by
  simp only [joinStep, List.getLast?_append, List.getLast?_singleton, Option.some_or, List.dropLast_concat]
theorem joinStep_dl (out : List Tok) (t : Tok) : dl (joinStep out t) = dl out + t.data.length := by
  rcases List.eq_nil_or_concat out with rfl | ⟨l, u, rfl⟩
  · rw [joinStep_nil]; split
    · rename_i h; simp [dl, h.2]
    · simp [dl]
  · rw [List.concat_eq_append, joinStep_snoc]; split
    · simp only [dl_snoc, List.length_append]; omega
    · split
      · rename_i h; simp [h.2]
      · rw [dl_snoc]
theorem join_take {ts : List Tok} {i : Nat} (h : i < ts.length) : join (ts.take (i + 1)) = joinStep (join (ts.take i)) (ts.getD i default) := by
  unfold join
  rw [List.take_add_one, List.getElem?_eq_getElem h, List.foldl_append]
  simp [List.getD_eq_getElem?_getD, List.getElem?_eq_getElem h]
theorem dl_join (ts : List Tok) : dl (join ts) = dl ts := by
  suffices h : ∀ (ts out : List Tok), dl (ts.foldl joinStep out) = dl out + dl ts by
    have := h ts []; rw [dl_nil, Nat.zero_add] at this; exact this
  intro ts
  induction ts with
  | nil => intro out; rfl
  | cons t ts ih =>
    intro out
    rw [List.foldl_cons, ih, joinStep_dl]
    simp only [dl, List.map_cons, List.flatten_cons, List.length_append]; omega
theorem join_len (ts : List Tok) : (join ts).length ≤ ts.length := by
  suffices h : ∀ (ts out : List Tok), (ts.foldl joinStep out).length ≤ out.length + ts.length by
    have := h ts []; simpa [join] using this
  intro ts
  induction ts with
  | nil => intro out; simp
  | cons t ts ih =>
    intro out
    rw [List.foldl_cons]
    refine Nat.le_trans (ih _) ?_
    have : (joinStep out t).length ≤ out.length + 1 := by
      rcases List.eq_nil_or_concat out with rfl | ⟨l, u, rfl⟩
      · rw [joinStep_nil]; split <;> simp
      · rw [List.concat_eq_append, joinStep_snoc]; split
        · simp
        · split <;> simp
    simp only [List.length_cons]; omega
theorem dl_take (ts : List Tok) (i : Nat) : dl (ts.take i) ≤ dl ts := by
  conv => rhs; rw [← List.take_append_drop i ts]
  simp only [dl, List.map_append, List.flatten_append, List.length_append]; omega
theorem data_dl {ts : List Tok} {t : Tok} (h : t ∈ ts) : t.data.length ≤ dl ts := by
  obtain ⟨a, b, rfl⟩ := List.append_of_mem h
  simp only [dl, List.map_append, List.map_cons, List.flatten_append, List.flatten_cons, List.length_append]; omega
end Go.Md
namespace Go.Proofs.YticnenofiibpgaaDoor.Code
open Go.Dm Go.Dm.C
set_option linter.unusedSimpArgs false
set_option linter.unusedVariables false
set_option linter.unnecessarySimpa false
set_option maxRecDepth 10000
attribute [local irreducible] Go.Dm.F Go.Dm.RS Go.Dm.Y Go.Dm.FD Go.Dm.FZ1 Go.Dm.Hold
variable {R : List Ck}
theorem getD_fst (ls : List (Md.Tok × Nat)) (i : Nat) : (ls.map Prod.fst).getD i default = (ls.getD i default).1 := by
  simp only [List.getD_eq_getElem?_getD, List.getElem?_map]
  cases ls[i]? <;> rfl
set_option maxHeartbeats 2000000 in
theorem join_F {t z : Nat} {ls : List (Md.Tok × Nat)} (hz : z = zOf t 10) (hn : ls.length ≤ 1000000000) (hd : Md.dl (ls.map Prod.fst) ≤ 1000000000000) :
    F D 26 [.lst t z (ls.map encT)] R (fun v cs' => Hold (∃ id os, v = mval id os ∧ mpc id os ++ R = cs' ∧ os.map Prod.fst = Md.join (ls.map Prod.fst))) := by
  subst hz
  refine F.of rfl rfl rfl ?_
  repeat' first | exact arI | refine Pst.mk ⟨?_, rfl⟩ kk | constructor | (refine fun _ _ (hq : Hold _) => ?_; replace hq := hq.out; obtain ⟨_, rfl, rfl⟩ := hq) | (refine fun _ _ (hq : Hold _) => ?_; replace hq := hq.out; obtain ⟨_, _, rfl, rfl⟩ := hq) | rintro _ _ ⟨rfl, rfl⟩ | rintro _ _ ⟨_, rfl, rfl⟩ | rintro _ _ ⟨_, _, rfl, rfl⟩ | (refine fun (hc : _ = _) => ?_; (try simp only [BB] at hc)) | refine fun (_ : Nat) => ?_ | refine fun (_ : _ ≤ _) => ?_ | refine fun (_ : _ < _) => ?_
  refine RS.loopW (α := Nat × Nat × List (Md.Tok × Nat)) (fun a => [(7, .lst t (zOf t 10) (ls.map encT)), (8, .int .i64 ls.length), (9, .int .i64 (a.1 : Nat)), (3, mval a.2.1 a.2.2)]) (fun a => mpc a.2.1 a.2.2 ++ R)
    (fun a => a.1 ≤ ls.length ∧ a.2.2.map Prod.fst = Md.join ((ls.map Prod.fst).take a.1)) (fun a => ls.length - a.1) (0, 0, []) ⟨Nat.zero_le _, rfl⟩ ⟨rfl, rfl, rfl, rfl, trivial⟩ kk ?_
  rintro ⟨i, id, os⟩ ⟨h1, h2⟩ ih
  dsimp only [ents] at *
  have hjt := fun h => Md.join_take (ts := ls.map Prod.fst) (i := i) h
  rw [List.length_map] at hjt
  have hdt := Md.dl_take (ls.map Prod.fst) i
  have hdj := Md.dl_join ((ls.map Prod.fst).take i)
  have hlen := Md.join_len ((ls.map Prod.fst).take i)
  rw [List.length_take, List.length_map] at hlen
  have hdt1 := Md.dl_take (ls.map Prod.fst) (i + 1)
  have hdi : i < ls.length → (ls.getD i default).1.data.length ≤ 1000000000000 := fun h => by
    refine Nat.le_trans (Md.data_dl (ts := ls.map Prod.fst) ?_) hd
    rw [← getD_fst, List.getD_eq_getElem?_getD, List.getElem?_eq_getElem (by rw [List.length_map]; exact h)]
    exact List.getElem_mem _
  rw [← h2] at hjt hdj hlen
  rw [List.length_map] at hlen
  rw [getD_fst] at hjt
  rcases List.eq_nil_or_concat os with rfl | ⟨os, o, rfl⟩
  · rw [mval_nil, mpc_nil, List.nil_append] at *
    rw [List.map_nil, Md.joinStep_nil] at hjt
    repeat' first | (refine fun (hc : _ = _) => ?_; (try simp only [BB, List.length_nil] at hc); first | contradiction | (exfalso; omega)) | (show IA _ _ _ _ _ _; exact IA.map (ys := ([] : List (Md.Tok × Nat))) (f := encT) .zof arI) | (apply RR.mksT (ls.getD i default); exact rfl; exact rfl; refine fun _ _ => ?_) | (apply RR.appT0 (p := ls.getD i default); exact rfl; exact rfl; exact kk; exact (by decide); exact rfl; refine fun _ _ => ?_) | (refine fun (hc : _ = _) => ?_; (try simp only [BB] at hc); (try (first | contradiction | (exfalso; omega)))) | exact arI | refine Pst.mk ⟨?_, rfl⟩ kk | constructor | (refine fun _ _ (hq : Hold _) => ?_; replace hq := hq.out; obtain ⟨_, rfl, rfl⟩ := hq) | (refine fun _ _ (hq : Hold _) => ?_; replace hq := hq.out; obtain ⟨_, _, rfl, rfl⟩ := hq) | rintro _ _ ⟨rfl, rfl⟩ | rintro _ _ ⟨_, rfl, rfl⟩ | rintro _ _ ⟨_, _, rfl, rfl⟩ | (refine fun (hc : _ = _) => ?_; (try simp only [BB] at hc)) | refine fun (_ : Nat) => ?_ | refine fun (_ : _ ≤ _) => ?_ | refine fun (_ : _ < _) => ?_
    · rw [if_pos hc] at hjt
      exact ih _ _ (i + 1, id, []) ⟨by dsimp only; omega, (hjt (by omega)).symm⟩ (by dsimp only; omega) ⟨rfl, rfl, rfl, rfl, trivial⟩ kk
    · rw [if_neg (fun h => hc h.1 h.2)] at hjt
      rename_i q _
      exact ih _ _ (i + 1, q, [ls.getD i default]) ⟨by dsimp only; omega, (hjt (by omega)).symm⟩ (by dsimp only; omega) ⟨rfl, rfl, rfl, rfl, trivial⟩ kk
    · obtain rfl : i = ls.length := by omega
      rw [List.take_of_length_le (by simp)] at h2
      exact Pst.mk (.mk ⟨id, [], rfl, rfl, h2⟩) .refl
  · rw [List.concat_eq_append] at *
    rw [mval_snoc, mpc_snoc, List.singleton_append]
    rw [List.map_append, List.map_cons, List.map_nil, Md.joinStep_snoc] at hjt
    rw [List.map_append, List.map_cons, List.map_nil, Md.dl_snoc] at hdj
    rw [List.length_append, List.length_cons, List.length_nil] at hlen
    repeat' first
      | (apply RR.storeS; exact rfl; exact rfl; exact stT kk (by omega); exact rfl) | (show LD _ _ _ _; first | exact ldT (k := 0) kk (by omega) rfl | exact ldT (k := 4) kk (by omega) rfl) | (apply RR.mksT (ls.getD i default); exact rfl; exact rfl; refine fun _ _ => ?_) | (apply RR.appT1 (p := ls.getD i default) (l := os ++ [o]); exact rfl; exact rfl; exact kk; exact kk; (simp only [List.length_append, List.length_cons, List.length_nil]); exact ⟨by decide, by omega⟩; exact rfl; refine fun _ _ => ?_)
      | (refine fun (hc : _ = _) => ?_; (try simp only [BB] at hc); (try (first | contradiction | (exfalso; omega)))) | exact arI | refine Pst.mk ⟨?_, rfl⟩ kk | constructor | (refine fun _ _ (hq : Hold _) => ?_; replace hq := hq.out; obtain ⟨_, rfl, rfl⟩ := hq) | (refine fun _ _ (hq : Hold _) => ?_; replace hq := hq.out; obtain ⟨_, _, rfl, rfl⟩ := hq) | rintro _ _ ⟨rfl, rfl⟩ | rintro _ _ ⟨_, rfl, rfl⟩ | rintro _ _ ⟨_, _, rfl, rfl⟩ | (refine fun (hc : _ = _) => ?_; (try simp only [BB] at hc)) | refine fun (_ : Nat) => ?_ | refine fun (_ : _ ≤ _) => ?_ | refine fun (_ : _ < _) => ?_
    · rw [if_pos ⟨hc.1.1, hc.2⟩] at hjt
      refine ih _ _ (i + 1, id, os ++ [({ o.1 with data := o.1.data ++ (ls.getD i default).1.data }, o.2)]) ⟨by dsimp only; omega, ?_⟩ (by dsimp only; omega) ?_ ?_
      · rw [hjt (by omega)]; simp
      · dsimp only; rw [mval_snoc]; exact ⟨rfl, rfl, rfl, rfl, trivial⟩
      · dsimp only; rw [mpc_snoc]; exact kk
    · rename_i hc1
      rw [if_neg (fun h => hc1 ⟨h.1, by omega⟩ h.2), if_pos hc] at hjt
      refine ih _ _ (i + 1, id, os ++ [o]) ⟨by dsimp only; omega, ?_⟩ (by dsimp only; omega) ?_ ?_
      · rw [hjt (by omega)]; simp
      · dsimp only; rw [mval_snoc]; exact ⟨rfl, rfl, rfl, rfl, trivial⟩
      · dsimp only; rw [mpc_snoc]; exact kk
    · rename_i hc1 _ _ q _
      rw [if_neg (fun h => hc1 ⟨h.1, by omega⟩ h.2), if_neg (fun h => hc h.1 h.2)] at hjt
      refine ih _ _ (i + 1, q, os ++ [o] ++ [ls.getD i default]) ⟨by dsimp only; omega, ?_⟩ (by dsimp only; omega) ?_ ?_
      · rw [hjt (by omega)]; simp
      · dsimp only; rw [mval_snoc]; simp only [List.length_append, List.length_cons, List.length_nil]; exact ⟨rfl, rfl, rfl, rfl, trivial⟩
      · dsimp only; rw [mpc_snoc]; exact kk
    · obtain rfl : i = ls.length := by omega
      rw [List.take_of_length_le (by simp)] at h2
      exact Pst.mk (.mk ⟨id, os ++ [o], mval_snoc.symm, by rw [mpc_snoc]; rfl, h2⟩) .refl
end Go.Proofs.YticnenofiibpgaaDoor.Code
/- What slices.Collect of a lexer's tokens and lex.All do; two tokens compared. -/
namespace Go.Proofs.YticnenofiibpgaaDoor.Code
open Go.Dm Go.Dm.C
set_option linter.unusedSimpArgs false
set_option linter.unusedVariables false
set_option linter.unnecessarySimpa false
set_option maxRecDepth 10000
attribute [local irreducible] Go.Dm.F Go.Dm.RS Go.Dm.Y Go.Dm.FD Go.Dm.FZ1 Go.Dm.Hold
variable {id : Nat} {s : Md.Lx} {g : Nat × Nat} {R : List Ck}
theorem joinZ_F {t z : Nat} {ls : List (Md.Tok × Nat)} (hz : z = zOf t 10) (hn : ls.length ≤ 1000000000) (hd : Md.dl (ls.map Prod.fst) ≤ 1000000000000) :
    FZ D (.fn (.func 26) [] []) [.lst t z (ls.map encT)] R (fun v cs' => Hold (∃ (t : Nat) (os : List (Md.Tok × Nat)), v = .lst t (zOf t 10) (os.map encT) ∧ (t = 0 ∧ os = [] ∨ t = 1) ∧ os.map Prod.fst = Md.join (ls.map Prod.fst) ∧ R = cs')) :=
  FZ1.ofT (join_F hz hn hd)
theorem joinZ_F2 {t z : Nat} {ls : List (Md.Tok × Nat)} {ts : List Md.Tok} (hz : z = zOf t 10) (ha : ls.map Prod.fst = ts) (hn : ts.length ≤ 1000000000) (hd : Md.dl ts ≤ 1000000000000) :
    FZ D (.fn (.func 26) [] []) [.lst t z (ls.map encT)] R (fun v cs' => Hold (∃ (t : Nat) (os : List (Md.Tok × Nat)), v = .lst t (zOf t 10) (os.map encT) ∧ (t = 0 ∧ os = [] ∨ t = 1) ∧ os.map Prod.fst = Md.join ts ∧ R = cs')) := by
  subst ha; rw [List.length_map] at hn; exact joinZ_F hz hn hd
theorem seq_F {q : Nat} (hN : NI s) (hn : s.toks.length ≤ 1000000000) : F D 53 [.lst 0 0 [], .fn (.func 40) [] [.ptr q 0]] (.obj q (.cells [.ptr id 0] none) :: LX id s g :: R)
    (fun v cs' => Hold (∃ (t : Nat) (os : List (Md.Tok × Nat)), v = .lst t (zOf t 10) (os.map encT) ∧ .own t 10 (os.map encT) :: R = cs' ∧ os.map Prod.fst = s.toks)) := by
  refine F.of rfl rfl rfl ?_
  repeat' first | exact arI | refine Pst.mk ⟨?_, rfl⟩ kk | constructor | (refine fun _ _ (hq : Hold _) => ?_; replace hq := hq.out; obtain ⟨_, rfl, rfl⟩ := hq) | (refine fun _ _ (hq : Hold _) => ?_; replace hq := hq.out; obtain ⟨_, _, rfl, rfl⟩ := hq) | rintro _ _ ⟨rfl, rfl⟩ | rintro _ _ ⟨_, rfl, rfl⟩ | rintro _ _ ⟨_, _, rfl, rfl⟩ | (refine fun (hc : _ = _) => ?_; (try simp only [BB] at hc)) | refine fun (_ : Nat) => ?_ | refine fun (_ : _ ≤ _) => ?_ | refine fun (_ : _ < _) => ?_
  rename_i x _
  refine RS.nilOwn 10 ?_
  refine RS.rangeO rfl rfl fun m l Lr Lb Ld hL => ?_
  refine F.perm ((Rem.perm' (c := .obj q _) kk).trans ((Rem.perm' (c := LX id _ _) kk).cons _)) ?_
  refine F.mono (tokens_it (l := l) (fun ts cs => ∃ (t : Nat) (os : List (Md.Tok × Nat)), Lr :: .obj m .mark :: .own t 10 (os.map encT) :: .obj x (.cells [.lst t (zOf t 10) (os.map encT)] none) :: R = cs ∧ os.map Prod.fst ++ ts = s.toks) (fun _ => False) ?_ hN ⟨0, [], rfl, rfl⟩) ?_
  · rintro t tag ts s2 g2 _ ⟨t1, os, rfl, ha⟩
    refine hL.y (.tail (.tail .head)) rfl ?_
    have hlen := congrArg List.length ha
    rw [List.length_append, List.length_map, List.length_cons] at hlen
    repeat' first | exact MapL.cons (y := (t, tag)) .nil | (refine Arith.mk ?_; omega) | (refine fun (hc : _ = _) => ?_; (try simp only [BB] at hc); (try (first | contradiction | (exfalso; omega)))) | exact arI | refine Pst.mk ⟨?_, rfl⟩ kk | constructor | (refine fun _ _ (hq : Hold _) => ?_; replace hq := hq.out; obtain ⟨_, rfl, rfl⟩ := hq) | (refine fun _ _ (hq : Hold _) => ?_; replace hq := hq.out; obtain ⟨_, _, rfl, rfl⟩ := hq) | rintro _ _ ⟨rfl, rfl⟩ | rintro _ _ ⟨_, rfl, rfl⟩ | rintro _ _ ⟨_, _, rfl, rfl⟩ | (refine fun (hc : _ = _) => ?_; (try simp only [BB] at hc)) | refine fun (_ : Nat) => ?_ | refine fun (_ : _ ≤ _) => ?_ | refine fun (_ : _ < _) => ?_
    rename_i t2
    exact Pst.mk (.mk ⟨_, rfl, .inl ⟨rfl, t2, os ++ [(t, tag)], rfl, by rw [← ha]; simp⟩⟩) kk
  · rintro v cs' hq
    obtain ⟨s2, g2, cs1, rfl, hq2⟩ := hq.out
    rcases hq2 with ⟨t1, os, rfl, ha⟩ | hq2
    · refine .ready kk ?_
      rw [List.append_nil] at ha
      repeat' first | exact arI | refine Pst.mk ⟨?_, rfl⟩ kk | constructor | (refine fun _ _ (hq : Hold _) => ?_; replace hq := hq.out; obtain ⟨_, rfl, rfl⟩ := hq) | (refine fun _ _ (hq : Hold _) => ?_; replace hq := hq.out; obtain ⟨_, _, rfl, rfl⟩ := hq) | rintro _ _ ⟨rfl, rfl⟩ | rintro _ _ ⟨_, rfl, rfl⟩ | rintro _ _ ⟨_, _, rfl, rfl⟩ | (refine fun (hc : _ = _) => ?_; (try simp only [BB] at hc)) | refine fun (_ : Nat) => ?_ | refine fun (_ : _ ≤ _) => ?_ | refine fun (_ : _ < _) => ?_
      exact Pst.mk (.mk ⟨t1, os, rfl, rfl, ha⟩) kk
    · exact hq2.elim
theorem collect_F {q : Nat} (hN : NI s) (hn : s.toks.length ≤ 1000000000) : F D 36 [.fn (.func 40) [] [.ptr q 0]] (.obj q (.cells [.ptr id 0] none) :: LX id s g :: R)
    (fun v cs' => Hold (∃ (t : Nat) (os : List (Md.Tok × Nat)), v = .lst t (zOf t 10) (os.map encT) ∧ .own t 10 (os.map encT) :: R = cs' ∧ os.map Prod.fst = s.toks)) := by
  refine F.of rfl rfl rfl ?_
  repeat' first | (show FC _ _ _ _ _; first | exact seq_F hN hn) | (refine fun _ _ (hq : Hold _) => ?_; replace hq := hq.out; obtain ⟨t1, os, rfl, rfl, ha⟩ := hq) | (refine fun (hc : _ = _) => ?_; (try simp only [BB] at hc); (try (first | contradiction | (exfalso; omega)))) | exact arI | refine Pst.mk ⟨?_, rfl⟩ kk | constructor | (refine fun _ _ (hq : Hold _) => ?_; replace hq := hq.out; obtain ⟨_, rfl, rfl⟩ := hq) | (refine fun _ _ (hq : Hold _) => ?_; replace hq := hq.out; obtain ⟨_, _, rfl, rfl⟩ := hq) | rintro _ _ ⟨rfl, rfl⟩ | rintro _ _ ⟨_, rfl, rfl⟩ | rintro _ _ ⟨_, _, rfl, rfl⟩ | (refine fun (hc : _ = _) => ?_; (try simp only [BB] at hc)) | refine fun (_ : Nat) => ?_ | refine fun (_ : _ ≤ _) => ?_ | refine fun (_ : _ < _) => ?_
  exact Pst.mk (.mk ⟨t1, os, rfl, rfl, ha⟩) kk
end Go.Proofs.YticnenofiibpgaaDoor.Code
/- Signs az bytes and back. -/
namespace Go.Proofs.YticnenofiibpgaaDoor.Code
open Go.Dm
set_option linter.unusedSimpArgs false
set_option linter.unusedVariables false
def sv (r : Int) : Prop := 0 ≤ r ∧ r ≤ 1114111 ∧ ¬(55296 ≤ r ∧ r ≤ 57343)
theorem byteN_nat {n : Nat} (h : n < 256) : (Md.byteN n).toNat = n := by
  unfold Md.byteN; rw [UInt8.toNat_ofNat']; omega
theorem one_putR {r : Int} (hv : sv r) (rest : List UInt8) : Md.one (Md.putR r ++ rest) = (r, (Md.putR r).length) := by
  obtain ⟨h0, h1, h2⟩ := hv
  obtain ⟨n, rfl⟩ := Int.eq_ofNat_of_zero_le h0
  rw [putR_nat (by omega)]
  split
  · rename_i h
    have e := byteN_nat (n := n) (by omega)
    simp only [Md.one, List.cons_append, e, List.length_cons, List.length_nil]
    rw [if_pos h]
  · split
    · rename_i ha hb
      have e1 := byteN_nat (n := 192 + n / 64) (by omega)
      have e2 := byteN_nat (n := 128 + n % 64) (by omega)
      have en : Md.need (192 + n / 64) = (1, 0x80, 0xbf) := by unfold Md.need; rw [if_pos (by omega)]
      simp only [Md.one, List.cons_append, List.nil_append, e1, en, List.length_cons, List.length_nil]
      rw [if_neg (by omega), if_neg (by omega)]
      simp only [Md.oneGo, e2]
      rw [if_neg (by omega)]
      congr 1; simp; omega
    · split
      · rename_i ha hb hc
        have e1 := byteN_nat (n := 224 + n / 4096) (by omega)
        have e2 := byteN_nat (n := 128 + n / 64 % 64) (by omega)
        have e3 := byteN_nat (n := 128 + n % 64) (by omega)
        have en : (Md.need (224 + n / 4096)).1 = 2 ∧ (Md.need (224 + n / 4096)).2.1 ≤ 128 + n / 64 % 64 ∧ 128 + n / 64 % 64 ≤ (Md.need (224 + n / 4096)).2.2 := by
          unfold Md.need
          rw [if_neg (by omega)]
          by_cases x0 : 224 + n / 4096 = 0xe0
          · rw [if_pos x0]; refine ⟨rfl, ?_, ?_⟩ <;> dsimp only <;> omega
          · rw [if_neg x0]
            by_cases x1 : 224 + n / 4096 = 0xed
            · rw [if_pos x1]; refine ⟨rfl, ?_, ?_⟩ <;> dsimp only <;> omega
            · rw [if_neg x1, if_pos (by omega)]; refine ⟨rfl, ?_, ?_⟩ <;> dsimp only <;> omega
        simp only [Md.one, List.cons_append, List.nil_append, e1, en.1, List.length_cons, List.length_nil]
        rw [if_neg (by omega), if_neg (by omega)]
        simp only [Md.oneGo, e2, e3]
        rw [if_neg (by omega), if_neg (by omega)]
        congr 1; simp; omega
      · rename_i ha hb hc
        have e1 := byteN_nat (n := 240 + n / 262144) (by omega)
        have e2 := byteN_nat (n := 128 + n / 4096 % 64) (by omega)
        have e3 := byteN_nat (n := 128 + n / 64 % 64) (by omega)
        have e4 := byteN_nat (n := 128 + n % 64) (by omega)
        have en : (Md.need (240 + n / 262144)).1 = 3 ∧ (Md.need (240 + n / 262144)).2.1 ≤ 128 + n / 4096 % 64 ∧ 128 + n / 4096 % 64 ≤ (Md.need (240 + n / 262144)).2.2 := by
          unfold Md.need
          rw [if_neg (by omega), if_neg (by omega), if_neg (by omega), if_neg (by omega)]
          by_cases x0 : 240 + n / 262144 = 0xf0
          · rw [if_pos x0]; refine ⟨rfl, ?_, ?_⟩ <;> dsimp only <;> omega
          · rw [if_neg x0]
            by_cases x1 : 0xf1 ≤ 240 + n / 262144 ∧ 240 + n / 262144 ≤ 0xf3
            · rw [if_pos x1]; refine ⟨rfl, ?_, ?_⟩ <;> dsimp only <;> omega
            · rw [if_neg x1, if_pos (by omega)]; refine ⟨rfl, ?_, ?_⟩ <;> dsimp only <;> omega
        simp only [Md.one, List.cons_append, List.nil_append, e1, en.1, List.length_cons, List.length_nil]
        rw [if_neg (by omega), if_neg (by omega)]
        simp only [Md.oneGo, e2, e3, e4]
        rw [if_neg (by omega), if_neg (by omega), if_neg (by omega)]
        congr 1; simp; omega
theorem putR_ne (r : Int) : Md.putR r ≠ [] := by
  unfold Md.putR; dsimp only; repeat' split
  all_goals simp
theorem signs_encode : ∀ (l : List Int), (∀ r ∈ l, sv r) → Md.signs (Md.encode l).length (Md.encode l) = l
  | [], _ => rfl
  | r :: l, h => by
    have e : Md.encode (r :: l) = Md.putR r ++ Md.encode l := by simp [Md.encode]
    have hne : Md.encode (r :: l) ≠ [] := by rw [e]; intro h9; exact putR_ne r (List.append_eq_nil_iff.1 h9).1
    rw [signs_cons hne, e, one_putR (h r (by simp))]
    dsimp only
    rw [List.drop_left, signs_encode l (fun x hx => h x (by simp [hx]))]
theorem go1 (l : List UInt8) (i : Nat) (r : Int) (lo hi : Nat) : (Md.oneGo 1 l i r lo hi).1 = 65533 ∨ ∃ c : Nat, lo ≤ c ∧ c ≤ hi ∧ (Md.oneGo 1 l i r lo hi).1 = r * 64 + (c % 64 : Nat) := by
  cases l with
  | nil => exact .inl rfl
  | cons c l =>
    simp only [Md.oneGo]
    by_cases h : c.toNat < lo ∨ hi < c.toNat
    · rw [if_pos h]; exact .inl rfl
    · rw [if_neg h]; exact .inr ⟨c.toNat, by omega, by omega, rfl⟩
theorem goS (k : Nat) (l : List UInt8) (i : Nat) (r : Int) (lo hi : Nat) : (Md.oneGo (k + 1) l i r lo hi).1 = 65533 ∨ ∃ (c : Nat) (l' : List UInt8), lo ≤ c ∧ c ≤ hi ∧ Md.oneGo (k + 1) l i r lo hi = Md.oneGo k l' (i + 1) (r * 64 + (c % 64 : Nat)) 0x80 0xbf := by
  cases l with
  | nil => exact .inl rfl
  | cons c l =>
    simp only [Md.oneGo]
    by_cases h : c.toNat < lo ∨ hi < c.toNat
    · rw [if_pos h]; exact .inl rfl
    · rw [if_neg h]; exact .inr ⟨c.toNat, l, by omega, by omega, rfl⟩
theorem one_sv {b : List UInt8} (h : b ≠ []) : sv (Md.one b).1 := by
  have hr : ∀ x : Int, x = 65533 → sv x := fun x h => by subst h; exact ⟨by omega, by omega, by omega⟩
  cases b with
  | nil => exact absurd rfl h
  | cons c l =>
    have hc := c.toNat_lt
    simp only [Md.one]
    split
    · rename_i h1; refine ⟨?_, ?_, ?_⟩ <;> dsimp only <;> omega
    · split
      · exact hr _ rfl
      · rename_i ha hb
        have k2 : ∀ (r : Int) (lo hi : Nat), (∀ c d : Nat, lo ≤ c → c ≤ hi → sv ((r * 64 + (c % 64 : Nat)) * 64 + (d % 64 : Nat))) → sv (Md.oneGo 2 l 1 r lo hi).1 := fun r lo hi hs => by
          rcases goS 1 l 1 r lo hi with h | ⟨c1, l1, a1, a2, h⟩
          · exact hr _ h
          · rw [h]
            rcases go1 l1 2 (r * 64 + (c1 % 64 : Nat)) 0x80 0xbf with h | ⟨c2, b1, b2, h⟩
            · exact hr _ h
            · rw [h]; exact hs c1 c2 a1 a2
        have k3 : ∀ (r : Int) (lo hi : Nat), (∀ c d e : Nat, lo ≤ c → c ≤ hi → sv (((r * 64 + (c % 64 : Nat)) * 64 + (d % 64 : Nat)) * 64 + (e % 64 : Nat))) → sv (Md.oneGo 3 l 1 r lo hi).1 := fun r lo hi hs => by
          rcases goS 2 l 1 r lo hi with h | ⟨c1, l1, a1, a2, h⟩
          · exact hr _ h
          · rw [h]
            rcases goS 1 l1 2 (r * 64 + (c1 % 64 : Nat)) 0x80 0xbf with h | ⟨c2, l2, b1, b2, h⟩
            · exact hr _ h
            · rw [h]
              rcases go1 l2 3 ((r * 64 + (c1 % 64 : Nat)) * 64 + (c2 % 64 : Nat)) 0x80 0xbf with h | ⟨c3, d1, d2, h⟩
              · exact hr _ h
              · rw [h]; exact hs c1 c2 c3 a1 a2
        by_cases x1 : 0xc2 ≤ c.toNat ∧ c.toNat ≤ 0xdf
        · have en : Md.need c.toNat = (1, 0x80, 0xbf) := by unfold Md.need; rw [if_pos x1]
          rw [en]; dsimp only
          rcases go1 l 1 ((c.toNat % (64 / 2 ^ 1) : Nat) : Int) 0x80 0xbf with h | ⟨c1, a1, a2, h⟩
          · exact hr _ h
          · rw [h]; refine ⟨?_, ?_, ?_⟩ <;> simp <;> omega
        · by_cases x2 : c.toNat = 0xe0
          · have en : Md.need c.toNat = (2, 0xa0, 0xbf) := by unfold Md.need; rw [if_neg x1, if_pos x2]
            rw [en]; dsimp only
            refine k2 _ _ _ fun c1 d1 a1 a2 => ⟨?_, ?_, ?_⟩ <;> rw [x2] <;> simp <;> omega
          · by_cases x3 : c.toNat = 0xed
            · have en : Md.need c.toNat = (2, 0x80, 0x9f) := by unfold Md.need; rw [if_neg x1, if_neg x2, if_pos x3]
              rw [en]; dsimp only
              refine k2 _ _ _ fun c1 d1 a1 a2 => ⟨?_, ?_, ?_⟩ <;> rw [x3] <;> simp <;> omega
            · by_cases x4 : 0xe1 ≤ c.toNat ∧ c.toNat ≤ 0xef
              · have en : Md.need c.toNat = (2, 0x80, 0xbf) := by unfold Md.need; rw [if_neg x1, if_neg x2, if_neg x3, if_pos x4]
                rw [en]; dsimp only
                refine k2 _ _ _ fun c1 d1 a1 a2 => ⟨?_, ?_, ?_⟩ <;> simp <;> omega
              · by_cases x5 : c.toNat = 0xf0
                · have en : Md.need c.toNat = (3, 0x90, 0xbf) := by unfold Md.need; rw [if_neg x1, if_neg x2, if_neg x3, if_neg x4, if_pos x5]
                  rw [en]; dsimp only
                  refine k3 _ _ _ fun c1 d1 e1 a1 a2 => ⟨?_, ?_, ?_⟩ <;> rw [x5] <;> simp <;> omega
                · by_cases x6 : 0xf1 ≤ c.toNat ∧ c.toNat ≤ 0xf3
                  · have en : Md.need c.toNat = (3, 0x80, 0xbf) := by unfold Md.need; rw [if_neg x1, if_neg x2, if_neg x3, if_neg x4, if_neg x5, if_pos x6]
                    rw [en]; dsimp only
                    refine k3 _ _ _ fun c1 d1 e1 a1 a2 => ⟨?_, ?_, ?_⟩ <;> simp <;> omega
                  · by_cases x7 : c.toNat = 0xf4
                    · have en : Md.need c.toNat = (3, 0x80, 0x8f) := by unfold Md.need; rw [if_neg x1, if_neg x2, if_neg x3, if_neg x4, if_neg x5, if_neg x6, if_pos x7]
                      rw [en]; dsimp only
                      refine k3 _ _ _ fun c1 d1 e1 a1 a2 => ⟨?_, ?_, ?_⟩ <;> rw [x7] <;> simp <;> omega
                    · exfalso; apply hb; unfold Md.need; rw [if_neg x1, if_neg x2, if_neg x3, if_neg x4, if_neg x5, if_neg x6, if_neg x7]
theorem signs_sv : ∀ (f : Nat) (b : List UInt8), ∀ r ∈ Md.signs f b, sv r := by
  intro f
  induction f with
  | zero => intro b r h; cases h
  | succ f ih =>
    intro b r h
    cases b with
    | nil => cases h
    | cons c l =>
      simp only [Md.signs, List.mem_cons] at h
      rcases h with rfl | h
      · exact one_sv (by simp)
      · exact ih _ r h
theorem lines_sv : ∀ (l : List Int) (last : Int), (∀ r ∈ l, sv r) → ∀ r ∈ Md.lines last l, sv r ∧ r ≠ 13
  | [], _, _, r, hr => by cases hr
  | x :: l, last, h, r, hr => by
    have hx := h x (by simp)
    have ih := fun la => lines_sv l la (fun y hy => h y (by simp [hy])) r
    simp only [Md.lines] at hr
    split at hr
    · rcases List.mem_cons.1 hr with rfl | hr
      · exact ⟨⟨by omega, by omega, by omega⟩, by omega⟩
      · exact ih _ hr
    · split at hr
      · exact ih _ hr
      · rcases List.mem_cons.1 hr with rfl | hr
        · exact ⟨hx, by assumption⟩
        · exact ih _ hr
theorem decode_sv (b : List UInt8) : ∀ r ∈ Md.decode b, sv r ∧ r ≠ 13 := lines_sv _ _ (signs_sv _ _)
theorem lines_id : ∀ (l : List Int) (last : Int), last ≠ 13 → (∀ r ∈ l, r ≠ 13) → Md.lines last l = l
  | [], _, _, _ => rfl
  | x :: l, last, h, hl => by
    have hx := hl x (by simp)
    simp only [Md.lines]
    rw [if_neg hx, if_neg (fun h2 => h h2.2), lines_id l x hx (fun y hy => hl y (by simp [hy]))]
theorem unmark_id {l : List Int} (h : ∀ r ∈ l, sv r ∧ r ≠ 65279) : Md.unmark (Md.encode l) = Md.encode l := by
  unfold Md.unmark
  split
  · rename_i r he
    exfalso
    cases l with
    | nil => simp [Md.encode] at he
    | cons x l =>
      have e : Md.encode (x :: l) = Md.putR x ++ Md.encode l := by simp [Md.encode]
      have h1 := one_putR (h x (by simp)).1 (Md.encode l)
      rw [← e, he] at h1
      have h2 : Md.one (0xef :: 0xbb :: 0xbf :: r) = (65279, 3) := by
        simp only [Md.one]
        rfl
      rw [h2] at h1
      exact (h x (by simp)).2 (congrArg Prod.fst h1).symm
  · rfl
/-- What is written is read. -/
theorem decode_encode {l : List Int} (h : ∀ r ∈ l, sv r ∧ r ≠ 13 ∧ r ≠ 65279) : Md.decode (Md.encode l) = l := by
  unfold Md.decode
  rw [unmark_id (fun r hr => ⟨(h r hr).1, (h r hr).2.2⟩), signs_encode l (fun r hr => (h r hr).1)]
  exact lines_id l 0 (by decide) (fun r hr => (h r hr).2.1)
end Go.Proofs.YticnenofiibpgaaDoor.Code
/- Texts az they come out of signs: clean; lexers anew. -/
namespace Go.Md
def cleanR (l : List Int) : List Int := (l.map fun r => if r = 65279 then 120 else r).filter (· != 0)
def clean (s : Str) : Str := encode (cleanR (decode s))
end Go.Md
namespace Go.Proofs.YticnenofiibpgaaDoor.Code
open Go.Dm Go.Dm.C
set_option linter.unusedSimpArgs false
set_option linter.unusedVariables false
set_option linter.unnecessarySimpa false
set_option maxRecDepth 10000
attribute [local irreducible] Go.Dm.F Go.Dm.RS Go.Dm.Y Go.Dm.FD Go.Dm.FZ1 Go.Dm.Hold
variable {R : List Ck}
theorem NI.new {c : Md.Str} {w : Int} {n : Md.Str} (hl : c.length ≤ 1000000000) (hn : n.length ≤ 10000000000) (hd : (Md.decode c).length ≤ c.length) : NI { Md.Lx.new c with way := w, last := n } :=
  ⟨Nat.le_trans hd hl, fun r hr => (decode_sv c r hr).1.1, Nat.zero_le _, fun _ => Nat.zero_le _, Nat.zero_le _, by show (0 : Nat) ≤ 100; omega, hn⟩
theorem decode_len (b : List UInt8) : (Md.decode b).length ≤ b.length := by
  have h1 : ∀ (f : Nat) (b : List UInt8), b.length ≤ f → (Md.signs f b).length ≤ b.length := by
    intro f
    induction f with
    | zero => intro b h; have : b = [] := List.eq_nil_of_length_eq_zero (by omega); subst this; simp [Md.signs]
    | succ f ih =>
      intro b h
      cases b with
      | nil => simp [Md.signs]
      | cons c l =>
        have hp := one_pos (b := c :: l) (by simp)
        simp only [List.length_cons] at hp h
        have := ih ((c :: l).drop (Md.one (c :: l)).2) (by rw [List.length_drop, List.length_cons]; omega)
        rw [List.length_drop, List.length_cons] at this
        simp only [Md.signs, List.length_cons]; omega
  have h2 := lines_len (Md.signs (Md.unmark b).length (Md.unmark b)) 0
  have h3 := h1 _ (Md.unmark b) (Nat.le_refl _)
  have h4 : (Md.unmark b).length ≤ b.length := by
    unfold Md.unmark; split
    · simp; omega
    · exact Nat.le_refl _
  unfold Md.decode; omega
end Go.Proofs.YticnenofiibpgaaDoor.Code
/- What lex.All does; tokens compared; words. -/
namespace Go.Proofs.YticnenofiibpgaaDoor.Code
open Go.Dm Go.Dm.C
set_option linter.unusedSimpArgs false
set_option linter.unusedVariables false
set_option linter.unnecessarySimpa false
set_option maxRecDepth 10000
attribute [local irreducible] Go.Dm.F Go.Dm.RS Go.Dm.Y Go.Dm.FD Go.Dm.FZ1 Go.Dm.Hold
variable {R : List Ck}
theorem toks_small {s : Md.Lx} {k : Nat} (hN : NI s) (ho : s.out = []) (ht : s.text = []) (hp : s.pos = 0) (hl : s.inp.length ≤ k) : s.toks.length ≤ 6 * (k + 1) ∧ Md.dl s.toks ≤ 40 * (k + 1) := by
  have h := toks_bd s.left s (Nat.le_refl _) hN ho
  rw [ht, List.length_nil] at h
  have e : s.left = s.inp.length + 1 := by unfold Md.Lx.left; rw [hp]; rfl
  rw [e] at h
  omega
theorem new_small {c : Md.Str} {k : Nat} {w : Int} {n : Md.Str} {b : Bool} (hl : c.length ≤ k) (hk : k ≤ 1000000000) (hn : n.length ≤ 10000000000) : NI { Md.Lx.new c with way := w, last := n, room := b } ∧ ({ Md.Lx.new c with way := w, last := n, room := b } : Md.Lx).toks.length ≤ 6 * (k + 1) ∧ Md.dl ({ Md.Lx.new c with way := w, last := n, room := b } : Md.Lx).toks ≤ 40 * (k + 1) := by
  have hd := decode_len c
  have hN : NI { Md.Lx.new c with way := w, last := n, room := b } := ⟨Nat.le_trans hd (Nat.le_trans hl hk), fun r hr => (decode_sv c r hr).1.1, Nat.zero_le _, fun _ => Nat.zero_le _, Nat.zero_le _, by show (0 : Nat) ≤ 100; omega, hn⟩
  exact ⟨hN, toks_small hN rfl rfl rfl (Nat.le_trans hd hl)⟩
theorem all_F {t z : Nat} {b : List UInt8} (hz : z = zOf t 1) (hl : b.length ≤ 100000000) : F D 15 [.lst t z (bytesV b)] R (fun v cs' => Hold (∃ (t : Nat) (os : List (Md.Tok × Nat)), v = .lst t (zOf t 10) (os.map encT) ∧ (t = 0 ∧ os = [] ∨ t = 1) ∧ os.map Prod.fst = Md.all b ∧ R = cs')) := by
  obtain ⟨hN, hb1, hb2⟩ := new_small (w := 0) (n := []) (b := false) hl (by omega) (by simp)
  refine F.of rfl rfl rfl ?_
  repeat' first | (show FC _ _ _ _ _; first | exact new_F hz (by omega) | exact tokens_F | exact collect_F (s := { Md.Lx.new b with way := 0, last := [], room := false }) hN (by omega)) | (show FZ _ _ _ _ _; exact joinZ_F2 rfl (by assumption) (Nat.le_trans hb1 (by decide)) (Nat.le_trans hb2 (by decide))) | (refine fun (hc : _ = _) => ?_; (try simp only [BB] at hc); (try (first | contradiction | (exfalso; omega)))) | exact arI | refine Pst.mk ⟨?_, rfl⟩ kk | constructor | (refine fun _ _ (hq : Hold _) => ?_; replace hq := hq.out; obtain ⟨_, rfl, rfl⟩ := hq) | (refine fun _ _ (hq : Hold _) => ?_; replace hq := hq.out; obtain ⟨_, _, rfl, rfl⟩ := hq) | rintro _ _ ⟨rfl, rfl⟩ | rintro _ _ ⟨_, rfl, rfl⟩ | rintro _ _ ⟨_, _, rfl, rfl⟩ | (refine fun (hc : _ = _) => ?_; (try simp only [BB] at hc)) | refine fun (_ : Nat) => ?_ | refine fun (_ : _ ≤ _) => ?_ | refine fun (_ : _ < _) => ?_ | (refine fun _ _ (hq : Hold _) => ?_; replace hq := hq.out; first | obtain ⟨t1, os, rfl, rfl, ha⟩ := hq | obtain ⟨t1, os, rfl, h0, ha, rfl⟩ := hq)
  rename_i t1 os h0 ha
  exact Pst.mk (.mk ⟨t1, os, rfl, h0, ha, rfl⟩) kk
end Go.Proofs.YticnenofiibpgaaDoor.Code
/- How a text is read on, with texts az one: rules. -/
namespace Go.Md
def tx (d : Str) : Tok := { Tok.zero with kind := 1, data := d }
/-- A text more. -/
def app (l : List Tok) (d : Str) : List Tok := joinStep l (tx d)
theorem app_emp (d : Str) : app [] d = if d = [] then [] else [tx d] := by
  unfold app
  rw [joinStep_nil]
  by_cases h : d = []
  · subst h; rfl
  · rw [if_neg (fun x => h x.2), if_neg h]
theorem app_snoc (l : List Tok) (u : Tok) (d : Str) : app (l ++ [u]) d = if u.kind = 1 then l ++ [{ u with data := u.data ++ d }] else if d = [] then l ++ [u] else l ++ [u] ++ [tx d] := by
  unfold app
  rw [joinStep_snoc]
  simp only [tx, true_and]
theorem app_nil (l : List Tok) : app l [] = l := by
  rcases List.eq_nil_or_concat l with rfl | ⟨l, u, rfl⟩
  · rw [app_emp, if_pos rfl]
  · rw [List.concat_eq_append, app_snoc]; split
    · simp
    · rw [if_pos rfl]
theorem app_app (l : List Tok) (a b : Str) : app (app l a) b = app l (a ++ b) := by
  by_cases ha : a = []
  · subst ha; rw [app_nil, List.nil_append]
  · have h2 : a ++ b ≠ [] := by simp [ha]
    rcases List.eq_nil_or_concat l with rfl | ⟨l, u, rfl⟩
    · rw [app_emp, if_neg ha, app_emp, if_neg h2]
      have := app_snoc [] (tx a) b
      rw [List.nil_append] at this
      rw [this, if_pos (show (tx a).kind = 1 from rfl)]; rfl
    · rw [List.concat_eq_append, app_snoc, app_snoc]; split
      · rename_i hk
        rw [app_snoc, if_pos (by exact hk)]; simp
      · (try rw [if_neg ha]); (try rw [if_neg h2]); rw [app_snoc, if_pos (show (tx a).kind = 1 from rfl)]; simp [tx, Tok.zero]
def vt (acc : List Tok) (x : Lx) : List Tok := app (x.out.foldl joinStep acc) (encode x.text)
/-- Where a lexer is, and what it gave. -/
structure At (acc : List Tok) (x : Lx) (w : Int) (n : Str) (b : Bool) (r : List Int) (A : List Tok) : Prop where
  done : x.done = false
  way : x.way = w
  last : x.last = n
  room : x.room = b
  rest : x.rest = r
  vt : vt acc x = A
end Go.Md
namespace Go.Proofs.YticnenofiibpgaaDoor.Code
open Go.Dm
set_option linter.unusedSimpArgs false
set_option linter.unusedVariables false
variable {acc : List Md.Tok} {x : Md.Lx} {w : Int} {n : Md.Str} {b : Bool} {r : List Int} {A B : List Md.Tok}
theorem enc_app (a b : List Int) : Md.encode (a ++ b) = Md.encode a ++ Md.encode b := by simp [Md.encode]
theorem enc_one (r : Int) : Md.encode [r] = Md.putR r := by simp [Md.encode]
theorem enc_cons (r : Int) (l : List Int) : Md.encode (r :: l) = Md.putR r ++ Md.encode l := by simp [Md.encode]
theorem At.adv (h : Md.At acc x w n b r A) (k : Nat) : Md.At acc (x.adv k) w n b (r.drop k) A := ⟨h.done, h.way, h.last, h.room, by rw [rest_adv, h.rest], h.vt⟩
theorem At.say (h : Md.At acc x w n b r A) (d : List Int) : Md.At acc (x.say d) w n b r (Md.app A (Md.encode (d.filter (· != -1)))) := ⟨h.done, h.way, h.last, h.room, h.rest, by
  rw [← h.vt]; unfold Md.vt
  rw [Md.app_app, ← enc_app]; rfl⟩
theorem At.say' (h : Md.At acc x w n b r A) {d : List Int} (hd : ∀ r ∈ d, 0 ≤ r) : Md.At acc (x.say d) w n b r (Md.app A (Md.encode d)) := by
  have := At.say h d
  rwa [filter_nn hd] at this
theorem At.flush (h : Md.At acc x w n b r A) : Md.At acc x.flush w n b r A := by
  unfold Md.Lx.flush
  split
  · exact h
  · refine ⟨h.done, h.way, h.last, h.room, h.rest, ?_⟩
    rw [← h.vt]; unfold Md.vt
    show Md.app ((x.out ++ [Md.textTok x.text]).foldl Md.joinStep acc) [] = _
    rw [Md.app_nil, List.foldl_append]; rfl
theorem At.emit (h : Md.At acc x w n b r A) (t : Md.Tok) : Md.At acc (x.emit t) w (if t.kind = 2 then t.name else n) b r (Md.joinStep A t) := by
  have h1 := At.flush h
  refine ⟨h1.done, h1.way, ?_, h1.room, h1.rest, ?_⟩
  · show (if t.kind = 2 then t.name else x.flush.last) = _; rw [h1.last]
  · have h2 := h1.vt
    unfold Md.vt at h2 ⊢
    have e : (x.emit t).text = [] := flush_text
    have e0 : x.flush.text = [] := flush_text
    rw [e0] at h2
    rw [e]
    show Md.app ((x.flush.out ++ [t]).foldl Md.joinStep acc) [] = _
    have e2 : Md.encode [] = [] := rfl
    rw [e2, Md.app_nil] at h2
    rw [Md.app_nil, List.foldl_append, h2]; rfl
theorem At.setWay (h : Md.At acc x w n b r A) (w' : Int) : Md.At acc { x with way := w' } w' n b r A := ⟨h.done, rfl, h.last, h.room, h.rest, h.vt⟩
theorem At.pk (h : Md.At acc x w n b r A) (k : Nat) : x.pk k = r.getD k (-1) := by rw [pk_rest, h.rest]
/-- Read from here on, with what is there already: what it all is. -/
def Rd (w : Int) (n : Md.Str) (b : Bool) (r : List Int) (A B : List Md.Tok) : Prop := ∀ acc x, NI x → Md.At acc x w n b r A → x.toks.foldl Md.joinStep acc = B
theorem NI.noOut (h : NI x) : NI { x with out := [] } := ⟨h.len, h.nn, h.pos, h.pos2, h.text, by show (0 : Nat) ≤ 100; omega, h.last⟩
theorem At.noOut (h : Md.At acc x w n b r A) : Md.At (x.out.foldl Md.joinStep acc) { x with out := [] } w n b r A := ⟨h.done, h.way, h.last, h.room, h.rest, h.vt⟩
theorem At.fin (h : Md.At acc x w n b r A) : Md.At acc (stepFin x) w n b r A := by
  unfold stepFin; split
  · exact At.flush h
  · exact h
theorem Rd.step {w' : Int} {n' : Md.Str} {b' : Bool} {r' : List Int} {A' : List Md.Tok} (h : ∀ acc x, NI x → x.out = [] → Md.At acc x w n b r A → Md.At acc (stepMid x) w' n' b' r' A') (hr : Rd w' n' b' r' A' B) : Rd w n b r A B := by
  intro acc x hN hS
  have hN0 := hN.noOut
  have hS0 := At.noOut hS
  rw [toks_out, List.foldl_append]
  have ho : ({ x with out := [] } : Md.Lx).out = [] := rfl
  generalize ({ x with out := [] } : Md.Lx) = y at *
  rw [toks_step hN0 hS0.done ho]
  refine hr _ _ (hN0.step hS0.done ho) ?_
  rw [step_eq]
  exact At.fin (h _ _ hN0 ho hS0)
theorem Rd.nil : Rd w n b [] A A := by
  intro acc x hN hS
  have hN0 := hN.noOut
  have hS0 := At.noOut hS
  rw [toks_out, List.foldl_append]
  have ho : ({ x with out := [] } : Md.Lx).out = [] := rfl
  generalize ({ x with out := [] } : Md.Lx) = y at *
  rw [toks_step hN0 hS0.done ho]
  have hp : y.pk 0 = -1 := by rw [At.pk hS0]; rfl
  have hmid : stepMid y = { (y.adv 1).flush with done := true } := by rw [stepMid, if_pos hp]
  have hst : y.step = { (y.adv 1).flush with done := true } := by
    rw [step_eq, stepFin, hmid, if_neg]
    intro h; apply h.2.1; show (y.adv 1).flush.text = []; exact flush_text
  have hf := (At.flush (At.adv hS0 1)).vt
  rw [toks_out, hst]
  have hd : ({ ({ (y.adv 1).flush with done := true } : Md.Lx) with out := [] } : Md.Lx).toks = [] := toks_done rfl rfl
  rw [hd, List.append_nil]
  unfold Md.vt at hf
  have e : (y.adv 1).flush.text = [] := flush_text
  have e2 : Md.encode [] = [] := rfl
  rw [e, e2, Md.app_nil] at hf
  exact hf
/-- Signs that are a part of the text, in a way. -/
def okSign (w : Int) (c : Int) : Prop := 0 < c ∧ c ≠ 60 ∧ (c = 38 → w ≠ 0 ∧ w ≠ 1)
theorem okSign.of {c : Int} (h : Md.plainSign c = true ∧ 0 ≤ c) : okSign w c := by
  obtain ⟨hc, h0⟩ := h
  simp only [Md.plainSign, Bool.not_eq_true', Bool.or_eq_false_iff, beq_eq_false_iff_ne, ne_eq] at hc
  exact ⟨by omega, hc.1.2, fun h => absurd h hc.1.1⟩
theorem mid_plain {c : Int} {l : List Int} (hc : okSign x.way c) (hr : x.rest = c :: l) : stepMid x = ((x.adv 1).adv (l.takeWhile Md.plainSign).length).say (c :: l.takeWhile Md.plainSign) := by
  have hp : x.pk 0 = c := by rw [pk_rest, hr]; rfl
  have h1 : (x.adv 1).rest = l := by rw [rest_adv, hr]; rfl
  obtain ⟨h0, h60, h38⟩ := hc
  rw [stepMid, hp, h1, if_neg (by omega), if_neg (fun h => by have := h38 h.1; omega), if_neg (fun h => h60 h.1), if_neg (fun h => h60 h.1), if_neg (fun h => h60 h.1), if_neg (by omega), if_neg (by omega)]
theorem Rd.plain1 {c : Int} {l : List Int} (hc : okSign w c) (h : Rd w n b l (Md.app A (Md.putR c)) B) : Rd w n b (c :: l) A B := by
  have h0 : 0 ≤ c := Int.le_of_lt hc.1
  cases l with
  | nil =>
    refine Rd.step (fun acc x hN ho hS => ?_) h
    rw [mid_plain (by rw [hS.way]; exact hc) hS.rest]
    have := At.say' (At.adv (At.adv hS 1) 0) (d := [c]) (by simp [h0])
    rw [enc_one] at this
    exact this
  | cons e l =>
    by_cases he : Md.plainSign e = true
    · intro acc x hN hS
      have hN0 := hN.noOut
      have hS0 := At.noOut hS
      rw [toks_out, List.foldl_append]
      have ho : ({ x with out := [] } : Md.Lx).out = [] := rfl
      generalize ({ x with out := [] } : Md.Lx) = y at *
      have hlt : y.pos < y.inp.length := by
        by_cases hlt : y.pos < y.inp.length
        · exact hlt
        · have := rest_nil (s := y) (by omega); rw [hS0.rest] at this; cases this
      have hNz : NI ((y.adv 1).say [c]) := ⟨hN0.len, hN0.nn, by show y.pos + 1 ≤ _; exact Nat.succ_le_succ (Nat.le_of_lt hlt), fun _ => by show y.pos + 1 ≤ y.inp.length; omega, by
        show (y.text ++ [c].filter (· != -1)).length ≤ 10 * (y.pos + 1)
        have := hN0.text
        rw [filter_nn (by simp [h0]), List.length_append, List.length_singleton]; omega, hN0.out, hN0.last⟩
      have hSz := At.say' (At.adv hS0 1) (d := [c]) (by simp [h0])
      rw [enc_one] at hSz
      have := h _ _ hNz hSz
      rw [← this]
      have he0 : 0 ≤ e := hN0.nn e (by
        have : e ∈ y.rest := by rw [hS0.rest]; simp
        exact List.mem_of_mem_drop this)
      congr 1
      rw [toks_step hN0 hS0.done ho, toks_step hNz hSz.done (by exact ho), step_eq, step_eq]
      congr 2
      rw [mid_plain (by rw [hS0.way]; exact hc) hS0.rest, mid_plain (okSign.of ⟨he, he0⟩) (show ((y.adv 1).say [c]).rest = e :: l by rw [rest_say, rest_adv, hS0.rest]; rfl)]
      rw [List.takeWhile_cons, if_pos he]
      unfold Md.Lx.say Md.Lx.adv
      simp only [List.length_cons, Md.Lx.mk.injEq, true_and, and_true]
      have e1 : (c :: e :: l.takeWhile Md.plainSign).filter (· != -1) = [c].filter (· != -1) ++ (e :: l.takeWhile Md.plainSign).filter (· != -1) := by rw [← List.filter_append]; rfl
      exact ⟨by omega, by rw [e1, List.append_assoc]⟩
    · refine Rd.step (fun acc x hN ho hS => ?_) h
      rw [mid_plain (by rw [hS.way]; exact hc) hS.rest, List.takeWhile_cons, if_neg he]
      have := At.say' (At.adv (At.adv hS 1) 0) (d := [c]) (by simp [h0])
      rw [enc_one] at this
      exact this
theorem Rd.plain {l : List Int} : ∀ (d : List Int) {A : List Md.Tok}, (∀ c ∈ d, okSign w c) → Rd w n b l (Md.app A (Md.encode d)) B → Rd w n b (d ++ l) A B
  | [], A, _, h => by have e : Md.encode [] = [] := rfl; rw [e, Md.app_nil] at h; exact h
  | c :: d, A, hd, h => Rd.plain1 (hd c (by simp)) (Rd.plain d (fun x hx => hd x (by simp [hx])) (by rw [Md.app_app, ← enc_cons]; exact h))
/-- A < where tags may stand. -/
theorem Rd.tag {n' : Md.Str} {w' : Int} {b' : Bool} {l r' : List Int} {A' : List Md.Tok} (h : ∀ acc x, (∀ r ∈ x.inp, 0 ≤ r) → Md.At acc x 0 n b l A → Md.At acc x.open_ w' n' b' r' A') (hr : Rd w' n' b' r' A' B) : Rd 0 n b (60 :: l) A B := by
  refine Rd.step (fun acc x hN ho hS => ?_) hr
  have hp : x.pk 0 = 60 := by rw [At.pk hS]; rfl
  have hw := hS.way
  rw [stepMid, if_neg (by omega), if_neg (by omega), if_pos ⟨hp, hw⟩]
  exact h _ _ (by rw [flush_inp]; exact hN.nn) (At.flush (At.adv hS 1))
/-- A < in the other ways. -/
theorem Rd.shut {n' : Md.Str} {w' : Int} {b' : Bool} {l r' : List Int} {A' : List Md.Tok} (hw : w = 1 ∨ w = 2) (h : ∀ acc x, (∀ r ∈ x.inp, 0 ≤ r) → Md.At acc x w n b l A → Md.At acc x.close w' n' b' r' A') (hr : Rd w' n' b' r' A' B) : Rd w n b (60 :: l) A B := by
  refine Rd.step (fun acc x hN ho hS => ?_) hr
  have hp : x.pk 0 = 60 := by rw [At.pk hS]; rfl
  have hw' := hS.way
  rw [stepMid, if_neg (by omega), if_neg (by omega), if_neg (by omega), if_pos ⟨hp, by omega⟩]
  exact h _ _ (by rw [flush_inp]; exact hN.nn) (At.flush (At.adv hS 1))
theorem Rd.scr {n' : Md.Str} {w' : Int} {b' : Bool} {l r' : List Int} {A' : List Md.Tok} (h : ∀ acc x, (∀ r ∈ x.inp, 0 ≤ r) → Md.At acc x 3 n b l A → Md.At acc x.script w' n' b' r' A') (hr : Rd w' n' b' r' A' B) : Rd 3 n b (60 :: l) A B := by
  refine Rd.step (fun acc x hN ho hS => ?_) hr
  have hp : x.pk 0 = 60 := by rw [At.pk hS]; rfl
  have hw' := hS.way
  rw [stepMid, if_neg (by omega), if_neg (by omega), if_neg (by omega), if_neg (by omega), if_pos ⟨hp, by omega⟩]
  exact h _ _ (by rw [flush_inp]; exact hN.nn) (At.flush (At.adv hS 1))
theorem Rd.ref {l : List Int} (hw : w = 0 ∨ w = 1) (hs : ∀ r ∈ (Md.refer false l).1, 0 ≤ r) (hr : Rd w n b (l.drop (Md.refer false l).2) (Md.app A (Md.encode (Md.refer false l).1)) B) : Rd w n b (38 :: l) A B := by
  refine Rd.step (fun acc x hN ho hS => ?_) hr
  have hp : x.pk 0 = 38 := by rw [At.pk hS]; rfl
  have hw' := hS.way
  rw [stepMid, if_neg (by omega), if_pos ⟨hp, by omega⟩]
  have h1 : (x.adv 1).rest = l := by rw [rest_adv, hS.rest]; rfl
  unfold refA
  rw [h1]
  exact At.say' (At.adv (At.adv hS 1) _) hs
theorem Rd.start {c : Md.Str} {w : Int} {nm : Md.Str} {room : Bool} (hN : NI { Md.Lx.new c with way := w, last := nm, room := room }) (h : Rd w nm room (Md.decode c) [] B) : Md.join ({ Md.Lx.new c with way := w, last := nm, room := room } : Md.Lx).toks = B :=
  h [] _ hN ⟨rfl, rfl, rfl, rfl, rfl, rfl⟩
theorem Rd.conv {r' : List Int} {A' B' : List Md.Tok} (h : Rd w n b r' A' B') (h1 : r = r') (h2 : A = A') (h3 : B' = B) : Rd w n b r A B := by subst h1; subst h2; subst h3; exact h
end Go.Proofs.YticnenofiibpgaaDoor.Code
/- Two lexers at the same text, where tags may stand, give the same. -/
namespace Go.Md
/-- A relation of tokens that more of them keep. -/
structure Cl (K : Nat) (q : List Tok → List Tok → Prop) : Prop where
  app : ∀ A A' d, q A A' → q (app A d) (app A' d)
  tok : ∀ A A' t, t.kind ≠ 1 → t.attrs.length ≤ K → q A A' → q (joinStep A t) (joinStep A' t)
/-- Texts that are nothing else. -/
def Good (A : List Tok) : Prop := ∀ t ∈ A, t.kind = 1 → t = tx t.data
theorem Good.app {A : List Tok} (h : Good A) (d : Str) : Good (app A d) := by
  rcases List.eq_nil_or_concat A with rfl | ⟨l, u, rfl⟩
  · rw [app_emp]; split
    · exact h
    · intro t ht _; simp only [List.mem_singleton] at ht; subst ht; rfl
  · rw [List.concat_eq_append] at *
    rw [app_snoc]; split
    · rename_i hk
      intro t ht h1
      rcases List.mem_append.1 ht with ht | ht
      · exact h t (by simp [ht]) h1
      · simp only [List.mem_singleton] at ht; subst ht
        have := h u (by simp) hk
        rw [this]; rfl
    · split
      · exact h
      · intro t ht h1
        rcases List.mem_append.1 ht with ht | ht
        · exact h t ht h1
        · simp only [List.mem_singleton] at ht; subst ht; rfl
theorem joinStep_tok {A : List Tok} {t : Tok} (ht : t.kind ≠ 1) : joinStep A t = A ++ [t] := by
  rcases List.eq_nil_or_concat A with rfl | ⟨l, u, rfl⟩
  · rw [joinStep_nil, if_neg (fun h => ht h.1)]; rfl
  · rw [List.concat_eq_append, joinStep_snoc, if_neg (fun h => ht h.1), if_neg (fun h => ht h.1)]
theorem Good.tok {A : List Tok} (h : Good A) {t : Tok} (ht : t.kind ≠ 1) : Good (joinStep A t) := by
  rw [joinStep_tok ht]
  intro u hu h1
  rcases List.mem_append.1 hu with hu | hu
  · exact h u hu h1
  · simp only [List.mem_singleton] at hu; subst hu; exact absurd h1 ht
theorem cl_eq (K : Nat) : Cl K (· = ·) := ⟨fun _ _ _ h => by rw [h], fun _ _ _ _ _ h => by rw [h]⟩
theorem putAttr_len (al : List (Str × Str)) (a : Str × Str) : (putAttr al a).length ≤ al.length + 1 := by
  unfold putAttr; split
  · omega
  · simp
/-- Two lexers at the same text. -/
structure Al (K : Nat) (q : List Tok → List Tok → Prop) (acc : List Tok) (x : Lx) (acc' : List Tok) (y : Lx) : Prop where
  dx : x.done = false
  dy : y.done = false
  wx : x.way = 0
  wy : y.way = 0
  room : x.room = y.room
  rest : x.rest = y.rest
  len : y.rest.length ≤ K
  q : q (vt acc x) (vt acc' y)
end Go.Md
namespace Go.Proofs.YticnenofiibpgaaDoor.Code
open Go.Dm
set_option linter.unusedSimpArgs false
set_option linter.unusedVariables false
theorem attrs_len : ∀ (n : Nat) (l : List Int) (acc : List (Md.Str × Md.Str)), l.length ≤ n → (Md.attrsGo l acc).1.length ≤ acc.length + l.length := by
  intro n
  induction n with
  | zero => intro l acc h; have : l = [] := List.eq_nil_of_length_eq_zero (by omega); subst this; rw [attrsGo_nil]; simp
  | succ n ih =>
    intro l acc h
    cases l with
    | nil => rw [attrsGo_nil]; simp
    | cons r l =>
      simp only [List.length_cons] at h ⊢
      cases hb : Md.blank r with
      | true => rw [attrsGo_blank hb]; have := ih l acc (by omega); dsimp only; omega
      | false =>
        by_cases h1 : r = 62
        · subst h1; rw [attrsGo_end]; simp
        · by_cases h2 : r = 47
          · subst h2
            rw [attrsGo_slash]
            split
            · dsimp only; omega
            · have := ih l acc (by omega); dsimp only; omega
          · have hg : 1 ≤ (Md.attr1 (r :: l)).2.2 := attr1_ge (by rw [over_f]; exact ⟨⟨hb, h2⟩, h1⟩)
            have hp := Md.putAttr_len acc (Md.attr1 (r :: l)).1
            rw [attrsGo_attr hb h1 h2]
            split
            · have := ih ((r :: l).drop (Md.attr1 (r :: l)).2.2) (Md.putAttr acc (Md.attr1 (r :: l)).1) (by rw [List.length_drop, List.length_cons]; omega)
              rw [List.length_drop, List.length_cons] at this
              dsimp only; omega
            · dsimp only; omega
variable {K : Nat} {q : List Md.Tok → List Md.Tok → Prop} {acc acc' : List Md.Tok} {x y : Md.Lx}
theorem Al.pk (h : Md.Al K q acc x acc' y) (k : Nat) : x.pk k = y.pk k := by rw [pk_rest, pk_rest, h.rest]
theorem Al.adv (h : Md.Al K q acc x acc' y) (k : Nat) : Md.Al K q acc (x.adv k) acc' (y.adv k) := ⟨h.dx, h.dy, h.wx, h.wy, h.room, by rw [rest_adv, rest_adv, h.rest], by rw [rest_adv, List.length_drop]; have := h.len; omega, h.q⟩
theorem vt_say (d : List Int) : Md.vt acc (x.say d) = Md.app (Md.vt acc x) (Md.encode (d.filter (· != -1))) := by
  unfold Md.vt
  rw [Md.app_app, ← enc_app]; rfl
theorem vt_flush : Md.vt acc x.flush = Md.vt acc x := by
  unfold Md.Lx.flush
  split
  · rfl
  · unfold Md.vt
    show Md.app ((x.out ++ [Md.textTok x.text]).foldl Md.joinStep acc) [] = _
    rw [Md.app_nil, List.foldl_append]; rfl
theorem vt_emit (t : Md.Tok) : Md.vt acc (x.emit t) = Md.joinStep (Md.vt acc x) t := by
  have h2 := vt_flush (acc := acc) (x := x)
  unfold Md.vt at h2 ⊢
  have e : (x.emit t).text = [] := flush_text
  have e0 : x.flush.text = [] := flush_text
  have e2 : Md.encode [] = [] := rfl
  rw [e0, e2, Md.app_nil] at h2
  rw [e]
  show Md.app ((x.flush.out ++ [t]).foldl Md.joinStep acc) [] = _
  rw [Md.app_nil, List.foldl_append, h2]; rfl
theorem Al.say (c : Md.Cl K q) (h : Md.Al K q acc x acc' y) (d : List Int) : Md.Al K q acc (x.say d) acc' (y.say d) := ⟨h.dx, h.dy, h.wx, h.wy, h.room, h.rest, h.len, by rw [vt_say, vt_say]; exact c.app _ _ _ h.q⟩
theorem Al.flush (h : Md.Al K q acc x acc' y) : Md.Al K q acc x.flush acc' y.flush :=
  ⟨by rw [flush_done]; exact h.dx, by rw [flush_done]; exact h.dy, by rw [flush_way]; exact h.wx, by rw [flush_way]; exact h.wy, by rw [flush_room, flush_room]; exact h.room, by unfold Md.Lx.rest; rw [flush_inp, flush_inp, flush_pos, flush_pos]; exact h.rest, by unfold Md.Lx.rest; rw [flush_inp, flush_pos]; exact h.len, by rw [vt_flush, vt_flush]; exact h.q⟩
theorem Al.emit (c : Md.Cl K q) (h : Md.Al K q acc x acc' y) {t : Md.Tok} (ht : t.kind ≠ 1) (ha : t.attrs.length ≤ K) : Md.Al K q acc (x.emit t) acc' (y.emit t) := by
  have h1 := Al.flush h
  exact ⟨h1.dx, h1.dy, h1.wx, h1.wy, h1.room, h1.rest, h1.len, by rw [vt_emit, vt_emit]; exact c.tok _ _ _ ht ha h.q⟩
variable (c : Md.Cl K q) (h : Md.Al K q acc x acc' y)
include c h
theorem Al.tag {k : Int} (hk : k ≠ 1) : Md.Al K q acc (x.tag k) acc' (y.tag k) := by
  unfold Md.Lx.tag
  rw [h.rest]
  dsimp only
  split
  · refine Al.emit c (Al.adv h _) hk ?_
    dsimp only
    split
    · exact Nat.zero_le _
    · refine Nat.le_trans (attrs_len _ _ _ (Nat.le_refl _)) ?_
      rw [List.length_nil, List.length_drop]
      have := h.len; omega
  · exact Al.adv h _
theorem Al.bogus : Md.Al K q acc x.bogus acc' y.bogus := by
  unfold Md.Lx.bogus
  rw [h.rest]
  exact Al.emit c (Al.adv h _) (by show (4 : Int) ≠ 1; decide) (Nat.zero_le _)
theorem Al.ending : Md.Al K q acc x.ending acc' y.ending := by
  unfold Md.Lx.ending
  rw [Al.pk h 0]
  split
  · exact Al.tag c h (by decide)
  · split
    · exact Al.adv h _
    · split
      · exact Al.say c h _
      · exact Al.bogus c h
theorem Al.section_ : Md.Al K q acc x.section_ acc' y.section_ := by
  unfold Md.Lx.section_
  rw [h.rest]
  exact Al.say c (Al.adv h _) _
theorem Al.comment : Md.Al K q acc x.comment acc' y.comment := by
  unfold Md.Lx.comment
  rw [h.rest, Al.pk h 0, Al.pk h 1]
  dsimp only
  have hk : ∀ d, (Md.commentTok d).kind ≠ 1 := fun d => by show (4 : Int) ≠ 1; decide
  split
  · exact Al.emit c (Al.adv h _) (hk _) (Nat.zero_le _)
  · split
    · exact Al.emit c (Al.adv h _) (hk _) (Nat.zero_le _)
    · exact Al.emit c (Al.adv h _) (hk _) (Nat.zero_le _)
omit c in
theorem Al.blanks : Md.Al K q acc x.blanks acc' y.blanks := by
  unfold Md.Lx.blanks; rw [h.rest]; exact Al.adv h _
omit c in
theorem Al.skip : Md.Al K q acc x.skip acc' y.skip := by
  unfold Md.Lx.skip; rw [h.rest]; exact Al.adv h _
theorem Al.sys {t : Md.Tok} (ht : t.kind ≠ 1) (ha : t.attrs.length ≤ K) : Md.Al K q acc (x.doctypeSys t) acc' (y.doctypeSys t) := by
  unfold Md.Lx.doctypeSys
  rw [h.rest]
  dsimp only
  have h1 := Al.adv h (Md.quoted y.rest).2.2.2
  rw [Al.pk (Al.blanks h1) 0]
  split
  · exact Al.emit c h1 ht ha
  · split
    · exact Al.emit c (Al.blanks h1) ht ha
    · exact Al.emit c (Al.skip (Al.blanks h1)) ht ha
theorem Al.pub {t : Md.Tok} (ht : t.kind ≠ 1) (ha : t.attrs.length ≤ K) : Md.Al K q acc (x.doctypePub t) acc' (y.doctypePub t) := by
  unfold Md.Lx.doctypePub
  rw [h.rest]
  dsimp only
  have h1 := Al.adv h (Md.quoted y.rest).2.2.2
  rw [Al.pk (Al.blanks h1) 0]
  split
  · exact Al.emit c h1 ht ha
  · split
    · exact Al.emit c (Al.adv (Al.blanks h1) _) ht ha
    · exact Al.sys c (Al.blanks h1) ht ha
theorem Al.rest' {t : Md.Tok} (ht : t.kind ≠ 1) (ha : t.attrs.length ≤ K) : Md.Al K q acc (x.doctypeRest t) acc' (y.doctypeRest t) := by
  unfold Md.Lx.doctypeRest
  rw [h.rest, Al.pk h 0]
  split
  · exact Al.emit c (Al.adv h _) ht ha
  · split
    · exact Al.emit c h ht ha
    · split
      · exact Al.pub c (Al.blanks (Al.adv h _)) ht ha
      · split
        · exact Al.sys c (Al.blanks (Al.adv h _)) ht ha
        · exact Al.emit c (Al.skip h) ht ha
theorem Al.doctype : Md.Al K q acc x.doctype acc' y.doctype := by
  have hb := Al.blanks h
  unfold Md.Lx.doctype
  dsimp only
  rw [hb.rest, Al.pk hb 0]
  split
  · exact Al.emit c (Al.adv hb _) (by show (5 : Int) ≠ 1; decide) (Nat.zero_le _)
  · split
    · exact Al.emit c hb (by show (5 : Int) ≠ 1; decide) (Nat.zero_le _)
    · exact Al.rest' c (Al.blanks (Al.adv hb _)) (by show (5 : Int) ≠ 1; decide) (Nat.zero_le _)
theorem Al.declare : Md.Al K q acc x.declare acc' y.declare := by
  unfold Md.Lx.declare
  rw [h.rest, Al.pk h 0, h.room]
  split
  · exact Al.comment c (Al.adv h _)
  · split
    · exact Al.doctype c (Al.adv h _)
    · split
      · exact Al.section_ c (Al.adv h _)
      · exact Al.bogus c h
theorem Al.open_ : Md.Al K q acc x.open_ acc' y.open_ := by
  unfold Md.Lx.open_
  rw [Al.pk h 0]
  split
  · exact Al.declare c (Al.adv h _)
  · split
    · exact Al.ending c (Al.adv h _)
    · split
      · exact Al.tag c h (by decide)
      · split
        · exact Al.bogus c h
        · exact Al.say c h _
theorem Al.mid (hr : y.pk 0 ≠ -1) : Md.Al K q acc (stepMid x) acc' (stepMid y) := by
  have h1 := Al.adv h 1
  have e1 := h1.rest
  unfold stepMid
  rw [Al.pk h 0, e1, h.wx, h.wy, if_neg hr, if_neg hr]
  split
  · unfold refA
    rw [e1]
    exact Al.say c (Al.adv h1 _) _
  · split
    · exact Al.open_ c (Al.flush h1)
    · split
      · exact absurd (by assumption : y.pk 0 = 60 ∧ ((0 : Int) = 1 ∨ (0 : Int) = 2)).2 (by decide)
      · split
        · exact absurd (by assumption : y.pk 0 = 60 ∧ (0 : Int) = 3).2 (by decide)
        · split
          · exact Al.say c h1 _
          · split
            · exact Al.say c h1 _
            · exact Al.say c (Al.adv h1 _) _
omit c in
theorem Al.fin : Md.Al K q acc (stepFin x) acc' (stepFin y) := by
  have hx : ∀ z : Md.Lx, stepFin z = z.flush ∨ stepFin z = z := fun z => by unfold stepFin; split; exact .inl rfl; exact .inr rfl
  have hf := Al.flush h
  have e : ∀ z : Md.Lx, (stepFin z).done = z.done ∧ (stepFin z).way = z.way ∧ (stepFin z).room = z.room ∧ (stepFin z).rest = z.rest ∧ ∀ a, Md.vt a (stepFin z) = Md.vt a z := fun z => by
    rcases hx z with e | e
    · rw [e]; exact ⟨flush_done, flush_way, flush_room, by unfold Md.Lx.rest; rw [flush_inp, flush_pos], fun a => vt_flush⟩
    · rw [e]; exact ⟨rfl, rfl, rfl, rfl, fun a => rfl⟩
  obtain ⟨a1, a2, a3, a4, a5⟩ := e x
  obtain ⟨b1, b2, b3, b4, b5⟩ := e y
  exact ⟨by rw [a1]; exact h.dx, by rw [b1]; exact h.dy, by rw [a2]; exact h.wx, by rw [b2]; exact h.wy, by rw [a3, b3]; exact h.room, by rw [a4, b4]; exact h.rest, by rw [b4]; exact h.len, by rw [a5, b5]; exact h.q⟩
omit h in
theorem Al.toks : ∀ (n : Nat) (acc acc' : List Md.Tok) (x y : Md.Lx), x.left ≤ n → NI x → NI y → Md.Al K q acc x acc' y → q (x.toks.foldl Md.joinStep acc) (y.toks.foldl Md.joinStep acc') := by
  intro n
  induction n with
  | zero => intro acc acc' x y hn hx hy h; have := step_left hx.noOut (by exact h.dx); exact absurd this (by show ¬(_ < x.left); omega)
  | succ n ih =>
    intro acc acc' x y hn hx hy h
    cases hr : y.rest with
    | nil =>
      have e1 := Rd.nil acc x hx (w := 0) (n := x.last) (b := x.room) ⟨h.dx, h.wx, rfl, rfl, by rw [h.rest, hr], rfl⟩
      have e2 := Rd.nil acc' y hy (w := 0) (n := y.last) (b := y.room) ⟨h.dy, h.wy, rfl, rfl, hr, rfl⟩
      rw [e1, e2]; exact h.q
    | cons r l =>
      rw [toks_out x, toks_out y, List.foldl_append, List.foldl_append]
      have hx0 := hx.noOut
      have hy0 := hy.noOut
      have h0 : Md.Al K q (x.out.foldl Md.joinStep acc) { x with out := [] } (y.out.foldl Md.joinStep acc') { y with out := [] } := ⟨h.dx, h.dy, h.wx, h.wy, h.room, h.rest, h.len, h.q⟩
      have hr0 : ({ y with out := [] } : Md.Lx).rest = r :: l := hr
      have hl0 : ({ x with out := [] } : Md.Lx).left = x.left := rfl
      have ox : ({ x with out := [] } : Md.Lx).out = [] := rfl
      have oy : ({ y with out := [] } : Md.Lx).out = [] := rfl
      generalize ({ x with out := [] } : Md.Lx) = x' at *
      generalize ({ y with out := [] } : Md.Lx) = y' at *
      have hsl := step_left hx0 h0.dx
      rw [toks_step hx0 h0.dx ox, toks_step hy0 h0.dy oy]
      refine ih _ _ _ _ (by omega) (hx0.step h0.dx ox) (hy0.step h0.dy oy) ?_
      rw [step_eq, step_eq]
      refine Al.fin (Al.mid c h0 ?_)
      rw [pk_rest, hr0]
      have : 0 ≤ r := hy0.nn r (by
        have : r ∈ y'.rest := by rw [hr0]; simp
        exact List.mem_of_mem_drop this)
      show r ≠ -1
      omega
end Go.Proofs.YticnenofiibpgaaDoor.Code
/- A marked section is a text where it may stand, and a comment where it may not. -/
namespace Go.Md
def asc (b : Str) : List Int := b.map fun c => (c.toNat : Int)
end Go.Md
namespace Go.Proofs.YticnenofiibpgaaDoor.Code
open Go.Dm
set_option linter.unusedSimpArgs false
set_option linter.unusedVariables false
theorem putR_asc {c : UInt8} (h : c.toNat < 128) : Md.putR (c.toNat : Int) = [c] := by
  rw [putR_nat (by omega), if_pos (by omega)]
  congr 1
  apply UInt8.toNat.inj
  rw [byteN_nat (by omega)]
theorem enc_asc {b : Md.Str} (h : ∀ c ∈ b, c.toNat < 128) : Md.encode (Md.asc b) = b := by
  induction b with
  | nil => rfl
  | cons c b ih =>
    show Md.encode ((c.toNat : Int) :: Md.asc b) = _
    rw [enc_cons, putR_asc (h c (by simp)), ih (fun x hx => h x (by simp [hx]))]; rfl
theorem one_cut {s : Md.Str} {i : Nat} (h : i < s.length) : List.take (((i : Int) + 1).toNat - (i : Int).toNat) (List.drop (i : Int).toNat s) = [s.getD i 0] := by
  rw [show ((i : Int) + 1).toNat - (i : Int).toNat = 1 by omega, Int.toNat_natCast, drop_get h]; rfl
end Go.Proofs.YticnenofiibpgaaDoor.Code
/- An element's end, where its text is read in the raw way. -/
namespace Go.Proofs.YticnenofiibpgaaDoor.Code
open Go.Dm
set_option linter.unusedSimpArgs false
set_option linter.unusedVariables false
variable {acc : List Md.Tok} {x : Md.Lx} {w : Int} {n : Md.Str} {b : Bool} {r : List Int} {A B : List Md.Tok}
theorem dec1 {s : Md.Str} {i : Nat} (h : i < s.length) (ha : (s.getD i 0).toNat < 128) : Utf8.decode ⟨s.toArray⟩ i = ((s.getD i 0).toNat, 1) := by
  have e : ByteArray.get! ⟨s.toArray⟩ i = s.getD i 0 := by
    show s.toArray[i]! = _
    simp [List.getD_eq_getElem?_getD, h]
  unfold Utf8.decode
  simp only [Nat.add_zero, e]
  rw [if_pos (by omega)]
theorem runesGo_asc {s : Md.Str} (ha : ∀ c ∈ s, c.toNat < 128) : ∀ (f i : Nat), s.length ≤ i + f → Md.runesGo f s i = Md.asc (s.drop i)
  | 0, i, h => by rw [Md.runesGo, List.drop_eq_nil_of_le (by omega)]; rfl
  | f + 1, i, h => by
    rw [Md.runesGo]
    split
    · rename_i hi
      have hm : s.getD i 0 ∈ s := by rw [List.getD_eq_getElem?_getD, List.getElem?_eq_getElem hi]; exact List.getElem_mem _
      rw [dec1 hi (ha _ hm), drop_get hi, runesGo_asc ha f (i + 1) (by omega)]; rfl
    · rw [List.drop_eq_nil_of_le (by omega)]; rfl
theorem runes_asc {s : Md.Str} (ha : ∀ c ∈ s, c.toNat < 128) : Md.runes s = Md.asc s := by
  rw [Md.runes, runesGo_asc ha _ 0 (by omega)]; rfl
def lowName (n : Md.Str) : Prop := n ≠ [] ∧ ∀ c ∈ n, 97 ≤ c.toNat ∧ c.toNat ≤ 122
theorem small_low {c : Int} (h : 97 ≤ c) : Md.small c = c := by
  unfold Md.small; rw [if_neg (by omega)]
theorem goes_asc : ∀ (n : Md.Str) (T : List Int), (∀ c ∈ n, 97 ≤ c.toNat ∧ c.toNat ≤ 122) → Md.goesOn (Md.asc n) (Md.asc n ++ T) = true
  | [], T, _ => rfl
  | c :: n, T, h => by
    have h1 := h c (by simp)
    have := goes_asc n T (fun x hx => h x (by simp [hx]))
    show (Md.small (c.toNat : Int) == (c.toNat : Int) && Md.goesOn (Md.asc n) (Md.asc n ++ T)) = true
    rw [this, small_low (by omega)]; simp
theorem over_low {c : Int} (h : 97 ≤ c) : Md.over c = false := by
  simp [Md.over, Md.blank]; omega
theorem nameOf_asc {n : Md.Str} {T : List Int} (h : ∀ c ∈ n, 97 ≤ c.toNat ∧ c.toNat ≤ 122) (hT : Md.over (T.headD (-1)) = true) : Md.nameOf (Md.asc n ++ T) = Md.asc n := by
  induction n with
  | nil =>
    cases T with
    | nil => rfl
    | cons t T => show List.takeWhile _ (t :: T) = []; rw [List.takeWhile_cons, if_neg]; simpa using hT
  | cons c n ih =>
    have h1 := h c (by simp)
    show List.takeWhile _ ((c.toNat : Int) :: (Md.asc n ++ T)) = _
    rw [List.takeWhile_cons, if_pos (by rw [over_low (by omega)]; rfl)]
    have := ih (fun x hx => h x (by simp [hx]))
    unfold Md.nameOf at this
    rw [this]; rfl
theorem enc_name {n : Md.Str} (h : ∀ c ∈ n, 97 ≤ c.toNat ∧ c.toNat ≤ 122) : Md.encode ((Md.asc n).map fun r => Md.small (Md.fixr r)) = n := by
  have e : (Md.asc n).map (fun r => Md.small (Md.fixr r)) = Md.asc n := by
    rw [List.map_congr_left (g := id), List.map_id]
    intro r hr
    obtain ⟨c, hc, rfl⟩ := List.mem_map.1 hr
    have := h c hc
    rw [Md.fixr, if_neg (by omega), small_low (by omega)]; rfl
  rw [e, enc_asc (fun c hc => by have := h c hc; omega)]
def endTok (n : Md.Str) : Md.Tok := { Md.Tok.zero with kind := 3, name := n }
/-- A tag's rest, for an end. -/
theorem At.tag3 {n' : Md.Str} {T : List Int} (hn : lowName n) (hT : Md.over (T.headD (-1)) = true) (hq : (Md.attrsGo T []).2.2.1 = true) (h : Md.At acc x w n' b (Md.asc n ++ T) A) : Md.At acc (x.tag 3) w n' b (T.drop (Md.attrsGo T []).2.2.2) (Md.joinStep A (endTok n)) := by
  unfold Md.Lx.tag
  dsimp only
  rw [h.rest, nameOf_asc hn.2 hT, List.drop_left, if_pos hq, if_pos rfl, if_pos rfl, enc_name hn.2]
  have h1 := At.emit (At.adv h ((Md.asc n).length + (Md.attrsGo T []).2.2.2)) (endTok n)
  have e3 : ¬(endTok n).kind = 2 := by show ¬(3 : Int) = 2; decide
  rw [if_neg e3, ← List.drop_drop, List.drop_left] at h1
  exact h1
theorem closes_asc {T : List Int} (hn : lowName n) (hT : Md.over (T.headD (-1)) = true) : Md.closes n (47 :: (Md.asc n ++ T)) = 1 + n.length := by
  obtain ⟨h0, h1⟩ := hn
  obtain ⟨c, m, rfl⟩ : ∃ c m, n = c :: m := by cases n with
    | nil => exact absurd rfl h0
    | cons c m => exact ⟨c, m, rfl⟩
  have hl := h1 c (by simp)
  have hr : Md.runes (c :: m) = Md.asc (c :: m) := runes_asc (fun x hx => by have := h1 x hx; omega)
  have hlen : (Md.asc (c :: m)).length = (c :: m).length := List.length_map ..
  unfold Md.closes
  rw [if_neg, hr, if_pos, hlen]
  · refine ⟨goes_asc _ _ h1, ?_⟩
    have e : (47 :: (Md.asc (c :: m) ++ T)).getD (1 + (Md.asc (c :: m)).length) (-1) = T.headD (-1) := by
      rw [Nat.add_comm, List.getD_cons_succ, List.getD_eq_getElem?_getD, List.getElem?_append_right (Nat.le_refl _), Nat.sub_self]
      cases T <;> rfl
    rw [e]; exact hT
  · rintro (h | h | h)
    · exact h rfl
    · have : Md.letter (c.toNat : Int) = false := h
      have h2 : Md.letter (c.toNat : Int) = true := by simp [Md.letter]; omega
      rw [h2] at this; cases this
    · cases h
theorem At.close {T : List Int} (hn : lowName n) (hT : Md.over (T.headD (-1)) = true) (hq : (Md.attrsGo T []).2.2.1 = true) (h : Md.At acc x w n b (47 :: (Md.asc n ++ T)) A) : Md.At acc x.close 0 n b (T.drop (Md.attrsGo T []).2.2.2) (Md.joinStep A (endTok n)) := by
  unfold Md.Lx.close
  rw [h.last, h.rest, if_neg (by rw [closes_asc hn hT]; omega)]
  exact At.tag3 hn hT hq (At.setWay (At.adv h 1) 0)
theorem At.noClose (h : Md.At acc x w n b r A) (hc : Md.closes n r = 0) : Md.At acc x.close w n b r (Md.app A [60]) := by
  unfold Md.Lx.close
  rw [h.last, h.rest, if_pos hc]
  exact At.say' h (by simp)
theorem attrs_gt (l : List Int) (a : List (Md.Str × Md.Str)) : Md.attrsGo (62 :: l) a = (a, false, true, 1) := by
  rw [Md.attrsGo]; simp [Md.blank]
end Go.Proofs.YticnenofiibpgaaDoor.Code
/- Tokens compared; words. -/
namespace Go.Md
def wd (c : UInt8) : UInt8 := byteN (97 + c.toNat % 26)
end Go.Md
namespace Go.Proofs.YticnenofiibpgaaDoor.Code
open Go.Dm Go.Dm.C
set_option linter.unusedSimpArgs false
set_option linter.unusedVariables false
set_option linter.unnecessarySimpa false
set_option maxRecDepth 10000
attribute [local irreducible] Go.Dm.F Go.Dm.RS Go.Dm.Y Go.Dm.FD Go.Dm.FZ1 Go.Dm.Hold
variable {R : List Ck}
theorem take_eq_step {α : Type} [Inhabited α] {l m : List α} {i : Nat} (h : l.take i = m.take i) (hl : i < l.length) (hm : i < m.length) : l.take (i + 1) = m.take (i + 1) ↔ l.getD i default = m.getD i default := by
  have e1 : l.take (i + 1) = l.take i ++ [l[i]] := by rw [List.take_add_one, List.getElem?_eq_getElem hl]; rfl
  have e2 : m.take (i + 1) = m.take i ++ [m[i]] := by rw [List.take_add_one, List.getElem?_eq_getElem hm]; rfl
  rw [e1, e2, h]
  simp only [List.append_cancel_left_eq, List.cons.injEq, and_true, List.getD_eq_getElem?_getD, List.getElem?_eq_getElem hl, List.getElem?_eq_getElem hm, Option.getD_some]
theorem equal_F {t z t' z' : Nat} {l m : List (Md.Str × Md.Str)} (hz : z = zOf t 2) (hz' : z' = zOf t' 2) (hl : l.length ≤ 1000000000) : F D 42 [.lst t z (l.map encA), .lst t' z' (m.map encA)] R (fun v cs' => v = .bool (decide (l = m)) ∧ R = cs') := by
  subst hz; subst hz'
  refine F.of rfl rfl rfl ?_
  repeat' first | exact arI | refine Pst.mk ⟨?_, rfl⟩ kk | constructor | (refine fun _ _ (hq : Hold _) => ?_; replace hq := hq.out; obtain ⟨_, rfl, rfl⟩ := hq) | (refine fun _ _ (hq : Hold _) => ?_; replace hq := hq.out; obtain ⟨_, _, rfl, rfl⟩ := hq) | rintro _ _ ⟨rfl, rfl⟩ | rintro _ _ ⟨_, rfl, rfl⟩ | rintro _ _ ⟨_, _, rfl, rfl⟩ | (refine fun (hc : _ = _) => ?_; (try simp only [BB] at hc)) | refine fun (_ : Nat) => ?_ | refine fun (_ : _ ≤ _) => ?_ | refine fun (_ : _ < _) => ?_
  · rw [decide_eq_false]; intro e; subst e; omega
  refine RS.loopW (α := Nat) (fun i => [(0, .lst t (zOf t 2) (l.map encA)), (1, .lst t' (zOf t' 2) (m.map encA)), (12, .int .i64 l.length), (13, .int .i64 (i : Nat))]) (fun _ => R)
    (fun i => i ≤ l.length ∧ l.take i = m.take i) (fun i => l.length - i) 0 ⟨Nat.zero_le _, rfl⟩ ⟨rfl, rfl, rfl, rfl, trivial⟩ .refl ?_
  rintro i ⟨h1, h2⟩ ih
  dsimp only [ents] at *
  have hte := fun a b => take_eq_step h2 (i := i) a b
  repeat' first | (refine fun (hc : _ = _) => ?_; (try simp only [BB] at hc); (try (first | contradiction | (exfalso; omega)))) | exact arI | refine Pst.mk ⟨?_, rfl⟩ kk | constructor | (refine fun _ _ (hq : Hold _) => ?_; replace hq := hq.out; obtain ⟨_, rfl, rfl⟩ := hq) | (refine fun _ _ (hq : Hold _) => ?_; replace hq := hq.out; obtain ⟨_, _, rfl, rfl⟩ := hq) | rintro _ _ ⟨rfl, rfl⟩ | rintro _ _ ⟨_, rfl, rfl⟩ | rintro _ _ ⟨_, _, rfl, rfl⟩ | (refine fun (hc : _ = _) => ?_; (try simp only [BB] at hc)) | refine fun (_ : Nat) => ?_ | refine fun (_ : _ ≤ _) => ?_ | refine fun (_ : _ < _) => ?_
  · rw [decide_eq_false]; intro e; subst e; simp at hc
  · refine ih _ _ (i + 1) ⟨by omega, (hte (by omega) (by omega)).2 (Prod.ext hc.1 hc.2)⟩ (by omega) ⟨rfl, rfl, rfl, rfl, trivial⟩ .refl
  · rw [decide_eq_true]
    rw [List.take_of_length_le (by omega), List.take_of_length_le (by omega)] at h2
    exact h2
set_option maxHeartbeats 1000000 in
theorem tokSame_F {p q : Md.Tok × Nat} (hl : p.1.attrs.length ≤ 1000000000) : F D 29 [encT p, encT q] R (fun v cs' => v = .bool (decide (p.1 = q.1)) ∧ R = cs') := by
  refine F.of rfl rfl rfl ?_
  repeat' first | (show FC _ _ _ _ _; exact equal_F rfl rfl hl) | (refine fun (hc : _ = _) => ?_; (try simp only [BB] at hc); (try (first | contradiction | (exfalso; omega)))) | exact arI | refine Pst.mk ⟨?_, rfl⟩ kk | constructor | (refine fun _ _ (hq : Hold _) => ?_; replace hq := hq.out; obtain ⟨_, rfl, rfl⟩ := hq) | (refine fun _ _ (hq : Hold _) => ?_; replace hq := hq.out; obtain ⟨_, _, rfl, rfl⟩ := hq) | rintro _ _ ⟨rfl, rfl⟩ | rintro _ _ ⟨_, rfl, rfl⟩ | rintro _ _ ⟨_, _, rfl, rfl⟩ | (refine fun (hc : _ = _) => ?_; (try simp only [BB] at hc)) | refine fun (_ : Nat) => ?_ | refine fun (_ : _ ≤ _) => ?_ | refine fun (_ : _ < _) => ?_
  obtain ⟨⟨p1, p2, p3, p4, p5, p6, p7, p8, p9, p10⟩, tp⟩ := p
  obtain ⟨⟨q1, q2, q3, q4, q5, q6, q7, q8, q9, q10⟩, tq⟩ := q
  dsimp only
  congr 1
  rw [Bool.eq_iff_iff]
  simp [and_assoc]
  exact ⟨fun ⟨a, b, c, d⟩ => ⟨b, c, a, d⟩, fun ⟨b, c, a, d⟩ => ⟨a, b, c, d⟩⟩
end Go.Proofs.YticnenofiibpgaaDoor.Code
/- An element's text that is read in the raw way goes on to its own end. -/
namespace Go.Proofs.YticnenofiibpgaaDoor.Code
open Go.Dm
set_option linter.unusedSimpArgs false
set_option linter.unusedVariables false
variable {acc : List Md.Tok} {x : Md.Lx} {w : Int} {n : Md.Str} {b : Bool} {r : List Int} {A B : List Md.Tok}
def rawOk : List Int → Prop
  | [] => True
  | r :: l => (r ≠ 38 ∧ 0 < r ∧ (r = 60 → l.headD 60 ≠ 47 ∧ l.headD 60 ≠ 33)) ∧ rawOk l
theorem putR_two {r : Int} (h : sv r) : (r < 128 ∧ Md.putR r = [Md.byteN r.toNat]) ∨ (128 ≤ r ∧ ∀ b ∈ Md.putR r, 128 ≤ b.toNat) := by
  obtain ⟨h0, h1, h2⟩ := h
  obtain ⟨n, rfl⟩ := Int.eq_ofNat_of_zero_le h0
  rw [putR_nat (by omega)]
  split
  · left; exact ⟨by omega, rfl⟩
  · right
    refine ⟨by omega, fun b hb => ?_⟩
    split at hb
    · simp only [List.mem_cons, List.not_mem_nil, or_false] at hb
      rcases hb with rfl | rfl <;> rw [byteN_nat (by omega)] <;> omega
    · split at hb
      · simp only [List.mem_cons, List.not_mem_nil, or_false] at hb
        rcases hb with rfl | rfl | rfl <;> rw [byteN_nat (by omega)] <;> omega
      · simp only [List.mem_cons, List.not_mem_nil, or_false] at hb
        rcases hb with rfl | rfl | rfl | rfl <;> rw [byteN_nat (by omega)] <;> omega
/-- A < that begins no end. -/
theorem Rd.lt (hw : w = 1 ∨ w = 2 ∨ w = 3) (h33 : r.headD (-1) ≠ 33) (hc : Md.closes n r = 0) (h : Rd w n b r (Md.app A [60]) B) : Rd w n b (60 :: r) A B := by
  rcases hw with rfl | rfl | rfl
  · exact Rd.shut (.inl rfl) (fun acc x hx hS => At.noClose hS hc) h
  · exact Rd.shut (.inr rfl) (fun acc x hx hS => At.noClose hS hc) h
  · refine Rd.scr (fun acc x hx hS => ?_) h
    unfold Md.Lx.script
    rw [if_pos]
    · exact At.noClose hS hc
    · rw [hS.rest]
      cases r with
      | nil => rfl
      | cons a r => 
        have : a ≠ 33 := h33
        show (a == 33 && _) = false
        simp [this]
theorem closes_no {l : List Int} (h : l.headD (-1) ≠ 47) : Md.closes n l = 0 := by
  unfold Md.closes
  exact if_pos (.inl (by
    cases l with
    | nil => show (-1 : Int) ≠ 47; decide
    | cons a l => exact h))
theorem Rd.raw {T : List Int} (hw : w = 1 ∨ w = 2 ∨ w = 3) (hT : T.headD (-1) = 60) : ∀ (o : List Int) {A : List Md.Tok}, rawOk o → Rd w n b T (Md.app A (Md.encode o)) B → Rd w n b (o ++ T) A B
  | [], A, _, h => by have e : Md.encode [] = [] := rfl; rw [e, Md.app_nil] at h; exact h
  | r :: o, A, ho, h => by
    have h' : Rd w n b T (Md.app (Md.app A (Md.putR r)) (Md.encode o)) B := by rw [Md.app_app, ← enc_cons]; exact h
    have hrec := Rd.raw hw hT o ho.2 h'
    by_cases h60 : r = 60
    · subst h60
      have h1 := ho.1.2.2 rfl
      have hh : (o ++ T).headD (-1) = o.headD 60 := by
        cases o with
        | nil => exact hT
        | cons a o => rfl
      exact Rd.lt hw (by show (o ++ T).headD (-1) ≠ 33; rw [hh]; exact h1.2) (closes_no (by show (o ++ T).headD (-1) ≠ 47; rw [hh]; exact h1.1)) hrec
    · exact Rd.plain1 ⟨ho.1.2.1, h60, fun e => absurd e ho.1.1⟩ hrec
/-- A tag that begins. -/
def startTok (m : Md.Str) (al : List (Md.Str × Md.Str)) (self : Bool) : Md.Tok := { Md.Tok.zero with kind := 2, name := m, attrs := al, self := self }
theorem At.start {m : Md.Str} {T : List Int} (hm : lowName m) (hT : Md.over (T.headD (-1)) = true) (hq : (Md.attrsGo T []).2.2.1 = true) (h : Md.At acc x 0 n b (Md.asc m ++ T) A) : Md.At acc x.open_ 0 m b (T.drop (Md.attrsGo T []).2.2.2) (Md.joinStep A (startTok m (Md.attrsGo T []).1 (Md.attrsGo T []).2.1)) := by
  obtain ⟨c, m', rfl⟩ : ∃ c m', m = c :: m' := by cases m with
    | nil => exact absurd rfl hm.1
    | cons c m' => exact ⟨c, m', rfl⟩
  have hl := hm.2 c (by simp)
  have hp : x.pk 0 = (c.toNat : Int) := At.pk h 0
  have hlet : Md.letter (c.toNat : Int) = true := by simp [Md.letter]; omega
  have e : x.open_ = x.tag 2 := by
    unfold Md.Lx.open_
    rw [hp, if_neg (by omega), if_neg (by omega), if_pos hlet]
  rw [e]
  unfold Md.Lx.tag
  dsimp only
  rw [h.rest, nameOf_asc hm.2 hT, List.drop_left, if_pos hq, if_neg (by decide), if_neg (by decide), enc_name hm.2]
  have h1 := At.emit (At.adv h ((Md.asc (c :: m')).length + (Md.attrsGo T []).2.2.2)) (startTok (c :: m') (Md.attrsGo T []).1 (Md.attrsGo T []).2.1)
  have e3 : (startTok (c :: m') (Md.attrsGo T []).1 (Md.attrsGo T []).2.1).kind = 2 := rfl
  rw [if_pos e3, ← List.drop_drop, List.drop_left] at h1
  exact h1
end Go.Proofs.YticnenofiibpgaaDoor.Code
/- Attributes read. -/
namespace Go.Proofs.YticnenofiibpgaaDoor.Code
open Go.Dm
set_option linter.unusedSimpArgs false
set_option linter.unusedVariables false
/-- Signs that are a part of a value, just so. -/
theorem value_plain {q : Int} (hq : q ≠ 0) : ∀ (d l acc : List Int), (∀ r ∈ d, r ≠ q ∧ r ≠ 38 ∧ r ≠ 0) → Md.valueGo q (d ++ l) acc = ((Md.valueGo q l (acc ++ d)).1, (Md.valueGo q l (acc ++ d)).2.1, (Md.valueGo q l (acc ++ d)).2.2 + d.length)
  | [], l, acc, _ => by simp
  | r :: d, l, acc, h => by
    have h1 := h r (by simp)
    have ih := value_plain hq d l (acc ++ [r]) (fun x hx => h x (by simp [hx]))
    rw [List.cons_append, valueGo_cons, if_neg (fun e => h1.1 e.2), if_neg (fun e => hq e.1), if_neg h1.2.1, Md.fixr, if_neg h1.2.2, ih]
    simp only [List.append_assoc, List.singleton_append, List.length_cons, Prod.mk.injEq, true_and]; omega
theorem value_end {q : Int} (hq : q ≠ 0) (l acc : List Int) : Md.valueGo q (q :: l) acc = (acc, true, 1) := by
  rw [valueGo_cons, if_pos ⟨hq, rfl⟩]
theorem value_amp {q : Int} (hq : q ≠ 0) (h38 : q ≠ 38) (l acc : List Int) : Md.valueGo q (38 :: l) acc = ((Md.valueGo q (l.drop (Md.refer true l).2) (acc ++ (Md.refer true l).1)).1, (Md.valueGo q (l.drop (Md.refer true l).2) (acc ++ (Md.refer true l).1)).2.1, (Md.valueGo q (l.drop (Md.refer true l).2) (acc ++ (Md.refer true l).1)).2.2 + (Md.refer true l).2 + 1) := by
  rw [valueGo_cons, if_neg (fun e => h38 e.2.symm), if_neg (fun e => hq e.1), if_pos rfl]
def blanksOk (g : List Int) : Prop := ∀ r ∈ g, Md.blank r = true
theorem blanksN_app {g l : List Int} (hg : blanksOk g) (hl : Md.blank (l.headD (-1)) = false) : Md.blanksN (g ++ l) = g.length := by
  induction g with
  | nil =>
    cases l with
    | nil => rfl
    | cons a l =>
      have hl : Md.blank a = false := hl
      show (List.takeWhile Md.blank (a :: l)).length = 0
      rw [List.takeWhile_cons, if_neg (by rw [hl]; decide)]; rfl
  | cons a g ih =>
    have ha := hg a (by simp)
    have := ih (fun x hx => hg x (by simp [hx]))
    unfold Md.blanksN at this ⊢
    rw [List.cons_append, List.takeWhile_cons, if_pos ha, List.length_cons, this]; rfl
theorem attrName_asc {nm : Md.Str} {X : List Int} (hn : lowName nm) (hX : Md.over (X.headD (-1)) = true ∨ X.headD (-1) = 61) : Md.attrName (Md.asc nm ++ X) = Md.asc nm := by
  obtain ⟨c, m, rfl⟩ : ∃ c m, nm = c :: m := by cases nm with
    | nil => exact absurd rfl hn.1
    | cons c m => exact ⟨c, m, rfl⟩
  have hc := hn.2 c (by simp)
  show Md.attrName ((c.toNat : Int) :: (Md.asc m ++ X)) = (c.toNat : Int) :: Md.asc m
  unfold Md.attrName
  dsimp only
  rw [if_neg (by rw [over_low (by omega)]; decide)]
  congr 1
  have hm := fun x hx => hn.2 x (List.mem_cons_of_mem c hx)
  clear hc hn
  induction m with
  | nil =>
    cases X with
    | nil => rfl
    | cons a X =>
      show List.takeWhile _ (a :: X) = []
      rw [List.takeWhile_cons, if_neg]
      rcases hX with hX | hX
      · have hX : Md.over a = true := hX
        simp [hX]
      · have hX : a = 61 := hX
        simp [hX]
  | cons c' m ih =>
    have h1 := hm c' (by simp)
    have := ih (fun x hx => hm x (by simp [hx]))
    show List.takeWhile _ ((c'.toNat : Int) :: (Md.asc m ++ X)) = _
    rw [List.takeWhile_cons, if_pos, this]; rfl
    show (!(Md.over (c'.toNat : Int) || (c'.toNat : Int) == 61)) = true
    rw [over_low (by omega)]; simp; omega
theorem attr_quoted {nm : Md.Str} {g1 g2 body v : List Int} {q : Int} {k : Nat} (hn : lowName nm) (h1 : blanksOk g1) (h2 : blanksOk g2) (hq : q = 34 ∨ q = 39) (hv : Md.valueGo q body [] = (v, true, k)) :
    Md.attr1 (Md.asc nm ++ (g1 ++ 61 :: (g2 ++ q :: body))) = ((nm, Md.encode v), true, nm.length + g1.length + 1 + g2.length + 1 + k) := by
  have hlen : (Md.asc nm).length = nm.length := List.length_map ..
  have hnm : Md.attrName (Md.asc nm ++ (g1 ++ 61 :: (g2 ++ q :: body))) = Md.asc nm := attrName_asc hn (by
    cases g1 with
    | nil => exact .inr rfl
    | cons a g => left; have := h1 a (by simp); show Md.over a = true; simp [Md.over, this])
  have hb1 : Md.blanksN (g1 ++ 61 :: (g2 ++ q :: body)) = g1.length := blanksN_app h1 rfl
  have hqb : Md.blank q = false := by rcases hq with rfl | rfl <;> rfl
  have hb2 : Md.blanksN (g2 ++ q :: body) = g2.length := blanksN_app h2 hqb
  have hval : Md.value (g2 ++ q :: body) = (Md.encode v, true, g2.length + 1 + k) := by
    unfold Md.value
    have eg : (g2 ++ q :: body).getD g2.length (-1) = q := by
      rw [List.getD_eq_getElem?_getD, List.getElem?_append_right (Nat.le_refl _), Nat.sub_self]; rfl
    have ed : (g2 ++ q :: body).drop (g2.length + 1) = body := by rw [← List.drop_drop, List.drop_left]; rfl
    dsimp only
    rw [hb2, eg, if_neg (by rcases hq with rfl | rfl <;> decide), if_pos hq, ed, hv]
  unfold Md.attr1
  dsimp only
  rw [hnm, List.drop_left, hb1]
  have eg : (Md.asc nm ++ (g1 ++ 61 :: (g2 ++ q :: body))).getD ((Md.asc nm).length + g1.length) (-1) = 61 := by
    rw [List.getD_eq_getElem?_getD, List.getElem?_append_right (by omega), Nat.add_sub_cancel_left, List.getElem?_append_right (Nat.le_refl _), Nat.sub_self]; rfl
  have ed : (Md.asc nm ++ (g1 ++ 61 :: (g2 ++ q :: body))).drop ((Md.asc nm).length + g1.length + 1) = g2 ++ q :: body := by
    rw [Nat.add_assoc, ← List.drop_drop, List.drop_left, ← List.drop_drop, List.drop_left]; rfl
  rw [if_pos eg, ed, hval, enc_name hn.2, hlen]
  simp only [Prod.mk.injEq, true_and]; omega
/-- An attribute more. -/
theorem attrs_one {nm : Md.Str} {X T : List Int} {v : Md.Str} {k : Nat} {acc : List (Md.Str × Md.Str)} (hn : lowName nm) (ha : Md.attr1 (Md.asc nm ++ X) = ((nm, v), true, k)) (hk : (Md.asc nm ++ X).drop k = T) :
    Md.attrsGo (Md.asc nm ++ X) acc = ((Md.attrsGo T (Md.putAttr acc (nm, v))).1, (Md.attrsGo T (Md.putAttr acc (nm, v))).2.1, (Md.attrsGo T (Md.putAttr acc (nm, v))).2.2.1, (Md.attrsGo T (Md.putAttr acc (nm, v))).2.2.2 + k) := by
  obtain ⟨c, m, rfl⟩ : ∃ c m, nm = c :: m := by cases nm with
    | nil => exact absurd rfl hn.1
    | cons c m => exact ⟨c, m, rfl⟩
  have hc := hn.2 c (by simp)
  have e : Md.asc (c :: m) ++ X = (c.toNat : Int) :: (Md.asc m ++ X) := rfl
  rw [e] at ha hk ⊢
  rw [attrsGo_attr (by simp [Md.blank]; omega) (by omega) (by omega), ha, if_pos rfl]
  dsimp only
  rw [hk]
end Go.Proofs.YticnenofiibpgaaDoor.Code
/- Tokens written az a page: what is escaped is read back. -/
namespace Go.Proofs.YticnenofiibpgaaDoor.Code
open Go.Dm
set_option linter.unusedSimpArgs false
set_option linter.unusedVariables false
variable {acc : List Md.Tok} {x : Md.Lx} {n : Md.Str} {b : Bool} {l : List Int} {A B : List Md.Tok}
/-! ### escaped signs -/
theorem refer_entry {v : Bool} {e : Md.Entry} (he : e ∈ Md.table) (hne : e.name ≠ [110, 118, 108, 116]) (h35 : ¬(e.name.map (fun b => (b.toNat : Int)) ++ 59 :: l).getD 0 (-1) = 35) : Md.refer v (e.name.map (fun b => (b.toNat : Int)) ++ 59 :: l) = ([e.sign], e.name.length + 1) := by
  obtain ⟨r, h1, h2⟩ := Md.names_found he l
  have hr : r = [] := by
    by_cases h : r = []
    · exact h
    · exact absurd (h2 h) hne
  subst hr
  rw [refer_name h35, h1]
  dsimp only
  rw [if_neg (by omega), if_neg (fun h => by cases h.1.2.1)]
theorem refer_amp (v : Bool) (l : List Int) : Md.refer v (97 :: 109 :: 112 :: 59 :: l) = ([38], 4) := refer_entry (e := ⟨[97, 109, 112], 38, true⟩) (.head _) (by decide) (by show ¬(97 : Int) = 35; decide)
theorem refer_lt (v : Bool) (l : List Int) : Md.refer v (108 :: 116 :: 59 :: l) = ([60], 3) := refer_entry (e := ⟨[108, 116], 60, true⟩) (.tail _ (.head _)) (by decide) (by show ¬(108 : Int) = 35; decide)
theorem refer_quot (v : Bool) (l : List Int) : Md.refer v (113 :: 117 :: 111 :: 116 :: 59 :: l) = ([34], 5) := refer_entry (e := ⟨[113, 117, 111, 116], 34, true⟩) (.tail _ (.tail _ (.tail _ (.head _)))) (by decide) (by show ¬(113 : Int) = 35; decide)
end Go.Proofs.YticnenofiibpgaaDoor.Code
/- Tokens written az a page, in any of some ways, are read az they are. -/
namespace Go.Proofs.YticnenofiibpgaaDoor.Code
open Go.Dm
set_option linter.unusedSimpArgs false
set_option linter.unusedVariables false
variable {acc : List Md.Tok} {x : Md.Lx} {n : Md.Str} {b : Bool} {l : List Int} {A B : List Md.Tok}
/-- A way of writing. -/
structure Sty where
  w : Bool
  bare : Bool
  apos : Bool
  g1 : Md.Str
  g2 : Md.Str
def gapOk (g : Md.Str) : Prop := g ≠ [] ∧ ∀ c ∈ g, c.toNat = 32 ∨ c.toNat = 10 ∨ c.toNat = 9 ∨ c.toNat = 12
structure Sty.Ok (s : Sty) : Prop where
  g1 : gapOk s.g1
  g2 : gapOk s.g2
end Go.Proofs.YticnenofiibpgaaDoor.Code
/- Whatever stands in a comment comes out, up to its end. -/
namespace Go.Proofs.YticnenofiibpgaaDoor.Code
open Go.Dm
set_option linter.unusedSimpArgs false
set_option linter.unusedVariables false
variable {w : Int} {n : Md.Str} {b : Bool} {r : List Int} {A B : List Md.Tok}
theorem new_NI {c : Md.Str} (hl : c.length ≤ 1000000000) {b : Bool} : NI { Md.Lx.new c with room := b } := by
  have hd := decode_len c
  exact ⟨Nat.le_trans hd hl, fun r hr => (decode_sv c r hr).1.1, Nat.zero_le _, fun _ => Nat.zero_le _, Nat.zero_le _, by show (0 : Nat) ≤ 100; omega, by show (0 : Nat) ≤ _; omega⟩
/-- What stands from here on is read az if it stood alone. -/
theorem Rd.read {c : Md.Str} (hl : c.length ≤ 1000000000) : Rd 0 n b (Md.decode c) A (({ Md.Lx.new c with room := b } : Md.Lx).toks.foldl Md.joinStep A) := by
  intro acc x hN hS
  refine Al.toks (Md.cl_eq _) _ acc A x _ (Nat.le_refl _) hN (new_NI hl) ⟨hS.done, rfl, hS.way, rfl, hS.room, hS.rest, Nat.le_refl _, ?_⟩
  rw [hS.vt]
  exact (Md.app_nil A).symm
/-! ### where a comment ends -/
end Go.Proofs.YticnenofiibpgaaDoor.Code
/- Tokens written az a page, in any of some ways, are read az they are (2). -/
namespace Go.Proofs.YticnenofiibpgaaDoor.Code
open Go.Dm
set_option linter.unusedSimpArgs false
set_option linter.unusedVariables false
variable {acc : List Md.Tok} {x : Md.Lx} {n : Md.Str} {b : Bool} {l : List Int} {A B : List Md.Tok} {s : Sty}
/-! ### tags -/
structure NameOk (s : Sty) (nm : Md.Str) : Prop where
  low : lowName nm
  w : nm.headD 0 = 119
/-! ### comments, texts -/
end Go.Proofs.YticnenofiibpgaaDoor.Code
/- Tokens written az a page, in any of some ways, are read az they are (3); two pages. -/
namespace Go.Proofs.YticnenofiibpgaaDoor.Code
open Go.Dm
set_option linter.unusedSimpArgs false
set_option linter.unusedVariables false
variable {n : Md.Str} {b : Bool} {l : List Int} {A B : List Md.Tok} {s : Sty} {t : Md.Tok}
def okS (r : Int) : Prop := sv r ∧ r ≠ 13 ∧ r ≠ 65279
theorem okS_low {r : Int} (h : 0 ≤ r ∧ r < 128 ∧ r ≠ 13) : okS r := ⟨⟨by omega, by omega, by omega⟩, by omega, by omega⟩
theorem lit_okS {o : List Int} (h : o.all (fun r => decide (0 ≤ r) && decide (r < 128) && decide (r ≠ 13)) = true) : ∀ r ∈ o, okS r := fun r hr => by
  have := List.all_eq_true.1 h r hr
  simp at this
  exact okS_low (by omega)
theorem app_okS {a c : List Int} (h1 : ∀ r ∈ a, okS r) (h2 : ∀ r ∈ c, okS r) : ∀ r ∈ a ++ c, okS r := fun r hr => (List.mem_append.1 hr).elim (h1 r) (h2 r)
/-! ### two pages -/
end Go.Proofs.YticnenofiibpgaaDoor.Code
/- A text, and a value, written az ser writes them, and read again. -/
namespace Go.Proofs.YticnenofiibpgaaDoor.Code
open Go.Dm
set_option linter.unusedSimpArgs false
set_option linter.unusedVariables false
variable {n : Md.Str} {b : Bool} {l : List Int} {A B : List Md.Tok}
def serI1 (v : Bool) (r : Int) : List Int := if r = 38 then [38, 97, 109, 112, 59] else if r = 60 then [38, 108, 116, 59] else if r = 62 then [38, 103, 116, 59] else if v = true ∧ r = 34 then [38, 113, 117, 111, 116, 59] else if r = 160 then [38, 110, 98, 115, 112, 59] else [r]
def serI (v : Bool) (o : List Int) : List Int := o.flatMap (serI1 v)
theorem serI_cons (v : Bool) (r : Int) (o : List Int) : serI v (r :: o) = serI1 v r ++ serI v o := by simp [serI]
/-- Bytes az they are written; s: the first one goes with the one ahead. -/
def serB (v : Bool) : Bool → Md.Str → Md.Str
  | _, [] => []
  | true, _ :: x => serB v false x
  | false, c :: x => if c = 38 then [38, 97, 109, 112, 59] ++ serB v false x else if c = 60 then [38, 108, 116, 59] ++ serB v false x else if c = 62 then [38, 103, 116, 59] ++ serB v false x
    else if c = 34 ∧ v = true then [38, 113, 117, 111, 116, 59] ++ serB v false x else if c = 194 ∧ x.headD 0 = 160 then [38, 110, 98, 115, 112, 59] ++ serB v true x else c :: serB v false x
theorem serB_len (v : Bool) : ∀ (x : Md.Str) (s : Bool), (serB v s x).length ≤ 6 * x.length
  | [], s => by cases s <;> exact Nat.zero_le _
  | c :: x, true => by have := serB_len v x false; show (serB v false x).length ≤ _; rw [List.length_cons]; omega
  | c :: x, false => by
    have h1 := serB_len v x false
    have h2 := serB_len v x true
    rw [List.length_cons, serB]
    repeat' split
    all_goals simp only [List.length_append, List.length_cons, List.length_nil]; omega
/-- The signs of which such a text is. -/
def plnS (r : Int) : Prop := r = 10 ∨ 32 ≤ r ∧ r < 127 ∨ r = 160
theorem plnS_low {r : Int} (h : plnS r) (h2 : r ≠ 160) : Md.encode [r] = [Md.byteN r.toNat] ∧ r.toNat < 127 ∧ 0 < r := by
  have h3 : 0 ≤ r ∧ r < 127 := by unfold plnS at h; omega
  refine ⟨?_, by omega, by unfold plnS at h; omega⟩
  rcases putR_two (r := r) ⟨by omega, by omega, by omega⟩ with ⟨_, e⟩ | ⟨e, _⟩
  · rw [enc_cons, e]; rfl
  · omega
theorem enc_nb : Md.encode [160] = [194, 160] := by decide
theorem byte_ne {k : Nat} (h : k < 127) (m : Nat) (hm : m < 256) : Md.byteN k = UInt8.ofNat m ↔ k = m := by
  have h1 := byteN_nat (n := k) (by omega)
  constructor
  · intro e
    have e2 := congrArg UInt8.toNat e
    rw [h1, UInt8.toNat_ofNat'] at e2; omega
  · rintro rfl
    apply UInt8.toNat.inj
    rw [h1, UInt8.toNat_ofNat']; omega
theorem enc_ser (v : Bool) : ∀ (o : List Int), (∀ r ∈ o, plnS r) → Md.encode (serI v o) = serB v false (Md.encode o)
  | [], _ => rfl
  | r :: o, ho => by
    have ih := enc_ser v o (fun x hx => ho x (by simp [hx]))
    have hr := ho r (by simp)
    rw [serI_cons, enc_app, ih, show r :: o = [r] ++ o from rfl, enc_app]
    by_cases h160 : r = 160
    · subst h160
      rw [enc_nb]
      have e0 : serI1 v 160 = [38, 110, 98, 115, 112, 59] := by
        unfold serI1; rw [if_neg (by decide), if_neg (by decide), if_neg (by decide), if_neg (fun e => absurd e.2 (by decide)), if_pos rfl]
      rw [e0]
      show Md.encode [38, 110, 98, 115, 112, 59] ++ _ = serB v false (194 :: 160 :: Md.encode o)
      rw [serB, if_neg (by decide), if_neg (by decide), if_neg (by decide), if_neg (fun e => absurd e.1 (by decide)), if_pos ⟨rfl, rfl⟩, serB]; rfl
    · obtain ⟨e1, e2, e3⟩ := plnS_low hr h160
      have hb := fun m (hm : m < 256) => byte_ne e2 m hm
      have k1 : Md.byteN r.toNat = 38 ↔ r = 38 := (hb 38 (by decide)).trans (by omega)
      have k2 : Md.byteN r.toNat = 60 ↔ r = 60 := (hb 60 (by decide)).trans (by omega)
      have k3 : Md.byteN r.toNat = 62 ↔ r = 62 := (hb 62 (by decide)).trans (by omega)
      have k4 : Md.byteN r.toNat = 34 ↔ r = 34 := (hb 34 (by decide)).trans (by omega)
      have k5 : ¬ Md.byteN r.toNat = 194 := fun e => by have := (hb 194 (by decide)).1 e; omega
      rw [e1]
      show _ = serB v false (Md.byteN r.toNat :: Md.encode o)
      rw [serB, serI1]
      simp only [k1, k2, k3, k4, k5, h160, false_and, if_false]
      by_cases g1 : r = 38
      · subst g1; rfl
      by_cases g2 : r = 60
      · subst g2; rfl
      by_cases g3 : r = 62
      · subst g3; rfl
      by_cases g4 : r = 34 ∧ v = true
      · obtain ⟨rfl, rfl⟩ := g4; rfl
      · have g5 : ¬(v = true ∧ r = 34) := fun e => g4 ⟨e.2, e.1⟩
        rw [if_neg g1, if_neg g2, if_neg g3, if_neg g5, if_neg g1, if_neg g2, if_neg g3, if_neg g4, e1]; rfl
theorem refer_gt (v : Bool) (l : List Int) : Md.refer v (103 :: 116 :: 59 :: l) = ([62], 3) := refer_entry (e := ⟨[103, 116], 62, true⟩) (.tail _ (.tail _ (.head _))) (by decide) (by show ¬(103 : Int) = 35; decide)
theorem refer_nbsp (v : Bool) (l : List Int) : Md.refer v (110 :: 98 :: 115 :: 112 :: 59 :: l) = ([160], 5) := refer_entry (e := ⟨[110, 98, 115, 112], 160, true⟩) (.tail _ (.tail _ (.tail _ (.tail _ (.tail _ (.tail _ (.tail _ (.head _)))))))) (by decide) (by show ¬(110 : Int) = 35; decide)
/-- What a sign is written az: itself, or a reference that means it. -/
theorem serI1_cases (v : Bool) (r : Int) : serI1 v r = [r] ∧ r ≠ 38 ∧ r ≠ 60 ∧ r ≠ 62 ∧ r ≠ 160 ∧ (v = true → r ≠ 34) ∨ ∃ x, serI1 v r = 38 :: x ∧ x ≠ [] ∧ ∀ (w : Bool) (t : List Int), Md.refer w (x ++ t) = ([r], x.length) := by
  unfold serI1
  split
  · rename_i e; subst e; exact .inr ⟨_, rfl, by simp, refer_amp⟩
  split
  · rename_i e; subst e; exact .inr ⟨_, rfl, by simp, refer_lt⟩
  split
  · rename_i e; subst e; exact .inr ⟨_, rfl, by simp, refer_gt⟩
  split
  · rename_i e; obtain ⟨_, rfl⟩ := e; exact .inr ⟨_, rfl, by simp, refer_quot⟩
  split
  · rename_i e; subst e; exact .inr ⟨_, rfl, by simp, refer_nbsp⟩
  · rename_i e1 e2 e3 e4 e5
    exact .inl ⟨rfl, e1, e2, e3, e5, fun hv e => e4 ⟨hv, e⟩⟩
theorem Rd.ser (v : Bool) : ∀ (o : List Int) {A : List Md.Tok}, (∀ r ∈ o, 0 < r) → Rd 0 n b l (Md.app A (Md.encode o)) B → Rd 0 n b (serI v o ++ l) A B
  | [], A, _, h => by have e : Md.encode [] = [] := rfl; rw [e, Md.app_nil] at h; exact h
  | r :: o, A, ho, h => by
    have hr := ho r (by simp)
    have h' : Rd 0 n b l (Md.app (Md.app A (Md.encode [r])) (Md.encode o)) B := by rw [Md.app_app, enc_one, ← enc_cons]; exact h
    have ih := Rd.ser v o (fun x hx => ho x (by simp [hx])) h'
    rw [serI_cons, List.append_assoc]
    rcases serI1_cases v r with ⟨e, e1, e2, _⟩ | ⟨x, e, _, hx⟩
    · rw [e]; rw [enc_one] at ih
      exact Rd.plain1 ⟨hr, e2, fun e => absurd e e1⟩ ih
    · rw [e, List.cons_append]
      refine Rd.ref (.inl rfl) (fun r hr => ?_) ?_
      · have := (refer_facts false (x ++ (serI v o ++ l))).2.2; exact this r hr
      · rw [hx, List.drop_left]; exact ih
theorem value_ser : ∀ (o acc : List Int), (∀ r ∈ o, 0 < r) → Md.valueGo 34 (serI true o ++ 34 :: l) acc = (acc ++ o, true, (serI true o).length + 1)
  | [], acc, _ => by
    show Md.valueGo 34 (34 :: l) acc = _
    rw [value_end (by omega), List.append_nil]; rfl
  | r :: o, acc, ho => by
    have hr := ho r (by simp)
    have ih := value_ser o (acc ++ [r]) (fun x hx => ho x (by simp [hx]))
    rw [serI_cons, List.append_assoc]
    rcases serI1_cases true r with ⟨e, e1, _, _, _, e5⟩ | ⟨x, e, _, hx⟩
    · have h5 := e5 rfl
      rw [e]
      have hp := value_plain (q := 34) (by decide) [r] (serI true o ++ 34 :: l) acc (fun x hx => by simp only [List.mem_singleton] at hx; subst hx; omega)
      rw [hp, ih]; simp
    · rw [e, List.cons_append, value_amp (by decide) (by decide), hx]
      dsimp only
      rw [List.drop_left, ih]; simp; omega
def serPage (o : List Int) : Md.Str := [60, 97, 32, 98, 61, 34] ++ serB true false (Md.encode o) ++ [34, 62] ++ serB false false (Md.encode o)
def serToks (c : Md.Str) : List Md.Tok := startTok [97] [([98], c)] false :: (if c = [] then [] else [Md.tx c])
theorem ser_pure {o : List Int} (h : ∀ r ∈ o, plnS r) (hl : o.length ≤ 1000000) : Md.all (serPage o) = serToks (Md.encode o) := by
  have hpos : ∀ r ∈ o, 0 < r := fun r hr => by have := h r hr; unfold plnS at this; omega
  have hok : ∀ v, ∀ r ∈ serI v o, okS r := fun v r hr => by
    obtain ⟨x, hx, hr⟩ := List.mem_flatMap.1 hr
    have hx := h x hx
    unfold plnS at hx
    unfold serI1 at hr
    have h1 : ∀ r ∈ ([38, 97, 109, 112, 59] : List Int), okS r := lit_okS (by decide)
    have h2 : ∀ r ∈ ([38, 108, 116, 59] : List Int), okS r := lit_okS (by decide)
    have h3 : ∀ r ∈ ([38, 103, 116, 59] : List Int), okS r := lit_okS (by decide)
    have h4 : ∀ r ∈ ([38, 113, 117, 111, 116, 59] : List Int), okS r := lit_okS (by decide)
    have h5 : ∀ r ∈ ([38, 110, 98, 115, 112, 59] : List Int), okS r := lit_okS (by decide)
    split at hr
    · exact h1 r hr
    split at hr
    · exact h2 r hr
    split at hr
    · exact h3 r hr
    split at hr
    · exact h4 r hr
    split at hr
    · exact h5 r hr
    · simp only [List.mem_singleton] at hr; subst hr
      exact ⟨⟨by omega, by omega, by omega⟩, by omega, by omega⟩
  have e1 : serPage o = Md.encode (60 :: (Md.asc [97] ++ (32 :: (Md.asc [98] ++ ([] ++ 61 :: ([] ++ 34 :: (serI true o ++ 34 :: (62 :: serI false o)))))))) := by
    have e : (60 :: (Md.asc [97] ++ (32 :: (Md.asc [98] ++ ([] ++ 61 :: ([] ++ 34 :: (serI true o ++ 34 :: (62 :: serI false o))))))) : List Int) = [60, 97, 32, 98, 61, 34] ++ (serI true o ++ ([34, 62] ++ serI false o)) := rfl
    rw [e, enc_app, enc_app, enc_app, enc_ser true o h, enc_ser false o h]
    unfold serPage
    simp only [List.append_assoc]; rfl
  have hd : Md.decode (serPage o) = 60 :: (Md.asc [97] ++ (32 :: (Md.asc [98] ++ ([] ++ 61 :: ([] ++ 34 :: (serI true o ++ 34 :: (62 :: serI false o))))))) := by
    rw [e1]
    exact decode_encode (app_okS (a := [60, 97, 32, 98, 61, 34]) (lit_okS (by decide)) (app_okS (hok true) (app_okS (a := [34, 62]) (lit_okS (by decide)) (hok false))))
  have hlen : (serPage o).length ≤ 1000000000 := by
    have g1 := serB_len true (Md.encode o) false
    have g2 := serB_len false (Md.encode o) false
    have g3 := encode_len o
    unfold serPage
    simp only [List.length_append, List.length_cons, List.length_nil]; omega
  refine Rd.start (w := 0) (nm := []) (room := false) (c := serPage o) ?_ ?_
  · have hdl := decode_len (serPage o)
    exact ⟨Nat.le_trans hdl hlen, fun r hr => (decode_sv _ r hr).1.1, Nat.zero_le _, fun _ => Nat.zero_le _, Nat.zero_le _, by show (0 : Nat) ≤ 100; omega, by show (0 : Nat) ≤ _; omega⟩
  rw [hd]
  have hbody := value_ser (l := 62 :: serI false o) o [] hpos
  have ha := attr_quoted (nm := [98]) (g1 := []) (g2 := []) (q := 34) (by exact ⟨by decide, by decide⟩) (fun r hr => by cases hr) (fun r hr => by cases hr) (.inl rfl) hbody
  have hT : Md.attrsGo (32 :: (Md.asc [98] ++ ([] ++ 61 :: ([] ++ 34 :: (serI true o ++ 34 :: (62 :: serI false o)))))) [] = ([([98], Md.encode o)], false, true, (serI true o).length + 6) := by
    rw [attrsGo_blank (by rfl), attrs_one (T := 62 :: serI false o) (by exact ⟨by decide, by decide⟩) ha, attrs_gt]
    · dsimp only
      simp only [Md.putAttr, Md.hasAttr, List.any_nil, List.length_cons, List.length_nil, List.nil_append]
      simp only [Bool.false_eq_true, if_false, List.nil_append, Prod.mk.injEq, true_and]; omega
    · show List.drop _ (98 :: 61 :: 34 :: (serI true o ++ 34 :: (62 :: serI false o))) = _
      have e : ([98] : Md.Str).length + ([] : List Int).length + 1 + ([] : List Int).length + 1 + ((serI true o).length + 1) = 3 + ((serI true o).length + 1) := by
        simp only [List.length_cons, List.length_nil]
      rw [e, ← List.drop_drop]
      show List.drop ((serI true o).length + 1) (serI true o ++ 34 :: (62 :: serI false o)) = _
      rw [← List.drop_drop, List.drop_left]; rfl
  refine Rd.tag (fun acc x hx hS => At.start (m := [97]) (by exact ⟨by decide, by decide⟩) rfl (by rw [hT]) hS) ?_
  rw [hT]
  have e : List.drop ((serI true o).length + 6) (32 :: (Md.asc [98] ++ ([] ++ 61 :: ([] ++ 34 :: (serI true o ++ 34 :: (62 :: serI false o)))))) = serI false o := by
    show List.drop ((serI true o).length + 6) ([32, 98, 61, 34] ++ (serI true o ++ ([34, 62] ++ serI false o))) = _
    have e2 : (serI true o).length + 6 = ([32, 98, 61, 34] : List Int).length + ((serI true o).length + ([34, 62] : List Int).length) := by simp only [List.length_cons, List.length_nil]; omega
    rw [e2, ← List.drop_drop, List.drop_left, ← List.drop_drop, List.drop_left, List.drop_left]
  show Rd 0 [97] false (List.drop ((serI true o).length + 6) _) _ _
  rw [e]
  have hs := Rd.ser (n := [97]) (b := false) (l := []) (A := Md.joinStep [] (startTok [97] [([98], Md.encode o)] false)) (B := serToks (Md.encode o)) false o hpos ?_
  · rw [List.append_nil] at hs; exact hs
  · refine Rd.conv Rd.nil rfl rfl ?_
    unfold serToks
    by_cases h0 : Md.encode o = []
    · rw [h0, Md.app_nil, if_pos rfl]; rfl
    · rw [if_neg h0]
      show Md.joinStep [startTok [97] [([98], Md.encode o)] false] (Md.tx (Md.encode o)) = _
      simp [Md.joinStep, startTok, Md.tx, h0]
end Go.Proofs.YticnenofiibpgaaDoor.Code
