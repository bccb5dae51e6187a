/- LexComments returns true for every input: part 7 of the proof (several texts joined). -/
import Derived.Test.YticnenofiibpgaaDoorCards
import Derived.Test.YticnenofiibpgaaDoorTie
import Derived.WalkKit
import Derived.ProofKit
import Derived.OpenShut
import Derived.Deep.DeepHandedRow
import Derived.Lib.LaidTab
import Derived.Test.YticnenofiibpgaaDoorJ6
/- What slices.Collect of a lexer's tokens and lex.All do; two tokens compared. -/
namespace Go.Proofs.YticnenofiibpgaaDoor.Code
open Go.Dm Go.Dm.C
set_option linter.unusedSimpArgs false
set_option linter.unusedVariables false
set_option linter.unnecessarySimpa false
set_option maxRecDepth 10000
attribute [local irreducible] Go.Dm.F Go.Dm.RS Go.Dm.Y Go.Dm.FD Go.Dm.FZ1 Go.Dm.Hold
variable {id : Nat} {s : Md.Lx} {g : Nat × Nat} {R : List Ck}
theorem joinZ_F {t z : Nat} {ls : List (Md.Tok × Nat)} (hz : z = zOf t 10) (hn : ls.length ≤ 1000000000) (hd : Md.dl (ls.map Prod.fst) ≤ 1000000000000) :
    FZ D (.fn (.func 26) [] []) [.lst t z (ls.map encT)] R (fun v cs' => Hold (∃ (t : Nat) (os : List (Md.Tok × Nat)), v = .lst t (zOf t 10) (os.map encT) ∧ (t = 0 ∧ os = [] ∨ t = 1) ∧ os.map Prod.fst = Md.join (ls.map Prod.fst) ∧ R = cs')) :=
  FZ1.ofT (join_F hz hn hd)
theorem joinZ_F2 {t z : Nat} {ls : List (Md.Tok × Nat)} {ts : List Md.Tok} (hz : z = zOf t 10) (ha : ls.map Prod.fst = ts) (hn : ts.length ≤ 1000000000) (hd : Md.dl ts ≤ 1000000000000) :
    FZ D (.fn (.func 26) [] []) [.lst t z (ls.map encT)] R (fun v cs' => Hold (∃ (t : Nat) (os : List (Md.Tok × Nat)), v = .lst t (zOf t 10) (os.map encT) ∧ (t = 0 ∧ os = [] ∨ t = 1) ∧ os.map Prod.fst = Md.join ts ∧ R = cs')) := by
  subst ha; rw [List.length_map] at hn; exact joinZ_F hz hn hd
theorem seq_F {q : Nat} (hN : NI s) (hn : s.toks.length ≤ 1000000000) : F D 53 [.lst 0 0 [], .fn (.func 40) [] [.ptr q 0]] (.obj q (.cells [.ptr id 0] none) :: LX id s g :: R)
    (fun v cs' => Hold (∃ (t : Nat) (os : List (Md.Tok × Nat)), v = .lst t (zOf t 10) (os.map encT) ∧ .own t 10 (os.map encT) :: R = cs' ∧ os.map Prod.fst = s.toks)) := by
  refine F.of rfl rfl rfl ?_
  repeat' first | exact arI | refine Pst.mk ⟨?_, rfl⟩ (by (repeat' constructor); first | done | fail) | constructor | (refine fun _ _ (hq : Hold _) => ?_; replace hq := hq.out; obtain ⟨_, rfl, rfl⟩ := hq) | (refine fun _ _ (hq : Hold _) => ?_; replace hq := hq.out; obtain ⟨_, _, rfl, rfl⟩ := hq) | rintro _ _ ⟨rfl, rfl⟩ | rintro _ _ ⟨_, rfl, rfl⟩ | rintro _ _ ⟨_, _, rfl, rfl⟩ | (refine fun (hc : _ = _) => ?_; (try simp only [BB] at hc)) | refine fun (_ : Nat) => ?_ | refine fun (_ : _ ≤ _) => ?_ | refine fun (_ : _ < _) => ?_
  rename_i x _
  refine RS.nilOwn 10 ?_
  refine RS.rangeO rfl rfl fun m l Lr Lb Ld hL => ?_
  refine F.perm ((Rem.perm' (c := .obj q _) (by (repeat' constructor); first | done | fail)).trans ((Rem.perm' (c := LX id _ _) (by (repeat' constructor); first | done | fail)).cons _)) ?_
  refine F.mono (tokens_it (l := l) (fun ts cs => ∃ (t : Nat) (os : List (Md.Tok × Nat)), Lr :: .obj m .mark :: .own t 10 (os.map encT) :: .obj x (.cells [.lst t (zOf t 10) (os.map encT)] none) :: R = cs ∧ os.map Prod.fst ++ ts = s.toks) (fun _ => False) ?_ hN ⟨0, [], rfl, rfl⟩) ?_
  · rintro t tag ts s2 g2 _ ⟨t1, os, rfl, ha⟩
    refine hL.y (.tail (.tail .head)) rfl ?_
    have hlen := congrArg List.length ha
    rw [List.length_append, List.length_map, List.length_cons] at hlen
    repeat' first | exact MapL.cons (y := (t, tag)) .nil | (refine Arith.mk ?_; omega) | (refine fun (hc : _ = _) => ?_; (try simp only [BB] at hc); (try (first | contradiction | (exfalso; omega)))) | exact arI | refine Pst.mk ⟨?_, rfl⟩ (by (repeat' constructor); first | done | fail) | constructor | (refine fun _ _ (hq : Hold _) => ?_; replace hq := hq.out; obtain ⟨_, rfl, rfl⟩ := hq) | (refine fun _ _ (hq : Hold _) => ?_; replace hq := hq.out; obtain ⟨_, _, rfl, rfl⟩ := hq) | rintro _ _ ⟨rfl, rfl⟩ | rintro _ _ ⟨_, rfl, rfl⟩ | rintro _ _ ⟨_, _, rfl, rfl⟩ | (refine fun (hc : _ = _) => ?_; (try simp only [BB] at hc)) | refine fun (_ : Nat) => ?_ | refine fun (_ : _ ≤ _) => ?_ | refine fun (_ : _ < _) => ?_
    rename_i t2
    exact Pst.mk (.mk ⟨_, rfl, .inl ⟨rfl, t2, os ++ [(t, tag)], rfl, by rw [← ha]; simp⟩⟩) (by (repeat' constructor); first | done | fail)
  · rintro v cs' hq
    obtain ⟨s2, g2, cs1, rfl, hq2⟩ := hq.out
    rcases hq2 with ⟨t1, os, rfl, ha⟩ | hq2
    · refine .ready (by (repeat' constructor); first | done | fail) ?_
      rw [List.append_nil] at ha
      repeat' first | exact arI | refine Pst.mk ⟨?_, rfl⟩ (by (repeat' constructor); first | done | fail) | constructor | (refine fun _ _ (hq : Hold _) => ?_; replace hq := hq.out; obtain ⟨_, rfl, rfl⟩ := hq) | (refine fun _ _ (hq : Hold _) => ?_; replace hq := hq.out; obtain ⟨_, _, rfl, rfl⟩ := hq) | rintro _ _ ⟨rfl, rfl⟩ | rintro _ _ ⟨_, rfl, rfl⟩ | rintro _ _ ⟨_, _, rfl, rfl⟩ | (refine fun (hc : _ = _) => ?_; (try simp only [BB] at hc)) | refine fun (_ : Nat) => ?_ | refine fun (_ : _ ≤ _) => ?_ | refine fun (_ : _ < _) => ?_
      exact Pst.mk (.mk ⟨t1, os, rfl, rfl, ha⟩) (by (repeat' constructor); first | done | fail)
    · exact hq2.elim
theorem collect_F {q : Nat} (hN : NI s) (hn : s.toks.length ≤ 1000000000) : F D 36 [.fn (.func 40) [] [.ptr q 0]] (.obj q (.cells [.ptr id 0] none) :: LX id s g :: R)
    (fun v cs' => Hold (∃ (t : Nat) (os : List (Md.Tok × Nat)), v = .lst t (zOf t 10) (os.map encT) ∧ .own t 10 (os.map encT) :: R = cs' ∧ os.map Prod.fst = s.toks)) := by
  refine F.of rfl rfl rfl ?_
  repeat' first | (show FC _ _ _ _ _; first | exact seq_F hN hn) | (refine fun _ _ (hq : Hold _) => ?_; replace hq := hq.out; obtain ⟨t1, os, rfl, rfl, ha⟩ := hq) | (refine fun (hc : _ = _) => ?_; (try simp only [BB] at hc); (try (first | contradiction | (exfalso; omega)))) | exact arI | refine Pst.mk ⟨?_, rfl⟩ (by (repeat' constructor); first | done | fail) | constructor | (refine fun _ _ (hq : Hold _) => ?_; replace hq := hq.out; obtain ⟨_, rfl, rfl⟩ := hq) | (refine fun _ _ (hq : Hold _) => ?_; replace hq := hq.out; obtain ⟨_, _, rfl, rfl⟩ := hq) | rintro _ _ ⟨rfl, rfl⟩ | rintro _ _ ⟨_, rfl, rfl⟩ | rintro _ _ ⟨_, _, rfl, rfl⟩ | (refine fun (hc : _ = _) => ?_; (try simp only [BB] at hc)) | refine fun (_ : Nat) => ?_ | refine fun (_ : _ ≤ _) => ?_ | refine fun (_ : _ < _) => ?_
  exact Pst.mk (.mk ⟨t1, os, rfl, rfl, ha⟩) (by (repeat' constructor); first | done | fail)
end Go.Proofs.YticnenofiibpgaaDoor.Code
/- What lex.All does; tokens compared; words. -/
namespace Go.Proofs.YticnenofiibpgaaDoor.Code
open Go.Dm Go.Dm.C
set_option linter.unusedSimpArgs false
set_option linter.unusedVariables false
set_option linter.unnecessarySimpa false
set_option maxRecDepth 10000
attribute [local irreducible] Go.Dm.F Go.Dm.RS Go.Dm.Y Go.Dm.FD Go.Dm.FZ1 Go.Dm.Hold
variable {R : List Ck}
theorem toks_small {s : Md.Lx} {k : Nat} (hN : NI s) (ho : s.out = []) (ht : s.text = []) (hp : s.pos = 0) (hl : s.inp.length ≤ k) : s.toks.length ≤ 6 * (k + 1) ∧ Md.dl s.toks ≤ 40 * (k + 1) := by
  have h := toks_bd s.left s (Nat.le_refl _) hN ho
  rw [ht, List.length_nil] at h
  have e : s.left = s.inp.length + 1 := by unfold Md.Lx.left; rw [hp]; rfl
  rw [e] at h
  omega
theorem new_small {c : Md.Str} {k : Nat} {w : Int} {n : Md.Str} {b : Bool} (hl : c.length ≤ k) (hk : k ≤ 1000000000) (hn : n.length ≤ 10000000000) : NI { Md.Lx.new c with way := w, last := n, room := b } ∧ ({ Md.Lx.new c with way := w, last := n, room := b } : Md.Lx).toks.length ≤ 6 * (k + 1) ∧ Md.dl ({ Md.Lx.new c with way := w, last := n, room := b } : Md.Lx).toks ≤ 40 * (k + 1) := by
  have hd := decode_len c
  have hN : NI { Md.Lx.new c with way := w, last := n, room := b } := ⟨Nat.le_trans hd (Nat.le_trans hl hk), fun r hr => (decode_sv c r hr).1.1, Nat.zero_le _, fun _ => Nat.zero_le _, Nat.zero_le _, by show (0 : Nat) ≤ 100; omega, hn⟩
  exact ⟨hN, toks_small hN rfl rfl rfl (Nat.le_trans hd hl)⟩
theorem all_F {t z : Nat} {b : List UInt8} (hz : z = zOf t 1) (hl : b.length ≤ 100000000) : F D 15 [.lst t z (bytesV b)] R (fun v cs' => Hold (∃ (t : Nat) (os : List (Md.Tok × Nat)), v = .lst t (zOf t 10) (os.map encT) ∧ (t = 0 ∧ os = [] ∨ t = 1) ∧ os.map Prod.fst = Md.all b ∧ R = cs')) := by
  obtain ⟨hN, hb1, hb2⟩ := new_small (w := 0) (n := []) (b := false) hl (by omega) (by simp)
  refine F.of rfl rfl rfl ?_
  repeat' first | (show FC _ _ _ _ _; first | exact new_F hz (by omega) | exact tokens_F | exact collect_F (s := { Md.Lx.new b with way := 0, last := [], room := false }) hN (by omega)) | (show FZ _ _ _ _ _; exact joinZ_F2 rfl (by assumption) (Nat.le_trans hb1 (by decide)) (Nat.le_trans hb2 (by decide))) | (refine fun (hc : _ = _) => ?_; (try simp only [BB] at hc); (try (first | contradiction | (exfalso; omega)))) | exact arI | refine Pst.mk ⟨?_, rfl⟩ (by (repeat' constructor); first | done | fail) | constructor | (refine fun _ _ (hq : Hold _) => ?_; replace hq := hq.out; obtain ⟨_, rfl, rfl⟩ := hq) | (refine fun _ _ (hq : Hold _) => ?_; replace hq := hq.out; obtain ⟨_, _, rfl, rfl⟩ := hq) | rintro _ _ ⟨rfl, rfl⟩ | rintro _ _ ⟨_, rfl, rfl⟩ | rintro _ _ ⟨_, _, rfl, rfl⟩ | (refine fun (hc : _ = _) => ?_; (try simp only [BB] at hc)) | refine fun (_ : Nat) => ?_ | refine fun (_ : _ ≤ _) => ?_ | refine fun (_ : _ < _) => ?_ | (refine fun _ _ (hq : Hold _) => ?_; replace hq := hq.out; first | obtain ⟨t1, os, rfl, rfl, ha⟩ := hq | obtain ⟨t1, os, rfl, h0, ha, rfl⟩ := hq)
  rename_i t1 os h0 ha
  exact Pst.mk (.mk ⟨t1, os, rfl, h0, ha, rfl⟩) (by (repeat' constructor); first | done | fail)
theorem all_bd {c : Md.Str} {k : Nat} (hl : c.length ≤ k) (hk : k ≤ 1000000000) : (Md.all c).length ≤ 6 * (k + 1) ∧ Md.dl (Md.all c) ≤ 40 * (k + 1) := by
  obtain ⟨hN, hb1, hb2⟩ := new_small (w := 0) (n := []) (b := false) hl hk (by simp)
  have h1 := Md.join_len (Md.Lx.new c).toks
  have h2 := Md.dl_join (Md.Lx.new c).toks
  exact ⟨Nat.le_trans h1 hb1, by show Md.dl (Md.join _) ≤ _; rw [h2]; exact hb2⟩
end Go.Proofs.YticnenofiibpgaaDoor.Code
/- Tokens compared; words. -/
namespace Go.Md
def wd (c : UInt8) : UInt8 := byteN (97 + c.toNat % 26)
/-- A name of small letters. -/
def word9 (s : Str) : Str := 119 :: (s.take 8).map wd
end Go.Md
namespace Go.Proofs.YticnenofiibpgaaDoor.Code
open Go.Dm Go.Dm.C
set_option linter.unusedSimpArgs false
set_option linter.unusedVariables false
set_option linter.unnecessarySimpa false
set_option maxRecDepth 10000
attribute [local irreducible] Go.Dm.F Go.Dm.RS Go.Dm.Y Go.Dm.FD Go.Dm.FZ1 Go.Dm.Hold
variable {R : List Ck}
theorem take_eq_step {α : Type} [Inhabited α] {l m : List α} {i : Nat} (h : l.take i = m.take i) (hl : i < l.length) (hm : i < m.length) : l.take (i + 1) = m.take (i + 1) ↔ l.getD i default = m.getD i default := by
  have e1 : l.take (i + 1) = l.take i ++ [l[i]] := by rw [List.take_add_one, List.getElem?_eq_getElem hl]; rfl
  have e2 : m.take (i + 1) = m.take i ++ [m[i]] := by rw [List.take_add_one, List.getElem?_eq_getElem hm]; rfl
  rw [e1, e2, h]
  simp only [List.append_cancel_left_eq, List.cons.injEq, and_true, List.getD_eq_getElem?_getD, List.getElem?_eq_getElem hl, List.getElem?_eq_getElem hm, Option.getD_some]
theorem equal_F {t z t' z' : Nat} {l m : List (Md.Str × Md.Str)} (hz : z = zOf t 2) (hz' : z' = zOf t' 2) (hl : l.length ≤ 1000000000) : F D 42 [.lst t z (l.map encA), .lst t' z' (m.map encA)] R (fun v cs' => v = .bool (decide (l = m)) ∧ R = cs') := by
  subst hz; subst hz'
  refine F.of rfl rfl rfl ?_
  repeat' first | exact arI | refine Pst.mk ⟨?_, rfl⟩ (by (repeat' constructor); first | done | fail) | constructor | (refine fun _ _ (hq : Hold _) => ?_; replace hq := hq.out; obtain ⟨_, rfl, rfl⟩ := hq) | (refine fun _ _ (hq : Hold _) => ?_; replace hq := hq.out; obtain ⟨_, _, rfl, rfl⟩ := hq) | rintro _ _ ⟨rfl, rfl⟩ | rintro _ _ ⟨_, rfl, rfl⟩ | rintro _ _ ⟨_, _, rfl, rfl⟩ | (refine fun (hc : _ = _) => ?_; (try simp only [BB] at hc)) | refine fun (_ : Nat) => ?_ | refine fun (_ : _ ≤ _) => ?_ | refine fun (_ : _ < _) => ?_
  · rw [decide_eq_false]; intro e; subst e; omega
  refine RS.loopW (α := Nat) (fun i => [(0, .lst t (zOf t 2) (l.map encA)), (1, .lst t' (zOf t' 2) (m.map encA)), (12, .int .i64 l.length), (13, .int .i64 (i : Nat))]) (fun _ => R)
    (fun i => i ≤ l.length ∧ l.take i = m.take i) (fun i => l.length - i) 0 ⟨Nat.zero_le _, rfl⟩ ⟨rfl, rfl, rfl, rfl, trivial⟩ .refl ?_
  rintro i ⟨h1, h2⟩ ih
  dsimp only [ents] at *
  have hte := fun a b => take_eq_step h2 (i := i) a b
  repeat' first | (refine fun (hc : _ = _) => ?_; (try simp only [BB] at hc); (try (first | contradiction | (exfalso; omega)))) | exact arI | refine Pst.mk ⟨?_, rfl⟩ (by (repeat' constructor); first | done | fail) | constructor | (refine fun _ _ (hq : Hold _) => ?_; replace hq := hq.out; obtain ⟨_, rfl, rfl⟩ := hq) | (refine fun _ _ (hq : Hold _) => ?_; replace hq := hq.out; obtain ⟨_, _, rfl, rfl⟩ := hq) | rintro _ _ ⟨rfl, rfl⟩ | rintro _ _ ⟨_, rfl, rfl⟩ | rintro _ _ ⟨_, _, rfl, rfl⟩ | (refine fun (hc : _ = _) => ?_; (try simp only [BB] at hc)) | refine fun (_ : Nat) => ?_ | refine fun (_ : _ ≤ _) => ?_ | refine fun (_ : _ < _) => ?_
  · rw [decide_eq_false]; intro e; subst e; simp at hc
  · refine ih _ _ (i + 1) ⟨by omega, (hte (by omega) (by omega)).2 (Prod.ext hc.1 hc.2)⟩ (by omega) ⟨rfl, rfl, rfl, rfl, trivial⟩ .refl
  · rw [decide_eq_true]
    rw [List.take_of_length_le (by omega), List.take_of_length_le (by omega)] at h2
    exact h2
set_option maxHeartbeats 1000000 in
theorem tokSame_F {p q : Md.Tok × Nat} (hl : p.1.attrs.length ≤ 1000000000) : F D 29 [encT p, encT q] R (fun v cs' => v = .bool (decide (p.1 = q.1)) ∧ R = cs') := by
  refine F.of rfl rfl rfl ?_
  repeat' first | (show FC _ _ _ _ _; exact equal_F rfl rfl hl) | (refine fun (hc : _ = _) => ?_; (try simp only [BB] at hc); (try (first | contradiction | (exfalso; omega)))) | exact arI | refine Pst.mk ⟨?_, rfl⟩ (by (repeat' constructor); first | done | fail) | constructor | (refine fun _ _ (hq : Hold _) => ?_; replace hq := hq.out; obtain ⟨_, rfl, rfl⟩ := hq) | (refine fun _ _ (hq : Hold _) => ?_; replace hq := hq.out; obtain ⟨_, _, rfl, rfl⟩ := hq) | rintro _ _ ⟨rfl, rfl⟩ | rintro _ _ ⟨_, rfl, rfl⟩ | rintro _ _ ⟨_, _, rfl, rfl⟩ | (refine fun (hc : _ = _) => ?_; (try simp only [BB] at hc)) | refine fun (_ : Nat) => ?_ | refine fun (_ : _ ≤ _) => ?_ | refine fun (_ : _ < _) => ?_
  obtain ⟨⟨p1, p2, p3, p4, p5, p6, p7, p8, p9, p10⟩, tp⟩ := p
  obtain ⟨⟨q1, q2, q3, q4, q5, q6, q7, q8, q9, q10⟩, tq⟩ := q
  dsimp only
  congr 1
  rw [Bool.eq_iff_iff]
  simp [and_assoc]
  exact ⟨fun ⟨a, b, c, d⟩ => ⟨b, c, a, d⟩, fun ⟨b, c, a, d⟩ => ⟨a, b, c, d⟩⟩
theorem word9_take {s : Md.Str} {i : Nat} (h : i < s.length) : (s.take (i + 1)).map Md.wd = (s.take i).map Md.wd ++ [Md.wd (s.getD i 0)] := by
  rw [List.take_add_one, List.getElem?_eq_getElem h]
  simp only [List.getD_eq_getElem?_getD, List.getElem?_eq_getElem h, Option.getD_some, Option.toList_some, List.map_append, List.map_cons, List.map_nil]
theorem word9_F {s : Md.Str} : F D 14 [.str s] R (fun v cs' => v = .str (Md.word9 s) ∧ R = cs') := by
  refine F.of rfl rfl rfl ?_
  repeat' first | exact arI | refine Pst.mk ⟨?_, rfl⟩ (by (repeat' constructor); first | done | fail) | constructor | (refine fun _ _ (hq : Hold _) => ?_; replace hq := hq.out; obtain ⟨_, rfl, rfl⟩ := hq) | (refine fun _ _ (hq : Hold _) => ?_; replace hq := hq.out; obtain ⟨_, _, rfl, rfl⟩ := hq) | rintro _ _ ⟨rfl, rfl⟩ | rintro _ _ ⟨_, rfl, rfl⟩ | rintro _ _ ⟨_, _, rfl, rfl⟩ | (refine fun (hc : _ = _) => ?_; (try simp only [BB] at hc)) | refine fun (_ : Nat) => ?_ | refine fun (_ : _ ≤ _) => ?_ | refine fun (_ : _ < _) => ?_
  refine RS.loopW (α := Nat) (fun i => [(0, .str s), (3, .str (119 :: (s.take i).map Md.wd)), (4, .int .i64 (i : Nat))]) (fun _ => R)
    (fun i => i ≤ s.length ∧ i ≤ 8) (fun i => 8 - i) 0 ⟨Nat.zero_le _, Nat.zero_le _⟩ ⟨rfl, rfl, rfl, trivial⟩ .refl ?_
  rintro i ⟨h1, h2⟩ ih
  dsimp only [ents] at *
  have hw := fun h => word9_take (s := s) (i := i) h
  repeat' first | (refine fun (hc : _ = _) => ?_; (try simp only [BB] at hc); (try (first | contradiction | (exfalso; omega)))) | exact arI | refine Pst.mk ⟨?_, rfl⟩ (by (repeat' constructor); first | done | fail) | constructor | (refine fun _ _ (hq : Hold _) => ?_; replace hq := hq.out; obtain ⟨_, rfl, rfl⟩ := hq) | (refine fun _ _ (hq : Hold _) => ?_; replace hq := hq.out; obtain ⟨_, _, rfl, rfl⟩ := hq) | rintro _ _ ⟨rfl, rfl⟩ | rintro _ _ ⟨_, rfl, rfl⟩ | rintro _ _ ⟨_, _, rfl, rfl⟩ | (refine fun (hc : _ = _) => ?_; (try simp only [BB] at hc)) | refine fun (_ : Nat) => ?_ | refine fun (_ : _ ≤ _) => ?_ | refine fun (_ : _ < _) => ?_
  · have e := hw (by omega)
    have h26 := (List.getD s i 0).toNat_lt
    have e2 : UInt8.ofNat (IntKind.u8.wrap (97 + (((List.getD s (i : Int).toNat 0).toNat : Int)).tmod 26)).toNat = Md.wd (List.getD s i 0) := by
      rw [Int.toNat_natCast, wrap_u8, Int.tmod_eq_emod_of_nonneg (by omega)]
      apply UInt8.toNat.inj
      rw [Md.wd, byteN_nat (by omega), UInt8.toNat_ofNat']
      omega
    refine ih _ _ (i + 1) (by omega) (by omega) ?_ (by (repeat' constructor); first | done | fail)
    rw [e, ← e2]; exact ⟨rfl, rfl, rfl, trivial⟩
  · unfold Md.word9
    congr 2
    by_cases h8 : i = 8
    · subst h8; rfl
    · rw [List.take_of_length_le (by omega), List.take_of_length_le (by omega)]
theorem indexS_F {t z : Nat} {ns : List Md.Str} {m : Md.Str} (hz : ZK t z 1) (hl : ns.length ≤ 1000000000) : F D 56 [.lst t z (ns.map DV.str), .str m] R (fun v cs' => Hold (∃ k : Int, v = .int .i64 k ∧ R = cs' ∧ (0 ≤ k ↔ m ∈ ns))) := by
  refine F.of rfl rfl rfl ?_
  repeat' first | exact arI | refine Pst.mk ⟨?_, rfl⟩ (by (repeat' constructor); first | done | fail) | constructor | (refine fun _ _ (hq : Hold _) => ?_; replace hq := hq.out; obtain ⟨_, rfl, rfl⟩ := hq) | (refine fun _ _ (hq : Hold _) => ?_; replace hq := hq.out; obtain ⟨_, _, rfl, rfl⟩ := hq) | rintro _ _ ⟨rfl, rfl⟩ | rintro _ _ ⟨_, rfl, rfl⟩ | rintro _ _ ⟨_, _, rfl, rfl⟩ | (refine fun (hc : _ = _) => ?_; (try simp only [BB] at hc)) | refine fun (_ : Nat) => ?_ | refine fun (_ : _ ≤ _) => ?_ | refine fun (_ : _ < _) => ?_
  refine RS.loopW (α := Nat) (fun i => [(0, .lst t z (ns.map DV.str)), (1, .str m), (7, .int .i64 ns.length), (8, .int .i64 (i : Nat))]) (fun _ => R)
    (fun i => i ≤ ns.length ∧ m ∉ ns.take i) (fun i => ns.length - i) 0 ⟨Nat.zero_le _, by simp⟩ ⟨rfl, rfl, rfl, rfl, trivial⟩ .refl ?_
  rintro i ⟨h1, h2⟩ ih
  dsimp only [ents] at *
  repeat' first | (show IA _ _ _ _ _ _; exact IA.map hz arI) | (refine fun (hc : _ = _) => ?_; (try simp only [BB] at hc); (try (first | contradiction | (exfalso; omega)))) | exact arI | refine Pst.mk ⟨?_, rfl⟩ (by (repeat' constructor); first | done | fail) | constructor | (refine fun _ _ (hq : Hold _) => ?_; replace hq := hq.out; obtain ⟨_, rfl, rfl⟩ := hq) | (refine fun _ _ (hq : Hold _) => ?_; replace hq := hq.out; obtain ⟨_, _, rfl, rfl⟩ := hq) | rintro _ _ ⟨rfl, rfl⟩ | rintro _ _ ⟨_, rfl, rfl⟩ | rintro _ _ ⟨_, _, rfl, rfl⟩ | (refine fun (hc : _ = _) => ?_; (try simp only [BB] at hc)) | refine fun (_ : Nat) => ?_ | refine fun (_ : _ ≤ _) => ?_ | refine fun (_ : _ < _) => ?_
  · exact Pst.mk (.mk ⟨_, rfl, rfl, fun _ => by rw [hc, List.getD_eq_getElem?_getD, List.getElem?_eq_getElem (by omega)]; exact List.getElem_mem _, fun _ => by omega⟩) .refl
  · refine ih _ _ (i + 1) ⟨by omega, ?_⟩ (by omega) ⟨rfl, rfl, rfl, rfl, trivial⟩ .refl
    rw [List.take_add_one, List.getElem?_eq_getElem (by omega)]
    rw [List.getD_eq_getElem?_getD, List.getElem?_eq_getElem (by omega)] at hc
    simp only [Option.toList_some, List.mem_append, List.mem_singleton, not_or]
    exact ⟨h2, hc⟩
  · rw [List.take_of_length_le (by omega)] at h2
    exact Pst.mk (.mk ⟨_, rfl, rfl, fun h => by omega, fun h => absurd h h2⟩) .refl
theorem containsS_F {t z : Nat} {ns : List Md.Str} {m : Md.Str} (hz : ZK t z 1) (hl : ns.length ≤ 1000000000) : F D 43 [.lst t z (ns.map DV.str), .str m] R (fun v cs' => v = .bool (decide (m ∈ ns)) ∧ R = cs') := by
  refine F.of rfl rfl rfl ?_
  repeat' first | (show FC _ _ _ _ _; exact indexS_F hz hl) | (refine fun (hc : _ = _) => ?_; (try simp only [BB] at hc); (try (first | contradiction | (exfalso; omega)))) | exact arI | refine Pst.mk ⟨?_, rfl⟩ (by (repeat' constructor); first | done | fail) | constructor | (refine fun _ _ (hq : Hold _) => ?_; replace hq := hq.out; obtain ⟨_, rfl, rfl⟩ := hq) | (refine fun _ _ (hq : Hold _) => ?_; replace hq := hq.out; obtain ⟨_, _, rfl, rfl⟩ := hq) | rintro _ _ ⟨rfl, rfl⟩ | rintro _ _ ⟨_, rfl, rfl⟩ | rintro _ _ ⟨_, _, rfl, rfl⟩ | (refine fun (hc : _ = _) => ?_; (try simp only [BB] at hc)) | refine fun (_ : Nat) => ?_ | refine fun (_ : _ ≤ _) => ?_ | refine fun (_ : _ < _) => ?_ | (refine fun _ _ (hq : Hold _) => ?_; replace hq := hq.out; obtain ⟨k, rfl, rfl, hk⟩ := hq)
  congr 1
  by_cases h : m ∈ ns
  · rw [decide_eq_true h, decide_eq_true (hk.2 h)]
  · rw [decide_eq_false h, decide_eq_false (fun x => h (hk.1 x))]
theorem is_F {p : Md.Tok × Nat} {k : Int} {t : Nat} {n : Md.Str} : F D 30 [encT p, .int .i64 k, .lst t (zOf t 1) [.str n]] R (fun v cs' => v = .bool (decide (p.1.kind = k ∧ p.1.name = n)) ∧ R = cs') := by
  refine F.of rfl rfl rfl ?_
  repeat' first | (show FC _ _ _ _ _; exact containsS_F (ns := [n]) .zof (by simp)) | (refine fun (hc : _ = _) => ?_; (try simp only [BB] at hc); (try (first | contradiction | (exfalso; omega)))) | exact arI | refine Pst.mk ⟨?_, rfl⟩ (by (repeat' constructor); first | done | fail) | constructor | (refine fun _ _ (hq : Hold _) => ?_; replace hq := hq.out; obtain ⟨_, rfl, rfl⟩ := hq) | (refine fun _ _ (hq : Hold _) => ?_; replace hq := hq.out; obtain ⟨_, _, rfl, rfl⟩ := hq) | rintro _ _ ⟨rfl, rfl⟩ | rintro _ _ ⟨_, rfl, rfl⟩ | rintro _ _ ⟨_, _, rfl, rfl⟩ | (refine fun (hc : _ = _) => ?_; (try simp only [BB] at hc)) | refine fun (_ : Nat) => ?_ | refine fun (_ : _ ≤ _) => ?_ | refine fun (_ : _ < _) => ?_
  all_goals (congr 1; simp [hc])
end Go.Proofs.YticnenofiibpgaaDoor.Code
/- Two lists of tokens compared. -/
namespace Go.Proofs.YticnenofiibpgaaDoor.Code
open Go.Dm Go.Dm.C
set_option linter.unusedSimpArgs false
set_option linter.unusedVariables false
set_option linter.unnecessarySimpa false
set_option maxRecDepth 10000
attribute [local irreducible] Go.Dm.F Go.Dm.RS Go.Dm.Y Go.Dm.FD Go.Dm.FZ1 Go.Dm.Hold
variable {R : List Ck}
theorem same_F {t z t' z' : Nat} {ls ms : List (Md.Tok × Nat)} (hz : z = zOf t 10) (hz' : z' = zOf t' 10) (hn : ls.length ≤ 1000000000) (hl : ∀ u ∈ ls.map Prod.fst, u.attrs.length ≤ 1000000000) : F D 27 [.lst t z (ls.map encT), .lst t' z' (ms.map encT)] R (fun v cs' => v = .bool (decide (ls.map Prod.fst = ms.map Prod.fst)) ∧ R = cs') := by
  subst hz; subst hz'
  refine F.of rfl rfl rfl ?_
  repeat' first | exact arI | refine Pst.mk ⟨?_, rfl⟩ (by (repeat' constructor); first | done | fail) | constructor | (refine fun _ _ (hq : Hold _) => ?_; replace hq := hq.out; obtain ⟨_, rfl, rfl⟩ := hq) | (refine fun _ _ (hq : Hold _) => ?_; replace hq := hq.out; obtain ⟨_, _, rfl, rfl⟩ := hq) | rintro _ _ ⟨rfl, rfl⟩ | rintro _ _ ⟨_, rfl, rfl⟩ | rintro _ _ ⟨_, _, rfl, rfl⟩ | (refine fun (hc : _ = _) => ?_; (try simp only [BB] at hc)) | refine fun (_ : Nat) => ?_ | refine fun (_ : _ ≤ _) => ?_ | refine fun (_ : _ < _) => ?_
  · rw [decide_eq_false]; intro e; have := congrArg List.length e; rw [List.length_map, List.length_map] at this; omega
  refine RS.loopW (α := Nat) (fun i => [(0, .lst t (zOf t 10) (ls.map encT)), (1, .lst t' (zOf t' 10) (ms.map encT)), (12, .int .i64 ls.length), (13, .int .i64 (i : Nat))]) (fun _ => R)
    (fun i => i ≤ ls.length ∧ (ls.map Prod.fst).take i = (ms.map Prod.fst).take i) (fun i => ls.length - i) 0 ⟨Nat.zero_le _, rfl⟩ ⟨rfl, rfl, rfl, rfl, trivial⟩ .refl ?_
  rintro i ⟨h1, h2⟩ ih
  dsimp only [ents] at *
  have hte := fun a b => take_eq_step h2 (i := i) a b
  rw [List.length_map, List.length_map, getD_fst, getD_fst] at hte
  have hsm : i < ls.length → (ls.getD i default).1.attrs.length ≤ 1000000000 := fun h => by
    refine hl _ ?_
    rw [← getD_fst, List.getD_eq_getElem?_getD, List.getElem?_eq_getElem (by rw [List.length_map]; exact h)]
    exact List.getElem_mem _
  repeat' first | (show FC _ _ _ _ _; exact tokSame_F (p := ls.getD i default) (q := ms.getD i default) (hsm (by omega))) | (refine fun (hc : _ = _) => ?_; (try simp only [BB] at hc); (try (first | contradiction | (exfalso; omega)))) | exact arI | refine Pst.mk ⟨?_, rfl⟩ (by (repeat' constructor); first | done | fail) | constructor | (refine fun _ _ (hq : Hold _) => ?_; replace hq := hq.out; obtain ⟨_, rfl, rfl⟩ := hq) | (refine fun _ _ (hq : Hold _) => ?_; replace hq := hq.out; obtain ⟨_, _, rfl, rfl⟩ := hq) | rintro _ _ ⟨rfl, rfl⟩ | rintro _ _ ⟨_, rfl, rfl⟩ | rintro _ _ ⟨_, _, rfl, rfl⟩ | (refine fun (hc : _ = _) => ?_; (try simp only [BB] at hc)) | refine fun (_ : Nat) => ?_ | refine fun (_ : _ ≤ _) => ?_ | refine fun (_ : _ < _) => ?_
  · rw [decide_eq_false]
    intro e
    have := (hte (by omega) (by omega)).1 (by rw [e])
    exact hc this
  · exact ih _ _ (i + 1) ⟨by omega, (hte (by omega) (by omega)).2 hc⟩ (by omega) ⟨rfl, rfl, rfl, rfl, trivial⟩ .refl
  · rw [decide_eq_true]
    rw [List.take_of_length_le (by rw [List.length_map]; omega), List.take_of_length_le (by rw [List.length_map]; omega)] at h2
    exact h2
theorem same_F2 {t z t' z' : Nat} {ls ms : List (Md.Tok × Nat)} {ts us : List Md.Tok} (hz : z = zOf t 10) (hz' : z' = zOf t' 10) (ha : ls.map Prod.fst = ts) (hb : ms.map Prod.fst = us) (hn : ts.length ≤ 1000000000) (hl : ∀ u ∈ ts, u.attrs.length ≤ 1000000000) : F D 27 [.lst t z (ls.map encT), .lst t' z' (ms.map encT)] R (fun v cs' => v = .bool (decide (ts = us)) ∧ R = cs') := by
  subst ha; subst hb; rw [List.length_map] at hn; exact same_F hz hz' hn hl
end Go.Proofs.YticnenofiibpgaaDoor.Code
/- How a text is read on, with texts az one: rules. -/
namespace Go.Md
def tx (d : Str) : Tok := { Tok.zero with kind := 1, data := d }
/-- A text more. -/
def app (l : List Tok) (d : Str) : List Tok := joinStep l (tx d)
theorem app_emp (d : Str) : app [] d = if d = [] then [] else [tx d] := by
  unfold app
  rw [joinStep_nil]
  by_cases h : d = []
  · subst h; rfl
  · rw [if_neg (fun x => h x.2), if_neg h]
theorem app_snoc (l : List Tok) (u : Tok) (d : Str) : app (l ++ [u]) d = if u.kind = 1 then l ++ [{ u with data := u.data ++ d }] else if d = [] then l ++ [u] else l ++ [u] ++ [tx d] := by
  unfold app
  rw [joinStep_snoc]
  simp only [tx, true_and]
theorem app_nil (l : List Tok) : app l [] = l := by
  rcases List.eq_nil_or_concat l with rfl | ⟨l, u, rfl⟩
  · rw [app_emp, if_pos rfl]
  · rw [List.concat_eq_append, app_snoc]; split
    · simp
    · rw [if_pos rfl]
theorem app_app (l : List Tok) (a b : Str) : app (app l a) b = app l (a ++ b) := by
  by_cases ha : a = []
  · subst ha; rw [app_nil, List.nil_append]
  · have h2 : a ++ b ≠ [] := by simp [ha]
    rcases List.eq_nil_or_concat l with rfl | ⟨l, u, rfl⟩
    · rw [app_emp, if_neg ha, app_emp, if_neg h2]
      have := app_snoc [] (tx a) b
      rw [List.nil_append] at this
      rw [this, if_pos (show (tx a).kind = 1 from rfl)]; rfl
    · rw [List.concat_eq_append, app_snoc, app_snoc]; split
      · rename_i hk
        rw [app_snoc, if_pos (by exact hk)]; simp
      · (try rw [if_neg ha]); (try rw [if_neg h2]); rw [app_snoc, if_pos (show (tx a).kind = 1 from rfl)]; simp [tx, Tok.zero]
def vt (acc : List Tok) (x : Lx) : List Tok := app (x.out.foldl joinStep acc) (encode x.text)
/-- Where a lexer is, and what it gave. -/
structure At (acc : List Tok) (x : Lx) (w : Int) (n : Str) (b : Bool) (r : List Int) (A : List Tok) : Prop where
  done : x.done = false
  way : x.way = w
  last : x.last = n
  room : x.room = b
  rest : x.rest = r
  vt : vt acc x = A
end Go.Md
namespace Go.Proofs.YticnenofiibpgaaDoor.Code
open Go.Dm
set_option linter.unusedSimpArgs false
set_option linter.unusedVariables false
variable {acc : List Md.Tok} {x : Md.Lx} {w : Int} {n : Md.Str} {b : Bool} {r : List Int} {A B : List Md.Tok}
theorem enc_app (a b : List Int) : Md.encode (a ++ b) = Md.encode a ++ Md.encode b := by simp [Md.encode]
theorem enc_one (r : Int) : Md.encode [r] = Md.putR r := by simp [Md.encode]
theorem enc_cons (r : Int) (l : List Int) : Md.encode (r :: l) = Md.putR r ++ Md.encode l := by simp [Md.encode]
theorem At.adv (h : Md.At acc x w n b r A) (k : Nat) : Md.At acc (x.adv k) w n b (r.drop k) A := ⟨h.done, h.way, h.last, h.room, by rw [rest_adv, h.rest], h.vt⟩
theorem At.say (h : Md.At acc x w n b r A) (d : List Int) : Md.At acc (x.say d) w n b r (Md.app A (Md.encode (d.filter (· != -1)))) := ⟨h.done, h.way, h.last, h.room, h.rest, by
  rw [← h.vt]; unfold Md.vt
  rw [Md.app_app, ← enc_app]; rfl⟩
theorem At.say' (h : Md.At acc x w n b r A) {d : List Int} (hd : ∀ r ∈ d, 0 ≤ r) : Md.At acc (x.say d) w n b r (Md.app A (Md.encode d)) := by
  have := At.say h d
  rwa [filter_nn hd] at this
theorem At.flush (h : Md.At acc x w n b r A) : Md.At acc x.flush w n b r A := by
  unfold Md.Lx.flush
  split
  · exact h
  · refine ⟨h.done, h.way, h.last, h.room, h.rest, ?_⟩
    rw [← h.vt]; unfold Md.vt
    show Md.app ((x.out ++ [Md.textTok x.text]).foldl Md.joinStep acc) [] = _
    rw [Md.app_nil, List.foldl_append]; rfl
theorem flush_text0 : x.flush.text = [] := flush_text
theorem At.emit (h : Md.At acc x w n b r A) (t : Md.Tok) : Md.At acc (x.emit t) w (if t.kind = 2 then t.name else n) b r (Md.joinStep A t) := by
  have h1 := At.flush h
  refine ⟨h1.done, h1.way, ?_, h1.room, h1.rest, ?_⟩
  · show (if t.kind = 2 then t.name else x.flush.last) = _; rw [h1.last]
  · have h2 := h1.vt
    unfold Md.vt at h2 ⊢
    have e : (x.emit t).text = [] := flush_text
    have e0 : x.flush.text = [] := flush_text
    rw [e0] at h2
    rw [e]
    show Md.app ((x.flush.out ++ [t]).foldl Md.joinStep acc) [] = _
    have e2 : Md.encode [] = [] := rfl
    rw [e2, Md.app_nil] at h2
    rw [Md.app_nil, List.foldl_append, h2]; rfl
theorem At.setWay (h : Md.At acc x w n b r A) (w' : Int) : Md.At acc { x with way := w' } w' n b r A := ⟨h.done, rfl, h.last, h.room, h.rest, h.vt⟩
theorem At.pk (h : Md.At acc x w n b r A) (k : Nat) : x.pk k = r.getD k (-1) := by rw [pk_rest, h.rest]
/-- Read from here on, with what is there already: what it all is. -/
def Rd (w : Int) (n : Md.Str) (b : Bool) (r : List Int) (A B : List Md.Tok) : Prop := ∀ acc x, NI x → Md.At acc x w n b r A → x.toks.foldl Md.joinStep acc = B
theorem NI.noOut (h : NI x) : NI { x with out := [] } := ⟨h.len, h.nn, h.pos, h.pos2, h.text, by show (0 : Nat) ≤ 100; omega, h.last⟩
theorem At.noOut (h : Md.At acc x w n b r A) : Md.At (x.out.foldl Md.joinStep acc) { x with out := [] } w n b r A := ⟨h.done, h.way, h.last, h.room, h.rest, h.vt⟩
theorem At.fin (h : Md.At acc x w n b r A) : Md.At acc (stepFin x) w n b r A := by
  unfold stepFin; split
  · exact At.flush h
  · exact h
theorem Rd.step {w' : Int} {n' : Md.Str} {b' : Bool} {r' : List Int} {A' : List Md.Tok} (h : ∀ acc x, NI x → x.out = [] → Md.At acc x w n b r A → Md.At acc (stepMid x) w' n' b' r' A') (hr : Rd w' n' b' r' A' B) : Rd w n b r A B := by
  intro acc x hN hS
  have hN0 := hN.noOut
  have hS0 := At.noOut hS
  rw [toks_out, List.foldl_append]
  have ho : ({ x with out := [] } : Md.Lx).out = [] := rfl
  generalize ({ x with out := [] } : Md.Lx) = y at *
  rw [toks_step hN0 hS0.done ho]
  refine hr _ _ (hN0.step hS0.done ho) ?_
  rw [step_eq]
  exact At.fin (h _ _ hN0 ho hS0)
theorem Rd.nil : Rd w n b [] A A := by
  intro acc x hN hS
  have hN0 := hN.noOut
  have hS0 := At.noOut hS
  rw [toks_out, List.foldl_append]
  have ho : ({ x with out := [] } : Md.Lx).out = [] := rfl
  generalize ({ x with out := [] } : Md.Lx) = y at *
  rw [toks_step hN0 hS0.done ho]
  have hp : y.pk 0 = -1 := by rw [At.pk hS0]; rfl
  have hmid : stepMid y = { (y.adv 1).flush with done := true } := by rw [stepMid, if_pos hp]
  have hst : y.step = { (y.adv 1).flush with done := true } := by
    rw [step_eq, stepFin, hmid, if_neg]
    intro h; apply h.2.1; show (y.adv 1).flush.text = []; exact flush_text
  have hf := (At.flush (At.adv hS0 1)).vt
  rw [toks_out, hst]
  have hd : ({ ({ (y.adv 1).flush with done := true } : Md.Lx) with out := [] } : Md.Lx).toks = [] := toks_done rfl rfl
  rw [hd, List.append_nil]
  unfold Md.vt at hf
  have e : (y.adv 1).flush.text = [] := flush_text
  have e2 : Md.encode [] = [] := rfl
  rw [e, e2, Md.app_nil] at hf
  exact hf
/-- Signs that are a part of the text, in a way. -/
def okSign (w : Int) (c : Int) : Prop := 0 < c ∧ c ≠ 60 ∧ (c = 38 → w ≠ 0 ∧ w ≠ 1)
theorem okSign.of {c : Int} (h : Md.plainSign c = true ∧ 0 ≤ c) : okSign w c := by
  obtain ⟨hc, h0⟩ := h
  simp only [Md.plainSign, Bool.not_eq_true', Bool.or_eq_false_iff, beq_eq_false_iff_ne, ne_eq] at hc
  exact ⟨by omega, hc.1.2, fun h => absurd h hc.1.1⟩
theorem mid_plain {c : Int} {l : List Int} (hc : okSign x.way c) (hr : x.rest = c :: l) : stepMid x = ((x.adv 1).adv (l.takeWhile Md.plainSign).length).say (c :: l.takeWhile Md.plainSign) := by
  have hp : x.pk 0 = c := by rw [pk_rest, hr]; rfl
  have h1 : (x.adv 1).rest = l := by rw [rest_adv, hr]; rfl
  obtain ⟨h0, h60, h38⟩ := hc
  rw [stepMid, hp, h1, if_neg (by omega), if_neg (fun h => by have := h38 h.1; omega), if_neg (fun h => h60 h.1), if_neg (fun h => h60 h.1), if_neg (fun h => h60 h.1), if_neg (by omega), if_neg (by omega)]
theorem Rd.plain1 {c : Int} {l : List Int} (hc : okSign w c) (h : Rd w n b l (Md.app A (Md.putR c)) B) : Rd w n b (c :: l) A B := by
  have h0 : 0 ≤ c := Int.le_of_lt hc.1
  cases l with
  | nil =>
    refine Rd.step (fun acc x hN ho hS => ?_) h
    rw [mid_plain (by rw [hS.way]; exact hc) hS.rest]
    have := At.say' (At.adv (At.adv hS 1) 0) (d := [c]) (by simp [h0])
    rw [enc_one] at this
    exact this
  | cons e l =>
    by_cases he : Md.plainSign e = true
    · intro acc x hN hS
      have hN0 := hN.noOut
      have hS0 := At.noOut hS
      rw [toks_out, List.foldl_append]
      have ho : ({ x with out := [] } : Md.Lx).out = [] := rfl
      generalize ({ x with out := [] } : Md.Lx) = y at *
      have hlt : y.pos < y.inp.length := by
        by_cases hlt : y.pos < y.inp.length
        · exact hlt
        · have := rest_nil (s := y) (by omega); rw [hS0.rest] at this; cases this
      have hNz : NI ((y.adv 1).say [c]) := ⟨hN0.len, hN0.nn, by show y.pos + 1 ≤ _; exact Nat.succ_le_succ (Nat.le_of_lt hlt), fun _ => by show y.pos + 1 ≤ y.inp.length; omega, by
        show (y.text ++ [c].filter (· != -1)).length ≤ 10 * (y.pos + 1)
        have := hN0.text
        rw [filter_nn (by simp [h0]), List.length_append, List.length_singleton]; omega, hN0.out, hN0.last⟩
      have hSz := At.say' (At.adv hS0 1) (d := [c]) (by simp [h0])
      rw [enc_one] at hSz
      have := h _ _ hNz hSz
      rw [← this]
      have he0 : 0 ≤ e := hN0.nn e (by
        have : e ∈ y.rest := by rw [hS0.rest]; simp
        exact List.mem_of_mem_drop this)
      congr 1
      rw [toks_step hN0 hS0.done ho, toks_step hNz hSz.done (by exact ho), step_eq, step_eq]
      congr 2
      rw [mid_plain (by rw [hS0.way]; exact hc) hS0.rest, mid_plain (okSign.of ⟨he, he0⟩) (show ((y.adv 1).say [c]).rest = e :: l by rw [rest_say, rest_adv, hS0.rest]; rfl)]
      rw [List.takeWhile_cons, if_pos he]
      unfold Md.Lx.say Md.Lx.adv
      simp only [List.length_cons, Md.Lx.mk.injEq, true_and, and_true]
      have e1 : (c :: e :: l.takeWhile Md.plainSign).filter (· != -1) = [c].filter (· != -1) ++ (e :: l.takeWhile Md.plainSign).filter (· != -1) := by rw [← List.filter_append]; rfl
      exact ⟨by omega, by rw [e1, List.append_assoc]⟩
    · refine Rd.step (fun acc x hN ho hS => ?_) h
      rw [mid_plain (by rw [hS.way]; exact hc) hS.rest, List.takeWhile_cons, if_neg he]
      have := At.say' (At.adv (At.adv hS 1) 0) (d := [c]) (by simp [h0])
      rw [enc_one] at this
      exact this
theorem Rd.plain {l : List Int} : ∀ (d : List Int) {A : List Md.Tok}, (∀ c ∈ d, okSign w c) → Rd w n b l (Md.app A (Md.encode d)) B → Rd w n b (d ++ l) A B
  | [], A, _, h => by have e : Md.encode [] = [] := rfl; rw [e, Md.app_nil] at h; exact h
  | c :: d, A, hd, h => Rd.plain1 (hd c (by simp)) (Rd.plain d (fun x hx => hd x (by simp [hx])) (by rw [Md.app_app, ← enc_cons]; exact h))
/-- A < where tags may stand. -/
theorem Rd.tag {n' : Md.Str} {w' : Int} {b' : Bool} {l r' : List Int} {A' : List Md.Tok} (h : ∀ acc x, (∀ r ∈ x.inp, 0 ≤ r) → Md.At acc x 0 n b l A → Md.At acc x.open_ w' n' b' r' A') (hr : Rd w' n' b' r' A' B) : Rd 0 n b (60 :: l) A B := by
  refine Rd.step (fun acc x hN ho hS => ?_) hr
  have hp : x.pk 0 = 60 := by rw [At.pk hS]; rfl
  have hw := hS.way
  rw [stepMid, if_neg (by omega), if_neg (by omega), if_pos ⟨hp, hw⟩]
  exact h _ _ (by rw [flush_inp]; exact hN.nn) (At.flush (At.adv hS 1))
/-- A < in the other ways. -/
theorem Rd.shut {n' : Md.Str} {w' : Int} {b' : Bool} {l r' : List Int} {A' : List Md.Tok} (hw : w = 1 ∨ w = 2) (h : ∀ acc x, (∀ r ∈ x.inp, 0 ≤ r) → Md.At acc x w n b l A → Md.At acc x.close w' n' b' r' A') (hr : Rd w' n' b' r' A' B) : Rd w n b (60 :: l) A B := by
  refine Rd.step (fun acc x hN ho hS => ?_) hr
  have hp : x.pk 0 = 60 := by rw [At.pk hS]; rfl
  have hw' := hS.way
  rw [stepMid, if_neg (by omega), if_neg (by omega), if_neg (by omega), if_pos ⟨hp, by omega⟩]
  exact h _ _ (by rw [flush_inp]; exact hN.nn) (At.flush (At.adv hS 1))
theorem Rd.scr {n' : Md.Str} {w' : Int} {b' : Bool} {l r' : List Int} {A' : List Md.Tok} (h : ∀ acc x, (∀ r ∈ x.inp, 0 ≤ r) → Md.At acc x 3 n b l A → Md.At acc x.script w' n' b' r' A') (hr : Rd w' n' b' r' A' B) : Rd 3 n b (60 :: l) A B := by
  refine Rd.step (fun acc x hN ho hS => ?_) hr
  have hp : x.pk 0 = 60 := by rw [At.pk hS]; rfl
  have hw' := hS.way
  rw [stepMid, if_neg (by omega), if_neg (by omega), if_neg (by omega), if_neg (by omega), if_pos ⟨hp, by omega⟩]
  exact h _ _ (by rw [flush_inp]; exact hN.nn) (At.flush (At.adv hS 1))
theorem Rd.ref {l : List Int} (hw : w = 0 ∨ w = 1) (hs : ∀ r ∈ (Md.refer false l).1, 0 ≤ r) (hr : Rd w n b (l.drop (Md.refer false l).2) (Md.app A (Md.encode (Md.refer false l).1)) B) : Rd w n b (38 :: l) A B := by
  refine Rd.step (fun acc x hN ho hS => ?_) hr
  have hp : x.pk 0 = 38 := by rw [At.pk hS]; rfl
  have hw' := hS.way
  rw [stepMid, if_neg (by omega), if_pos ⟨hp, by omega⟩]
  have h1 : (x.adv 1).rest = l := by rw [rest_adv, hS.rest]; rfl
  unfold refA
  rw [h1]
  exact At.say' (At.adv (At.adv hS 1) _) hs
theorem Rd.start {c : Md.Str} {w : Int} {nm : Md.Str} {room : Bool} (hN : NI { Md.Lx.new c with way := w, last := nm, room := room }) (h : Rd w nm room (Md.decode c) [] B) : Md.join ({ Md.Lx.new c with way := w, last := nm, room := room } : Md.Lx).toks = B :=
  h [] _ hN ⟨rfl, rfl, rfl, rfl, rfl, rfl⟩
theorem Rd.conv {r' : List Int} {A' B' : List Md.Tok} (h : Rd w n b r' A' B') (h1 : r = r') (h2 : A = A') (h3 : B' = B) : Rd w n b r A B := by subst h1; subst h2; subst h3; exact h
end Go.Proofs.YticnenofiibpgaaDoor.Code
/- Two lexers at the same text, where tags may stand, give the same. -/
namespace Go.Md
/-- A relation of tokens that more of them keep. -/
structure Cl (K : Nat) (q : List Tok → List Tok → Prop) : Prop where
  app : ∀ A A' d, q A A' → q (app A d) (app A' d)
  tok : ∀ A A' t, t.kind ≠ 1 → t.attrs.length ≤ K → q A A' → q (joinStep A t) (joinStep A' t)
/-- Texts that are nothing else. -/
def Good (A : List Tok) : Prop := ∀ t ∈ A, t.kind = 1 → t = tx t.data
theorem Good.app {A : List Tok} (h : Good A) (d : Str) : Good (app A d) := by
  rcases List.eq_nil_or_concat A with rfl | ⟨l, u, rfl⟩
  · rw [app_emp]; split
    · exact h
    · intro t ht _; simp only [List.mem_singleton] at ht; subst ht; rfl
  · rw [List.concat_eq_append] at *
    rw [app_snoc]; split
    · rename_i hk
      intro t ht h1
      rcases List.mem_append.1 ht with ht | ht
      · exact h t (by simp [ht]) h1
      · simp only [List.mem_singleton] at ht; subst ht
        have := h u (by simp) hk
        rw [this]; rfl
    · split
      · exact h
      · intro t ht h1
        rcases List.mem_append.1 ht with ht | ht
        · exact h t ht h1
        · simp only [List.mem_singleton] at ht; subst ht; rfl
theorem joinStep_tok {A : List Tok} {t : Tok} (ht : t.kind ≠ 1) : joinStep A t = A ++ [t] := by
  rcases List.eq_nil_or_concat A with rfl | ⟨l, u, rfl⟩
  · rw [joinStep_nil, if_neg (fun h => ht h.1)]; rfl
  · rw [List.concat_eq_append, joinStep_snoc, if_neg (fun h => ht h.1), if_neg (fun h => ht h.1)]
theorem Good.tok {A : List Tok} (h : Good A) {t : Tok} (ht : t.kind ≠ 1) : Good (joinStep A t) := by
  rw [joinStep_tok ht]
  intro u hu h1
  rcases List.mem_append.1 hu with hu | hu
  · exact h u hu h1
  · simp only [List.mem_singleton] at hu; subst hu; exact absurd h1 ht
theorem fold_app {A C : List Tok} (h : Good A) (d : Str) : (Md.app A d).foldl joinStep C = Md.app (A.foldl joinStep C) d := by
  rcases List.eq_nil_or_concat A with rfl | ⟨l, u, rfl⟩
  · rw [app_emp]; split
    · rename_i hd; subst hd; rw [app_nil]
    · rfl
  · rw [List.concat_eq_append] at *
    rw [app_snoc]; split
    · rename_i hk
      have hu := h u (by simp) hk
      rw [List.foldl_append, List.foldl_append]
      show joinStep (l.foldl joinStep C) { u with data := u.data ++ d } = Md.app (joinStep (l.foldl joinStep C) u) d
      rw [hu]
      exact (app_app _ _ _).symm
    · split
      · rename_i hd; subst hd; rw [app_nil]
      · rw [List.foldl_append]; rfl
theorem cl_eq (K : Nat) : Cl K (· = ·) := ⟨fun _ _ _ h => by rw [h], fun _ _ _ _ _ h => by rw [h]⟩
theorem cl_fold (K : Nat) (C : List Tok) : Cl K fun A A' => Good A ∧ A' = A.foldl joinStep C := by
  refine ⟨fun A A' d ⟨h1, h2⟩ => ⟨h1.app d, by rw [h2, fold_app h1]⟩, fun A A' t ht _ ⟨h1, h2⟩ => ⟨h1.tok ht, ?_⟩⟩
  rw [h2, joinStep_tok (A := A) ht, List.foldl_append]; rfl
theorem small_app {K : Nat} {A : List Tok} (h : ∀ t ∈ A, t.attrs.length ≤ K) (d : Str) : ∀ t ∈ app A d, t.attrs.length ≤ K := by
  rcases List.eq_nil_or_concat A with rfl | ⟨l, u, rfl⟩
  · rw [app_emp]; split
    · exact h
    · intro t ht; simp only [List.mem_singleton] at ht; subst ht; exact Nat.zero_le _
  · rw [List.concat_eq_append] at *
    rw [app_snoc]; split
    · intro t ht
      rcases List.mem_append.1 ht with ht | ht
      · exact h t (by simp [ht])
      · simp only [List.mem_singleton] at ht; subst ht; exact h u (by simp)
    · split
      · exact h
      · intro t ht
        rcases List.mem_append.1 ht with ht | ht
        · exact h t ht
        · simp only [List.mem_singleton] at ht; subst ht; exact Nat.zero_le _
theorem cl_small (K : Nat) : Cl K fun A _ => ∀ t ∈ A, t.attrs.length ≤ K := by
  refine ⟨fun A A' d h => small_app h d, fun A A' t ht hk h => ?_⟩
  rw [joinStep_tok ht]
  intro u hu
  rcases List.mem_append.1 hu with hu | hu
  · exact h u hu
  · simp only [List.mem_singleton] at hu; subst hu; exact hk
theorem putAttr_len (al : List (Str × Str)) (a : Str × Str) : (putAttr al a).length ≤ al.length + 1 := by
  unfold putAttr; split
  · omega
  · simp
/-- Two lexers at the same text. -/
structure Al (K : Nat) (q : List Tok → List Tok → Prop) (acc : List Tok) (x : Lx) (acc' : List Tok) (y : Lx) : Prop where
  dx : x.done = false
  dy : y.done = false
  wx : x.way = 0
  wy : y.way = 0
  room : x.room = y.room
  rest : x.rest = y.rest
  len : y.rest.length ≤ K
  q : q (vt acc x) (vt acc' y)
end Go.Md
namespace Go.Proofs.YticnenofiibpgaaDoor.Code
open Go.Dm
set_option linter.unusedSimpArgs false
set_option linter.unusedVariables false
theorem attrs_len : ∀ (n : Nat) (l : List Int) (acc : List (Md.Str × Md.Str)), l.length ≤ n → (Md.attrsGo l acc).1.length ≤ acc.length + l.length := by
  intro n
  induction n with
  | zero => intro l acc h; have : l = [] := List.eq_nil_of_length_eq_zero (by omega); subst this; rw [attrsGo_nil]; simp
  | succ n ih =>
    intro l acc h
    cases l with
    | nil => rw [attrsGo_nil]; simp
    | cons r l =>
      simp only [List.length_cons] at h ⊢
      cases hb : Md.blank r with
      | true => rw [attrsGo_blank hb]; have := ih l acc (by omega); dsimp only; omega
      | false =>
        by_cases h1 : r = 62
        · subst h1; rw [attrsGo_end]; simp
        · by_cases h2 : r = 47
          · subst h2
            rw [attrsGo_slash]
            split
            · dsimp only; omega
            · have := ih l acc (by omega); dsimp only; omega
          · have hg : 1 ≤ (Md.attr1 (r :: l)).2.2 := attr1_ge (by rw [over_f]; exact ⟨⟨hb, h2⟩, h1⟩)
            have hp := Md.putAttr_len acc (Md.attr1 (r :: l)).1
            rw [attrsGo_attr hb h1 h2]
            split
            · have := ih ((r :: l).drop (Md.attr1 (r :: l)).2.2) (Md.putAttr acc (Md.attr1 (r :: l)).1) (by rw [List.length_drop, List.length_cons]; omega)
              rw [List.length_drop, List.length_cons] at this
              dsimp only; omega
            · dsimp only; omega
variable {K : Nat} {q : List Md.Tok → List Md.Tok → Prop} {acc acc' : List Md.Tok} {x y : Md.Lx}
theorem Al.pk (h : Md.Al K q acc x acc' y) (k : Nat) : x.pk k = y.pk k := by rw [pk_rest, pk_rest, h.rest]
theorem Al.adv (h : Md.Al K q acc x acc' y) (k : Nat) : Md.Al K q acc (x.adv k) acc' (y.adv k) := ⟨h.dx, h.dy, h.wx, h.wy, h.room, by rw [rest_adv, rest_adv, h.rest], by rw [rest_adv, List.length_drop]; have := h.len; omega, h.q⟩
theorem vt_say (d : List Int) : Md.vt acc (x.say d) = Md.app (Md.vt acc x) (Md.encode (d.filter (· != -1))) := by
  unfold Md.vt
  rw [Md.app_app, ← enc_app]; rfl
theorem vt_flush : Md.vt acc x.flush = Md.vt acc x := by
  unfold Md.Lx.flush
  split
  · rfl
  · unfold Md.vt
    show Md.app ((x.out ++ [Md.textTok x.text]).foldl Md.joinStep acc) [] = _
    rw [Md.app_nil, List.foldl_append]; rfl
theorem vt_emit (t : Md.Tok) : Md.vt acc (x.emit t) = Md.joinStep (Md.vt acc x) t := by
  have h2 := vt_flush (acc := acc) (x := x)
  unfold Md.vt at h2 ⊢
  have e : (x.emit t).text = [] := flush_text
  have e0 : x.flush.text = [] := flush_text
  have e2 : Md.encode [] = [] := rfl
  rw [e0, e2, Md.app_nil] at h2
  rw [e]
  show Md.app ((x.flush.out ++ [t]).foldl Md.joinStep acc) [] = _
  rw [Md.app_nil, List.foldl_append, h2]; rfl
theorem Al.say (c : Md.Cl K q) (h : Md.Al K q acc x acc' y) (d : List Int) : Md.Al K q acc (x.say d) acc' (y.say d) := ⟨h.dx, h.dy, h.wx, h.wy, h.room, h.rest, h.len, by rw [vt_say, vt_say]; exact c.app _ _ _ h.q⟩
theorem Al.flush (h : Md.Al K q acc x acc' y) : Md.Al K q acc x.flush acc' y.flush :=
  ⟨by rw [flush_done]; exact h.dx, by rw [flush_done]; exact h.dy, by rw [flush_way]; exact h.wx, by rw [flush_way]; exact h.wy, by rw [flush_room, flush_room]; exact h.room, by unfold Md.Lx.rest; rw [flush_inp, flush_inp, flush_pos, flush_pos]; exact h.rest, by unfold Md.Lx.rest; rw [flush_inp, flush_pos]; exact h.len, by rw [vt_flush, vt_flush]; exact h.q⟩
theorem Al.emit (c : Md.Cl K q) (h : Md.Al K q acc x acc' y) {t : Md.Tok} (ht : t.kind ≠ 1) (ha : t.attrs.length ≤ K) : Md.Al K q acc (x.emit t) acc' (y.emit t) := by
  have h1 := Al.flush h
  exact ⟨h1.dx, h1.dy, h1.wx, h1.wy, h1.room, h1.rest, h1.len, by rw [vt_emit, vt_emit]; exact c.tok _ _ _ ht ha h.q⟩
variable (c : Md.Cl K q) (h : Md.Al K q acc x acc' y)
include c h
theorem Al.tag {k : Int} (hk : k ≠ 1) : Md.Al K q acc (x.tag k) acc' (y.tag k) := by
  unfold Md.Lx.tag
  rw [h.rest]
  dsimp only
  split
  · refine Al.emit c (Al.adv h _) hk ?_
    dsimp only
    split
    · exact Nat.zero_le _
    · refine Nat.le_trans (attrs_len _ _ _ (Nat.le_refl _)) ?_
      rw [List.length_nil, List.length_drop]
      have := h.len; omega
  · exact Al.adv h _
theorem Al.bogus : Md.Al K q acc x.bogus acc' y.bogus := by
  unfold Md.Lx.bogus
  rw [h.rest]
  exact Al.emit c (Al.adv h _) (by show (4 : Int) ≠ 1; decide) (Nat.zero_le _)
theorem Al.ending : Md.Al K q acc x.ending acc' y.ending := by
  unfold Md.Lx.ending
  rw [Al.pk h 0]
  split
  · exact Al.tag c h (by decide)
  · split
    · exact Al.adv h _
    · split
      · exact Al.say c h _
      · exact Al.bogus c h
theorem Al.section_ : Md.Al K q acc x.section_ acc' y.section_ := by
  unfold Md.Lx.section_
  rw [h.rest]
  exact Al.say c (Al.adv h _) _
theorem Al.comment : Md.Al K q acc x.comment acc' y.comment := by
  unfold Md.Lx.comment
  rw [h.rest, Al.pk h 0, Al.pk h 1]
  dsimp only
  have hk : ∀ d, (Md.commentTok d).kind ≠ 1 := fun d => by show (4 : Int) ≠ 1; decide
  split
  · exact Al.emit c (Al.adv h _) (hk _) (Nat.zero_le _)
  · split
    · exact Al.emit c (Al.adv h _) (hk _) (Nat.zero_le _)
    · exact Al.emit c (Al.adv h _) (hk _) (Nat.zero_le _)
omit c in
theorem Al.blanks : Md.Al K q acc x.blanks acc' y.blanks := by
  unfold Md.Lx.blanks; rw [h.rest]; exact Al.adv h _
omit c in
theorem Al.skip : Md.Al K q acc x.skip acc' y.skip := by
  unfold Md.Lx.skip; rw [h.rest]; exact Al.adv h _
theorem Al.sys {t : Md.Tok} (ht : t.kind ≠ 1) (ha : t.attrs.length ≤ K) : Md.Al K q acc (x.doctypeSys t) acc' (y.doctypeSys t) := by
  unfold Md.Lx.doctypeSys
  rw [h.rest]
  dsimp only
  have h1 := Al.adv h (Md.quoted y.rest).2.2.2
  rw [Al.pk (Al.blanks h1) 0]
  split
  · exact Al.emit c h1 ht ha
  · split
    · exact Al.emit c (Al.blanks h1) ht ha
    · exact Al.emit c (Al.skip (Al.blanks h1)) ht ha
theorem Al.pub {t : Md.Tok} (ht : t.kind ≠ 1) (ha : t.attrs.length ≤ K) : Md.Al K q acc (x.doctypePub t) acc' (y.doctypePub t) := by
  unfold Md.Lx.doctypePub
  rw [h.rest]
  dsimp only
  have h1 := Al.adv h (Md.quoted y.rest).2.2.2
  rw [Al.pk (Al.blanks h1) 0]
  split
  · exact Al.emit c h1 ht ha
  · split
    · exact Al.emit c (Al.adv (Al.blanks h1) _) ht ha
    · exact Al.sys c (Al.blanks h1) ht ha
theorem Al.rest' {t : Md.Tok} (ht : t.kind ≠ 1) (ha : t.attrs.length ≤ K) : Md.Al K q acc (x.doctypeRest t) acc' (y.doctypeRest t) := by
  unfold Md.Lx.doctypeRest
  rw [h.rest, Al.pk h 0]
  split
  · exact Al.emit c (Al.adv h _) ht ha
  · split
    · exact Al.emit c h ht ha
    · split
      · exact Al.pub c (Al.blanks (Al.adv h _)) ht ha
      · split
        · exact Al.sys c (Al.blanks (Al.adv h _)) ht ha
        · exact Al.emit c (Al.skip h) ht ha
theorem Al.doctype : Md.Al K q acc x.doctype acc' y.doctype := by
  have hb := Al.blanks h
  unfold Md.Lx.doctype
  dsimp only
  rw [hb.rest, Al.pk hb 0]
  split
  · exact Al.emit c (Al.adv hb _) (by show (5 : Int) ≠ 1; decide) (Nat.zero_le _)
  · split
    · exact Al.emit c hb (by show (5 : Int) ≠ 1; decide) (Nat.zero_le _)
    · exact Al.rest' c (Al.blanks (Al.adv hb _)) (by show (5 : Int) ≠ 1; decide) (Nat.zero_le _)
theorem Al.declare : Md.Al K q acc x.declare acc' y.declare := by
  unfold Md.Lx.declare
  rw [h.rest, Al.pk h 0, h.room]
  split
  · exact Al.comment c (Al.adv h _)
  · split
    · exact Al.doctype c (Al.adv h _)
    · split
      · exact Al.section_ c (Al.adv h _)
      · exact Al.bogus c h
theorem Al.open_ : Md.Al K q acc x.open_ acc' y.open_ := by
  unfold Md.Lx.open_
  rw [Al.pk h 0]
  split
  · exact Al.declare c (Al.adv h _)
  · split
    · exact Al.ending c (Al.adv h _)
    · split
      · exact Al.tag c h (by decide)
      · split
        · exact Al.bogus c h
        · exact Al.say c h _
theorem Al.mid (hr : y.pk 0 ≠ -1) : Md.Al K q acc (stepMid x) acc' (stepMid y) := by
  have h1 := Al.adv h 1
  have e1 := h1.rest
  unfold stepMid
  rw [Al.pk h 0, e1, h.wx, h.wy, if_neg hr, if_neg hr]
  split
  · unfold refA
    rw [e1]
    exact Al.say c (Al.adv h1 _) _
  · split
    · exact Al.open_ c (Al.flush h1)
    · split
      · exact absurd (by assumption : y.pk 0 = 60 ∧ ((0 : Int) = 1 ∨ (0 : Int) = 2)).2 (by decide)
      · split
        · exact absurd (by assumption : y.pk 0 = 60 ∧ (0 : Int) = 3).2 (by decide)
        · split
          · exact Al.say c h1 _
          · split
            · exact Al.say c h1 _
            · exact Al.say c (Al.adv h1 _) _
omit c in
theorem Al.fin : Md.Al K q acc (stepFin x) acc' (stepFin y) := by
  have hx : ∀ z : Md.Lx, stepFin z = z.flush ∨ stepFin z = z := fun z => by unfold stepFin; split; exact .inl rfl; exact .inr rfl
  have hf := Al.flush h
  have e : ∀ z : Md.Lx, (stepFin z).done = z.done ∧ (stepFin z).way = z.way ∧ (stepFin z).room = z.room ∧ (stepFin z).rest = z.rest ∧ ∀ a, Md.vt a (stepFin z) = Md.vt a z := fun z => by
    rcases hx z with e | e
    · rw [e]; exact ⟨flush_done, flush_way, flush_room, by unfold Md.Lx.rest; rw [flush_inp, flush_pos], fun a => vt_flush⟩
    · rw [e]; exact ⟨rfl, rfl, rfl, rfl, fun a => rfl⟩
  obtain ⟨a1, a2, a3, a4, a5⟩ := e x
  obtain ⟨b1, b2, b3, b4, b5⟩ := e y
  exact ⟨by rw [a1]; exact h.dx, by rw [b1]; exact h.dy, by rw [a2]; exact h.wx, by rw [b2]; exact h.wy, by rw [a3, b3]; exact h.room, by rw [a4, b4]; exact h.rest, by rw [b4]; exact h.len, by rw [a5, b5]; exact h.q⟩
omit h in
theorem Al.toks : ∀ (n : Nat) (acc acc' : List Md.Tok) (x y : Md.Lx), x.left ≤ n → NI x → NI y → Md.Al K q acc x acc' y → q (x.toks.foldl Md.joinStep acc) (y.toks.foldl Md.joinStep acc') := by
  intro n
  induction n with
  | zero => intro acc acc' x y hn hx hy h; have := step_left hx.noOut (by exact h.dx); exact absurd this (by show ¬(_ < x.left); omega)
  | succ n ih =>
    intro acc acc' x y hn hx hy h
    cases hr : y.rest with
    | nil =>
      have e1 := Rd.nil acc x hx (w := 0) (n := x.last) (b := x.room) ⟨h.dx, h.wx, rfl, rfl, by rw [h.rest, hr], rfl⟩
      have e2 := Rd.nil acc' y hy (w := 0) (n := y.last) (b := y.room) ⟨h.dy, h.wy, rfl, rfl, hr, rfl⟩
      rw [e1, e2]; exact h.q
    | cons r l =>
      rw [toks_out x, toks_out y, List.foldl_append, List.foldl_append]
      have hx0 := hx.noOut
      have hy0 := hy.noOut
      have h0 : Md.Al K q (x.out.foldl Md.joinStep acc) { x with out := [] } (y.out.foldl Md.joinStep acc') { y with out := [] } := ⟨h.dx, h.dy, h.wx, h.wy, h.room, h.rest, h.len, h.q⟩
      have hr0 : ({ y with out := [] } : Md.Lx).rest = r :: l := hr
      have hl0 : ({ x with out := [] } : Md.Lx).left = x.left := rfl
      have ox : ({ x with out := [] } : Md.Lx).out = [] := rfl
      have oy : ({ y with out := [] } : Md.Lx).out = [] := rfl
      generalize ({ x with out := [] } : Md.Lx) = x' at *
      generalize ({ y with out := [] } : Md.Lx) = y' at *
      have hsl := step_left hx0 h0.dx
      rw [toks_step hx0 h0.dx ox, toks_step hy0 h0.dy oy]
      refine ih _ _ _ _ (by omega) (hx0.step h0.dx ox) (hy0.step h0.dy oy) ?_
      rw [step_eq, step_eq]
      refine Al.fin (Al.mid c h0 ?_)
      rw [pk_rest, hr0]
      have : 0 ≤ r := hy0.nn r (by
        have : r ∈ y'.rest := by rw [hr0]; simp
        exact List.mem_of_mem_drop this)
      show r ≠ -1
      omega
end Go.Proofs.YticnenofiibpgaaDoor.Code
/- A marked section is a text where it may stand, and a comment where it may not. -/
namespace Go.Md
def asc (b : Str) : List Int := b.map fun c => (c.toNat : Int)
end Go.Md
namespace Go.Proofs.YticnenofiibpgaaDoor.Code
open Go.Dm
set_option linter.unusedSimpArgs false
set_option linter.unusedVariables false
theorem asc_app (a b : Md.Str) : Md.asc (a ++ b) = Md.asc a ++ Md.asc b := List.map_append
theorem putR_asc {c : UInt8} (h : c.toNat < 128) : Md.putR (c.toNat : Int) = [c] := by
  rw [putR_nat (by omega), if_pos (by omega)]
  congr 1
  apply UInt8.toNat.inj
  rw [byteN_nat (by omega)]
theorem enc_asc {b : Md.Str} (h : ∀ c ∈ b, c.toNat < 128) : Md.encode (Md.asc b) = b := by
  induction b with
  | nil => rfl
  | cons c b ih =>
    show Md.encode ((c.toNat : Int) :: Md.asc b) = _
    rw [enc_cons, putR_asc (h c (by simp)), ih (fun x hx => h x (by simp [hx]))]; rfl
theorem dec_asc {b : Md.Str} (h : ∀ c ∈ b, c.toNat < 128 ∧ c.toNat ≠ 13) : Md.decode b = Md.asc b := by
  conv => lhs; rw [← enc_asc (fun c hc => (h c hc).1)]
  refine decode_encode fun r hr => ?_
  obtain ⟨c, hc, rfl⟩ := List.mem_map.1 hr
  have := h c hc
  exact ⟨⟨by omega, by omega, by omega⟩, by omega, by omega⟩
theorem asc_nn {b : Md.Str} : ∀ r ∈ Md.asc b, 0 ≤ r := fun r hr => by obtain ⟨c, hc, rfl⟩ := List.mem_map.1 hr; omega
theorem asc_plain {w : Int} {b : Md.Str} (h : ∀ c ∈ b, c.toNat ≠ 0 ∧ c.toNat ≠ 60 ∧ (c.toNat = 38 → w ≠ 0 ∧ w ≠ 1)) : ∀ r ∈ Md.asc b, okSign w r := fun r hr => by
  obtain ⟨c, hc, rfl⟩ := List.mem_map.1 hr
  have := h c hc
  exact ⟨by omega, by omega, fun h => this.2.2 (by omega)⟩
theorem section_app : ∀ (d l : List Int), (∀ r ∈ d, r ≠ 93) → Md.sectionGo (d ++ 93 :: 93 :: 62 :: l) = (d, d.length + 3)
  | [], l, _ => by simp [Md.sectionGo]
  | r :: d, l, h => by
    have h1 := h r (by simp)
    have := section_app d l (fun x hx => h x (by simp [hx]))
    rw [List.cons_append, Md.sectionGo, if_neg (fun hh => h1 hh.1), this]
    simp only [List.length_cons, Prod.mk.injEq, true_and]
theorem bogus_app : ∀ (d l : List Int), (∀ r ∈ d, r ≠ 62 ∧ r ≠ 0) → Md.bogusGo (d ++ 62 :: l) = (d, d.length + 1)
  | [], l, _ => by simp [Md.bogusGo]
  | r :: d, l, h => by
    have h1 := h r (by simp)
    have := bogus_app d l (fun x hx => h x (by simp [hx]))
    rw [List.cons_append, Md.bogusGo, if_neg h1.1, this]
    simp only [List.length_cons, Prod.mk.injEq, and_true, Md.fixr, if_neg h1.2]
def secOk (c : UInt8) : Bool := decide (32 ≤ c.toNat) && decide (c.toNat < 127) && decide (c.toNat ≠ 93) && decide (c.toNat ≠ 62)
theorem secOk_iff {c : UInt8} : secOk c = true ↔ 32 ≤ c.toNat ∧ c.toNat < 127 ∧ c.toNat ≠ 93 ∧ c.toNat ≠ 62 := by simp [secOk, and_assoc]
def secPre : Md.Str := [60, 33, 91, 67, 68, 65, 84, 65, 91]
def comTok (d : Md.Str) : Md.Tok := { Md.Tok.zero with kind := 4, data := d }
def secRes (may : Bool) (d : Md.Str) : List Md.Tok := if may then [Md.tx (d ++ [120])] else [comTok ([91, 67, 68, 65, 84, 65, 91] ++ d ++ [93, 93]), Md.tx [120]]
theorem sections_pure {d : Md.Str} {may : Bool} (hd : ∀ c ∈ d, secOk c = true) (hN : NI { Md.Lx.new (secPre ++ d ++ [93, 93, 62, 120]) with room := may }) : Md.join ({ Md.Lx.new (secPre ++ d ++ [93, 93, 62, 120]) with room := may } : Md.Lx).toks = secRes may d := by
  have hd' : ∀ c ∈ d, 32 ≤ c.toNat ∧ c.toNat < 127 ∧ c.toNat ≠ 93 ∧ c.toNat ≠ 62 := fun c hc => secOk_iff.1 (hd c hc)
  refine Rd.start (w := 0) (nm := []) (room := may) hN ?_
  rw [dec_asc (by
    intro c hc
    simp only [secPre, List.mem_append] at hc
    rcases hc with (hc | hc) | hc
    · revert hc; revert c; decide
    · have := hd' c hc; omega
    · revert hc; revert c; decide), asc_app, asc_app]
  have hA : ∀ r ∈ Md.asc d, r ≠ 93 ∧ r ≠ 62 ∧ r ≠ 0 := fun r hr => by
    obtain ⟨c, hc, rfl⟩ := List.mem_map.1 hr
    have := hd' c hc; omega
  have hE : Md.encode (Md.asc d) = d := enc_asc (fun c hc => by have := hd' c hc; omega)
  show Rd 0 [] may (60 :: 33 :: 91 :: 67 :: 68 :: 65 :: 84 :: 65 :: 91 :: (Md.asc d ++ [93, 93, 62, 120])) [] _
  have hs1 := section_app (Md.asc d) [120] (fun r hr => (hA r hr).1)
  have hb1 := bogus_app ([91, 67, 68, 65, 84, 65, 91] ++ Md.asc d ++ [93, 93]) [120] (fun r hr => by
    simp only [List.mem_append] at hr
    rcases hr with (hr | hr) | hr
    · revert hr; revert r; decide
    · have := hA r hr; omega
    · revert hr; revert r; decide)
  have e1 : ([91, 67, 68, 65, 84, 65, 91] ++ Md.asc d ++ [93, 93] : List Int) ++ 62 :: [120] = 91 :: 67 :: 68 :: 65 :: 84 :: 65 :: 91 :: (Md.asc d ++ [93, 93, 62, 120]) := by simp
  rw [e1] at hb1
  generalize hL : Md.asc d ++ [93, 93, 62, 120] = L at *
  cases may with
  | true =>
    refine Rd.tag (w' := 0) (n' := []) (b' := true) (r' := [120]) (A' := Md.app [] d) (fun acc x hx hS => ?_) ?_
    · have hp0 : x.pk 0 = 33 := At.pk hS 0
      have h1 := At.adv hS 1
      have hr1 : (x.adv 1).rest = 91 :: 67 :: 68 :: 65 :: 84 :: 65 :: 91 :: L := h1.rest
      have hp1 : (x.adv 1).pk 0 = 91 := At.pk h1 0
      have e : x.open_ = ((x.adv 1).adv 7).section_ := by
        rw [Md.Lx.open_, if_pos hp0, Md.Lx.declare, hr1]
        rw [if_neg (by simp [Md.stands, Md.small]), if_neg (by simp [Md.stands, Md.small]), if_pos ⟨h1.room, hp1, by simp [Md.exact]⟩]
      rw [e]
      have h7 := At.adv h1 7
      have hr7 : ((x.adv 1).adv 7).rest = L := h7.rest
      unfold Md.Lx.section_
      rw [hr7, hs1]
      have h8 := At.say' (At.adv h7 (Md.asc d).length.succ.succ.succ) (d := Md.asc d) asc_nn
      rw [hE] at h8
      have e9 : (List.drop (Md.asc d).length.succ.succ.succ (List.drop 7 (List.drop 1 (33 :: 91 :: 67 :: 68 :: 65 :: 84 :: 65 :: 91 :: L)))) = [120] := by
        show List.drop ((Md.asc d).length + 3) L = _
        rw [← hL, ← List.drop_drop, List.drop_left]; rfl
      rw [e9] at h8
      exact h8
    · refine Rd.conv (Rd.plain (d := [120]) (by simp [okSign]) Rd.nil) rfl rfl ?_
      rw [Md.app_app, show Md.encode [120] = [120] from rfl, Md.app_emp, if_neg (by simp)]; rfl
  | false =>
    refine Rd.tag (w' := 0) (n' := []) (b' := false) (r' := [120]) (A' := [comTok ([91, 67, 68, 65, 84, 65, 91] ++ d ++ [93, 93])]) (fun acc x hx hS => ?_) ?_
    · have hp0 : x.pk 0 = 33 := At.pk hS 0
      have h1 := At.adv hS 1
      have hr1 : (x.adv 1).rest = 91 :: 67 :: 68 :: 65 :: 84 :: 65 :: 91 :: L := h1.rest
      have hp1 : (x.adv 1).pk 0 = 91 := At.pk h1 0
      have hrm : (x.adv 1).room = false := h1.room
      have e : x.open_ = (x.adv 1).bogus := by
        rw [Md.Lx.open_, if_pos hp0, Md.Lx.declare, hr1]
        rw [if_neg (by simp [Md.stands, Md.small]), if_neg (by simp [Md.stands, Md.small]), if_neg (by rw [hrm]; simp)]
      rw [e]
      unfold Md.Lx.bogus
      rw [hr1, hb1]
      have h8 := At.emit (At.adv h1 (([91, 67, 68, 65, 84, 65, 91] ++ Md.asc d ++ [93, 93]).length + 1)) (comTok ([91, 67, 68, 65, 84, 65, 91] ++ d ++ [93, 93]))
      have e9 : List.drop (([91, 67, 68, 65, 84, 65, 91] ++ Md.asc d ++ [93, 93]).length + 1) (List.drop 1 (33 :: 91 :: 67 :: 68 :: 65 :: 84 :: 65 :: 91 :: L)) = [120] := by
        show List.drop _ (91 :: 67 :: 68 :: 65 :: 84 :: 65 :: 91 :: L) = _
        rw [← e1, ← List.drop_drop, List.drop_left]; rfl
      rw [e9] at h8
      have e10 : Md.encode ([91, 67, 68, 65, 84, 65, 91] ++ Md.asc d ++ [93, 93]) = [91, 67, 68, 65, 84, 65, 91] ++ d ++ [93, 93] := by
        rw [enc_app, enc_app, hE]; rfl
      rw [e10]
      exact h8
    · refine Rd.conv (Rd.plain (d := [120]) (by simp [okSign]) Rd.nil) rfl rfl ?_
      rfl
theorem filter_take {f : UInt8 → Bool} {s : Md.Str} {i : Nat} (h : i < s.length) : (s.take (i + 1)).filter f = (s.take i).filter f ++ (if f (s.getD i 0) = true then [s.getD i 0] else []) := by
  rw [List.take_add_one, List.getElem?_eq_getElem h, List.filter_append]
  congr 1
  rw [List.getD_eq_getElem?_getD, List.getElem?_eq_getElem h]
  simp only [Option.toList_some, Option.getD_some, List.filter_cons, List.filter_nil]
theorem one_cut {s : Md.Str} {i : Nat} (h : i < s.length) : List.take (((i : Int) + 1).toNat - (i : Int).toNat) (List.drop (i : Int).toNat s) = [s.getD i 0] := by
  rw [show ((i : Int) + 1).toNat - (i : Int).toNat = 1 by omega, Int.toNat_natCast, drop_get h]; rfl
end Go.Proofs.YticnenofiibpgaaDoor.Code
/- Whatever stands in a comment comes out, up to its end. -/
namespace Go.Proofs.YticnenofiibpgaaDoor.Code
open Go.Dm
set_option linter.unusedSimpArgs false
set_option linter.unusedVariables false
variable {w : Int} {n : Md.Str} {b : Bool} {r : List Int} {A B : List Md.Tok}
theorem new_NI {c : Md.Str} (hl : c.length ≤ 1000000000) {b : Bool} : NI { Md.Lx.new c with room := b } := by
  have hd := decode_len c
  exact ⟨Nat.le_trans hd hl, fun r hr => (decode_sv c r hr).1.1, Nat.zero_le _, fun _ => Nat.zero_le _, Nat.zero_le _, by show (0 : Nat) ≤ 100; omega, by show (0 : Nat) ≤ _; omega⟩
/-- What stands from here on is read az if it stood alone. -/
theorem Rd.read {c : Md.Str} (hl : c.length ≤ 1000000000) : Rd 0 n b (Md.decode c) A (({ Md.Lx.new c with room := b } : Md.Lx).toks.foldl Md.joinStep A) := by
  intro acc x hN hS
  refine Al.toks (Md.cl_eq _) _ acc A x _ (Nat.le_refl _) hN (new_NI hl) ⟨hS.done, rfl, hS.way, rfl, hS.room, hS.rest, Nat.le_refl _, ?_⟩
  rw [hS.vt]
  exact (Md.app_nil A).symm
theorem all_fold {c : Md.Str} (hl : c.length ≤ 1000000000) (C : List Md.Tok) : (Md.all c).foldl Md.joinStep C = (Md.Lx.new c).toks.foldl Md.joinStep C := by
  have h := Al.toks (Md.cl_fold _ C) _ [] C (Md.Lx.new c) (Md.Lx.new c) (Nat.le_refl _) (new_NI (b := false) hl) (new_NI (b := false) hl) ⟨rfl, rfl, rfl, rfl, rfl, rfl, Nat.le_refl _, ?_⟩
  · exact h.2.symm
  · exact ⟨fun t ht => (by cases ht), Md.app_nil C⟩
theorem all_good {c : Md.Str} (hl : c.length ≤ 1000000000) : Md.Good (Md.all c) := by
  have h := Al.toks (Md.cl_fold _ []) _ [] [] (Md.Lx.new c) (Md.Lx.new c) (Nat.le_refl _) (new_NI (b := false) hl) (new_NI (b := false) hl) ⟨rfl, rfl, rfl, rfl, rfl, rfl, Nat.le_refl _, ?_⟩
  · exact h.1
  · exact ⟨fun t ht => (by cases ht), Md.app_nil []⟩
theorem all_small {c : Md.Str} (hl : c.length ≤ 1000000000) : ∀ t ∈ Md.all c, t.attrs.length ≤ c.length := by
  have hd := decode_len c
  refine Al.toks (K := c.length) (Md.cl_small c.length) _ [] [] (Md.Lx.new c) (Md.Lx.new c) (Nat.le_refl _) (new_NI (b := false) hl) (new_NI (b := false) hl) ⟨rfl, rfl, rfl, rfl, rfl, rfl, ?_, ?_⟩
  · unfold Md.Lx.rest
    rw [List.length_drop]
    show (Md.decode c).length - _ ≤ _; omega
  · have e : Md.vt [] (Md.Lx.new c) = [] := Md.app_nil []
    intro t ht; rw [e] at ht; cases ht
/-! ### where a comment ends -/
def fnd : Md.Str → Option (Nat × Nat)
  | [] => none
  | c :: l => if (c :: l).take 3 = [45, 45, 62] then some (0, 3) else if (c :: l).take 4 = [45, 45, 33, 62] then some (0, 4) else (fnd l).map fun q => (q.1 + 1, q.2)
def fndI : List Int → Option (Nat × Nat)
  | [] => none
  | c :: l => if (c :: l).take 3 = [45, 45, 62] then some (0, 3) else if (c :: l).take 4 = [45, 45, 33, 62] then some (0, 4) else (fndI l).map fun q => (q.1 + 1, q.2)
theorem putR_two' {r : Int} (h : sv r) : (r < 128 ∧ Md.putR r = [Md.byteN r.toNat]) ∨ (128 ≤ r ∧ ∃ c bs, Md.putR r = c :: bs ∧ 128 ≤ c.toNat ∧ ∀ b ∈ bs, 128 ≤ b.toNat) := by
  obtain ⟨h0, h1, h2⟩ := h
  obtain ⟨n, rfl⟩ := Int.eq_ofNat_of_zero_le h0
  rw [putR_nat (by omega)]
  split
  · left; exact ⟨by omega, rfl⟩
  · right
    refine ⟨by omega, ?_⟩
    split
    · refine ⟨_, _, rfl, by rw [byteN_nat (by omega)]; omega, fun b hb => ?_⟩
      simp only [List.mem_cons, List.not_mem_nil, or_false] at hb
      subst hb; rw [byteN_nat (by omega)]; omega
    · split
      · refine ⟨_, _, rfl, by rw [byteN_nat (by omega)]; omega, fun b hb => ?_⟩
        simp only [List.mem_cons, List.not_mem_nil, or_false] at hb
        rcases hb with rfl | rfl <;> rw [byteN_nat (by omega)] <;> omega
      · refine ⟨_, _, rfl, by rw [byteN_nat (by omega)]; omega, fun b hb => ?_⟩
        simp only [List.mem_cons, List.not_mem_nil, or_false] at hb
        rcases hb with rfl | rfl | rfl <;> rw [byteN_nat (by omega)] <;> omega
/-- Low signs ahead are low bytes ahead. -/
theorem take_enc : ∀ (p : Md.Str) (l : List Int), (∀ c ∈ p, c.toNat < 128) → (∀ r ∈ l, sv r) → ((Md.encode l).take p.length = p ↔ l.take p.length = Md.asc p)
  | [], l, _, _ => by simp [Md.asc]
  | c :: p, [], _, _ => by simp [Md.asc, show Md.encode [] = [] from rfl]
  | c :: p, r :: l, hp, hl => by
    have hc := hp c (by simp)
    have ih := take_enc p l (fun x hx => hp x (by simp [hx])) (fun x hx => hl x (by simp [hx]))
    have hr := hl r (by simp)
    rw [enc_cons]
    show _ ↔ _ = (c.toNat : Int) :: Md.asc p
    rcases putR_two' hr with ⟨h1, h2⟩ | ⟨h1, c', bs, h2, h3, _⟩
    · have h0 := hr.1
      have hb := byteN_nat (n := r.toNat) (by omega)
      rw [h2, List.singleton_append, List.length_cons, List.take_succ_cons, List.take_succ_cons, List.cons.injEq, List.cons.injEq, ih]
      constructor
      · rintro ⟨e1, e2⟩; rw [e1] at hb; exact ⟨by omega, e2⟩
      · rintro ⟨e1, e2⟩; exact ⟨UInt8.toNat.inj (by rw [hb]; omega), e2⟩
    · rw [h2, List.cons_append, List.length_cons, List.take_succ_cons, List.take_succ_cons, List.cons.injEq, List.cons.injEq]
      constructor
      · rintro ⟨e1, _⟩; subst e1; omega
      · rintro ⟨e1, _⟩; omega
theorem fnd_high : ∀ (bs l : Md.Str), (∀ c ∈ bs, 128 ≤ c.toNat) → fnd (bs ++ l) = (fnd l).map fun q => (q.1 + bs.length, q.2)
  | [], l, _ => by simp
  | c :: bs, l, h => by
    have h1 := h c (by simp)
    have hc : c ≠ 45 := fun e => by subst e; exact absurd h1 (by decide)
    rw [List.cons_append, fnd, if_neg (fun e => by rw [List.take_succ_cons, List.cons.injEq] at e; exact hc e.1), if_neg (fun e => by rw [List.take_succ_cons, List.cons.injEq] at e; exact hc e.1), fnd_high bs l (fun x hx => h x (by simp [hx])), Option.map_map]
    congr 1
theorem fnd_enc : ∀ (l : List Int), (∀ r ∈ l, sv r) → fnd (Md.encode l) = (fndI l).map fun q => ((Md.encode (l.take q.1)).length, q.2)
  | [], _ => rfl
  | r :: l, hl => by
    have ih := fnd_enc l (fun x hx => hl x (by simp [hx]))
    have hr := hl r (by simp)
    have t3 : (Md.encode (r :: l)).take 3 = [45, 45, 62] ↔ (r :: l).take 3 = [45, 45, 62] := take_enc [45, 45, 62] (r :: l) (by decide) hl
    have t4 : (Md.encode (r :: l)).take 4 = [45, 45, 33, 62] ↔ (r :: l).take 4 = [45, 45, 33, 62] := take_enc [45, 45, 33, 62] (r :: l) (by decide) hl
    rw [enc_cons] at t3 t4 ⊢
    rcases putR_two' hr with ⟨h1, h2⟩ | ⟨h1, c', bs, h2, h3, h4⟩
    · rw [h2, List.singleton_append] at t3 t4 ⊢
      rw [fnd, fndI]
      by_cases c3 : (r :: l).take 3 = [45, 45, 62]
      · rw [if_pos c3, if_pos (t3.2 c3)]; rfl
      · rw [if_neg c3, if_neg (fun e => c3 (t3.1 e))]
        by_cases c4 : (r :: l).take 4 = [45, 45, 33, 62]
        · rw [if_pos c4, if_pos (t4.2 c4)]; rfl
        · rw [if_neg c4, if_neg (fun e => c4 (t4.1 e)), ih, Option.map_map, Option.map_map]
          congr 1
          funext q
          simp only [Function.comp, List.take_succ_cons, enc_cons, h2, List.singleton_append, List.length_cons]
    · have hh : ∀ c ∈ Md.putR r, 128 ≤ c.toNat := fun c hc => by
        rw [h2] at hc
        rcases List.mem_cons.1 hc with rfl | hc
        · exact h3
        · exact h4 c hc
      rw [fnd_high _ _ hh, ih, fndI, if_neg (fun e => by rw [List.take_succ_cons, List.cons.injEq] at e; omega), if_neg (fun e => by rw [List.take_succ_cons, List.cons.injEq] at e; omega), Option.map_map, Option.map_map]
      congr 1
      funext q
      simp only [Function.comp, List.take_succ_cons, enc_cons, List.length_append, Nat.add_comm]
theorem exact_take : ∀ (p : Md.Str) (l : List Int), (∀ c ∈ p, c.toNat < 128) → (∀ r ∈ l, 0 ≤ r) → (Md.exact p l = true ↔ l.take p.length = Md.asc p)
  | [], l, _, _ => by simp [Md.exact, Md.asc]
  | c :: p, [], _, _ => by
    show (((-1 : Int) == (c.toNat : Int)) && _) = true ↔ _
    simp [Md.asc]
  | c :: p, r :: l, hp, hl => by
    have ih := exact_take p l (fun x hx => hp x (by simp [hx])) (fun x hx => hl x (by simp [hx]))
    show (((r : Int) == (c.toNat : Int)) && Md.exact p l) = true ↔ (r :: l).take (p.length + 1) = (c.toNat : Int) :: Md.asc p
    rw [List.take_succ_cons, List.cons.injEq, Bool.and_eq_true, beq_iff_eq, ih]
theorem comment_fnd : ∀ (l : List Int) (a z : Nat), (∀ r ∈ l, 0 < r) → fndI l = some (a, z) → Md.commentGo l = (l.take a, a + z, true) ∧ a + z ≤ l.length
  | [], a, z, _, h => by cases h
  | r :: l, a, z, hl, h => by
    have hn : ∀ r ∈ l, 0 ≤ r := fun x hx => by have := hl x (by simp [hx]); omega
    have t2 := exact_take [45, 62] l (by decide) hn
    have t3 := exact_take [45, 33, 62] l (by decide) hn
    have e2 : r = 45 ∧ Md.exact [45, 62] l = true ↔ (r :: l).take 3 = [45, 45, 62] := by
      rw [t2, List.take_succ_cons, List.cons.injEq]; rfl
    have e3 : r = 45 ∧ Md.exact [45, 33, 62] l = true ↔ (r :: l).take 4 = [45, 45, 33, 62] := by
      rw [t3, List.take_succ_cons, List.cons.injEq]; rfl
    have r0 := hl r (by simp)
    rw [fndI] at h
    rw [Md.commentGo]
    by_cases c3 : (r :: l).take 3 = [45, 45, 62]
    · rw [if_pos c3] at h; cases h
      rw [if_pos (e2.2 c3)]
      refine ⟨rfl, ?_⟩
      have := congrArg List.length c3
      rw [List.length_take] at this; simp only [List.length_cons, List.length_nil] at this ⊢; omega
    · rw [if_neg c3] at h
      rw [if_neg (fun e => c3 (e2.1 e))]
      by_cases c4 : (r :: l).take 4 = [45, 45, 33, 62]
      · rw [if_pos c4] at h; cases h
        rw [if_pos (e3.2 c4)]
        refine ⟨rfl, ?_⟩
        have := congrArg List.length c4
        rw [List.length_take] at this; simp only [List.length_cons, List.length_nil] at this ⊢; omega
      · rw [if_neg c4] at h
        rw [if_neg (fun e => c4 (e3.1 e))]
        cases hf : fndI l with
        | none => rw [hf] at h; cases h
        | some q =>
          obtain ⟨a', z'⟩ := q
          rw [hf] at h
          cases h
          obtain ⟨i1, i2⟩ := comment_fnd l a' z' (fun x hx => hl x (by simp [hx])) hf
          rw [i1, Md.fixr, if_neg (by omega)]
          simp only [List.take_succ_cons, List.length_cons, Prod.mk.injEq, true_and, and_true]
          omega
theorem fndI_some : ∀ (o e : List Int), fndI e ≠ none → fndI (o ++ e) ≠ none
  | [], e, h => h
  | r :: o, e, h => by
    have := fndI_some o e h
    rw [List.cons_append, fndI]
    split
    · simp
    · split
      · simp
      · simp only [ne_eq, Option.map_eq_none_iff]; exact this
/-- Where the comment's text ends, how many bytes its end has. -/
def cmB (s : Md.Str) : Nat × Nat := if s.take 1 = [62] then (0, 1) else if s.take 2 = [45, 62] then (0, 2) else (fnd s).getD (0, 0)
def comEnd (bang : Bool) : Md.Str := if bang then [45, 45, 33, 62] else [45, 45, 62]
theorem take_len {l : List Int} {a z : Nat} {p : List Int} (h : (l.drop a).take z = p) : l = l.take a ++ (p ++ l.drop (a + z)) := by
  rw [← h, ← List.drop_drop, List.take_append_drop, List.take_append_drop]
theorem fndI_pat : ∀ (l : List Int) (a z : Nat), fndI l = some (a, z) → ∃ p : Md.Str, (∀ c ∈ p, c.toNat < 128) ∧ p.length = z ∧ (l.drop a).take z = Md.asc p
  | [], a, z, h => by cases h
  | r :: l, a, z, h => by
    rw [fndI] at h
    split at h
    · rename_i c3; cases h; exact ⟨[45, 45, 62], by decide, rfl, c3⟩
    · split at h
      · rename_i c4; cases h; exact ⟨[45, 45, 33, 62], by decide, rfl, c4⟩
      · cases hf : fndI l with
        | none => rw [hf] at h; cases h
        | some q =>
          obtain ⟨a', z'⟩ := q
          rw [hf] at h
          cases h
          exact fndI_pat l a' z' hf
def comTokS (d : Md.Str) : Md.Tok := { Md.Tok.zero with kind := 4, data := d }
theorem fnd_le : ∀ (l : Md.Str) (a z : Nat), fnd l = some (a, z) → a + z ≤ l.length
  | [], a, z, h => by cases h
  | c :: l, a, z, h => by
    rw [fnd] at h
    split at h
    · rename_i c3; cases h
      have := congrArg List.length c3
      rw [List.length_take] at this; simp only [List.length_cons, List.length_nil] at this ⊢; omega
    · split at h
      · rename_i c4; cases h
        have := congrArg List.length c4
        rw [List.length_take] at this; simp only [List.length_cons, List.length_nil] at this ⊢; omega
      · cases hf : fnd l with
        | none => rw [hf] at h; cases h
        | some q =>
          obtain ⟨a', z'⟩ := q
          rw [hf] at h
          cases h
          have := fnd_le l a' z' hf
          simp only [List.length_cons]; omega
theorem cmB_le (W : Md.Str) : (cmB W).1 + (cmB W).2 ≤ W.length := by
  unfold cmB
  split
  · rename_i h; have := congrArg List.length h
    rw [List.length_take] at this; simp only [List.length_cons, List.length_nil] at this ⊢; omega
  · split
    · rename_i h; have := congrArg List.length h
      rw [List.length_take] at this; simp only [List.length_cons, List.length_nil] at this ⊢; omega
    · cases hf : fnd W with
      | none => exact Nat.zero_le _
      | some q => exact fnd_le W q.1 q.2 hf
theorem comments_some {s : Md.Str} {bang : Bool} (_ : (Md.clean s ++ comEnd bang).take 1 ≠ [62]) (_ : (Md.clean s ++ comEnd bang).take 2 ≠ [45, 62]) : fnd (Md.clean s ++ comEnd bang) ≠ none := by
  have hok := clean_ok s
  have hea : Md.encode (Md.asc (comEnd bang)) = comEnd bang := enc_asc (by unfold comEnd; split <;> decide)
  have hfe : fndI (Md.asc (comEnd bang)) ≠ none := by cases bang <;> decide
  have hW : Md.clean s ++ comEnd bang = Md.encode (Md.cleanR (Md.decode s) ++ Md.asc (comEnd bang)) := by rw [enc_app, hea]; rfl
  have hfs := fndI_some (Md.cleanR (Md.decode s)) _ hfe
  rw [hW, fnd_enc]
  · intro e; rw [Option.map_eq_none_iff] at e; exact hfs e
  · intro r hr
    rcases List.mem_append.1 hr with hr | hr
    · exact (hok r hr).1.1
    · have hh : ∀ r ∈ Md.asc (comEnd bang), 0 < r ∧ r < 128 := by cases bang <;> decide
      have := hh r hr
      exact ⟨by omega, by omega, by omega⟩
theorem comments_pure {s : Md.Str} {bang : Bool} (hl : s.length ≤ 1000000) : Md.all ([60, 33, 45, 45] ++ (Md.clean s ++ comEnd bang)) = (Md.all ((Md.clean s ++ comEnd bang).drop ((cmB (Md.clean s ++ comEnd bang)).1 + (cmB (Md.clean s ++ comEnd bang)).2))).foldl Md.joinStep [comTokS ((Md.clean s ++ comEnd bang).take (cmB (Md.clean s ++ comEnd bang)).1)] := by
  have hok := clean_ok s
  have hcl := clean_len s
  have hce : (comEnd bang).length ≤ 4 := by unfold comEnd; split <;> decide
  have hea : Md.encode (Md.asc (comEnd bang)) = comEnd bang := enc_asc (by unfold comEnd; split <;> decide)
  have hfe : fndI (Md.asc (comEnd bang)) ≠ none := by cases bang <;> decide
  have hoe : ∀ r ∈ Md.asc (comEnd bang), (sv r ∧ r ≠ 13 ∧ r ≠ 65279) ∧ r ≠ 0 := by
    intro r hr
    have : 0 < r ∧ r < 128 ∧ r ≠ 13 := by
      cases bang <;> (revert hr; revert r; decide)
    exact ⟨⟨⟨by omega, by omega, by omega⟩, by omega, by omega⟩, by omega⟩
  have hR : ∀ r ∈ Md.cleanR (Md.decode s) ++ Md.asc (comEnd bang), (sv r ∧ r ≠ 13 ∧ r ≠ 65279) ∧ r ≠ 0 := fun r hr => (List.mem_append.1 hr).elim (hok r) (hoe r)
  have hW : Md.clean s ++ comEnd bang = Md.encode (Md.cleanR (Md.decode s) ++ Md.asc (comEnd bang)) := by rw [enc_app, hea]; rfl
  have hfs := fndI_some (Md.cleanR (Md.decode s)) _ hfe
  have hlen : (Md.clean s ++ comEnd bang).length ≤ 4 * s.length + 4 := by rw [List.length_append]; omega
  rw [hW] at hlen ⊢
  generalize Md.cleanR (Md.decode s) ++ Md.asc (comEnd bang) = R at *
  clear hW hea hoe hok hfe hce hcl
  have hRs : ∀ r ∈ R, sv r := fun r hr => (hR r hr).1.1
  have hR0 : ∀ r ∈ R, 0 < r := fun r hr => by have := hR r hr; have := this.1.1.1; omega
  -- where it ends, sign by sign
  obtain ⟨a, z, p, hp1, hp2, hp3, hcm, hcom⟩ : ∃ (a z : Nat) (p : Md.Str), (∀ c ∈ p, c.toNat < 128) ∧ p.length = z ∧ (R.drop a).take z = Md.asc p ∧ cmB (Md.encode R) = ((Md.encode (R.take a)).length, z) ∧
      ∀ acc x n b A, Md.At acc x 0 n b R A → Md.At acc x.comment 0 n b (R.drop (a + z)) (Md.joinStep A (comTokS (Md.encode (R.take a)))) := by
    have t1 : (Md.encode R).take 1 = [62] ↔ R.take 1 = [62] := take_enc [62] R (by decide) hRs
    have t2 : (Md.encode R).take 2 = [45, 62] ↔ R.take 2 = [45, 62] := take_enc [45, 62] R (by decide) hRs
    by_cases c1 : R.take 1 = [62]
    · refine ⟨0, 1, [62], by decide, rfl, c1, ?_, fun acc x n b A h => ?_⟩
      · unfold cmB; rw [if_pos (t1.2 c1)]; rfl
      · have hp : x.pk 0 = 62 := by
          rw [At.pk h 0]
          cases R with
          | nil => cases c1
          | cons r R => rw [List.take_succ_cons] at c1; exact (List.cons.inj c1).1
        unfold Md.Lx.comment
        rw [if_pos hp]
        exact At.emit (At.adv h 1) (Md.commentTok [])
    · by_cases c2 : R.take 2 = [45, 62]
      · refine ⟨0, 2, [45, 62], by decide, rfl, c2, ?_, fun acc x n b A h => ?_⟩
        · unfold cmB; rw [if_neg (fun e => c1 (t1.1 e)), if_pos (t2.2 c2)]; rfl
        · obtain ⟨l, rfl⟩ : ∃ l, R = 45 :: 62 :: l := by
            match R, c2 with
            | 45 :: 62 :: l, _ => exact ⟨l, rfl⟩
          unfold Md.Lx.comment
          rw [if_neg (by rw [At.pk h 0]; show (45 : Int) ≠ 62; decide), if_pos ⟨At.pk h 0, At.pk h 1⟩]
          exact At.emit (At.adv h 2) (Md.commentTok [])
      · obtain ⟨⟨a, z⟩, hf⟩ := Option.ne_none_iff_exists'.1 hfs
        obtain ⟨p, q1, q2, q3⟩ := fndI_pat R a z hf
        obtain ⟨g1, g2⟩ := comment_fnd R a z hR0 hf
        refine ⟨a, z, p, q1, q2, q3, ?_, fun acc x n b A h => ?_⟩
        · unfold cmB; rw [if_neg (fun e => c1 (t1.1 e)), if_neg (fun e => c2 (t2.1 e)), fnd_enc R hRs, hf]; rfl
        · have h62 : ¬(x.pk 0 = 62) := fun e => c1 (by
            rw [At.pk h 0] at e
            cases R with
            | nil => cases hf
            | cons r R => show [r] = [62]; rw [show r = 62 from e])
          have h4562 : ¬(x.pk 0 = 45 ∧ x.pk 1 = 62) := fun e => c2 (by
            rw [At.pk h 0, At.pk h 1] at e
            match R, e with
            | [], e => exact absurd e.1 (by decide)
            | [r], e => exact absurd e.2 (by show ¬(-1 : Int) = 62; decide)
            | r :: r' :: R, e => show [r, r'] = [45, 62]; rw [show r = 45 from e.1, show r' = 62 from e.2])
          unfold Md.Lx.comment
          rw [if_neg h62, if_neg h4562]
          dsimp only
          rw [h.rest, g1]
          dsimp only
          rw [if_pos rfl]
          exact At.emit (At.adv h (a + z)) (Md.commentTok (R.take a))
  rw [hcm]
  dsimp only
  have hsp := take_len hp3
  have hpe : Md.encode (Md.asc p) = p := enc_asc hp1
  have e1 : Md.encode R = Md.encode (R.take a) ++ (p ++ Md.encode (R.drop (a + z))) := by
    conv => lhs; rw [hsp, enc_app, enc_app, hpe]
  have e2 : (Md.encode R).take (Md.encode (R.take a)).length = Md.encode (R.take a) := by rw [e1, List.take_left]
  have e3 : (Md.encode R).drop ((Md.encode (R.take a)).length + z) = Md.encode (R.drop (a + z)) := by
    rw [← List.drop_drop]
    conv => lhs; rw [e1]
    rw [List.drop_left, ← hp2, List.drop_left, hp2]
  rw [e2, e3]
  have hdl : (Md.encode (R.drop (a + z))).length ≤ 1000000000 := by
    have := congrArg List.length e3
    rw [List.length_drop] at this; omega
  rw [all_fold hdl]
  have hdd : Md.decode (Md.encode (R.drop (a + z))) = R.drop (a + z) := decode_encode fun r hr => (hR r (List.mem_of_mem_drop hr)).1
  have hda : Md.decode ([60, 33, 45, 45] ++ Md.encode R) = 60 :: 33 :: 45 :: 45 :: R := by
    have : [60, 33, 45, 45] ++ Md.encode R = Md.encode ([60, 33, 45, 45] ++ R) := by rw [enc_app]; rfl
    rw [this]
    refine decode_encode fun r hr => ?_
    rcases List.mem_append.1 hr with hr | hr
    · have hh : ∀ r ∈ ([60, 33, 45, 45] : List Int), 0 < r ∧ r < 128 ∧ r ≠ 13 := by decide
      have := hh r hr
      exact ⟨⟨by omega, by omega, by omega⟩, by omega, by omega⟩
    · exact (hR r hr).1
  have hN : NI { Md.Lx.new ([60, 33, 45, 45] ++ Md.encode R) with room := false } := new_NI (by rw [List.length_append]; simp only [List.length_cons, List.length_nil]; omega)
  refine Rd.start (w := 0) (nm := []) (room := false) hN ?_
  rw [hda]
  refine Rd.tag (w' := 0) (n' := []) (b' := false) (r' := R.drop (a + z)) (A' := [comTokS (Md.encode (R.take a))]) (fun acc x hx hS => ?_) ?_
  · have hp0 : x.pk 0 = 33 := At.pk hS 0
    have h1 := At.adv hS 1
    have e : x.open_ = ((x.adv 1).adv 2).comment := by
      rw [Md.Lx.open_, if_pos hp0, Md.Lx.declare, h1.rest, if_pos]
      show (Md.small 45 == Md.small ((45 : UInt8).toNat : Int) && (Md.small 45 == Md.small ((45 : UInt8).toNat : Int) && true)) = true
      decide
    rw [e]
    exact hcom _ _ _ _ _ (At.adv h1 2)
  · have := Rd.read (n := []) (b := false) (A := [comTokS (Md.encode (R.take a))]) hdl
    rw [hdd] at this
    exact this
end Go.Proofs.YticnenofiibpgaaDoor.Code
/- The head of the lexer's laws, by a run from the start. -/
namespace Go.Proofs.YticnenofiibpgaaDoor
namespace Code
open Go.Dm
noncomputable def rhs : Option (DV × Heap) := closed D 3000 13 [] false Heap.start
theorem heads_run : okR rhs (.bool true) = true := by decide +kernel
theorem heads_both : ClC D 13 [] false Heap.start (.bool true) (heapOf rhs) ∧ Nat.ble 2 (heapOf rhs).next = true := by
  have h := heads_run
  unfold rhs at h ⊢
  exact closed_ok h
theorem sat_nil2 {h : Heap} (h2 : Nat.ble 2 h.next = true) : Sat h [] := ⟨Nat.le_of_ble_eq_true h2, fun _ hm => absurd hm List.not_mem_nil, List.Pairwise.nil⟩
theorem headSOk : ∃ h1 : Heap, ClC D 13 [] false Heap.start (.bool true) h1 ∧ Nat.ble 2 h1.next = true ∧ Sat h1 [] := ⟨_, heads_both.1, heads_both.2, sat_nil2 heads_both.2⟩
end Code
end Go.Proofs.YticnenofiibpgaaDoor
/- What LexComments does on typed values. -/
namespace Go.Proofs.YticnenofiibpgaaDoor.Code
open Go.Dm Go.Dm.C
set_option linter.unusedSimpArgs false
set_option linter.unusedVariables false
set_option linter.unnecessarySimpa false
set_option maxRecDepth 10000
attribute [local irreducible] Go.Dm.F Go.Dm.RS Go.Dm.Y Go.Dm.FD Go.Dm.FZ1 Go.Dm.Hold
/-- Nothing found so far. -/
def noEnd (W : Md.Str) (i : Nat) : Prop := (0 < i → W.take 1 ≠ [62] ∧ W.take 2 ≠ [45, 62] ∧ fnd W = (fnd (W.drop i)).map fun q => (q.1 + i, q.2)) ∧ (W.take 1 ≠ [62] → W.take 2 ≠ [45, 62] → fnd W ≠ none)
theorem fnd_step {W : Md.Str} {i : Nat} (hi : i < W.length) (h3 : (W.drop i).take 3 ≠ [45, 45, 62]) (h4 : (W.drop i).take 4 ≠ [45, 45, 33, 62]) : (fnd (W.drop i)).map (fun q => (q.1 + i, q.2)) = (fnd (W.drop (i + 1))).map fun q => (q.1 + (i + 1), q.2) := by
  have e := drop_get hi
  rw [e] at h3 h4 ⊢
  rw [fnd, if_neg h3, if_neg h4, Option.map_map]
  congr 1; funext q; simp only [Function.comp, Prod.mk.injEq, and_true]; omega
theorem noEnd_step {W : Md.Str} {i : Nat} (hn : noEnd W i) (h1 : i = 0 → W.take 1 ≠ [62] ∧ W.take 2 ≠ [45, 62]) (h3 : (W.drop i).take 3 ≠ [45, 45, 62]) (h4 : (W.drop i).take 4 ≠ [45, 45, 33, 62]) : i < W.length ∧ noEnd W (i + 1) := by
  have hb : W.take 1 ≠ [62] ∧ W.take 2 ≠ [45, 62] ∧ fnd W = (fnd (W.drop i)).map fun q => (q.1 + i, q.2) := by
    by_cases h0 : i = 0
    · subst h0
      refine ⟨(h1 rfl).1, (h1 rfl).2, ?_⟩
      rw [List.drop_zero]
      cases fnd W with
      | none => rfl
      | some q => rfl
    · exact hn.1 (by omega)
  have hi : i < W.length := by
    by_cases hi : i < W.length
    · exact hi
    · have := hn.2 hb.1 hb.2.1
      rw [hb.2.2, List.drop_eq_nil_of_le (by omega)] at this
      exact absurd rfl this
  exact ⟨hi, fun _ => ⟨hb.1, hb.2.1, by rw [hb.2.2, fnd_step hi h3 h4]⟩, hn.2⟩
theorem cmB_at {W : Md.Str} {i z : Nat} (hn : noEnd W i) (h1 : i = 0 → W.take 1 ≠ [62] ∧ W.take 2 ≠ [45, 62]) (hf : fnd (W.drop i) = some (0, z)) : cmB W = (i, z) := by
  unfold cmB
  by_cases h0 : i = 0
  · subst h0
    rw [if_neg (h1 rfl).1, if_neg (h1 rfl).2]
    rw [List.drop_zero] at hf
    rw [hf]; rfl
  · obtain ⟨a, b, c⟩ := hn.1 (by omega)
    rw [if_neg a, if_neg b, c, hf]
    simp
theorem fnd3 {L : Md.Str} (h : L.take 3 = [45, 45, 62]) : fnd L = some (0, 3) := by
  cases L with
  | nil => cases h
  | cons c l => rw [fnd, if_pos h]
theorem fnd4 {L : Md.Str} (h3 : L.take 3 ≠ [45, 45, 62]) (h : L.take 4 = [45, 45, 33, 62]) : fnd L = some (0, 4) := by
  cases L with
  | nil => cases h
  | cons c l => rw [fnd, if_neg h3, if_pos h]
theorem take_lt {L p : Md.Str} {k : Nat} (h : L.length < p.length) : L.take k ≠ p := fun e => by
  have := congrArg List.length e
  rw [List.length_take] at this; omega
theorem head1 {L : Md.Str} : L.take 1 = [62] ↔ 0 < L.length ∧ (L.getD 0 0).toNat = 62 := by
  cases L with
  | nil => simp
  | cons c l =>
    simp only [List.take_succ_cons, List.take_zero, List.cons.injEq, and_true, List.length_cons, List.getD_cons_zero]
    constructor
    · rintro rfl; exact ⟨by omega, rfl⟩
    · rintro ⟨_, h⟩; exact UInt8.toNat.inj h
theorem takeP {L p : Md.Str} {k : Nat} (hk : p.length = k) (h : ((L.length : Nat) : Int) ≥ k → ¬L.take (Int.toNat k) = p) : L.take k ≠ p := fun e => by
  refine h ?_ e
  have := congrArg List.length e
  rw [List.length_take] at this; omega
theorem cm1 {W : Md.Str} {i : Nat} (h : ((i : Int) = 0 ∧ (((W.drop i).length : Nat) : Int) > 0) ∧ (((W.drop i).getD 0 0).toNat : Int) = 62) : i = 0 ∧ cmB W = (0, 1) := by
  obtain ⟨⟨h0, hl⟩, h62⟩ := h
  obtain rfl : i = 0 := by omega
  rw [List.drop_zero] at hl h62
  exact ⟨rfl, by unfold cmB; rw [if_pos (head1.2 ⟨by omega, by omega⟩)]⟩
theorem nc1 {W : Md.Str} {i : Nat} (h : (i : Int) = 0 ∧ (((W.drop i).length : Nat) : Int) > 0 → ¬(((W.drop i).getD 0 0).toNat : Int) = 62) : i = 0 → W.take 1 ≠ [62] := by
  rintro rfl e
  have := head1.1 e
  rw [List.drop_zero] at h
  exact h ⟨rfl, by omega⟩ (by omega)
theorem cm2 {W : Md.Str} {i : Nat} (h1 : i = 0 → W.take 1 ≠ [62]) (h : ((i : Int) = 0 ∧ (((W.drop i).length : Nat) : Int) > 1) ∧ (W.drop i).take (Int.toNat 2) = [45, 62]) : i = 0 ∧ cmB W = (0, 2) := by
  obtain ⟨⟨h0, hl⟩, h2⟩ := h
  obtain rfl : i = 0 := by omega
  rw [List.drop_zero] at hl h2
  exact ⟨rfl, by unfold cmB; rw [if_neg (h1 rfl), if_pos (show W.take 2 = [45, 62] from h2)]⟩
theorem nc2 {W : Md.Str} {i : Nat} (h1 : i = 0 → W.take 1 ≠ [62]) (h : (i : Int) = 0 ∧ (((W.drop i).length : Nat) : Int) > 1 → ¬(W.drop i).take (Int.toNat 2) = [45, 62]) : i = 0 → W.take 1 ≠ [62] ∧ W.take 2 ≠ [45, 62] := by
  rintro rfl
  refine ⟨h1 rfl, fun e => ?_⟩
  rw [List.drop_zero] at h
  have := congrArg List.length e
  rw [List.length_take] at this; simp only [List.length_cons, List.length_nil] at this
  exact h ⟨rfl, by omega⟩ e
set_option maxHeartbeats 2000000 in
theorem commentsLaw {s : Md.Str} {bang : Bool} : F0 D 6 [.str s, .bool bang] Heap.start (fun v cs' => v = .bool true) := by
  obtain ⟨hp1, c1, n1, s1⟩ := headSOk
  have hcl := clean_len s
  refine F0.of rfl rfl rfl ?_
  repeat' first | exact c1 | exact n1 | (refine R0.onP s1 ?_) | (show FC _ _ _ _ _; first | exact clean_F (by omega)) | (refine Arith.mk ?_; simp only [List.length_append, List.length_cons, List.length_nil]; omega) | (refine fun (hc : _ = _) => ?_; (try simp only [BB] at hc); (try (first | contradiction | (exfalso; omega)))) | exact arI | refine Pst.mk ⟨?_, rfl⟩ (by (repeat' constructor); first | done | fail) | constructor | (refine fun _ _ (hq : Hold _) => ?_; replace hq := hq.out; obtain ⟨_, rfl, rfl⟩ := hq) | (refine fun _ _ (hq : Hold _) => ?_; replace hq := hq.out; obtain ⟨_, _, rfl, rfl⟩ := hq) | rintro _ _ ⟨rfl, rfl⟩ | rintro _ _ ⟨_, rfl, rfl⟩ | rintro _ _ ⟨_, _, rfl, rfl⟩ | (refine fun (hc : _ = _) => ?_; (try simp only [BB] at hc)) | refine fun (_ : Nat) => ?_ | refine fun (_ : _ ≤ _) => ?_ | refine fun (_ : _ < _) => ?_
  · exact Pst.mk rfl .refl
  all_goals
    obtain ⟨W, hW⟩ : ∃ W, W = Md.clean s ++ comEnd bang := ⟨_, rfl⟩
    have hWl : W.length ≤ 1300 := by rw [hW, List.length_append]; have : (comEnd bang).length ≤ 4 := (by cases bang <;> decide); omega
    have hne : noEnd W 0 := ⟨fun h => absurd h (by omega), fun a b => by rw [hW] at a b ⊢; exact comments_some a b⟩
    refine RS.loopW (α := Nat × Int × Int) (fun a => [(7, .str W), (8, .int .i64 a.2.1), (9, .int .i64 a.2.2), (10, .int .i64 (a.1 : Nat))]) (fun _ => [])
      (fun a => (a.2.1 = -1 ∧ a.2.2 = 0 ∧ a.1 ≤ W.length ∧ noEnd W a.1) ∨ (a.2.1 = (cmB W).1 ∧ a.2.2 = (cmB W).2 ∧ a.1 ≤ W.length + 1)) (fun a => W.length + 2 - a.1) (0, -1, 0) (.inl ⟨rfl, rfl, Nat.zero_le _, hne⟩) ⟨(by rw [hW, hc]; rfl), rfl, rfl, rfl, trivial⟩ .refl ?_
    rintro ⟨i, a, z⟩ hI ih
    dsimp only [ents] at *
    rcases hI with ⟨rfl, rfl, h1, h2⟩ | ⟨rfl, rfl, h1⟩
  all_goals
    have hle := cmB_le W
    have hP := comments_pure (s := s) (bang := bang) (by omega)
    rw [← hW] at hP
    have hb2 := all_bd (c := W.drop ((cmB W).1 + (cmB W).2)) (k := 1300) (by rw [List.length_drop]; omega) (by omega)
    have hb1 := all_bd (c := [60, 33, 45, 45] ++ W) (k := 1400) (by rw [List.length_append]; simp only [List.length_cons, List.length_nil]; omega) (by omega)
    have hs1 := all_small (c := [60, 33, 45, 45] ++ W) (by rw [List.length_append]; simp only [List.length_cons, List.length_nil]; omega)
    rw [show ([60, 33, 45, 45] ++ W : Md.Str).length = 4 + W.length by rw [List.length_append]; rfl] at hs1
    have hnat : (((cmB W).1 : Int) + ((cmB W).2 : Int)).toNat = (cmB W).1 + (cmB W).2 := by omega
    repeat' first
      | (show FC _ _ _ _ _; first | exact all_F rfl (by simp only [List.length_append, List.length_cons, List.length_nil, List.length_drop]; omega) | exact same_F2 rfl rfl (by assumption) (by assumption) (Nat.le_trans hb1.1 (by decide)) (fun u hu => Nat.le_trans (hs1 u hu) (by omega)))
      | (show FZ _ _ _ _ _; exact joinZ_F2 (ls := (comTokS (W.take (cmB W).1), 0) :: osq) rfl rfl (by simp only [List.length_map, List.length_cons]; omega) (by rw [List.map_cons, hqa]; simp only [Md.dl, List.map_cons, List.flatten_cons, List.length_append] at hb2 ⊢; show (W.take _).length + _ ≤ _; rw [List.length_take]; omega))
      | (refine Arith.mk ?_; simp only [List.length_append, List.length_cons, List.length_nil, List.length_drop, List.length_map]; omega) | (refine fun (hc : _ = _) => ?_; (try simp only [BB] at hc); (try (first | contradiction | (exfalso; omega)))) | exact arI | refine Pst.mk ⟨?_, rfl⟩ (by (repeat' constructor); first | done | fail) | constructor | (refine fun _ _ (hq : Hold _) => ?_; replace hq := hq.out; obtain ⟨_, rfl, rfl⟩ := hq) | (refine fun _ _ (hq : Hold _) => ?_; replace hq := hq.out; obtain ⟨_, _, rfl, rfl⟩ := hq) | rintro _ _ ⟨rfl, rfl⟩ | rintro _ _ ⟨_, rfl, rfl⟩ | rintro _ _ ⟨_, _, rfl, rfl⟩ | (refine fun (hc : _ = _) => ?_; (try simp only [BB] at hc)) | refine fun (_ : Nat) => ?_ | refine fun (_ : _ ≤ _) => ?_ | refine fun (_ : _ < _) => ?_
      | (refine fun _ _ (hq : Hold _) => ?_; replace hq := hq.out; obtain ⟨tq, osq, rfl, hq0, hqa, rfl⟩ := hq; (try rw [hnat] at hqa); have hql := congrArg List.length hqa; rw [List.length_map] at hql)
  all_goals first
    | (obtain ⟨h0, hcm⟩ := cm1 hc; exact ih _ _ (i + 1, 0, 1) (.inr ⟨by rw [hcm]; rfl, by rw [hcm]; rfl, by dsimp only; omega⟩) (by dsimp only; omega) ⟨rfl, rfl, rfl, rfl, trivial⟩ .refl)
    | (rename_i hA; obtain ⟨h0, hcm⟩ := cm2 (nc1 hA) hc; exact ih _ _ (i + 1, 0, 2) (.inr ⟨by rw [hcm]; rfl, by rw [hcm]; rfl, by dsimp only; omega⟩) (by dsimp only; omega) ⟨rfl, rfl, rfl, rfl, trivial⟩ .refl)
    | (rename_i hA hB; have hcm := cmB_at h2 (nc2 (nc1 hA) hB) (fnd3 hc.2); exact ih _ _ (i + 1, (i : Nat), 3) (.inr ⟨by rw [hcm], by rw [hcm]; rfl, by dsimp only; omega⟩) (by dsimp only; omega) ⟨rfl, rfl, rfl, rfl, trivial⟩ .refl)
    | (rename_i hA hB hC; have hcm := cmB_at h2 (nc2 (nc1 hA) hB) (fnd4 (takeP rfl hC) hc.2); exact ih _ _ (i + 1, (i : Nat), 4) (.inr ⟨by rw [hcm], by rw [hcm]; rfl, by dsimp only; omega⟩) (by dsimp only; omega) ⟨rfl, rfl, rfl, rfl, trivial⟩ .refl)
    | (rename_i hA hB hC; obtain ⟨g1, g2⟩ := noEnd_step h2 (nc2 (nc1 hA) hB) (takeP rfl hC) (takeP rfl hc); exact ih _ _ (i + 1, -1, 0) (.inl ⟨rfl, rfl, by dsimp only; omega, g2⟩) (by dsimp only; omega) ⟨rfl, rfl, rfl, rfl, trivial⟩ .refl)
    | skip
  all_goals
    rename_i o2 _ hqa2 _ _ _ _
    refine Pst.mk ?_ .refl
    rw [decide_eq_true]
    rw [List.map_cons, hqa2, hP]; rfl
end Go.Proofs.YticnenofiibpgaaDoor.Code
/- 'woodcutlaw09.LexComments' returns true for every input; and its card. -/
namespace Go.Proofs.YticnenofiibpgaaDoor.lexComments
set_option linter.unusedSimpArgs false
set_option linter.unusedVariables false
set_option linter.unnecessarySimpa false
open Go.ChangeShapes Go.WideShapes Go.ChangeAt Go.RowKit

theorem own : ownKnob Tryd.prog.godebug = none := by kernel_rfl
theorem gTab : Tryd.prog.globalNamed "woodcut/chars.windows" = some 0 := by kernel_rfl
theorem gTabType : (Tryd.prog.globals[0]?).map (·.type) = some 69 := by kernel_rfl
theorem cells33 : Tryd.prog.cellsOf 69 = 32 := by kernel_rfl
theorem cells21 : Tryd.prog.cellsOf 21 = 1 := by kernel_rfl

theorem table {W : World} (h : laidMetH Tryd.prog Rows.lexCommentsRow.laid W) : Lib.TabIs Tryd.prog W "woodcut/chars.windows" .i32 Code.windows :=
  Lib.tabIs_of_head (rest := []) gTab gTabType Tryd.underlying69 Tryd.underlying21 cells21 cells33 h

theorem globOk {W : World} (h : Lib.TabIs Tryd.prog W "woodcut/chars.windows" .i32 Code.windows) : Dm.GlobOk Code.D (Dm.Cor.start W) := by
  refine ⟨fun g cs hg x hx => ?_, fun g cs hg => ?_⟩
  · simp only [Code.D, Code.glob] at hg
    split at hg <;> cases hg
    obtain ⟨z, _, rfl⟩ := List.mem_map.1 hx
    rfl
  · simp only [Code.D, Code.glob] at hg
    split at hg <;> cases hg
    rename_i hg0
    obtain rfl := Nat.eq_of_beq_eq_true hg0
    refine ⟨Code.windows.map (Value.int .i32), ?_, fun j x hj => ?_⟩
    · generalize Code.windows = ws
      induction ws with
      | nil => exact .nil
      | cons z zs ih => exact .cons (.int _ _) ih
    · show W.cell? ⟨0, j, none⟩ = some x
      have hlt : j < Code.windows.length := by have := (List.getElem?_eq_some_iff.1 hj).1; simpa using this
      have hc := h.cell gTab j hlt
      rw [hc]
      rw [List.getElem?_map, List.getElem?_eq_getElem hlt] at hj
      rw [List.getD_eq_getElem?_getD, List.getElem?_eq_getElem hlt]
      simpa using hj

theorem tys : Dm.tyB Tryd.prog [9, 4, 21] = true := by kernel_rfl
theorem run (dvs : List Dm.DV) (h : Dm.TAs Tryd.prog Tryd.f6.params.toList dvs) : Dm.F0 Code.D 6 dvs Dm.Heap.start (fun v _ => v = .bool true) := by
  rw [Tryd.params6] at h
  cases h with | @cons _ c0 _ _ h0 h =>
  cases h with | @cons _ c1 _ _ h1 h =>
  cases h
  obtain ⟨s, e0, _⟩ := Dm.TC.strV Tryd.underlying9 h0
  obtain ⟨b, e1⟩ := Dm.TC.boolV Tryd.underlying4 h1
  rw [e0, e1]
  exact Code.commentsLaw (s := s) (bang := b)

set_option maxRecDepth 100000 in
theorem contract (H : Type) (enc : TypeId × Value → H) (W : World) (base : Nat) (args : Array Value) (ds gs : List (DataW H)) (before : List MemPlace)
    (hval : ∀ (j : Nat) t v, Tryd.f6.params[j]? = some t → args[j]? = some v → Value.okWide Tryd.prog W .any base t v)
    (hW : DataW.Whole enc Tryd.prog Tryd.f6.params.toList Rows.lexCommentsSpec.vars false W args.toList ds gs before) (hL : laidMetH Tryd.prog Rows.lexCommentsRow.laid W) :
    Calls Tryd.prog 6 args W fun e W' => ∃ v, e = .returned v ∧ Rows.lexCommentsSpec.post enc Tryd.prog Tryd.f6 false true false false W args v W' := by
  refine Dm.contract_gen (D := Code.D) (cfg := Code.cfg) tys Code.hm Code.hD Code.hP (by kernel_rfl) rfl (tb := 4) Tryd.underlying4 rfl ?_ run W args ds gs before hval hW (globOk (table hL))
  intro ds hd
  rw [Tryd.params6] at hd
  match ds, hd with
  | [d0, d1], _ => rfl

noncomputable def laidWorld (os : Os) : World :=
  { World.holding Tryd.prog os ⟨#[], #[], []⟩ with heap := (World.holding Tryd.prog os ⟨#[], #[], []⟩).heap.modify 0 fun
      | .cells _ t frozen => .cells (Code.windows.map (Value.int .i32)).toArray t frozen
      | o => o }
theorem laid_met (os : Os) : laidMet Tryd.prog Rows.lexCommentsRow.laid ((laidWorld os).forCall (fun _ _ => 0) ⟨#[], #[.string ⟨#[]⟩, .bool false], []⟩).memory :=
  laidMet_of_run' 8 (by kernel_rfl) (by kernel_rfl)
theorem reads (os : Os) {H : Type} (enc : TypeId × Value → H) : ∃ places, DataW.whole enc Tryd.prog ((laidWorld os).forCall (fun _ _ => 0) ⟨#[], #[.string ⟨#[]⟩, .bool false], []⟩).memory Tryd.f6.params.toList Rows.lexCommentsSpec.vars false #[.string ⟨#[]⟩, .bool false].toList 8 = some ([.lit (.string []), .lit (.bool false)], [], places) :=
  ⟨[], by kernel_rfl⟩

set_option maxRecDepth 100000 in
theorem lifted (os : Os) (started : os.Started) (H : Type) (enc : TypeId × Value → H) (F : Stop.Interp) :
    ReturnsInHanded {} Tryd.checked os 6 .any ((OpenSpec.ofChange Rows.lexCommentsSpec).preRow enc Tryd.prog Tryd.f6 Rows.lexCommentsRow.domain false Rows.lexCommentsRow.laid) (((OpenSpec.ofChange Rows.lexCommentsSpec).at F).post enc Tryd.prog Tryd.f6 false true false false) := by
  obtain ⟨places, hx⟩ := reads os enc
  refine returnsInHanded_of_row (C := Tryd.checked) (s := OpenSpec.ofChange Rows.lexCommentsSpec) own started (by kernel_rfl) Tryd.func6
    (witness_row_at (enc := enc) (C := Tryd.checked) false (laidWorld os) #[.string ⟨#[]⟩, .bool false] rfl (by kernel_rfl) (by kernel_rfl) (by kernel_rfl)
      (OpenSpec.preRow_of_cond 8 hx (by kernel_rfl) (fun k hk => by cases hk) (by kernel_rfl) (laid_met os))) ?_
  intro W base args ds gs before hval hW _ _ _ hL _ _
  exact contract H enc W base args ds gs before hval hW hL

theorem said : Rows.LexCommentsSaid :=
  OpenClaim.holds_of_cond 6 Tryd.f6 rfl rfl rfl rfl rfl rfl rfl ⟨rfl, rfl, rfl, rfl, rfl⟩ rfl rfl rfl rfl rfl (by kernel_rfl) Tryd.func6 (by kernel_rfl)
    (of_decide_eq_true (by kernel_rfl)) (by unfold Func.isWrapper; first | (rw [if_pos (by decide +kernel)]; kernel_rfl) | (rw [if_neg (by decide +kernel)]; exact ⟨rfl, rfl⟩))
    (fun os started H enc _ F => by rw [OpenClaim.pre_eq_preRow]; exact lifted os started H enc F)

theorem plain (f : FuncId) (fn : Func) (hf : Tryd.pinned.checked.prog.funcNamed "woodcut/woodcutlaw09.LexComments" = some f) (hfn : Tryd.pinned.checked.prog.funcs[f]? = some fn) :
    false = Tryd.pinned.checked.prog.looks [] ∧ ∀ (j : Nat) t, fn.params[j]? = some t → Tryd.pinned.checked.prog.wantsStandIn t = false := by
  obtain rfl : f = 6 := Option.some.inj ((show Tryd.prog.funcNamed "woodcut/woodcutlaw09.LexComments" = some 6 by kernel_rfl).symm.trans hf) |>.symm
  obtain rfl : fn = Tryd.f6 := (Option.some.inj (Tryd.func6.symm.trans hfn)).symm
  refine ⟨by kernel_rfl, fun j t ht => ?_⟩
  rw [Tryd.params6] at ht
  have hall : [9, 4].all (fun t => Tryd.prog.wantsStandIn t == false) = true := by kernel_rfl
  have hmem : t ∈ [9, 4] := by have := Array.mem_of_getElem? ht; simpa using this
  exact eq_of_beq (List.all_eq_true.1 hall t hmem)

theorem card : Rows.LexCommentsCardSaid :=
  Claim7.holds_tied_plain_at .later [] _ _ _ _ said (fun _ h => by cases h) (by kernel_rfl) (fun _ h => by cases h) lexComments_row_tie rfl ⟨rfl, rfl⟩ (by kernel_rfl) rfl plain (by kernel_rfl)
end Go.Proofs.YticnenofiibpgaaDoor.lexComments
