/- LexDoctypes returns true for every input: part 7 of the proof (several texts joined). -/
import Derived.Test.YticnenofiibpgaaDoorCards
import Derived.Test.YticnenofiibpgaaDoorTie
import Derived.WalkKit
import Derived.ProofKit
import Derived.OpenShut
import Derived.Deep.DeepHandedRow
import Derived.Lib.LaidTab
import Derived.Test.YticnenofiibpgaaDoorJ6
/- What slices.Collect of a lexer's tokens and lex.All do; two tokens compared. -/
namespace Go.Proofs.YticnenofiibpgaaDoor.Code
open Go.Dm Go.Dm.C
set_option linter.unusedSimpArgs false
set_option linter.unusedVariables false
set_option linter.unnecessarySimpa false
set_option maxRecDepth 10000
attribute [local irreducible] Go.Dm.F Go.Dm.RS Go.Dm.Y Go.Dm.FD Go.Dm.FZ1 Go.Dm.Hold
variable {id : Nat} {s : Md.Lx} {g : Nat × Nat} {R : List Ck}
theorem joinZ_F {t z : Nat} {ls : List (Md.Tok × Nat)} (hz : z = zOf t 10) (hn : ls.length ≤ 1000000000) (hd : Md.dl (ls.map Prod.fst) ≤ 1000000000000) :
    FZ D (.fn (.func 26) [] []) [.lst t z (ls.map encT)] R (fun v cs' => Hold (∃ (t : Nat) (os : List (Md.Tok × Nat)), v = .lst t (zOf t 10) (os.map encT) ∧ (t = 0 ∧ os = [] ∨ t = 1) ∧ os.map Prod.fst = Md.join (ls.map Prod.fst) ∧ R = cs')) :=
  FZ1.ofT (join_F hz hn hd)
theorem joinZ_F2 {t z : Nat} {ls : List (Md.Tok × Nat)} {ts : List Md.Tok} (hz : z = zOf t 10) (ha : ls.map Prod.fst = ts) (hn : ts.length ≤ 1000000000) (hd : Md.dl ts ≤ 1000000000000) :
    FZ D (.fn (.func 26) [] []) [.lst t z (ls.map encT)] R (fun v cs' => Hold (∃ (t : Nat) (os : List (Md.Tok × Nat)), v = .lst t (zOf t 10) (os.map encT) ∧ (t = 0 ∧ os = [] ∨ t = 1) ∧ os.map Prod.fst = Md.join ts ∧ R = cs')) := by
  subst ha; rw [List.length_map] at hn; exact joinZ_F hz hn hd
theorem seq_F {q : Nat} (hN : NI s) (hn : s.toks.length ≤ 1000000000) : F D 53 [.lst 0 0 [], .fn (.func 40) [] [.ptr q 0]] (.obj q (.cells [.ptr id 0] none) :: LX id s g :: R)
    (fun v cs' => Hold (∃ (t : Nat) (os : List (Md.Tok × Nat)), v = .lst t (zOf t 10) (os.map encT) ∧ .own t 10 (os.map encT) :: R = cs' ∧ os.map Prod.fst = s.toks)) := by
  refine F.of rfl rfl rfl ?_
  repeat' first | exact arI | refine Pst.mk ⟨?_, rfl⟩ (by (repeat' constructor); first | done | fail) | constructor | (refine fun _ _ (hq : Hold _) => ?_; replace hq := hq.out; obtain ⟨_, rfl, rfl⟩ := hq) | (refine fun _ _ (hq : Hold _) => ?_; replace hq := hq.out; obtain ⟨_, _, rfl, rfl⟩ := hq) | rintro _ _ ⟨rfl, rfl⟩ | rintro _ _ ⟨_, rfl, rfl⟩ | rintro _ _ ⟨_, _, rfl, rfl⟩ | (refine fun (hc : _ = _) => ?_; (try simp only [BB] at hc)) | refine fun (_ : Nat) => ?_ | refine fun (_ : _ ≤ _) => ?_ | refine fun (_ : _ < _) => ?_
  rename_i x _
  refine RS.nilOwn 10 ?_
  refine RS.rangeO rfl rfl fun m l Lr Lb Ld hL => ?_
  refine F.perm ((Rem.perm' (c := .obj q _) (by (repeat' constructor); first | done | fail)).trans ((Rem.perm' (c := LX id _ _) (by (repeat' constructor); first | done | fail)).cons _)) ?_
  refine F.mono (tokens_it (l := l) (fun ts cs => ∃ (t : Nat) (os : List (Md.Tok × Nat)), Lr :: .obj m .mark :: .own t 10 (os.map encT) :: .obj x (.cells [.lst t (zOf t 10) (os.map encT)] none) :: R = cs ∧ os.map Prod.fst ++ ts = s.toks) (fun _ => False) ?_ hN ⟨0, [], rfl, rfl⟩) ?_
  · rintro t tag ts s2 g2 _ ⟨t1, os, rfl, ha⟩
    refine hL.y (.tail (.tail .head)) rfl ?_
    have hlen := congrArg List.length ha
    rw [List.length_append, List.length_map, List.length_cons] at hlen
    repeat' first | exact MapL.cons (y := (t, tag)) .nil | (refine Arith.mk ?_; omega) | (refine fun (hc : _ = _) => ?_; (try simp only [BB] at hc); (try (first | contradiction | (exfalso; omega)))) | exact arI | refine Pst.mk ⟨?_, rfl⟩ (by (repeat' constructor); first | done | fail) | constructor | (refine fun _ _ (hq : Hold _) => ?_; replace hq := hq.out; obtain ⟨_, rfl, rfl⟩ := hq) | (refine fun _ _ (hq : Hold _) => ?_; replace hq := hq.out; obtain ⟨_, _, rfl, rfl⟩ := hq) | rintro _ _ ⟨rfl, rfl⟩ | rintro _ _ ⟨_, rfl, rfl⟩ | rintro _ _ ⟨_, _, rfl, rfl⟩ | (refine fun (hc : _ = _) => ?_; (try simp only [BB] at hc)) | refine fun (_ : Nat) => ?_ | refine fun (_ : _ ≤ _) => ?_ | refine fun (_ : _ < _) => ?_
    rename_i t2
    exact Pst.mk (.mk ⟨_, rfl, .inl ⟨rfl, t2, os ++ [(t, tag)], rfl, by rw [← ha]; simp⟩⟩) (by (repeat' constructor); first | done | fail)
  · rintro v cs' hq
    obtain ⟨s2, g2, cs1, rfl, hq2⟩ := hq.out
    rcases hq2 with ⟨t1, os, rfl, ha⟩ | hq2
    · refine .ready (by (repeat' constructor); first | done | fail) ?_
      rw [List.append_nil] at ha
      repeat' first | exact arI | refine Pst.mk ⟨?_, rfl⟩ (by (repeat' constructor); first | done | fail) | constructor | (refine fun _ _ (hq : Hold _) => ?_; replace hq := hq.out; obtain ⟨_, rfl, rfl⟩ := hq) | (refine fun _ _ (hq : Hold _) => ?_; replace hq := hq.out; obtain ⟨_, _, rfl, rfl⟩ := hq) | rintro _ _ ⟨rfl, rfl⟩ | rintro _ _ ⟨_, rfl, rfl⟩ | rintro _ _ ⟨_, _, rfl, rfl⟩ | (refine fun (hc : _ = _) => ?_; (try simp only [BB] at hc)) | refine fun (_ : Nat) => ?_ | refine fun (_ : _ ≤ _) => ?_ | refine fun (_ : _ < _) => ?_
      exact Pst.mk (.mk ⟨t1, os, rfl, rfl, ha⟩) (by (repeat' constructor); first | done | fail)
    · exact hq2.elim
theorem collect_F {q : Nat} (hN : NI s) (hn : s.toks.length ≤ 1000000000) : F D 36 [.fn (.func 40) [] [.ptr q 0]] (.obj q (.cells [.ptr id 0] none) :: LX id s g :: R)
    (fun v cs' => Hold (∃ (t : Nat) (os : List (Md.Tok × Nat)), v = .lst t (zOf t 10) (os.map encT) ∧ .own t 10 (os.map encT) :: R = cs' ∧ os.map Prod.fst = s.toks)) := by
  refine F.of rfl rfl rfl ?_
  repeat' first | (show FC _ _ _ _ _; first | exact seq_F hN hn) | (refine fun _ _ (hq : Hold _) => ?_; replace hq := hq.out; obtain ⟨t1, os, rfl, rfl, ha⟩ := hq) | (refine fun (hc : _ = _) => ?_; (try simp only [BB] at hc); (try (first | contradiction | (exfalso; omega)))) | exact arI | refine Pst.mk ⟨?_, rfl⟩ (by (repeat' constructor); first | done | fail) | constructor | (refine fun _ _ (hq : Hold _) => ?_; replace hq := hq.out; obtain ⟨_, rfl, rfl⟩ := hq) | (refine fun _ _ (hq : Hold _) => ?_; replace hq := hq.out; obtain ⟨_, _, rfl, rfl⟩ := hq) | rintro _ _ ⟨rfl, rfl⟩ | rintro _ _ ⟨_, rfl, rfl⟩ | rintro _ _ ⟨_, _, rfl, rfl⟩ | (refine fun (hc : _ = _) => ?_; (try simp only [BB] at hc)) | refine fun (_ : Nat) => ?_ | refine fun (_ : _ ≤ _) => ?_ | refine fun (_ : _ < _) => ?_
  exact Pst.mk (.mk ⟨t1, os, rfl, rfl, ha⟩) (by (repeat' constructor); first | done | fail)
end Go.Proofs.YticnenofiibpgaaDoor.Code
/- What lex.All does; tokens compared; words. -/
namespace Go.Proofs.YticnenofiibpgaaDoor.Code
open Go.Dm Go.Dm.C
set_option linter.unusedSimpArgs false
set_option linter.unusedVariables false
set_option linter.unnecessarySimpa false
set_option maxRecDepth 10000
attribute [local irreducible] Go.Dm.F Go.Dm.RS Go.Dm.Y Go.Dm.FD Go.Dm.FZ1 Go.Dm.Hold
variable {R : List Ck}
theorem toks_small {s : Md.Lx} {k : Nat} (hN : NI s) (ho : s.out = []) (ht : s.text = []) (hp : s.pos = 0) (hl : s.inp.length ≤ k) : s.toks.length ≤ 6 * (k + 1) ∧ Md.dl s.toks ≤ 40 * (k + 1) := by
  have h := toks_bd s.left s (Nat.le_refl _) hN ho
  rw [ht, List.length_nil] at h
  have e : s.left = s.inp.length + 1 := by unfold Md.Lx.left; rw [hp]; rfl
  rw [e] at h
  omega
theorem new_small {c : Md.Str} {k : Nat} {w : Int} {n : Md.Str} {b : Bool} (hl : c.length ≤ k) (hk : k ≤ 1000000000) (hn : n.length ≤ 10000000000) : NI { Md.Lx.new c with way := w, last := n, room := b } ∧ ({ Md.Lx.new c with way := w, last := n, room := b } : Md.Lx).toks.length ≤ 6 * (k + 1) ∧ Md.dl ({ Md.Lx.new c with way := w, last := n, room := b } : Md.Lx).toks ≤ 40 * (k + 1) := by
  have hd := decode_len c
  have hN : NI { Md.Lx.new c with way := w, last := n, room := b } := ⟨Nat.le_trans hd (Nat.le_trans hl hk), fun r hr => (decode_sv c r hr).1.1, Nat.zero_le _, fun _ => Nat.zero_le _, Nat.zero_le _, by show (0 : Nat) ≤ 100; omega, hn⟩
  exact ⟨hN, toks_small hN rfl rfl rfl (Nat.le_trans hd hl)⟩
theorem all_F {t z : Nat} {b : List UInt8} (hz : z = zOf t 1) (hl : b.length ≤ 100000000) : F D 15 [.lst t z (bytesV b)] R (fun v cs' => Hold (∃ (t : Nat) (os : List (Md.Tok × Nat)), v = .lst t (zOf t 10) (os.map encT) ∧ (t = 0 ∧ os = [] ∨ t = 1) ∧ os.map Prod.fst = Md.all b ∧ R = cs')) := by
  obtain ⟨hN, hb1, hb2⟩ := new_small (w := 0) (n := []) (b := false) hl (by omega) (by simp)
  refine F.of rfl rfl rfl ?_
  repeat' first | (show FC _ _ _ _ _; first | exact new_F hz (by omega) | exact tokens_F | exact collect_F (s := { Md.Lx.new b with way := 0, last := [], room := false }) hN (by omega)) | (show FZ _ _ _ _ _; exact joinZ_F2 rfl (by assumption) (Nat.le_trans hb1 (by decide)) (Nat.le_trans hb2 (by decide))) | (refine fun (hc : _ = _) => ?_; (try simp only [BB] at hc); (try (first | contradiction | (exfalso; omega)))) | exact arI | refine Pst.mk ⟨?_, rfl⟩ (by (repeat' constructor); first | done | fail) | constructor | (refine fun _ _ (hq : Hold _) => ?_; replace hq := hq.out; obtain ⟨_, rfl, rfl⟩ := hq) | (refine fun _ _ (hq : Hold _) => ?_; replace hq := hq.out; obtain ⟨_, _, rfl, rfl⟩ := hq) | rintro _ _ ⟨rfl, rfl⟩ | rintro _ _ ⟨_, rfl, rfl⟩ | rintro _ _ ⟨_, _, rfl, rfl⟩ | (refine fun (hc : _ = _) => ?_; (try simp only [BB] at hc)) | refine fun (_ : Nat) => ?_ | refine fun (_ : _ ≤ _) => ?_ | refine fun (_ : _ < _) => ?_ | (refine fun _ _ (hq : Hold _) => ?_; replace hq := hq.out; first | obtain ⟨t1, os, rfl, rfl, ha⟩ := hq | obtain ⟨t1, os, rfl, h0, ha, rfl⟩ := hq)
  rename_i t1 os h0 ha
  exact Pst.mk (.mk ⟨t1, os, rfl, h0, ha, rfl⟩) (by (repeat' constructor); first | done | fail)
theorem all_bd {c : Md.Str} {k : Nat} (hl : c.length ≤ k) (hk : k ≤ 1000000000) : (Md.all c).length ≤ 6 * (k + 1) ∧ Md.dl (Md.all c) ≤ 40 * (k + 1) := by
  obtain ⟨hN, hb1, hb2⟩ := new_small (w := 0) (n := []) (b := false) hl hk (by simp)
  have h1 := Md.join_len (Md.Lx.new c).toks
  have h2 := Md.dl_join (Md.Lx.new c).toks
  exact ⟨Nat.le_trans h1 hb1, by show Md.dl (Md.join _) ≤ _; rw [h2]; exact hb2⟩
end Go.Proofs.YticnenofiibpgaaDoor.Code
/- Tokens compared; words. -/
namespace Go.Md
def wd (c : UInt8) : UInt8 := byteN (97 + c.toNat % 26)
/-- A name of small letters. -/
def word9 (s : Str) : Str := 119 :: (s.take 8).map wd
end Go.Md
namespace Go.Proofs.YticnenofiibpgaaDoor.Code
open Go.Dm Go.Dm.C
set_option linter.unusedSimpArgs false
set_option linter.unusedVariables false
set_option linter.unnecessarySimpa false
set_option maxRecDepth 10000
attribute [local irreducible] Go.Dm.F Go.Dm.RS Go.Dm.Y Go.Dm.FD Go.Dm.FZ1 Go.Dm.Hold
variable {R : List Ck}
theorem take_eq_step {α : Type} [Inhabited α] {l m : List α} {i : Nat} (h : l.take i = m.take i) (hl : i < l.length) (hm : i < m.length) : l.take (i + 1) = m.take (i + 1) ↔ l.getD i default = m.getD i default := by
  have e1 : l.take (i + 1) = l.take i ++ [l[i]] := by rw [List.take_add_one, List.getElem?_eq_getElem hl]; rfl
  have e2 : m.take (i + 1) = m.take i ++ [m[i]] := by rw [List.take_add_one, List.getElem?_eq_getElem hm]; rfl
  rw [e1, e2, h]
  simp only [List.append_cancel_left_eq, List.cons.injEq, and_true, List.getD_eq_getElem?_getD, List.getElem?_eq_getElem hl, List.getElem?_eq_getElem hm, Option.getD_some]
theorem equal_F {t z t' z' : Nat} {l m : List (Md.Str × Md.Str)} (hz : z = zOf t 2) (hz' : z' = zOf t' 2) (hl : l.length ≤ 1000000000) : F D 42 [.lst t z (l.map encA), .lst t' z' (m.map encA)] R (fun v cs' => v = .bool (decide (l = m)) ∧ R = cs') := by
  subst hz; subst hz'
  refine F.of rfl rfl rfl ?_
  repeat' first | exact arI | refine Pst.mk ⟨?_, rfl⟩ (by (repeat' constructor); first | done | fail) | constructor | (refine fun _ _ (hq : Hold _) => ?_; replace hq := hq.out; obtain ⟨_, rfl, rfl⟩ := hq) | (refine fun _ _ (hq : Hold _) => ?_; replace hq := hq.out; obtain ⟨_, _, rfl, rfl⟩ := hq) | rintro _ _ ⟨rfl, rfl⟩ | rintro _ _ ⟨_, rfl, rfl⟩ | rintro _ _ ⟨_, _, rfl, rfl⟩ | (refine fun (hc : _ = _) => ?_; (try simp only [BB] at hc)) | refine fun (_ : Nat) => ?_ | refine fun (_ : _ ≤ _) => ?_ | refine fun (_ : _ < _) => ?_
  · rw [decide_eq_false]; intro e; subst e; omega
  refine RS.loopW (α := Nat) (fun i => [(0, .lst t (zOf t 2) (l.map encA)), (1, .lst t' (zOf t' 2) (m.map encA)), (12, .int .i64 l.length), (13, .int .i64 (i : Nat))]) (fun _ => R)
    (fun i => i ≤ l.length ∧ l.take i = m.take i) (fun i => l.length - i) 0 ⟨Nat.zero_le _, rfl⟩ ⟨rfl, rfl, rfl, rfl, trivial⟩ .refl ?_
  rintro i ⟨h1, h2⟩ ih
  dsimp only [ents] at *
  have hte := fun a b => take_eq_step h2 (i := i) a b
  repeat' first | (refine fun (hc : _ = _) => ?_; (try simp only [BB] at hc); (try (first | contradiction | (exfalso; omega)))) | exact arI | refine Pst.mk ⟨?_, rfl⟩ (by (repeat' constructor); first | done | fail) | constructor | (refine fun _ _ (hq : Hold _) => ?_; replace hq := hq.out; obtain ⟨_, rfl, rfl⟩ := hq) | (refine fun _ _ (hq : Hold _) => ?_; replace hq := hq.out; obtain ⟨_, _, rfl, rfl⟩ := hq) | rintro _ _ ⟨rfl, rfl⟩ | rintro _ _ ⟨_, rfl, rfl⟩ | rintro _ _ ⟨_, _, rfl, rfl⟩ | (refine fun (hc : _ = _) => ?_; (try simp only [BB] at hc)) | refine fun (_ : Nat) => ?_ | refine fun (_ : _ ≤ _) => ?_ | refine fun (_ : _ < _) => ?_
  · rw [decide_eq_false]; intro e; subst e; simp at hc
  · refine ih _ _ (i + 1) ⟨by omega, (hte (by omega) (by omega)).2 (Prod.ext hc.1 hc.2)⟩ (by omega) ⟨rfl, rfl, rfl, rfl, trivial⟩ .refl
  · rw [decide_eq_true]
    rw [List.take_of_length_le (by omega), List.take_of_length_le (by omega)] at h2
    exact h2
set_option maxHeartbeats 1000000 in
theorem tokSame_F {p q : Md.Tok × Nat} (hl : p.1.attrs.length ≤ 1000000000) : F D 29 [encT p, encT q] R (fun v cs' => v = .bool (decide (p.1 = q.1)) ∧ R = cs') := by
  refine F.of rfl rfl rfl ?_
  repeat' first | (show FC _ _ _ _ _; exact equal_F rfl rfl hl) | (refine fun (hc : _ = _) => ?_; (try simp only [BB] at hc); (try (first | contradiction | (exfalso; omega)))) | exact arI | refine Pst.mk ⟨?_, rfl⟩ (by (repeat' constructor); first | done | fail) | constructor | (refine fun _ _ (hq : Hold _) => ?_; replace hq := hq.out; obtain ⟨_, rfl, rfl⟩ := hq) | (refine fun _ _ (hq : Hold _) => ?_; replace hq := hq.out; obtain ⟨_, _, rfl, rfl⟩ := hq) | rintro _ _ ⟨rfl, rfl⟩ | rintro _ _ ⟨_, rfl, rfl⟩ | rintro _ _ ⟨_, _, rfl, rfl⟩ | (refine fun (hc : _ = _) => ?_; (try simp only [BB] at hc)) | refine fun (_ : Nat) => ?_ | refine fun (_ : _ ≤ _) => ?_ | refine fun (_ : _ < _) => ?_
  obtain ⟨⟨p1, p2, p3, p4, p5, p6, p7, p8, p9, p10⟩, tp⟩ := p
  obtain ⟨⟨q1, q2, q3, q4, q5, q6, q7, q8, q9, q10⟩, tq⟩ := q
  dsimp only
  congr 1
  rw [Bool.eq_iff_iff]
  simp [and_assoc]
  exact ⟨fun ⟨a, b, c, d⟩ => ⟨b, c, a, d⟩, fun ⟨b, c, a, d⟩ => ⟨a, b, c, d⟩⟩
theorem word9_take {s : Md.Str} {i : Nat} (h : i < s.length) : (s.take (i + 1)).map Md.wd = (s.take i).map Md.wd ++ [Md.wd (s.getD i 0)] := by
  rw [List.take_add_one, List.getElem?_eq_getElem h]
  simp only [List.getD_eq_getElem?_getD, List.getElem?_eq_getElem h, Option.getD_some, Option.toList_some, List.map_append, List.map_cons, List.map_nil]
theorem word9_F {s : Md.Str} : F D 14 [.str s] R (fun v cs' => v = .str (Md.word9 s) ∧ R = cs') := by
  refine F.of rfl rfl rfl ?_
  repeat' first | exact arI | refine Pst.mk ⟨?_, rfl⟩ (by (repeat' constructor); first | done | fail) | constructor | (refine fun _ _ (hq : Hold _) => ?_; replace hq := hq.out; obtain ⟨_, rfl, rfl⟩ := hq) | (refine fun _ _ (hq : Hold _) => ?_; replace hq := hq.out; obtain ⟨_, _, rfl, rfl⟩ := hq) | rintro _ _ ⟨rfl, rfl⟩ | rintro _ _ ⟨_, rfl, rfl⟩ | rintro _ _ ⟨_, _, rfl, rfl⟩ | (refine fun (hc : _ = _) => ?_; (try simp only [BB] at hc)) | refine fun (_ : Nat) => ?_ | refine fun (_ : _ ≤ _) => ?_ | refine fun (_ : _ < _) => ?_
  refine RS.loopW (α := Nat) (fun i => [(0, .str s), (3, .str (119 :: (s.take i).map Md.wd)), (4, .int .i64 (i : Nat))]) (fun _ => R)
    (fun i => i ≤ s.length ∧ i ≤ 8) (fun i => 8 - i) 0 ⟨Nat.zero_le _, Nat.zero_le _⟩ ⟨rfl, rfl, rfl, trivial⟩ .refl ?_
  rintro i ⟨h1, h2⟩ ih
  dsimp only [ents] at *
  have hw := fun h => word9_take (s := s) (i := i) h
  repeat' first | (refine fun (hc : _ = _) => ?_; (try simp only [BB] at hc); (try (first | contradiction | (exfalso; omega)))) | exact arI | refine Pst.mk ⟨?_, rfl⟩ (by (repeat' constructor); first | done | fail) | constructor | (refine fun _ _ (hq : Hold _) => ?_; replace hq := hq.out; obtain ⟨_, rfl, rfl⟩ := hq) | (refine fun _ _ (hq : Hold _) => ?_; replace hq := hq.out; obtain ⟨_, _, rfl, rfl⟩ := hq) | rintro _ _ ⟨rfl, rfl⟩ | rintro _ _ ⟨_, rfl, rfl⟩ | rintro _ _ ⟨_, _, rfl, rfl⟩ | (refine fun (hc : _ = _) => ?_; (try simp only [BB] at hc)) | refine fun (_ : Nat) => ?_ | refine fun (_ : _ ≤ _) => ?_ | refine fun (_ : _ < _) => ?_
  · have e := hw (by omega)
    have h26 := (List.getD s i 0).toNat_lt
    have e2 : UInt8.ofNat (IntKind.u8.wrap (97 + (((List.getD s (i : Int).toNat 0).toNat : Int)).tmod 26)).toNat = Md.wd (List.getD s i 0) := by
      rw [Int.toNat_natCast, wrap_u8, Int.tmod_eq_emod_of_nonneg (by omega)]
      apply UInt8.toNat.inj
      rw [Md.wd, byteN_nat (by omega), UInt8.toNat_ofNat']
      omega
    refine ih _ _ (i + 1) (by omega) (by omega) ?_ (by (repeat' constructor); first | done | fail)
    rw [e, ← e2]; exact ⟨rfl, rfl, rfl, trivial⟩
  · unfold Md.word9
    congr 2
    by_cases h8 : i = 8
    · subst h8; rfl
    · rw [List.take_of_length_le (by omega), List.take_of_length_le (by omega)]
theorem indexS_F {t z : Nat} {ns : List Md.Str} {m : Md.Str} (hz : ZK t z 1) (hl : ns.length ≤ 1000000000) : F D 56 [.lst t z (ns.map DV.str), .str m] R (fun v cs' => Hold (∃ k : Int, v = .int .i64 k ∧ R = cs' ∧ (0 ≤ k ↔ m ∈ ns))) := by
  refine F.of rfl rfl rfl ?_
  repeat' first | exact arI | refine Pst.mk ⟨?_, rfl⟩ (by (repeat' constructor); first | done | fail) | constructor | (refine fun _ _ (hq : Hold _) => ?_; replace hq := hq.out; obtain ⟨_, rfl, rfl⟩ := hq) | (refine fun _ _ (hq : Hold _) => ?_; replace hq := hq.out; obtain ⟨_, _, rfl, rfl⟩ := hq) | rintro _ _ ⟨rfl, rfl⟩ | rintro _ _ ⟨_, rfl, rfl⟩ | rintro _ _ ⟨_, _, rfl, rfl⟩ | (refine fun (hc : _ = _) => ?_; (try simp only [BB] at hc)) | refine fun (_ : Nat) => ?_ | refine fun (_ : _ ≤ _) => ?_ | refine fun (_ : _ < _) => ?_
  refine RS.loopW (α := Nat) (fun i => [(0, .lst t z (ns.map DV.str)), (1, .str m), (7, .int .i64 ns.length), (8, .int .i64 (i : Nat))]) (fun _ => R)
    (fun i => i ≤ ns.length ∧ m ∉ ns.take i) (fun i => ns.length - i) 0 ⟨Nat.zero_le _, by simp⟩ ⟨rfl, rfl, rfl, rfl, trivial⟩ .refl ?_
  rintro i ⟨h1, h2⟩ ih
  dsimp only [ents] at *
  repeat' first | (show IA _ _ _ _ _ _; exact IA.map hz arI) | (refine fun (hc : _ = _) => ?_; (try simp only [BB] at hc); (try (first | contradiction | (exfalso; omega)))) | exact arI | refine Pst.mk ⟨?_, rfl⟩ (by (repeat' constructor); first | done | fail) | constructor | (refine fun _ _ (hq : Hold _) => ?_; replace hq := hq.out; obtain ⟨_, rfl, rfl⟩ := hq) | (refine fun _ _ (hq : Hold _) => ?_; replace hq := hq.out; obtain ⟨_, _, rfl, rfl⟩ := hq) | rintro _ _ ⟨rfl, rfl⟩ | rintro _ _ ⟨_, rfl, rfl⟩ | rintro _ _ ⟨_, _, rfl, rfl⟩ | (refine fun (hc : _ = _) => ?_; (try simp only [BB] at hc)) | refine fun (_ : Nat) => ?_ | refine fun (_ : _ ≤ _) => ?_ | refine fun (_ : _ < _) => ?_
  · exact Pst.mk (.mk ⟨_, rfl, rfl, fun _ => by rw [hc, List.getD_eq_getElem?_getD, List.getElem?_eq_getElem (by omega)]; exact List.getElem_mem _, fun _ => by omega⟩) .refl
  · refine ih _ _ (i + 1) ⟨by omega, ?_⟩ (by omega) ⟨rfl, rfl, rfl, rfl, trivial⟩ .refl
    rw [List.take_add_one, List.getElem?_eq_getElem (by omega)]
    rw [List.getD_eq_getElem?_getD, List.getElem?_eq_getElem (by omega)] at hc
    simp only [Option.toList_some, List.mem_append, List.mem_singleton, not_or]
    exact ⟨h2, hc⟩
  · rw [List.take_of_length_le (by omega)] at h2
    exact Pst.mk (.mk ⟨_, rfl, rfl, fun h => by omega, fun h => absurd h h2⟩) .refl
theorem containsS_F {t z : Nat} {ns : List Md.Str} {m : Md.Str} (hz : ZK t z 1) (hl : ns.length ≤ 1000000000) : F D 43 [.lst t z (ns.map DV.str), .str m] R (fun v cs' => v = .bool (decide (m ∈ ns)) ∧ R = cs') := by
  refine F.of rfl rfl rfl ?_
  repeat' first | (show FC _ _ _ _ _; exact indexS_F hz hl) | (refine fun (hc : _ = _) => ?_; (try simp only [BB] at hc); (try (first | contradiction | (exfalso; omega)))) | exact arI | refine Pst.mk ⟨?_, rfl⟩ (by (repeat' constructor); first | done | fail) | constructor | (refine fun _ _ (hq : Hold _) => ?_; replace hq := hq.out; obtain ⟨_, rfl, rfl⟩ := hq) | (refine fun _ _ (hq : Hold _) => ?_; replace hq := hq.out; obtain ⟨_, _, rfl, rfl⟩ := hq) | rintro _ _ ⟨rfl, rfl⟩ | rintro _ _ ⟨_, rfl, rfl⟩ | rintro _ _ ⟨_, _, rfl, rfl⟩ | (refine fun (hc : _ = _) => ?_; (try simp only [BB] at hc)) | refine fun (_ : Nat) => ?_ | refine fun (_ : _ ≤ _) => ?_ | refine fun (_ : _ < _) => ?_ | (refine fun _ _ (hq : Hold _) => ?_; replace hq := hq.out; obtain ⟨k, rfl, rfl, hk⟩ := hq)
  congr 1
  by_cases h : m ∈ ns
  · rw [decide_eq_true h, decide_eq_true (hk.2 h)]
  · rw [decide_eq_false h, decide_eq_false (fun x => h (hk.1 x))]
theorem is_F {p : Md.Tok × Nat} {k : Int} {t : Nat} {n : Md.Str} : F D 30 [encT p, .int .i64 k, .lst t (zOf t 1) [.str n]] R (fun v cs' => v = .bool (decide (p.1.kind = k ∧ p.1.name = n)) ∧ R = cs') := by
  refine F.of rfl rfl rfl ?_
  repeat' first | (show FC _ _ _ _ _; exact containsS_F (ns := [n]) .zof (by simp)) | (refine fun (hc : _ = _) => ?_; (try simp only [BB] at hc); (try (first | contradiction | (exfalso; omega)))) | exact arI | refine Pst.mk ⟨?_, rfl⟩ (by (repeat' constructor); first | done | fail) | constructor | (refine fun _ _ (hq : Hold _) => ?_; replace hq := hq.out; obtain ⟨_, rfl, rfl⟩ := hq) | (refine fun _ _ (hq : Hold _) => ?_; replace hq := hq.out; obtain ⟨_, _, rfl, rfl⟩ := hq) | rintro _ _ ⟨rfl, rfl⟩ | rintro _ _ ⟨_, rfl, rfl⟩ | rintro _ _ ⟨_, _, rfl, rfl⟩ | (refine fun (hc : _ = _) => ?_; (try simp only [BB] at hc)) | refine fun (_ : Nat) => ?_ | refine fun (_ : _ ≤ _) => ?_ | refine fun (_ : _ < _) => ?_
  all_goals (congr 1; simp [hc])
end Go.Proofs.YticnenofiibpgaaDoor.Code
/- How a text is read on, with texts az one: rules. -/
namespace Go.Md
def tx (d : Str) : Tok := { Tok.zero with kind := 1, data := d }
/-- A text more. -/
def app (l : List Tok) (d : Str) : List Tok := joinStep l (tx d)
theorem app_emp (d : Str) : app [] d = if d = [] then [] else [tx d] := by
  unfold app
  rw [joinStep_nil]
  by_cases h : d = []
  · subst h; rfl
  · rw [if_neg (fun x => h x.2), if_neg h]
theorem app_snoc (l : List Tok) (u : Tok) (d : Str) : app (l ++ [u]) d = if u.kind = 1 then l ++ [{ u with data := u.data ++ d }] else if d = [] then l ++ [u] else l ++ [u] ++ [tx d] := by
  unfold app
  rw [joinStep_snoc]
  simp only [tx, true_and]
theorem app_nil (l : List Tok) : app l [] = l := by
  rcases List.eq_nil_or_concat l with rfl | ⟨l, u, rfl⟩
  · rw [app_emp, if_pos rfl]
  · rw [List.concat_eq_append, app_snoc]; split
    · simp
    · rw [if_pos rfl]
theorem app_app (l : List Tok) (a b : Str) : app (app l a) b = app l (a ++ b) := by
  by_cases ha : a = []
  · subst ha; rw [app_nil, List.nil_append]
  · have h2 : a ++ b ≠ [] := by simp [ha]
    rcases List.eq_nil_or_concat l with rfl | ⟨l, u, rfl⟩
    · rw [app_emp, if_neg ha, app_emp, if_neg h2]
      have := app_snoc [] (tx a) b
      rw [List.nil_append] at this
      rw [this, if_pos (show (tx a).kind = 1 from rfl)]; rfl
    · rw [List.concat_eq_append, app_snoc, app_snoc]; split
      · rename_i hk
        rw [app_snoc, if_pos (by exact hk)]; simp
      · (try rw [if_neg ha]); (try rw [if_neg h2]); rw [app_snoc, if_pos (show (tx a).kind = 1 from rfl)]; simp [tx, Tok.zero]
def vt (acc : List Tok) (x : Lx) : List Tok := app (x.out.foldl joinStep acc) (encode x.text)
/-- Where a lexer is, and what it gave. -/
structure At (acc : List Tok) (x : Lx) (w : Int) (n : Str) (b : Bool) (r : List Int) (A : List Tok) : Prop where
  done : x.done = false
  way : x.way = w
  last : x.last = n
  room : x.room = b
  rest : x.rest = r
  vt : vt acc x = A
end Go.Md
namespace Go.Proofs.YticnenofiibpgaaDoor.Code
open Go.Dm
set_option linter.unusedSimpArgs false
set_option linter.unusedVariables false
variable {acc : List Md.Tok} {x : Md.Lx} {w : Int} {n : Md.Str} {b : Bool} {r : List Int} {A B : List Md.Tok}
theorem enc_app (a b : List Int) : Md.encode (a ++ b) = Md.encode a ++ Md.encode b := by simp [Md.encode]
theorem enc_one (r : Int) : Md.encode [r] = Md.putR r := by simp [Md.encode]
theorem enc_cons (r : Int) (l : List Int) : Md.encode (r :: l) = Md.putR r ++ Md.encode l := by simp [Md.encode]
theorem At.adv (h : Md.At acc x w n b r A) (k : Nat) : Md.At acc (x.adv k) w n b (r.drop k) A := ⟨h.done, h.way, h.last, h.room, by rw [rest_adv, h.rest], h.vt⟩
theorem At.say (h : Md.At acc x w n b r A) (d : List Int) : Md.At acc (x.say d) w n b r (Md.app A (Md.encode (d.filter (· != -1)))) := ⟨h.done, h.way, h.last, h.room, h.rest, by
  rw [← h.vt]; unfold Md.vt
  rw [Md.app_app, ← enc_app]; rfl⟩
theorem At.say' (h : Md.At acc x w n b r A) {d : List Int} (hd : ∀ r ∈ d, 0 ≤ r) : Md.At acc (x.say d) w n b r (Md.app A (Md.encode d)) := by
  have := At.say h d
  rwa [filter_nn hd] at this
theorem At.flush (h : Md.At acc x w n b r A) : Md.At acc x.flush w n b r A := by
  unfold Md.Lx.flush
  split
  · exact h
  · refine ⟨h.done, h.way, h.last, h.room, h.rest, ?_⟩
    rw [← h.vt]; unfold Md.vt
    show Md.app ((x.out ++ [Md.textTok x.text]).foldl Md.joinStep acc) [] = _
    rw [Md.app_nil, List.foldl_append]; rfl
theorem flush_text0 : x.flush.text = [] := flush_text
theorem At.emit (h : Md.At acc x w n b r A) (t : Md.Tok) : Md.At acc (x.emit t) w (if t.kind = 2 then t.name else n) b r (Md.joinStep A t) := by
  have h1 := At.flush h
  refine ⟨h1.done, h1.way, ?_, h1.room, h1.rest, ?_⟩
  · show (if t.kind = 2 then t.name else x.flush.last) = _; rw [h1.last]
  · have h2 := h1.vt
    unfold Md.vt at h2 ⊢
    have e : (x.emit t).text = [] := flush_text
    have e0 : x.flush.text = [] := flush_text
    rw [e0] at h2
    rw [e]
    show Md.app ((x.flush.out ++ [t]).foldl Md.joinStep acc) [] = _
    have e2 : Md.encode [] = [] := rfl
    rw [e2, Md.app_nil] at h2
    rw [Md.app_nil, List.foldl_append, h2]; rfl
theorem At.setWay (h : Md.At acc x w n b r A) (w' : Int) : Md.At acc { x with way := w' } w' n b r A := ⟨h.done, rfl, h.last, h.room, h.rest, h.vt⟩
theorem At.pk (h : Md.At acc x w n b r A) (k : Nat) : x.pk k = r.getD k (-1) := by rw [pk_rest, h.rest]
/-- Read from here on, with what is there already: what it all is. -/
def Rd (w : Int) (n : Md.Str) (b : Bool) (r : List Int) (A B : List Md.Tok) : Prop := ∀ acc x, NI x → Md.At acc x w n b r A → x.toks.foldl Md.joinStep acc = B
theorem NI.noOut (h : NI x) : NI { x with out := [] } := ⟨h.len, h.nn, h.pos, h.pos2, h.text, by show (0 : Nat) ≤ 100; omega, h.last⟩
theorem At.noOut (h : Md.At acc x w n b r A) : Md.At (x.out.foldl Md.joinStep acc) { x with out := [] } w n b r A := ⟨h.done, h.way, h.last, h.room, h.rest, h.vt⟩
theorem At.fin (h : Md.At acc x w n b r A) : Md.At acc (stepFin x) w n b r A := by
  unfold stepFin; split
  · exact At.flush h
  · exact h
theorem Rd.step {w' : Int} {n' : Md.Str} {b' : Bool} {r' : List Int} {A' : List Md.Tok} (h : ∀ acc x, NI x → x.out = [] → Md.At acc x w n b r A → Md.At acc (stepMid x) w' n' b' r' A') (hr : Rd w' n' b' r' A' B) : Rd w n b r A B := by
  intro acc x hN hS
  have hN0 := hN.noOut
  have hS0 := At.noOut hS
  rw [toks_out, List.foldl_append]
  have ho : ({ x with out := [] } : Md.Lx).out = [] := rfl
  generalize ({ x with out := [] } : Md.Lx) = y at *
  rw [toks_step hN0 hS0.done ho]
  refine hr _ _ (hN0.step hS0.done ho) ?_
  rw [step_eq]
  exact At.fin (h _ _ hN0 ho hS0)
theorem Rd.nil : Rd w n b [] A A := by
  intro acc x hN hS
  have hN0 := hN.noOut
  have hS0 := At.noOut hS
  rw [toks_out, List.foldl_append]
  have ho : ({ x with out := [] } : Md.Lx).out = [] := rfl
  generalize ({ x with out := [] } : Md.Lx) = y at *
  rw [toks_step hN0 hS0.done ho]
  have hp : y.pk 0 = -1 := by rw [At.pk hS0]; rfl
  have hmid : stepMid y = { (y.adv 1).flush with done := true } := by rw [stepMid, if_pos hp]
  have hst : y.step = { (y.adv 1).flush with done := true } := by
    rw [step_eq, stepFin, hmid, if_neg]
    intro h; apply h.2.1; show (y.adv 1).flush.text = []; exact flush_text
  have hf := (At.flush (At.adv hS0 1)).vt
  rw [toks_out, hst]
  have hd : ({ ({ (y.adv 1).flush with done := true } : Md.Lx) with out := [] } : Md.Lx).toks = [] := toks_done rfl rfl
  rw [hd, List.append_nil]
  unfold Md.vt at hf
  have e : (y.adv 1).flush.text = [] := flush_text
  have e2 : Md.encode [] = [] := rfl
  rw [e, e2, Md.app_nil] at hf
  exact hf
/-- Signs that are a part of the text, in a way. -/
def okSign (w : Int) (c : Int) : Prop := 0 < c ∧ c ≠ 60 ∧ (c = 38 → w ≠ 0 ∧ w ≠ 1)
theorem okSign.of {c : Int} (h : Md.plainSign c = true ∧ 0 ≤ c) : okSign w c := by
  obtain ⟨hc, h0⟩ := h
  simp only [Md.plainSign, Bool.not_eq_true', Bool.or_eq_false_iff, beq_eq_false_iff_ne, ne_eq] at hc
  exact ⟨by omega, hc.1.2, fun h => absurd h hc.1.1⟩
theorem mid_plain {c : Int} {l : List Int} (hc : okSign x.way c) (hr : x.rest = c :: l) : stepMid x = ((x.adv 1).adv (l.takeWhile Md.plainSign).length).say (c :: l.takeWhile Md.plainSign) := by
  have hp : x.pk 0 = c := by rw [pk_rest, hr]; rfl
  have h1 : (x.adv 1).rest = l := by rw [rest_adv, hr]; rfl
  obtain ⟨h0, h60, h38⟩ := hc
  rw [stepMid, hp, h1, if_neg (by omega), if_neg (fun h => by have := h38 h.1; omega), if_neg (fun h => h60 h.1), if_neg (fun h => h60 h.1), if_neg (fun h => h60 h.1), if_neg (by omega), if_neg (by omega)]
theorem Rd.plain1 {c : Int} {l : List Int} (hc : okSign w c) (h : Rd w n b l (Md.app A (Md.putR c)) B) : Rd w n b (c :: l) A B := by
  have h0 : 0 ≤ c := Int.le_of_lt hc.1
  cases l with
  | nil =>
    refine Rd.step (fun acc x hN ho hS => ?_) h
    rw [mid_plain (by rw [hS.way]; exact hc) hS.rest]
    have := At.say' (At.adv (At.adv hS 1) 0) (d := [c]) (by simp [h0])
    rw [enc_one] at this
    exact this
  | cons e l =>
    by_cases he : Md.plainSign e = true
    · intro acc x hN hS
      have hN0 := hN.noOut
      have hS0 := At.noOut hS
      rw [toks_out, List.foldl_append]
      have ho : ({ x with out := [] } : Md.Lx).out = [] := rfl
      generalize ({ x with out := [] } : Md.Lx) = y at *
      have hlt : y.pos < y.inp.length := by
        by_cases hlt : y.pos < y.inp.length
        · exact hlt
        · have := rest_nil (s := y) (by omega); rw [hS0.rest] at this; cases this
      have hNz : NI ((y.adv 1).say [c]) := ⟨hN0.len, hN0.nn, by show y.pos + 1 ≤ _; exact Nat.succ_le_succ (Nat.le_of_lt hlt), fun _ => by show y.pos + 1 ≤ y.inp.length; omega, by
        show (y.text ++ [c].filter (· != -1)).length ≤ 10 * (y.pos + 1)
        have := hN0.text
        rw [filter_nn (by simp [h0]), List.length_append, List.length_singleton]; omega, hN0.out, hN0.last⟩
      have hSz := At.say' (At.adv hS0 1) (d := [c]) (by simp [h0])
      rw [enc_one] at hSz
      have := h _ _ hNz hSz
      rw [← this]
      have he0 : 0 ≤ e := hN0.nn e (by
        have : e ∈ y.rest := by rw [hS0.rest]; simp
        exact List.mem_of_mem_drop this)
      congr 1
      rw [toks_step hN0 hS0.done ho, toks_step hNz hSz.done (by exact ho), step_eq, step_eq]
      congr 2
      rw [mid_plain (by rw [hS0.way]; exact hc) hS0.rest, mid_plain (okSign.of ⟨he, he0⟩) (show ((y.adv 1).say [c]).rest = e :: l by rw [rest_say, rest_adv, hS0.rest]; rfl)]
      rw [List.takeWhile_cons, if_pos he]
      unfold Md.Lx.say Md.Lx.adv
      simp only [List.length_cons, Md.Lx.mk.injEq, true_and, and_true]
      have e1 : (c :: e :: l.takeWhile Md.plainSign).filter (· != -1) = [c].filter (· != -1) ++ (e :: l.takeWhile Md.plainSign).filter (· != -1) := by rw [← List.filter_append]; rfl
      exact ⟨by omega, by rw [e1, List.append_assoc]⟩
    · refine Rd.step (fun acc x hN ho hS => ?_) h
      rw [mid_plain (by rw [hS.way]; exact hc) hS.rest, List.takeWhile_cons, if_neg he]
      have := At.say' (At.adv (At.adv hS 1) 0) (d := [c]) (by simp [h0])
      rw [enc_one] at this
      exact this
theorem Rd.plain {l : List Int} : ∀ (d : List Int) {A : List Md.Tok}, (∀ c ∈ d, okSign w c) → Rd w n b l (Md.app A (Md.encode d)) B → Rd w n b (d ++ l) A B
  | [], A, _, h => by have e : Md.encode [] = [] := rfl; rw [e, Md.app_nil] at h; exact h
  | c :: d, A, hd, h => Rd.plain1 (hd c (by simp)) (Rd.plain d (fun x hx => hd x (by simp [hx])) (by rw [Md.app_app, ← enc_cons]; exact h))
/-- A < where tags may stand. -/
theorem Rd.tag {n' : Md.Str} {w' : Int} {b' : Bool} {l r' : List Int} {A' : List Md.Tok} (h : ∀ acc x, (∀ r ∈ x.inp, 0 ≤ r) → Md.At acc x 0 n b l A → Md.At acc x.open_ w' n' b' r' A') (hr : Rd w' n' b' r' A' B) : Rd 0 n b (60 :: l) A B := by
  refine Rd.step (fun acc x hN ho hS => ?_) hr
  have hp : x.pk 0 = 60 := by rw [At.pk hS]; rfl
  have hw := hS.way
  rw [stepMid, if_neg (by omega), if_neg (by omega), if_pos ⟨hp, hw⟩]
  exact h _ _ (by rw [flush_inp]; exact hN.nn) (At.flush (At.adv hS 1))
/-- A < in the other ways. -/
theorem Rd.shut {n' : Md.Str} {w' : Int} {b' : Bool} {l r' : List Int} {A' : List Md.Tok} (hw : w = 1 ∨ w = 2) (h : ∀ acc x, (∀ r ∈ x.inp, 0 ≤ r) → Md.At acc x w n b l A → Md.At acc x.close w' n' b' r' A') (hr : Rd w' n' b' r' A' B) : Rd w n b (60 :: l) A B := by
  refine Rd.step (fun acc x hN ho hS => ?_) hr
  have hp : x.pk 0 = 60 := by rw [At.pk hS]; rfl
  have hw' := hS.way
  rw [stepMid, if_neg (by omega), if_neg (by omega), if_neg (by omega), if_pos ⟨hp, by omega⟩]
  exact h _ _ (by rw [flush_inp]; exact hN.nn) (At.flush (At.adv hS 1))
theorem Rd.scr {n' : Md.Str} {w' : Int} {b' : Bool} {l r' : List Int} {A' : List Md.Tok} (h : ∀ acc x, (∀ r ∈ x.inp, 0 ≤ r) → Md.At acc x 3 n b l A → Md.At acc x.script w' n' b' r' A') (hr : Rd w' n' b' r' A' B) : Rd 3 n b (60 :: l) A B := by
  refine Rd.step (fun acc x hN ho hS => ?_) hr
  have hp : x.pk 0 = 60 := by rw [At.pk hS]; rfl
  have hw' := hS.way
  rw [stepMid, if_neg (by omega), if_neg (by omega), if_neg (by omega), if_neg (by omega), if_pos ⟨hp, by omega⟩]
  exact h _ _ (by rw [flush_inp]; exact hN.nn) (At.flush (At.adv hS 1))
theorem Rd.ref {l : List Int} (hw : w = 0 ∨ w = 1) (hs : ∀ r ∈ (Md.refer false l).1, 0 ≤ r) (hr : Rd w n b (l.drop (Md.refer false l).2) (Md.app A (Md.encode (Md.refer false l).1)) B) : Rd w n b (38 :: l) A B := by
  refine Rd.step (fun acc x hN ho hS => ?_) hr
  have hp : x.pk 0 = 38 := by rw [At.pk hS]; rfl
  have hw' := hS.way
  rw [stepMid, if_neg (by omega), if_pos ⟨hp, by omega⟩]
  have h1 : (x.adv 1).rest = l := by rw [rest_adv, hS.rest]; rfl
  unfold refA
  rw [h1]
  exact At.say' (At.adv (At.adv hS 1) _) hs
theorem Rd.start {c : Md.Str} {w : Int} {nm : Md.Str} {room : Bool} (hN : NI { Md.Lx.new c with way := w, last := nm, room := room }) (h : Rd w nm room (Md.decode c) [] B) : Md.join ({ Md.Lx.new c with way := w, last := nm, room := room } : Md.Lx).toks = B :=
  h [] _ hN ⟨rfl, rfl, rfl, rfl, rfl, rfl⟩
theorem Rd.conv {r' : List Int} {A' B' : List Md.Tok} (h : Rd w n b r' A' B') (h1 : r = r') (h2 : A = A') (h3 : B' = B) : Rd w n b r A B := by subst h1; subst h2; subst h3; exact h
end Go.Proofs.YticnenofiibpgaaDoor.Code
/- A marked section is a text where it may stand, and a comment where it may not. -/
namespace Go.Md
def asc (b : Str) : List Int := b.map fun c => (c.toNat : Int)
end Go.Md
namespace Go.Proofs.YticnenofiibpgaaDoor.Code
open Go.Dm
set_option linter.unusedSimpArgs false
set_option linter.unusedVariables false
theorem asc_app (a b : Md.Str) : Md.asc (a ++ b) = Md.asc a ++ Md.asc b := List.map_append
theorem putR_asc {c : UInt8} (h : c.toNat < 128) : Md.putR (c.toNat : Int) = [c] := by
  rw [putR_nat (by omega), if_pos (by omega)]
  congr 1
  apply UInt8.toNat.inj
  rw [byteN_nat (by omega)]
theorem enc_asc {b : Md.Str} (h : ∀ c ∈ b, c.toNat < 128) : Md.encode (Md.asc b) = b := by
  induction b with
  | nil => rfl
  | cons c b ih =>
    show Md.encode ((c.toNat : Int) :: Md.asc b) = _
    rw [enc_cons, putR_asc (h c (by simp)), ih (fun x hx => h x (by simp [hx]))]; rfl
theorem dec_asc {b : Md.Str} (h : ∀ c ∈ b, c.toNat < 128 ∧ c.toNat ≠ 13) : Md.decode b = Md.asc b := by
  conv => lhs; rw [← enc_asc (fun c hc => (h c hc).1)]
  refine decode_encode fun r hr => ?_
  obtain ⟨c, hc, rfl⟩ := List.mem_map.1 hr
  have := h c hc
  exact ⟨⟨by omega, by omega, by omega⟩, by omega, by omega⟩
theorem asc_nn {b : Md.Str} : ∀ r ∈ Md.asc b, 0 ≤ r := fun r hr => by obtain ⟨c, hc, rfl⟩ := List.mem_map.1 hr; omega
theorem asc_plain {w : Int} {b : Md.Str} (h : ∀ c ∈ b, c.toNat ≠ 0 ∧ c.toNat ≠ 60 ∧ (c.toNat = 38 → w ≠ 0 ∧ w ≠ 1)) : ∀ r ∈ Md.asc b, okSign w r := fun r hr => by
  obtain ⟨c, hc, rfl⟩ := List.mem_map.1 hr
  have := h c hc
  exact ⟨by omega, by omega, fun h => this.2.2 (by omega)⟩
theorem section_app : ∀ (d l : List Int), (∀ r ∈ d, r ≠ 93) → Md.sectionGo (d ++ 93 :: 93 :: 62 :: l) = (d, d.length + 3)
  | [], l, _ => by simp [Md.sectionGo]
  | r :: d, l, h => by
    have h1 := h r (by simp)
    have := section_app d l (fun x hx => h x (by simp [hx]))
    rw [List.cons_append, Md.sectionGo, if_neg (fun hh => h1 hh.1), this]
    simp only [List.length_cons, Prod.mk.injEq, true_and]
theorem bogus_app : ∀ (d l : List Int), (∀ r ∈ d, r ≠ 62 ∧ r ≠ 0) → Md.bogusGo (d ++ 62 :: l) = (d, d.length + 1)
  | [], l, _ => by simp [Md.bogusGo]
  | r :: d, l, h => by
    have h1 := h r (by simp)
    have := bogus_app d l (fun x hx => h x (by simp [hx]))
    rw [List.cons_append, Md.bogusGo, if_neg h1.1, this]
    simp only [List.length_cons, Prod.mk.injEq, and_true, Md.fixr, if_neg h1.2]
def secOk (c : UInt8) : Bool := decide (32 ≤ c.toNat) && decide (c.toNat < 127) && decide (c.toNat ≠ 93) && decide (c.toNat ≠ 62)
theorem secOk_iff {c : UInt8} : secOk c = true ↔ 32 ≤ c.toNat ∧ c.toNat < 127 ∧ c.toNat ≠ 93 ∧ c.toNat ≠ 62 := by simp [secOk, and_assoc]
def secPre : Md.Str := [60, 33, 91, 67, 68, 65, 84, 65, 91]
def comTok (d : Md.Str) : Md.Tok := { Md.Tok.zero with kind := 4, data := d }
def secRes (may : Bool) (d : Md.Str) : List Md.Tok := if may then [Md.tx (d ++ [120])] else [comTok ([91, 67, 68, 65, 84, 65, 91] ++ d ++ [93, 93]), Md.tx [120]]
theorem sections_pure {d : Md.Str} {may : Bool} (hd : ∀ c ∈ d, secOk c = true) (hN : NI { Md.Lx.new (secPre ++ d ++ [93, 93, 62, 120]) with room := may }) : Md.join ({ Md.Lx.new (secPre ++ d ++ [93, 93, 62, 120]) with room := may } : Md.Lx).toks = secRes may d := by
  have hd' : ∀ c ∈ d, 32 ≤ c.toNat ∧ c.toNat < 127 ∧ c.toNat ≠ 93 ∧ c.toNat ≠ 62 := fun c hc => secOk_iff.1 (hd c hc)
  refine Rd.start (w := 0) (nm := []) (room := may) hN ?_
  rw [dec_asc (by
    intro c hc
    simp only [secPre, List.mem_append] at hc
    rcases hc with (hc | hc) | hc
    · revert hc; revert c; decide
    · have := hd' c hc; omega
    · revert hc; revert c; decide), asc_app, asc_app]
  have hA : ∀ r ∈ Md.asc d, r ≠ 93 ∧ r ≠ 62 ∧ r ≠ 0 := fun r hr => by
    obtain ⟨c, hc, rfl⟩ := List.mem_map.1 hr
    have := hd' c hc; omega
  have hE : Md.encode (Md.asc d) = d := enc_asc (fun c hc => by have := hd' c hc; omega)
  show Rd 0 [] may (60 :: 33 :: 91 :: 67 :: 68 :: 65 :: 84 :: 65 :: 91 :: (Md.asc d ++ [93, 93, 62, 120])) [] _
  have hs1 := section_app (Md.asc d) [120] (fun r hr => (hA r hr).1)
  have hb1 := bogus_app ([91, 67, 68, 65, 84, 65, 91] ++ Md.asc d ++ [93, 93]) [120] (fun r hr => by
    simp only [List.mem_append] at hr
    rcases hr with (hr | hr) | hr
    · revert hr; revert r; decide
    · have := hA r hr; omega
    · revert hr; revert r; decide)
  have e1 : ([91, 67, 68, 65, 84, 65, 91] ++ Md.asc d ++ [93, 93] : List Int) ++ 62 :: [120] = 91 :: 67 :: 68 :: 65 :: 84 :: 65 :: 91 :: (Md.asc d ++ [93, 93, 62, 120]) := by simp
  rw [e1] at hb1
  generalize hL : Md.asc d ++ [93, 93, 62, 120] = L at *
  cases may with
  | true =>
    refine Rd.tag (w' := 0) (n' := []) (b' := true) (r' := [120]) (A' := Md.app [] d) (fun acc x hx hS => ?_) ?_
    · have hp0 : x.pk 0 = 33 := At.pk hS 0
      have h1 := At.adv hS 1
      have hr1 : (x.adv 1).rest = 91 :: 67 :: 68 :: 65 :: 84 :: 65 :: 91 :: L := h1.rest
      have hp1 : (x.adv 1).pk 0 = 91 := At.pk h1 0
      have e : x.open_ = ((x.adv 1).adv 7).section_ := by
        rw [Md.Lx.open_, if_pos hp0, Md.Lx.declare, hr1]
        rw [if_neg (by simp [Md.stands, Md.small]), if_neg (by simp [Md.stands, Md.small]), if_pos ⟨h1.room, hp1, by simp [Md.exact]⟩]
      rw [e]
      have h7 := At.adv h1 7
      have hr7 : ((x.adv 1).adv 7).rest = L := h7.rest
      unfold Md.Lx.section_
      rw [hr7, hs1]
      have h8 := At.say' (At.adv h7 (Md.asc d).length.succ.succ.succ) (d := Md.asc d) asc_nn
      rw [hE] at h8
      have e9 : (List.drop (Md.asc d).length.succ.succ.succ (List.drop 7 (List.drop 1 (33 :: 91 :: 67 :: 68 :: 65 :: 84 :: 65 :: 91 :: L)))) = [120] := by
        show List.drop ((Md.asc d).length + 3) L = _
        rw [← hL, ← List.drop_drop, List.drop_left]; rfl
      rw [e9] at h8
      exact h8
    · refine Rd.conv (Rd.plain (d := [120]) (by simp [okSign]) Rd.nil) rfl rfl ?_
      rw [Md.app_app, show Md.encode [120] = [120] from rfl, Md.app_emp, if_neg (by simp)]; rfl
  | false =>
    refine Rd.tag (w' := 0) (n' := []) (b' := false) (r' := [120]) (A' := [comTok ([91, 67, 68, 65, 84, 65, 91] ++ d ++ [93, 93])]) (fun acc x hx hS => ?_) ?_
    · have hp0 : x.pk 0 = 33 := At.pk hS 0
      have h1 := At.adv hS 1
      have hr1 : (x.adv 1).rest = 91 :: 67 :: 68 :: 65 :: 84 :: 65 :: 91 :: L := h1.rest
      have hp1 : (x.adv 1).pk 0 = 91 := At.pk h1 0
      have hrm : (x.adv 1).room = false := h1.room
      have e : x.open_ = (x.adv 1).bogus := by
        rw [Md.Lx.open_, if_pos hp0, Md.Lx.declare, hr1]
        rw [if_neg (by simp [Md.stands, Md.small]), if_neg (by simp [Md.stands, Md.small]), if_neg (by rw [hrm]; simp)]
      rw [e]
      unfold Md.Lx.bogus
      rw [hr1, hb1]
      have h8 := At.emit (At.adv h1 (([91, 67, 68, 65, 84, 65, 91] ++ Md.asc d ++ [93, 93]).length + 1)) (comTok ([91, 67, 68, 65, 84, 65, 91] ++ d ++ [93, 93]))
      have e9 : List.drop (([91, 67, 68, 65, 84, 65, 91] ++ Md.asc d ++ [93, 93]).length + 1) (List.drop 1 (33 :: 91 :: 67 :: 68 :: 65 :: 84 :: 65 :: 91 :: L)) = [120] := by
        show List.drop _ (91 :: 67 :: 68 :: 65 :: 84 :: 65 :: 91 :: L) = _
        rw [← e1, ← List.drop_drop, List.drop_left]; rfl
      rw [e9] at h8
      have e10 : Md.encode ([91, 67, 68, 65, 84, 65, 91] ++ Md.asc d ++ [93, 93]) = [91, 67, 68, 65, 84, 65, 91] ++ d ++ [93, 93] := by
        rw [enc_app, enc_app, hE]; rfl
      rw [e10]
      exact h8
    · refine Rd.conv (Rd.plain (d := [120]) (by simp [okSign]) Rd.nil) rfl rfl ?_
      rfl
theorem filter_take {f : UInt8 → Bool} {s : Md.Str} {i : Nat} (h : i < s.length) : (s.take (i + 1)).filter f = (s.take i).filter f ++ (if f (s.getD i 0) = true then [s.getD i 0] else []) := by
  rw [List.take_add_one, List.getElem?_eq_getElem h, List.filter_append]
  congr 1
  rw [List.getD_eq_getElem?_getD, List.getElem?_eq_getElem h]
  simp only [Option.toList_some, Option.getD_some, List.filter_cons, List.filter_nil]
theorem one_cut {s : Md.Str} {i : Nat} (h : i < s.length) : List.take (((i : Int) + 1).toNat - (i : Int).toNat) (List.drop (i : Int).toNat s) = [s.getD i 0] := by
  rw [show ((i : Int) + 1).toNat - (i : Int).toNat = 1 by omega, Int.toNat_natCast, drop_get h]; rfl
end Go.Proofs.YticnenofiibpgaaDoor.Code
/- An element's end, where its text is read in the raw way. -/
namespace Go.Proofs.YticnenofiibpgaaDoor.Code
open Go.Dm
set_option linter.unusedSimpArgs false
set_option linter.unusedVariables false
variable {acc : List Md.Tok} {x : Md.Lx} {w : Int} {n : Md.Str} {b : Bool} {r : List Int} {A B : List Md.Tok}
theorem dec1 {s : Md.Str} {i : Nat} (h : i < s.length) (ha : (s.getD i 0).toNat < 128) : Utf8.decode ⟨s.toArray⟩ i = ((s.getD i 0).toNat, 1) := by
  have e : ByteArray.get! ⟨s.toArray⟩ i = s.getD i 0 := by
    show s.toArray[i]! = _
    simp [List.getD_eq_getElem?_getD, h]
  unfold Utf8.decode
  simp only [Nat.add_zero, e]
  rw [if_pos (by omega)]
theorem runesGo_asc {s : Md.Str} (ha : ∀ c ∈ s, c.toNat < 128) : ∀ (f i : Nat), s.length ≤ i + f → Md.runesGo f s i = Md.asc (s.drop i)
  | 0, i, h => by rw [Md.runesGo, List.drop_eq_nil_of_le (by omega)]; rfl
  | f + 1, i, h => by
    rw [Md.runesGo]
    split
    · rename_i hi
      have hm : s.getD i 0 ∈ s := by rw [List.getD_eq_getElem?_getD, List.getElem?_eq_getElem hi]; exact List.getElem_mem _
      rw [dec1 hi (ha _ hm), drop_get hi, runesGo_asc ha f (i + 1) (by omega)]; rfl
    · rw [List.drop_eq_nil_of_le (by omega)]; rfl
theorem runes_asc {s : Md.Str} (ha : ∀ c ∈ s, c.toNat < 128) : Md.runes s = Md.asc s := by
  rw [Md.runes, runesGo_asc ha _ 0 (by omega)]; rfl
def lowName (n : Md.Str) : Prop := n ≠ [] ∧ ∀ c ∈ n, 97 ≤ c.toNat ∧ c.toNat ≤ 122
theorem small_low {c : Int} (h : 97 ≤ c) : Md.small c = c := by
  unfold Md.small; rw [if_neg (by omega)]
theorem goes_asc : ∀ (n : Md.Str) (T : List Int), (∀ c ∈ n, 97 ≤ c.toNat ∧ c.toNat ≤ 122) → Md.goesOn (Md.asc n) (Md.asc n ++ T) = true
  | [], T, _ => rfl
  | c :: n, T, h => by
    have h1 := h c (by simp)
    have := goes_asc n T (fun x hx => h x (by simp [hx]))
    show (Md.small (c.toNat : Int) == (c.toNat : Int) && Md.goesOn (Md.asc n) (Md.asc n ++ T)) = true
    rw [this, small_low (by omega)]; simp
theorem over_low {c : Int} (h : 97 ≤ c) : Md.over c = false := by
  simp [Md.over, Md.blank]; omega
theorem nameOf_asc {n : Md.Str} {T : List Int} (h : ∀ c ∈ n, 97 ≤ c.toNat ∧ c.toNat ≤ 122) (hT : Md.over (T.headD (-1)) = true) : Md.nameOf (Md.asc n ++ T) = Md.asc n := by
  induction n with
  | nil =>
    cases T with
    | nil => rfl
    | cons t T => show List.takeWhile _ (t :: T) = []; rw [List.takeWhile_cons, if_neg]; simpa using hT
  | cons c n ih =>
    have h1 := h c (by simp)
    show List.takeWhile _ ((c.toNat : Int) :: (Md.asc n ++ T)) = _
    rw [List.takeWhile_cons, if_pos (by rw [over_low (by omega)]; rfl)]
    have := ih (fun x hx => h x (by simp [hx]))
    unfold Md.nameOf at this
    rw [this]; rfl
theorem enc_name {n : Md.Str} (h : ∀ c ∈ n, 97 ≤ c.toNat ∧ c.toNat ≤ 122) : Md.encode ((Md.asc n).map fun r => Md.small (Md.fixr r)) = n := by
  have e : (Md.asc n).map (fun r => Md.small (Md.fixr r)) = Md.asc n := by
    rw [List.map_congr_left (g := id), List.map_id]
    intro r hr
    obtain ⟨c, hc, rfl⟩ := List.mem_map.1 hr
    have := h c hc
    rw [Md.fixr, if_neg (by omega), small_low (by omega)]; rfl
  rw [e, enc_asc (fun c hc => by have := h c hc; omega)]
def endTok (n : Md.Str) : Md.Tok := { Md.Tok.zero with kind := 3, name := n }
/-- A tag's rest, for an end. -/
theorem At.tag3 {n' : Md.Str} {T : List Int} (hn : lowName n) (hT : Md.over (T.headD (-1)) = true) (hq : (Md.attrsGo T []).2.2.1 = true) (h : Md.At acc x w n' b (Md.asc n ++ T) A) : Md.At acc (x.tag 3) w n' b (T.drop (Md.attrsGo T []).2.2.2) (Md.joinStep A (endTok n)) := by
  unfold Md.Lx.tag
  dsimp only
  rw [h.rest, nameOf_asc hn.2 hT, List.drop_left, if_pos hq, if_pos rfl, if_pos rfl, enc_name hn.2]
  have h1 := At.emit (At.adv h ((Md.asc n).length + (Md.attrsGo T []).2.2.2)) (endTok n)
  have e3 : ¬(endTok n).kind = 2 := by show ¬(3 : Int) = 2; decide
  rw [if_neg e3, ← List.drop_drop, List.drop_left] at h1
  exact h1
theorem closes_asc {T : List Int} (hn : lowName n) (hT : Md.over (T.headD (-1)) = true) : Md.closes n (47 :: (Md.asc n ++ T)) = 1 + n.length := by
  obtain ⟨h0, h1⟩ := hn
  obtain ⟨c, m, rfl⟩ : ∃ c m, n = c :: m := by cases n with
    | nil => exact absurd rfl h0
    | cons c m => exact ⟨c, m, rfl⟩
  have hl := h1 c (by simp)
  have hr : Md.runes (c :: m) = Md.asc (c :: m) := runes_asc (fun x hx => by have := h1 x hx; omega)
  have hlen : (Md.asc (c :: m)).length = (c :: m).length := List.length_map ..
  unfold Md.closes
  rw [if_neg, hr, if_pos, hlen]
  · refine ⟨goes_asc _ _ h1, ?_⟩
    have e : (47 :: (Md.asc (c :: m) ++ T)).getD (1 + (Md.asc (c :: m)).length) (-1) = T.headD (-1) := by
      rw [Nat.add_comm, List.getD_cons_succ, List.getD_eq_getElem?_getD, List.getElem?_append_right (Nat.le_refl _), Nat.sub_self]
      cases T <;> rfl
    rw [e]; exact hT
  · rintro (h | h | h)
    · exact h rfl
    · have : Md.letter (c.toNat : Int) = false := h
      have h2 : Md.letter (c.toNat : Int) = true := by simp [Md.letter]; omega
      rw [h2] at this; cases this
    · cases h
theorem At.close {T : List Int} (hn : lowName n) (hT : Md.over (T.headD (-1)) = true) (hq : (Md.attrsGo T []).2.2.1 = true) (h : Md.At acc x w n b (47 :: (Md.asc n ++ T)) A) : Md.At acc x.close 0 n b (T.drop (Md.attrsGo T []).2.2.2) (Md.joinStep A (endTok n)) := by
  unfold Md.Lx.close
  rw [h.last, h.rest, if_neg (by rw [closes_asc hn hT]; omega)]
  exact At.tag3 hn hT hq (At.setWay (At.adv h 1) 0)
theorem At.noClose (h : Md.At acc x w n b r A) (hc : Md.closes n r = 0) : Md.At acc x.close w n b r (Md.app A [60]) := by
  unfold Md.Lx.close
  rw [h.last, h.rest, if_pos hc]
  exact At.say' h (by simp)
theorem attrs_gt (l : List Int) (a : List (Md.Str × Md.Str)) : Md.attrsGo (62 :: l) a = (a, false, true, 1) := by
  rw [Md.attrsGo]; simp [Md.blank]
end Go.Proofs.YticnenofiibpgaaDoor.Code
/- An element's text that is read in the raw way goes on to its own end. -/
namespace Go.Proofs.YticnenofiibpgaaDoor.Code
open Go.Dm
set_option linter.unusedSimpArgs false
set_option linter.unusedVariables false
variable {acc : List Md.Tok} {x : Md.Lx} {w : Int} {n : Md.Str} {b : Bool} {r : List Int} {A B : List Md.Tok}
def rawGi (d : List Int) (r : Int) : List Int := if r = 38 ∨ (d.getLast? = some 60 ∧ (r = 47 ∨ r = 33)) then d else d ++ [r]
def rawG (d : Md.Str) (c : UInt8) : Md.Str := if c.toNat = 38 ∨ (d.getLast? = some 60 ∧ (c.toNat = 47 ∨ c.toNat = 33)) then d else d ++ [c]
def rawD (s : Md.Str) : Md.Str := (Md.clean s).foldl rawG []
def rawOk : List Int → Prop
  | [] => True
  | r :: l => (r ≠ 38 ∧ 0 < r ∧ (r = 60 → l.headD 60 ≠ 47 ∧ l.headD 60 ≠ 33)) ∧ rawOk l
theorem rawOk_snoc : ∀ (d : List Int) (r : Int), rawOk d → r ≠ 38 → 0 < r → (d.getLast? = some 60 → r ≠ 47 ∧ r ≠ 33) → rawOk (d ++ [r])
  | [], r, _, h1, h2, _ => ⟨⟨h1, h2, fun _ => by simp⟩, trivial⟩
  | [a], r, h, h1, h2, h3 => ⟨⟨h.1.1, h.1.2.1, fun e => h3 (by simp [e])⟩, ⟨h1, h2, fun _ => by simp⟩, trivial⟩
  | a :: c :: d, r, h, h1, h2, h3 => ⟨h.1, rawOk_snoc (c :: d) r h.2 h1 h2 (fun e => h3 (by rw [List.getLast?_cons_cons]; exact e))⟩
theorem rawGi_ok : ∀ (l d : List Int), rawOk d → (∀ r ∈ l, 0 < r) → rawOk (l.foldl rawGi d)
  | [], d, h, _ => h
  | r :: l, d, h, hl => by
    rw [List.foldl_cons]
    refine rawGi_ok l _ ?_ (fun x hx => hl x (by simp [hx]))
    unfold rawGi
    split
    · exact h
    · rename_i hc
      exact rawOk_snoc d r h (by omega) (hl r (by simp)) (fun e => by
        refine ⟨fun e2 => hc (.inr ⟨e, .inl e2⟩), fun e2 => hc (.inr ⟨e, .inr e2⟩)⟩)
theorem rawGi_sub : ∀ (l d : List Int) (q : Int → Prop), (∀ r ∈ d, q r) → (∀ r ∈ l, q r) → ∀ r ∈ l.foldl rawGi d, q r
  | [], d, q, h, _ => h
  | r :: l, d, q, h, hl => by
    rw [List.foldl_cons]
    refine rawGi_sub l _ q ?_ (fun x hx => hl x (by simp [hx]))
    unfold rawGi
    split
    · exact h
    · intro x hx
      rcases List.mem_append.1 hx with hx | hx
      · exact h x hx
      · simp only [List.mem_singleton] at hx; subst hx; exact hl _ (by simp)
theorem putR_two {r : Int} (h : sv r) : (r < 128 ∧ Md.putR r = [Md.byteN r.toNat]) ∨ (128 ≤ r ∧ ∀ b ∈ Md.putR r, 128 ≤ b.toNat) := by
  obtain ⟨h0, h1, h2⟩ := h
  obtain ⟨n, rfl⟩ := Int.eq_ofNat_of_zero_le h0
  rw [putR_nat (by omega)]
  split
  · left; exact ⟨by omega, rfl⟩
  · right
    refine ⟨by omega, fun b hb => ?_⟩
    split at hb
    · simp only [List.mem_cons, List.not_mem_nil, or_false] at hb
      rcases hb with rfl | rfl <;> rw [byteN_nat (by omega)] <;> omega
    · split at hb
      · simp only [List.mem_cons, List.not_mem_nil, or_false] at hb
        rcases hb with rfl | rfl | rfl <;> rw [byteN_nat (by omega)] <;> omega
      · simp only [List.mem_cons, List.not_mem_nil, or_false] at hb
        rcases hb with rfl | rfl | rfl | rfl <;> rw [byteN_nat (by omega)] <;> omega
theorem enc_last (d : List Int) (h : ∀ r ∈ d, sv r) : (Md.encode d).getLast? = some 60 ↔ d.getLast? = some 60 := by
  rcases List.eq_nil_or_concat d with rfl | ⟨d, r, rfl⟩
  · simp [show Md.encode [] = [] from rfl]
  · rw [List.concat_eq_append] at *
    have hs := h r (by simp)
    rw [enc_app, enc_one]
    rcases putR_two hs with ⟨h1, h2⟩ | ⟨h1, h2⟩
    · rw [h2, List.getLast?_concat, List.getLast?_concat]
      have h0 := hs.1
      have hb := byteN_nat (n := r.toNat) (by omega)
      constructor
      · intro e
        have e : Md.byteN r.toNat = 60 := Option.some.inj e
        rw [e] at hb
        have : (60 : UInt8).toNat = 60 := rfl
        rw [this] at hb
        congr 1; omega
      · intro e
        have e := Option.some.inj e
        subst e; rfl
    · rw [List.getLast?_concat, List.getLast?_append]
      have hn := putR_ne r
      constructor
      · intro e
        cases hl : (Md.putR r).getLast? with
        | none => rw [List.getLast?_eq_none_iff] at hl; exact absurd hl hn
        | some c =>
          rw [hl] at e
          have e := Option.some.inj e
          have := h2 c (List.mem_of_getLast? hl)
          rw [e] at this
          have h60 : (60 : UInt8).toNat = 60 := rfl
          omega
      · intro e
        have := Option.some.inj e
        omega
theorem rawG_high : ∀ (bs d : Md.Str), (∀ c ∈ bs, 128 ≤ c.toNat) → bs.foldl rawG d = d ++ bs
  | [], d, _ => by simp
  | c :: bs, d, h => by
    have h1 := h c (by simp)
    rw [List.foldl_cons, rawG_high bs _ (fun x hx => h x (by simp [hx])), rawG, if_neg (by omega)]; simp
theorem rawG_one {d : List Int} {r : Int} (hd : ∀ r ∈ d, sv r) (hr : sv r) : (Md.putR r).foldl rawG (Md.encode d) = Md.encode (rawGi d r) := by
  rcases putR_two hr with ⟨h1, h2⟩ | ⟨h1, h2⟩
  · have h0 := hr.1
    have hb := byteN_nat (n := r.toNat) (by omega)
    rw [h2, List.foldl_cons, List.foldl_nil, rawG, rawGi, hb]
    have hl := enc_last d hd
    by_cases hc : r = 38 ∨ (d.getLast? = some 60 ∧ (r = 47 ∨ r = 33))
    · rw [if_pos hc, if_pos]
      rcases hc with hc | hc
      · exact .inl (by omega)
      · exact .inr ⟨hl.2 hc.1, by omega⟩
    · rw [if_neg hc, if_neg]
      · rw [enc_app, enc_one, h2]
      · rintro (h | h)
        · exact hc (.inl (by omega))
        · exact hc (.inr ⟨hl.1 h.1, by omega⟩)
  · rw [rawG_high _ _ h2, rawGi, if_neg (by omega), enc_app, enc_one]
theorem rawG_all : ∀ (l d : List Int), (∀ r ∈ d, sv r) → (∀ r ∈ l, sv r) → (Md.encode l).foldl rawG (Md.encode d) = Md.encode (l.foldl rawGi d)
  | [], d, _, _ => rfl
  | r :: l, d, hd, hl => by
    rw [enc_cons, List.foldl_append, rawG_one hd (hl r (by simp)), List.foldl_cons]
    refine rawG_all l _ ?_ (fun x hx => hl x (by simp [hx]))
    have := rawGi_sub [r] d sv hd (fun x hx => by simp only [List.mem_singleton] at hx; subst hx; exact hl _ (by simp))
    simpa using this
/-- What is left of a text. -/
theorem rawD_eq (s : Md.Str) : ∃ o : List Int, rawD s = Md.encode o ∧ rawOk o ∧ ∀ r ∈ o, sv r ∧ r ≠ 13 ∧ r ≠ 65279 := by
  have h := clean_ok s
  refine ⟨(Md.cleanR (Md.decode s)).foldl rawGi [], ?_, rawGi_ok _ _ trivial (fun r hr => ?_), rawGi_sub _ _ _ (fun r hr => by cases hr) (fun r hr => (h r hr).1)⟩
  · exact rawG_all _ [] (fun r hr => by cases hr) (fun r hr => (h r hr).1.1)
  · have := h r hr
    have h0 := this.1.1.1
    have := this.2
    omega
/-- A < that begins no end. -/
theorem Rd.lt (hw : w = 1 ∨ w = 2 ∨ w = 3) (h33 : r.headD (-1) ≠ 33) (hc : Md.closes n r = 0) (h : Rd w n b r (Md.app A [60]) B) : Rd w n b (60 :: r) A B := by
  rcases hw with rfl | rfl | rfl
  · exact Rd.shut (.inl rfl) (fun acc x hx hS => At.noClose hS hc) h
  · exact Rd.shut (.inr rfl) (fun acc x hx hS => At.noClose hS hc) h
  · refine Rd.scr (fun acc x hx hS => ?_) h
    unfold Md.Lx.script
    rw [if_pos]
    · exact At.noClose hS hc
    · rw [hS.rest]
      cases r with
      | nil => rfl
      | cons a r => 
        have : a ≠ 33 := h33
        show (a == 33 && _) = false
        simp [this]
theorem closes_no {l : List Int} (h : l.headD (-1) ≠ 47) : Md.closes n l = 0 := by
  unfold Md.closes
  exact if_pos (.inl (by
    cases l with
    | nil => show (-1 : Int) ≠ 47; decide
    | cons a l => exact h))
/-- The element's own end. -/
theorem Rd.ltClose {T : List Int} (hw : w = 1 ∨ w = 2 ∨ w = 3) (hn : lowName n) (hT : Md.over (T.headD (-1)) = true) (hq : (Md.attrsGo T []).2.2.1 = true) (h : Rd 0 n b (T.drop (Md.attrsGo T []).2.2.2) (Md.joinStep A (endTok n)) B) : Rd w n b (60 :: (47 :: (Md.asc n ++ T))) A B := by
  rcases hw with rfl | rfl | rfl
  · exact Rd.shut (.inl rfl) (fun acc x hx hS => At.close hn hT hq hS) h
  · exact Rd.shut (.inr rfl) (fun acc x hx hS => At.close hn hT hq hS) h
  · refine Rd.scr (fun acc x hx hS => ?_) h
    unfold Md.Lx.script
    rw [if_pos (by rw [hS.rest]; rfl)]
    exact At.close hn hT hq hS
theorem Rd.raw {T : List Int} (hw : w = 1 ∨ w = 2 ∨ w = 3) (hT : T.headD (-1) = 60) : ∀ (o : List Int) {A : List Md.Tok}, rawOk o → Rd w n b T (Md.app A (Md.encode o)) B → Rd w n b (o ++ T) A B
  | [], A, _, h => by have e : Md.encode [] = [] := rfl; rw [e, Md.app_nil] at h; exact h
  | r :: o, A, ho, h => by
    have h' : Rd w n b T (Md.app (Md.app A (Md.putR r)) (Md.encode o)) B := by rw [Md.app_app, ← enc_cons]; exact h
    have hrec := Rd.raw hw hT o ho.2 h'
    by_cases h60 : r = 60
    · subst h60
      have h1 := ho.1.2.2 rfl
      have hh : (o ++ T).headD (-1) = o.headD 60 := by
        cases o with
        | nil => exact hT
        | cons a o => rfl
      exact Rd.lt hw (by show (o ++ T).headD (-1) ≠ 33; rw [hh]; exact h1.2) (closes_no (by show (o ++ T).headD (-1) ≠ 47; rw [hh]; exact h1.1)) hrec
    · exact Rd.plain1 ⟨ho.1.2.1, h60, fun e => absurd e ho.1.1⟩ hrec
/-- A tag that begins. -/
def startTok (m : Md.Str) (al : List (Md.Str × Md.Str)) (self : Bool) : Md.Tok := { Md.Tok.zero with kind := 2, name := m, attrs := al, self := self }
theorem At.start {m : Md.Str} {T : List Int} (hm : lowName m) (hT : Md.over (T.headD (-1)) = true) (hq : (Md.attrsGo T []).2.2.1 = true) (h : Md.At acc x 0 n b (Md.asc m ++ T) A) : Md.At acc x.open_ 0 m b (T.drop (Md.attrsGo T []).2.2.2) (Md.joinStep A (startTok m (Md.attrsGo T []).1 (Md.attrsGo T []).2.1)) := by
  obtain ⟨c, m', rfl⟩ : ∃ c m', m = c :: m' := by cases m with
    | nil => exact absurd rfl hm.1
    | cons c m' => exact ⟨c, m', rfl⟩
  have hl := hm.2 c (by simp)
  have hp : x.pk 0 = (c.toNat : Int) := At.pk h 0
  have hlet : Md.letter (c.toNat : Int) = true := by simp [Md.letter]; omega
  have e : x.open_ = x.tag 2 := by
    unfold Md.Lx.open_
    rw [hp, if_neg (by omega), if_neg (by omega), if_pos hlet]
  rw [e]
  unfold Md.Lx.tag
  dsimp only
  rw [h.rest, nameOf_asc hm.2 hT, List.drop_left, if_pos hq, if_neg (by decide), if_neg (by decide), enc_name hm.2]
  have h1 := At.emit (At.adv h ((Md.asc (c :: m')).length + (Md.attrsGo T []).2.2.2)) (startTok (c :: m') (Md.attrsGo T []).1 (Md.attrsGo T []).2.1)
  have e3 : (startTok (c :: m') (Md.attrsGo T []).1 (Md.attrsGo T []).2.1).kind = 2 := rfl
  rw [if_pos e3, ← List.drop_drop, List.drop_left] at h1
  exact h1
theorem word9_low (s : Md.Str) : lowName (Md.word9 s) := by
  refine ⟨by unfold Md.word9; simp, fun c hc => ?_⟩
  unfold Md.word9 at hc
  rcases List.mem_cons.1 hc with rfl | hc
  · decide
  · obtain ⟨a, _, rfl⟩ := List.mem_map.1 hc
    unfold Md.wd
    rw [byteN_nat (by omega)]; omega
def rawTail : List Int := [32, 97, 61, 39, 62, 39, 62, 98, 60, 105, 62]
theorem rawTail_attrs : (Md.attrsGo rawTail []).2.2 = (true, 7) := by
  unfold rawTail
  rw [Md.attrsGo]
  rw [dif_pos (by decide)]
  dsimp only
  have hv : Md.valueGo 39 [62, 39, 62, 98, 60, 105, 62] [] = ([62], true, 2) := by
    rw [Md.valueGo]; simp only [Md.fixr]
    rw [if_neg (by decide), if_neg (by decide), if_neg (by decide), Md.valueGo, if_pos (by decide)]; rfl
  have ha : Md.attr1 [97, 61, 39, 62, 39, 62, 98, 60, 105, 62] = (([97], [62]), true, 5) := by
    unfold Md.attr1
    have hnm : Md.attrName [97, 61, 39, 62, 39, 62, 98, 60, 105, 62] = [97] := by decide
    rw [hnm]
    have hval : Md.value [39, 62, 39, 62, 98, 60, 105, 62] = ([62], true, 3) := by
      unfold Md.value
      show (if (39 : Int) = 62 then _ else if (39 : Int) = 34 ∨ (39 : Int) = 39 then (Md.encode (Md.valueGo 39 [62, 39, 62, 98, 60, 105, 62] []).1, (Md.valueGo 39 [62, 39, 62, 98, 60, 105, 62] []).2.1, 0 + 1 + (Md.valueGo 39 [62, 39, 62, 98, 60, 105, 62] []).2.2) else _) = _
      rw [if_neg (by decide), if_pos (by decide), hv]; rfl
    dsimp only
    have e1 : List.getD [97, 61, 39, 62, 39, 62, 98, 60, 105, 62] ([(97 : Int)].length + Md.blanksN (List.drop [(97 : Int)].length [97, 61, 39, 62, 39, 62, 98, 60, 105, 62])) (-1) = (61 : Int) := by decide
    have e2 : List.drop ([(97 : Int)].length + Md.blanksN (List.drop [(97 : Int)].length [97, 61, 39, 62, 39, 62, 98, 60, 105, 62]) + 1) [97, 61, 39, 62, 39, 62, 98, 60, 105, 62] = [(39 : Int), 62, 39, 62, 98, 60, 105, 62] := by decide
    rw [if_pos e1, e2, hval]; rfl
  have hg : Md.attrsGo [97, 61, 39, 62, 39, 62, 98, 60, 105, 62] [] = (Md.putAttr [] ([97], [62]), false, true, 6) := by
    rw [Md.attrsGo]
    rw [dif_neg (by decide), dif_neg (by decide), dif_neg (by decide), ha, if_pos rfl]
    dsimp only
    rw [show List.drop 5 [(97 : Int), 61, 39, 62, 39, 62, 98, 60, 105, 62] = [62, 98, 60, 105, 62] from rfl, attrs_gt]
  rw [hg]
def rawAll (d w : Md.Str) : Md.Str := d ++ [60, 47, 120, 62, 60, 47] ++ w ++ [120, 62, 60, 47] ++ w ++ [32, 97, 61, 39, 62, 39, 62, 98, 60, 105, 62]
theorem raws_pure {s nm : Md.Str} {w : Int} (hw : w = 1 ∨ w = 2 ∨ w = 3) (hN : NI { Md.Lx.new (rawAll (rawD s) (Md.word9 nm)) with way := w, last := Md.word9 nm }) :
    Md.join ({ Md.Lx.new (rawAll (rawD s) (Md.word9 nm)) with way := w, last := Md.word9 nm } : Md.Lx).toks = [Md.tx (rawD s ++ [60, 47, 120, 62, 60, 47] ++ Md.word9 nm ++ [120, 62]), endTok (Md.word9 nm), Md.tx [98], startTok [105] [] false] := by
  obtain ⟨o, ho, hok, hos⟩ := rawD_eq s
  have hl := word9_low nm
  have hh : ∃ m, Md.word9 nm = 119 :: m := ⟨_, rfl⟩
  generalize Md.word9 nm = W at *
  have hWe : Md.encode (Md.asc W) = W := enc_asc (fun c hc => by have := hl.2 c hc; omega)
  have hWr : Md.runes W = Md.asc W := runes_asc (fun c hc => by have := hl.2 c hc; omega)
  refine Rd.start (w := w) (nm := W) (room := false) hN ?_
  have e0 : rawAll (rawD s) W = Md.encode (o ++ 60 :: (47 :: 120 :: 62 :: (60 :: (47 :: (Md.asc W ++ 120 :: 62 :: (60 :: (47 :: (Md.asc W ++ rawTail)))))))) := by
    unfold rawAll
    rw [ho, enc_app]
    have e1 : Md.encode (60 :: (47 :: 120 :: 62 :: (60 :: (47 :: (Md.asc W ++ 120 :: 62 :: (60 :: (47 :: (Md.asc W ++ rawTail)))))))) = [60, 47, 120, 62, 60, 47] ++ (W ++ ([120, 62, 60, 47] ++ (W ++ [32, 97, 61, 39, 62, 39, 62, 98, 60, 105, 62]))) := by
      have e2 : (60 :: (47 :: 120 :: 62 :: (60 :: (47 :: (Md.asc W ++ 120 :: 62 :: (60 :: (47 :: (Md.asc W ++ rawTail)))))))) = [60, 47, 120, 62, 60, 47] ++ (Md.asc W ++ ([120, 62, 60, 47] ++ (Md.asc W ++ rawTail))) := rfl
      rw [e2, enc_app, enc_app (Md.asc W), enc_app [120, 62, 60, 47], enc_app (Md.asc W), hWe]; rfl
    rw [e1]; simp only [List.append_assoc]
  have hd : Md.decode (rawAll (rawD s) W) = o ++ 60 :: (47 :: 120 :: 62 :: (60 :: (47 :: (Md.asc W ++ 120 :: 62 :: (60 :: (47 :: (Md.asc W ++ rawTail))))))) := by
    rw [e0]
    refine decode_encode fun r hr => ?_
    have hWs : ∀ r ∈ Md.asc W, sv r ∧ r ≠ 13 ∧ r ≠ 65279 := fun r hr => by
      obtain ⟨c, hc, rfl⟩ := List.mem_map.1 hr
      have := hl.2 c hc
      exact ⟨⟨by omega, by omega, by omega⟩, by omega, by omega⟩
    have hlow : ∀ r : Int, 0 ≤ r → r < 128 → r ≠ 13 → sv r ∧ r ≠ 13 ∧ r ≠ 65279 := fun r h1 h2 h3 => ⟨⟨h1, by omega, by omega⟩, h3, by omega⟩
    have e2 : (60 :: (47 :: 120 :: 62 :: (60 :: (47 :: (Md.asc W ++ 120 :: 62 :: (60 :: (47 :: (Md.asc W ++ rawTail)))))))) = [60, 47, 120, 62, 60, 47] ++ (Md.asc W ++ ([120, 62, 60, 47] ++ (Md.asc W ++ rawTail))) := rfl
    rw [e2] at hr
    simp only [List.mem_append] at hr
    rcases hr with hr | hr | hr | hr | hr | hr
    · exact hos r hr
    · have : 0 ≤ r ∧ r < 128 ∧ r ≠ 13 := by revert hr; revert r; decide
      exact hlow r this.1 this.2.1 this.2.2
    · exact hWs r hr
    · have : 0 ≤ r ∧ r < 128 ∧ r ≠ 13 := by revert hr; revert r; decide
      exact hlow r this.1 this.2.1 this.2.2
    · exact hWs r hr
    · have : 0 ≤ r ∧ r < 128 ∧ r ≠ 13 := by revert hr; revert r; decide
      exact hlow r this.1 this.2.1 this.2.2
  rw [hd]
  obtain ⟨m, hm⟩ := hh
  have hgo : ∀ l, Md.goesOn (Md.runes W) (120 :: l) = false := fun l => by
    rw [hWr, hm]
    show (Md.small 120 == 119 && _) = false
    rw [show Md.small 120 = 120 from rfl]; rfl
  refine Rd.raw hw rfl o hok ?_
  refine Rd.lt hw (by show (47 : Int) ≠ 33; decide) ?_ ?_
  · unfold Md.closes
    split
    · rfl
    · rw [if_neg]
      intro h
      rw [List.tail_cons, hgo] at h
      exact absurd h.1 (by decide)
  have hWo : ∀ c ∈ Md.asc W, okSign w c := asc_plain fun c hc => by have := hl.2 c hc; exact ⟨by omega, by omega, fun h => by omega⟩
  have hlow : ∀ c : Int, 0 < c → c ≠ 60 → c ≠ 38 → okSign w c := fun c h1 h2 h3 => ⟨h1, h2, fun h => absurd h h3⟩
  refine Rd.plain1 (hlow _ (by decide) (by decide) (by decide)) (Rd.plain1 (hlow _ (by decide) (by decide) (by decide)) (Rd.plain1 (hlow _ (by decide) (by decide) (by decide)) ?_))
  refine Rd.lt hw (by show (47 : Int) ≠ 33; decide) ?_ ?_
  · unfold Md.closes
    split
    · rfl
    · rw [if_neg]
      intro h
      have h2 := h.2
      have hlen : (Md.runes W).length = (Md.asc W).length := by rw [hWr]
      rw [hlen, Nat.add_comm, List.getD_cons_succ, List.getD_eq_getElem?_getD, List.getElem?_append_right (Nat.le_refl _), Nat.sub_self] at h2
      exact absurd h2 (by show ¬Md.over 120 = true; decide)
  refine Rd.plain1 (hlow _ (by decide) (by decide) (by decide)) (Rd.plain _ hWo (Rd.plain1 (hlow _ (by decide) (by decide) (by decide)) (Rd.plain1 (hlow _ (by decide) (by decide) (by decide)) ?_)))
  refine Rd.ltClose hw hl (by decide) (by rw [rawTail_attrs]) ?_
  rw [rawTail_attrs]
  show Rd 0 W false (98 :: 60 :: (Md.asc [105] ++ [62])) _ _
  refine Rd.plain1 ⟨by decide, by decide, fun h => by omega⟩ ?_
  refine Rd.tag (fun acc x hx hS => At.start (m := [105]) (T := [62]) ⟨by decide, by decide⟩ (by decide) (by rw [attrs_gt]) hS) ?_
  rw [attrs_gt]
  refine Rd.conv Rd.nil rfl rfl ?_
  rw [Md.app_app, Md.app_app, Md.app_app, Md.app_app, Md.app_app, Md.app_app, Md.app_app, Md.app_app, Md.app_app, Md.app_emp, if_neg (by simp)]
  have e3 : Md.encode o ++ ([60] ++ (Md.putR 47 ++ (Md.putR 120 ++ (Md.putR 62 ++ ([60] ++ (Md.putR 47 ++ (Md.encode (Md.asc W) ++ (Md.putR 120 ++ Md.putR 62)))))))) = rawD s ++ [60, 47, 120, 62, 60, 47] ++ W ++ [120, 62] := by
    rw [hWe, ho]; simp only [List.append_assoc]; rfl
  rw [e3]; rfl
end Go.Proofs.YticnenofiibpgaaDoor.Code
/- A doctype with whatever name and texts, in whichever quotes. -/
namespace Go.Proofs.YticnenofiibpgaaDoor.Code
open Go.Dm
set_option linter.unusedSimpArgs false
set_option linter.unusedVariables false
variable {acc : List Md.Tok} {x : Md.Lx} {w : Int} {n : Md.Str} {b : Bool} {r l : List Int} {A B : List Md.Tok} {t : Md.Tok}
def docOk (c : UInt8) : Bool := decide (32 ≤ c.toNat) && decide (c.toNat < 127) && decide (c.toNat ≠ 62) && decide (c.toNat ≠ 34) && decide (c.toNat ≠ 39)
theorem docOk_iff {c : UInt8} : docOk c = true ↔ 32 ≤ c.toNat ∧ c.toNat < 127 ∧ c.toNat ≠ 62 ∧ c.toNat ≠ 34 ∧ c.toNat ≠ 39 := by simp [docOk, and_assoc]
theorem quoted_go {q : Int} {l : List Int} : ∀ (d : List Int), (∀ r ∈ d, r ≠ q ∧ r ≠ 62 ∧ r ≠ 0) → Md.quotedGo q (d ++ q :: l) = (d, true, d.length + 1)
  | [], _ => by simp [Md.quotedGo]
  | r :: d, h => by
    have h1 := h r (by simp)
    have := @quoted_go q l d (fun x hx => h x (by simp [hx]))
    rw [List.cons_append, Md.quotedGo, if_neg h1.1, if_neg h1.2.1, this]
    simp only [List.length_cons, Prod.mk.injEq, and_true, Md.fixr, if_neg h1.2.2, true_and]
theorem quoted_asc {q : UInt8} {p : Md.Str} (hq : q = 34 ∨ q = 39) (hp : ∀ c ∈ p, docOk c = true) : Md.quoted ((q.toNat : Int) :: (Md.asc p ++ (q.toNat : Int) :: l)) = (p, true, true, p.length + 2) := by
  have hA : ∀ r ∈ Md.asc p, r ≠ (q.toNat : Int) ∧ r ≠ 62 ∧ r ≠ 0 := fun r hr => by
    obtain ⟨c, hc, rfl⟩ := List.mem_map.1 hr
    have := docOk_iff.1 (hp c hc)
    have h34 : (34 : UInt8).toNat = 34 := rfl
    have h39 : (39 : UInt8).toNat = 39 := rfl
    rcases hq with rfl | rfl <;> omega
  have hE : Md.encode (Md.asc p) = p := enc_asc (fun c hc => by have := docOk_iff.1 (hp c hc); omega)
  have hlen : (Md.asc p).length = p.length := List.length_map ..
  unfold Md.quoted
  dsimp only [List.headD_cons, List.tail_cons]
  rw [if_pos (by rcases hq with rfl | rfl; exact .inl rfl; exact .inr rfl), quoted_go _ hA, hE, hlen]
theorem At.blanks (h : Md.At acc x w n b r A) : Md.At acc x.blanks w n b (r.drop (Md.blanksN r)) A := by
  unfold Md.Lx.blanks; rw [h.rest]; exact At.adv h _
theorem At.skip (h : Md.At acc x w n b r A) : Md.At acc x.skip w n b (r.drop (Md.skipN r)) A := by
  unfold Md.Lx.skip; rw [h.rest]; exact At.adv h _
theorem At.emit5 (h : Md.At acc x w n b r A) (t : Md.Tok) (ht : t.kind = 5) : Md.At acc (x.emit t) w n b r (A ++ [t]) := by
  have := At.emit h t
  rw [if_neg (by rw [ht]; decide), Md.joinStep, ] at this
  have e : Md.joinStep A t = A ++ [t] := by
    unfold Md.joinStep
    split
    · rw [if_neg (by rw [ht]; omega), if_neg (by rw [ht]; omega)]
    · rw [if_neg (by rw [ht]; omega)]
  have h2 := At.emit h t
  rw [if_neg (by rw [ht]; decide), e] at h2
  exact h2
/-- Behind the second text: the end, or no end. -/
def qk (quirk : Bool) : List Int := if quirk then [] else [62]
theorem At.sys {q : UInt8} {y : Md.Str} {quirk : Bool} (hq : q = 34 ∨ q = 39) (hy : ∀ c ∈ y, docOk c = true) (ht : t.kind = 5) (hl : l.drop (Md.blanksN l) = qk quirk) (h : Md.At acc x w n b ((q.toNat : Int) :: (Md.asc y ++ (q.toNat : Int) :: l)) A) :
    Md.At acc (x.doctypeSys t) w n b [] (A ++ [if quirk then { t with sys := y, hasSys := true, quirks := true } else { t with sys := y, hasSys := true }]) := by
  have hlen : (Md.asc y).length = y.length := List.length_map ..
  have hdr : List.drop (y.length + 2) ((q.toNat : Int) :: (Md.asc y ++ (q.toNat : Int) :: l)) = l := by
    show List.drop (y.length + 1) (Md.asc y ++ (q.toNat : Int) :: l) = l
    rw [← List.drop_drop, ← hlen, List.drop_left]; rfl
  have h1 := At.adv h (y.length + 2)
  rw [hdr] at h1
  have h2 := At.blanks h1
  rw [hl] at h2
  unfold Md.Lx.doctypeSys
  rw [h.rest, quoted_asc hq hy]
  dsimp only
  rw [if_neg (by decide)]
  cases quirk with
  | true =>
    have e0 : (x.adv (y.length + 2)).blanks.pk 0 = -1 := At.pk h2 0
    rw [if_pos e0]
    exact At.emit5 h2 { t with sys := y, hasSys := true, quirks := true } ht
  | false =>
    have e0 : (x.adv (y.length + 2)).blanks.pk 0 = 62 := At.pk h2 0
    rw [if_neg (by rw [e0]; decide)]
    have h3 := At.emit5 (At.skip h2) { t with sys := y, hasSys := true } ht
    exact h3
def docP : Md.Str := [60, 33, 68, 111, 99, 84, 121, 112, 101, 32]
def docS (k : Nat) (q : Md.Str) (w p y : Md.Str) : Md.Str := if k = 1 then docP ++ w ++ [32, 80, 85, 66, 76, 73, 67, 32] ++ q ++ p ++ q else if k = 2 then docP ++ w ++ [32, 112, 117, 98, 108, 105, 99] ++ q ++ p ++ q ++ [32] ++ q ++ y ++ q else if k = 3 then docP ++ w ++ [10, 115, 121, 115, 116, 101, 109, 32] ++ q ++ y ++ q ++ [32] else docP ++ w
def docT (k : Nat) (w p y : Md.Str) (quirk : Bool) : Md.Tok := ⟨5, w, [], false, [], if k = 1 ∨ k = 2 then p else [], if k = 2 ∨ k = 3 then y else [], decide (k = 1 ∨ k = 2), decide (k = 2 ∨ k = 3), quirk⟩
def qkS (quirk : Bool) : Md.Str := if quirk then [] else [62]
theorem docName {m : Md.Str} {M : List Int} (hm : lowName m) (hM : M = [] ∨ Md.blank (M.headD (-1)) = true ∨ M.headD (-1) = 62) : Md.doctypeName (Md.asc m ++ M) = Md.asc m := by
  obtain ⟨hne, h⟩ := hm
  clear hne
  induction m with
  | nil =>
    cases M with
    | nil => rfl
    | cons a M =>
      show List.takeWhile _ (a :: M) = []
      rw [List.takeWhile_cons, if_neg]
      rcases hM with hM | hM | hM
      · cases hM
      · have hM : Md.blank a = true := hM
        simp [hM]
      · have hM : a = 62 := hM
        simp [hM]
  | cons c m ih =>
    have h1 := h c (by simp)
    have := ih (fun x hx => h x (by simp [hx]))
    unfold Md.doctypeName at this
    show List.takeWhile _ ((c.toNat : Int) :: (Md.asc m ++ M)) = _
    rw [List.takeWhile_cons, if_pos, this]; rfl
    show (!(Md.blank (c.toNat : Int) || (c.toNat : Int) == 62)) = true
    simp [Md.blank]; omega
theorem blanks_low {c : UInt8} {l : List Int} (h : 97 ≤ c.toNat) : Md.blanksN ((c.toNat : Int) :: l) = 0 := by
  unfold Md.blanksN
  rw [List.takeWhile_cons, if_neg]; rfl
  simp [Md.blank]; omega
/-- Up to a doctype's name, and the blanks behind it. -/
theorem At.doctype {m : Md.Str} {M : List Int} (hm : lowName m) (hM : M = [] ∨ Md.blank (M.headD (-1)) = true ∨ M.headD (-1) = 62) (h : Md.At acc x w n b (33 :: 68 :: 111 :: 99 :: 84 :: 121 :: 112 :: 101 :: 32 :: (Md.asc m ++ M)) A) :
    ∃ z : Md.Lx, x.open_ = z.doctypeRest { Md.dtok with name := m } ∧ Md.At acc z w n b (M.drop (Md.blanksN M)) A := by
  obtain ⟨c, m', rfl⟩ : ∃ c m', m = c :: m' := by cases m with
    | nil => exact absurd rfl hm.1
    | cons c m' => exact ⟨c, m', rfl⟩
  have hl := hm.2 c (by simp)
  have h1 := At.adv h 1
  have h8 := At.adv h1 7
  have hb := At.blanks h8
  have hb1 : Md.blanksN (32 :: (Md.asc (c :: m') ++ M)) = 1 := by
    show (List.takeWhile Md.blank (32 :: (c.toNat : Int) :: (Md.asc m' ++ M))).length = 1
    rw [List.takeWhile_cons, if_pos (by rfl)]
    have := blanks_low (l := Md.asc m' ++ M) hl.1
    unfold Md.blanksN at this
    rw [List.length_cons, this]
  have e8 : List.drop (Md.blanksN (32 :: (Md.asc (c :: m') ++ M))) (32 :: (Md.asc (c :: m') ++ M)) = Md.asc (c :: m') ++ M := by rw [hb1]; rfl
  have hb : Md.At acc (((x.adv 1).adv 7).blanks) w n b (Md.asc (c :: m') ++ M) A := by
    have := hb
    show Md.At acc _ w n b _ A
    rw [← e8]; exact this
  have hn := At.blanks (At.adv hb (Md.asc (c :: m')).length)
  rw [List.drop_left] at hn
  refine ⟨_, ?_, hn⟩
  have hp0 : x.pk 0 = 33 := At.pk h 0
  have hpb : (((x.adv 1).adv 7).blanks).pk 0 = (c.toNat : Int) := At.pk hb 0
  rw [Md.Lx.open_, if_pos hp0, Md.Lx.declare, h1.rest]
  have hs : Md.stands [45, 45] (List.drop 1 (33 :: 68 :: 111 :: 99 :: 84 :: 121 :: 112 :: 101 :: 32 :: (Md.asc (c :: m') ++ M))) = false := rfl
  rw [if_neg (by rw [hs]; decide), if_pos (by rfl), Md.Lx.doctype]
  dsimp only
  rw [hpb, if_neg (by omega), if_neg (by omega), hb.rest, docName hm hM, enc_name hm.2]
theorem docs_pure {k : Nat} {q : UInt8} {m p y : Md.Str} {quirk : Bool} (hk : k ≤ 3) (hq : q = 34 ∨ q = 39) (hm : lowName m) (hp : ∀ c ∈ p, docOk c = true) (hy : ∀ c ∈ y, docOk c = true) (hl : m.length ≤ 1000 ∧ p.length ≤ 1000 ∧ y.length ≤ 1000) :
    Md.all (docS k [q] m p y ++ qkS quirk) = [docT k m p y quirk] := by
  have hqn : q.toNat = 34 ∨ q.toNat = 39 := by rcases hq with rfl | rfl; exact .inl rfl; exact .inr rfl
  have hlow : ∀ c ∈ docS k [q] m p y ++ qkS quirk, c.toNat < 128 ∧ c.toNat ≠ 13 := by
    have hw : ∀ c ∈ m, c.toNat < 128 ∧ c.toNat ≠ 13 := fun c hc => by have := hm.2 c hc; omega
    have hp' : ∀ c ∈ p, c.toNat < 128 ∧ c.toNat ≠ 13 := fun c hc => by have := docOk_iff.1 (hp c hc); omega
    have hy' : ∀ c ∈ y, c.toNat < 128 ∧ c.toNat ≠ 13 := fun c hc => by have := docOk_iff.1 (hy c hc); omega
    have hq' : ∀ c ∈ [q], c.toNat < 128 ∧ c.toNat ≠ 13 := fun c hc => by simp only [List.mem_singleton] at hc; subst hc; omega
    have hap : ∀ a b : Md.Str, (∀ c ∈ a, c.toNat < 128 ∧ c.toNat ≠ 13) → (∀ c ∈ b, c.toNat < 128 ∧ c.toNat ≠ 13) → ∀ c ∈ a ++ b, c.toNat < 128 ∧ c.toNat ≠ 13 := fun a b ha hb c hc => (List.mem_append.1 hc).elim (ha c) (hb c)
    refine hap _ _ ?_ (by cases quirk <;> decide)
    unfold docS
    repeat' split
    all_goals repeat' first | exact hw | exact hp' | exact hy' | exact hq' | decide | apply hap
  have hlen : (docS k [q] m p y ++ qkS quirk).length ≤ 1000000000 := by
    rw [List.length_append]
    have : (qkS quirk).length ≤ 1 := by cases quirk <;> decide
    have : (docS k [q] m p y).length ≤ 100000 := by
      unfold docS docP
      repeat' split
      all_goals (simp only [List.length_append, List.length_cons, List.length_nil]; omega)
    omega
  have hd := decode_len (docS k [q] m p y ++ qkS quirk)
  have hN : NI { Md.Lx.new (docS k [q] m p y ++ qkS quirk) with way := 0, last := [], room := false } := ⟨Nat.le_trans hd hlen, fun r hr => (decode_sv _ r hr).1.1, Nat.zero_le _, fun _ => Nat.zero_le _, Nat.zero_le _, by show (0 : Nat) ≤ 100; omega, by show (0 : Nat) ≤ _; omega⟩
  refine Rd.start (w := 0) (nm := []) (room := false) hN ?_
  rw [dec_asc hlow]
  have hqa : Md.asc [q] = [(q.toNat : Int)] := rfl
  have hqk : Md.asc (qkS quirk) = qk quirk := by cases quirk <;> rfl
  -- what stands behind the name
  obtain ⟨M, hM, hMh, hMr⟩ : ∃ M : List Int, Md.asc (docS k [q] m p y ++ qkS quirk) = 60 :: 33 :: 68 :: 111 :: 99 :: 84 :: 121 :: 112 :: 101 :: 32 :: (Md.asc m ++ M) ∧ (M = [] ∨ Md.blank (M.headD (-1)) = true ∨ M.headD (-1) = 62) ∧
      ∀ acc z n b, Md.At acc z 0 n b (M.drop (Md.blanksN M)) [] → Md.At acc (z.doctypeRest { Md.dtok with name := m }) 0 n b [] [docT k m p y quirk] := by
    have hk4 : k = 0 ∨ k = 1 ∨ k = 2 ∨ k = 3 := by omega
    rcases hk4 with rfl | rfl | rfl | rfl
    · refine ⟨qk quirk, ?_, ?_, fun acc z n b h => ?_⟩
      · rw [asc_app, hqk]
        show Md.asc (docP ++ m) ++ _ = _
        rw [asc_app]; rfl
      · cases quirk
        · exact .inr (.inr rfl)
        · exact .inl rfl
      · cases quirk with
        | false =>
          have h : Md.At acc z 0 n b [62] [] := h
          unfold Md.Lx.doctypeRest
          have e0 : z.pk 0 = 62 := At.pk h 0
          rw [if_pos e0]
          exact At.emit5 (At.adv h 1) { Md.dtok with name := m } rfl
        | true =>
          have h : Md.At acc z 0 n b [] [] := h
          unfold Md.Lx.doctypeRest
          have e0 : z.pk 0 = -1 := At.pk h 0
          rw [if_neg (by rw [e0]; decide), if_pos e0]
          exact At.emit5 h { ({ Md.dtok with name := m } : Md.Tok) with quirks := true } rfl
    · refine ⟨32 :: 80 :: 85 :: 66 :: 76 :: 73 :: 67 :: 32 :: (q.toNat : Int) :: (Md.asc p ++ (q.toNat : Int) :: qk quirk), ?_, .inr (.inl rfl), fun acc z n b h => ?_⟩
      · rw [asc_app, hqk]
        show Md.asc (docP ++ m ++ [32, 80, 85, 66, 76, 73, 67, 32] ++ [q] ++ p ++ [q]) ++ _ = _
        rw [asc_app, asc_app, asc_app, asc_app, asc_app]
        simp only [List.append_assoc]; rfl
      · have h : Md.At acc z 0 n b (80 :: 85 :: 66 :: 76 :: 73 :: 67 :: 32 :: (q.toNat : Int) :: (Md.asc p ++ (q.toNat : Int) :: qk quirk)) [] := h
        have hb1 : Md.blanksN (32 :: (q.toNat : Int) :: (Md.asc p ++ (q.toNat : Int) :: qk quirk)) = 1 := by
          unfold Md.blanksN
          rw [List.takeWhile_cons, if_pos (by rfl), List.takeWhile_cons, if_neg (by simp [Md.blank]; omega)]; rfl
        have h6 := At.blanks (At.adv h 6)
        have h6 : Md.At acc ((z.adv 6).blanks) 0 n b ((q.toNat : Int) :: (Md.asc p ++ (q.toNat : Int) :: qk quirk)) [] := by
          have e : List.drop (Md.blanksN (32 :: (q.toNat : Int) :: (Md.asc p ++ (q.toNat : Int) :: qk quirk))) (32 :: (q.toNat : Int) :: (Md.asc p ++ (q.toNat : Int) :: qk quirk)) = (q.toNat : Int) :: (Md.asc p ++ (q.toNat : Int) :: qk quirk) := by rw [hb1]; rfl
          rw [← e]; exact h6
        have hlp : (Md.asc p).length = p.length := List.length_map ..
        have hdr : List.drop (p.length + 2) ((q.toNat : Int) :: (Md.asc p ++ (q.toNat : Int) :: qk quirk)) = qk quirk := by
          show List.drop (p.length + 1) (Md.asc p ++ (q.toNat : Int) :: qk quirk) = _
          rw [← List.drop_drop, ← hlp, List.drop_left]; rfl
        have h7 := At.adv h6 (p.length + 2)
        rw [hdr] at h7
        have h8 := At.blanks h7
        have h8 : Md.At acc (((z.adv 6).blanks.adv (p.length + 2)).blanks) 0 n b (qk quirk) [] := by
          cases quirk <;> exact h8
        unfold Md.Lx.doctypeRest
        have e0 : z.pk 0 = 80 := At.pk h 0
        rw [if_neg (by rw [e0]; decide), if_neg (by rw [e0]; decide), h.rest, if_pos (by rfl)]
        unfold Md.Lx.doctypePub
        rw [h6.rest, quoted_asc hq hp]
        dsimp only
        rw [if_neg (by decide)]
        cases quirk with
        | false =>
          have e8 : (((z.adv 6).blanks.adv (p.length + 2)).blanks).pk 0 = 62 := At.pk h8 0
          rw [if_pos e8]
          exact At.emit5 (At.adv h8 1) { ({ Md.dtok with name := m } : Md.Tok) with pub := p, hasPub := true } rfl
        | true =>
          have e8 : (((z.adv 6).blanks.adv (p.length + 2)).blanks).pk 0 = -1 := At.pk h8 0
          rw [if_neg (by rw [e8]; decide)]
          unfold Md.Lx.doctypeSys
          rw [h8.rest]
          exact At.emit5 (At.adv h8 0) { ({ ({ ({ Md.dtok with name := m } : Md.Tok) with pub := p, hasPub := true } : Md.Tok) with sys := [], hasSys := false } : Md.Tok) with quirks := true } rfl
    · refine ⟨32 :: 112 :: 117 :: 98 :: 108 :: 105 :: 99 :: (q.toNat : Int) :: (Md.asc p ++ (q.toNat : Int) :: (32 :: (q.toNat : Int) :: (Md.asc y ++ (q.toNat : Int) :: qk quirk))), ?_, .inr (.inl rfl), fun acc z n b h => ?_⟩
      · rw [asc_app, hqk]
        show Md.asc (docP ++ m ++ [32, 112, 117, 98, 108, 105, 99] ++ [q] ++ p ++ [q] ++ [32] ++ [q] ++ y ++ [q]) ++ _ = _
        rw [asc_app, asc_app, asc_app, asc_app, asc_app, asc_app, asc_app, asc_app, asc_app]
        simp only [List.append_assoc]; rfl
      · generalize hY : (q.toNat : Int) :: (Md.asc y ++ (q.toNat : Int) :: qk quirk) = Y at *
        have h : Md.At acc z 0 n b (112 :: 117 :: 98 :: 108 :: 105 :: 99 :: (q.toNat : Int) :: (Md.asc p ++ (q.toNat : Int) :: (32 :: Y))) [] := h
        have hqb : ∀ l, Md.blanksN ((q.toNat : Int) :: l) = 0 := fun l => by
          unfold Md.blanksN
          rw [List.takeWhile_cons, if_neg (by simp [Md.blank]; omega)]; rfl
        have h6 := At.blanks (At.adv h 6)
        have h6 : Md.At acc ((z.adv 6).blanks) 0 n b ((q.toNat : Int) :: (Md.asc p ++ (q.toNat : Int) :: (32 :: Y))) [] := by
          have e : List.drop (Md.blanksN ((q.toNat : Int) :: (Md.asc p ++ (q.toNat : Int) :: (32 :: Y)))) ((q.toNat : Int) :: (Md.asc p ++ (q.toNat : Int) :: (32 :: Y))) = (q.toNat : Int) :: (Md.asc p ++ (q.toNat : Int) :: (32 :: Y)) := by rw [hqb]; rfl
          rw [← e]; exact h6
        have hlp : (Md.asc p).length = p.length := List.length_map ..
        have hdr : List.drop (p.length + 2) ((q.toNat : Int) :: (Md.asc p ++ (q.toNat : Int) :: (32 :: Y))) = 32 :: Y := by
          show List.drop (p.length + 1) (Md.asc p ++ (q.toNat : Int) :: (32 :: Y)) = _
          rw [← List.drop_drop, ← hlp, List.drop_left]; rfl
        have h7 := At.adv h6 (p.length + 2)
        rw [hdr] at h7
        have h8 := At.blanks h7
        have h8 : Md.At acc (((z.adv 6).blanks.adv (p.length + 2)).blanks) 0 n b Y [] := by
          have e : List.drop (Md.blanksN (32 :: Y)) (32 :: Y) = Y := by
            have : Md.blanksN (32 :: Y) = 1 := by
              rw [← hY]
              unfold Md.blanksN
              rw [List.takeWhile_cons, if_pos (by rfl), List.takeWhile_cons, if_neg (by simp [Md.blank]; omega)]; rfl
            rw [this]; rfl
          rw [← e]; exact h8
        rw [← hY] at h8
        unfold Md.Lx.doctypeRest
        have e0 : z.pk 0 = 112 := At.pk h 0
        rw [if_neg (by rw [e0]; decide), if_neg (by rw [e0]; decide), h.rest, if_pos (by rfl)]
        unfold Md.Lx.doctypePub
        rw [h6.rest, quoted_asc hq hp]
        dsimp only
        have e8 : (((z.adv 6).blanks.adv (p.length + 2)).blanks).pk 0 = (q.toNat : Int) := At.pk h8 0
        rw [if_neg (by decide), if_neg (by rw [e8]; omega)]
        have h9 := At.sys (t := { ({ Md.dtok with name := m } : Md.Tok) with pub := p, hasPub := true }) (l := qk quirk) (quirk := quirk) hq hy rfl (by cases quirk <;> rfl) h8
        cases quirk <;> exact h9
    · refine ⟨10 :: 115 :: 121 :: 115 :: 116 :: 101 :: 109 :: 32 :: (q.toNat : Int) :: (Md.asc y ++ (q.toNat : Int) :: 32 :: qk quirk), ?_, .inr (.inl rfl), fun acc z n b h => ?_⟩
      · rw [asc_app, hqk]
        show Md.asc (docP ++ m ++ [10, 115, 121, 115, 116, 101, 109, 32] ++ [q] ++ y ++ [q] ++ [32]) ++ _ = _
        rw [asc_app, asc_app, asc_app, asc_app, asc_app, asc_app]
        simp only [List.append_assoc]; rfl
      · have h : Md.At acc z 0 n b (115 :: 121 :: 115 :: 116 :: 101 :: 109 :: 32 :: (q.toNat : Int) :: (Md.asc y ++ (q.toNat : Int) :: 32 :: qk quirk)) [] := h
        have hb1 : Md.blanksN (32 :: (q.toNat : Int) :: (Md.asc y ++ (q.toNat : Int) :: 32 :: qk quirk)) = 1 := by
          unfold Md.blanksN
          rw [List.takeWhile_cons, if_pos (by rfl), List.takeWhile_cons, if_neg (by simp [Md.blank]; omega)]; rfl
        have h6 := At.blanks (At.adv h 6)
        have h6 : Md.At acc ((z.adv 6).blanks) 0 n b ((q.toNat : Int) :: (Md.asc y ++ (q.toNat : Int) :: 32 :: qk quirk)) [] := by
          have e : List.drop (Md.blanksN (32 :: (q.toNat : Int) :: (Md.asc y ++ (q.toNat : Int) :: 32 :: qk quirk))) (32 :: (q.toNat : Int) :: (Md.asc y ++ (q.toNat : Int) :: 32 :: qk quirk)) = (q.toNat : Int) :: (Md.asc y ++ (q.toNat : Int) :: 32 :: qk quirk) := by rw [hb1]; rfl
          rw [← e]; exact h6
        unfold Md.Lx.doctypeRest
        have e0 : z.pk 0 = 115 := At.pk h 0
        rw [if_neg (by rw [e0]; decide), if_neg (by rw [e0]; decide), h.rest, if_neg (by
          intro e
          have hs : Md.stands [112, 117, 98, 108, 105, 99] (115 :: 121 :: 115 :: 116 :: 101 :: 109 :: 32 :: (q.toNat : Int) :: (Md.asc y ++ (q.toNat : Int) :: 32 :: qk quirk)) = false := rfl
          rw [hs] at e; cases e), if_pos (by rfl)]
        have h9 := At.sys (t := { Md.dtok with name := m }) (l := 32 :: qk quirk) (quirk := quirk) hq hy rfl (by cases quirk <;> rfl) h6
        cases quirk <;> exact h9
  rw [hM]
  refine Rd.tag (w' := 0) (n' := []) (b' := false) (r' := []) (A' := [docT k m p y quirk]) (fun acc x hx hS => ?_) Rd.nil
  obtain ⟨z, e, hz⟩ := At.doctype hm hMh hS
  rw [e]
  exact hMr _ _ _ _ hz
end Go.Proofs.YticnenofiibpgaaDoor.Code
/- The head of the lexer's laws, by a run from the start. -/
namespace Go.Proofs.YticnenofiibpgaaDoor
namespace Code
open Go.Dm
noncomputable def rhs : Option (DV × Heap) := closed D 3000 13 [] false Heap.start
theorem heads_run : okR rhs (.bool true) = true := by decide +kernel
theorem heads_both : ClC D 13 [] false Heap.start (.bool true) (heapOf rhs) ∧ Nat.ble 2 (heapOf rhs).next = true := by
  have h := heads_run
  unfold rhs at h ⊢
  exact closed_ok h
theorem sat_nil2 {h : Heap} (h2 : Nat.ble 2 h.next = true) : Sat h [] := ⟨Nat.le_of_ble_eq_true h2, fun _ hm => absurd hm List.not_mem_nil, List.Pairwise.nil⟩
theorem headSOk : ∃ h1 : Heap, ClC D 13 [] false Heap.start (.bool true) h1 ∧ Nat.ble 2 h1.next = true ∧ Sat h1 [] := ⟨_, heads_both.1, heads_both.2, sat_nil2 heads_both.2⟩
end Code
end Go.Proofs.YticnenofiibpgaaDoor
/- What LexDoctypes does on typed values. -/
namespace Go.Proofs.YticnenofiibpgaaDoor.Code
open Go.Dm Go.Dm.C
set_option linter.unusedSimpArgs false
set_option linter.unusedVariables false
set_option linter.unnecessarySimpa false
set_option maxRecDepth 10000
attribute [local irreducible] Go.Dm.F Go.Dm.RS Go.Dm.Y Go.Dm.FD Go.Dm.FZ1 Go.Dm.Hold
variable {R : List Ck}
def andk (n : Int) (m : Nat) : Nat := (BitVec.ofInt 64 n &&& BitVec.ofInt 64 (m : Int)).toNat
theorem andk_le (n : Int) {m : Nat} (hm : m ≤ 15) : andk n m ≤ m := by
  unfold andk
  rw [BitVec.toNat_and]
  refine Nat.le_trans Nat.and_le_right ?_
  have : ∀ k : Fin 16, (BitVec.ofInt 64 ((k.val : Nat) : Int)).toNat ≤ k.val := by decide
  exact this ⟨m, by omega⟩
theorem andk_bin (n : Int) {m : Nat} (hm : m ≤ 15) : binD .and .any (.int .i64 n) (.int .i64 (m : Int)) = some (.int .i64 (andk n m : Nat)) := by
  show some (DV.int .i64 (IntKind.i64.wrap (andk n m : Nat))) = _
  have h := andk_le n hm
  have : ∀ k : Fin 16, IntKind.i64.wrap ((k.val : Nat) : Int) = ((k.val : Nat) : Int) := by decide
  rw [this ⟨andk n m, by omega⟩]
theorem biAnd1 {p : Bool} {n : Int} : BI p .and .any (.int .i64 n) (.int .i64 1) (.int .i64 (andk n 1 : Nat)) := .gen (andk_bin n (m := 1) (by omega))
theorem biAnd3 {p : Bool} {n : Int} : BI p .and .any (.int .i64 n) (.int .i64 3) (.int .i64 (andk n 3 : Nat)) := .gen (andk_bin n (m := 3) (by omega))
theorem biAnd8 {p : Bool} {n : Int} : BI p .and .any (.int .i64 n) (.int .i64 8) (.int .i64 (andk n 8 : Nat)) := .gen (andk_bin n (m := 8) (by omega))
theorem biShr1 {p : Bool} {n : Int} : ∃ m : Int, BI p .shr .any (.int .i64 n) (.int .u64 1) (.int .i64 m) := ⟨_, .gen rfl⟩
def docD (s : Md.Str) : Md.Str := s.filter docOk
theorem plainq_F {s : Md.Str} (hl : s.length ≤ 1000000000) : F D 28 [.str s] R (fun v cs' => v = .str (docD s) ∧ R = cs') := by
  refine F.of rfl rfl rfl ?_
  repeat' first | exact arI | refine Pst.mk ⟨?_, rfl⟩ (by (repeat' constructor); first | done | fail) | constructor | (refine fun _ _ (hq : Hold _) => ?_; replace hq := hq.out; obtain ⟨_, rfl, rfl⟩ := hq) | (refine fun _ _ (hq : Hold _) => ?_; replace hq := hq.out; obtain ⟨_, _, rfl, rfl⟩ := hq) | rintro _ _ ⟨rfl, rfl⟩ | rintro _ _ ⟨_, rfl, rfl⟩ | rintro _ _ ⟨_, _, rfl, rfl⟩ | (refine fun (hc : _ = _) => ?_; (try simp only [BB] at hc)) | refine fun (_ : Nat) => ?_ | refine fun (_ : _ ≤ _) => ?_ | refine fun (_ : _ < _) => ?_
  refine RS.loopW (α := Nat) (fun i => [(0, .str s), (3, .str ((s.take i).filter docOk)), (4, .int .i64 (i : Nat))]) (fun _ => R)
    (fun i => i ≤ s.length) (fun i => s.length - i) 0 (Nat.zero_le _) ⟨rfl, rfl, rfl, trivial⟩ .refl ?_
  rintro i h1 ih
  dsimp only [ents] at *
  have hft := fun h => filter_take (f := docOk) (s := s) (i := i) h
  have hfl := List.length_filter_le docOk (s.take i)
  rw [List.length_take] at hfl
  have hok := docOk_iff (c := s.getD i 0)
  repeat' first | (refine Arith.mk ?_; omega) | (refine fun (hc : _ = _) => ?_; (try simp only [BB] at hc); (try (first | contradiction | (exfalso; omega)))) | exact arI | refine Pst.mk ⟨?_, rfl⟩ (by (repeat' constructor); first | done | fail) | constructor | (refine fun _ _ (hq : Hold _) => ?_; replace hq := hq.out; obtain ⟨_, rfl, rfl⟩ := hq) | (refine fun _ _ (hq : Hold _) => ?_; replace hq := hq.out; obtain ⟨_, _, rfl, rfl⟩ := hq) | rintro _ _ ⟨rfl, rfl⟩ | rintro _ _ ⟨_, rfl, rfl⟩ | rintro _ _ ⟨_, _, rfl, rfl⟩ | (refine fun (hc : _ = _) => ?_; (try simp only [BB] at hc)) | refine fun (_ : Nat) => ?_ | refine fun (_ : _ ≤ _) => ?_ | refine fun (_ : _ < _) => ?_
  · have e := hft (by omega)
    rw [if_pos (hok.2 (by omega)), ← one_cut (by omega)] at e
    exact ih _ _ (i + 1) (by omega) (by omega) (by rw [e]; exact ⟨rfl, rfl, rfl, trivial⟩) .refl
  · have e := hft (by omega)
    rw [if_neg (fun h => by have := hok.1 h; omega), List.append_nil] at e
    exact ih _ _ (i + 1) (by omega) (by omega) (by rw [e]; exact ⟨rfl, rfl, rfl, trivial⟩) .refl
  · unfold docD; rw [List.take_of_length_le (by omega)]
set_option maxHeartbeats 4000000 in
theorem doctypesLaw {s1' s2 s3 : Md.Str} {n : Int} : F0 D 7 [.str s1', .str s2, .str s3, .int .i64 n] Heap.start (fun v cs' => v = .bool true) := by
  obtain ⟨hp1, c1, n1, s1⟩ := headSOk
  refine F0.of rfl rfl rfl ?_
  obtain ⟨n', hsh⟩ := biShr1 (p := true) (n := n)
  have hk3 := andk_le n' (m := 3) (by omega)
  have hk1 := andk_le n (m := 1) (by omega)
  obtain ⟨q, hq, hqi⟩ : ∃ q : UInt8, (q = 34 ∨ q = 39) ∧ [DV.str [34], DV.str [39]][((andk n 1 : Nat) : Int).toNat]? = some (.str [q]) := by
    generalize andk n 1 = a at *
    match a, hk1 with
    | 0, _ => exact ⟨34, .inl rfl, rfl⟩
    | 1, _ => exact ⟨39, .inr rfl, rfl⟩
  have hl2 : (docD s2).length ≤ s2.length := List.length_filter_le ..
  have hl3 : (docD s3).length ≤ s3.length := List.length_filter_le ..
  have hwl : (Md.word9 s1').length ≤ 9 := by unfold Md.word9; simp only [List.length_cons, List.length_map, List.length_take]; omega
  by_cases hbig : (s1'.length > 20 ∨ s2.length > 50) ∨ s3.length > 50
  · repeat' first
      | exact c1 | exact n1 | (refine R0.onP s1 ?_) | (refine Arith.mk ?_; omega) | (refine fun (hc : _ = _) => ?_; (try simp only [BB] at hc); (try (first | contradiction | (exfalso; omega)))) | exact arI | refine Pst.mk ⟨?_, rfl⟩ (by (repeat' constructor); first | done | fail) | constructor | (refine fun _ _ (hq : Hold _) => ?_; replace hq := hq.out; obtain ⟨_, rfl, rfl⟩ := hq) | (refine fun _ _ (hq : Hold _) => ?_; replace hq := hq.out; obtain ⟨_, _, rfl, rfl⟩ := hq) | rintro _ _ ⟨rfl, rfl⟩ | rintro _ _ ⟨_, rfl, rfl⟩ | rintro _ _ ⟨_, _, rfl, rfl⟩ | (refine fun (hc : _ = _) => ?_; (try simp only [BB] at hc)) | refine fun (_ : Nat) => ?_ | refine fun (_ : _ ≤ _) => ?_ | refine fun (_ : _ < _) => ?_
    exact Pst.mk rfl .refl
  have hLn : (Md.word9 s1').length ≤ 1000 ∧ (docD s2).length ≤ 1000 ∧ (docD s3).length ≤ 1000 := by omega
  have hP := fun (k : Nat) (hk : k ≤ 3) (quirk : Bool) => docs_pure (quirk := quirk) hk hq (word9_low s1') (p := docD s2) (y := docD s3) (fun c hc => (List.mem_filter.1 hc).2) (fun c hc => (List.mem_filter.1 hc).2) hLn
  have p0f : Md.all ([60, 33, 68, 111, 99, 84, 121, 112, 101, 32] ++ Md.word9 s1' ++ [62]) = [docT 0 (Md.word9 s1') (docD s2) (docD s3) false] := hP 0 (by omega) false
  have p0t : Md.all ([60, 33, 68, 111, 99, 84, 121, 112, 101, 32] ++ Md.word9 s1') = [docT 0 (Md.word9 s1') (docD s2) (docD s3) true] := by
    have := hP 0 (by omega) true
    rw [show qkS true = [] from rfl, List.append_nil] at this
    exact this
  have p1f : Md.all ([60, 33, 68, 111, 99, 84, 121, 112, 101, 32] ++ Md.word9 s1' ++ [32, 80, 85, 66, 76, 73, 67, 32] ++ [q] ++ docD s2 ++ [q] ++ [62]) = [docT 1 (Md.word9 s1') (docD s2) (docD s3) false] := hP 1 (by omega) false
  have p1t : Md.all ([60, 33, 68, 111, 99, 84, 121, 112, 101, 32] ++ Md.word9 s1' ++ [32, 80, 85, 66, 76, 73, 67, 32] ++ [q] ++ docD s2 ++ [q]) = [docT 1 (Md.word9 s1') (docD s2) (docD s3) true] := by
    have := hP 1 (by omega) true
    rw [show qkS true = [] from rfl, List.append_nil] at this
    exact this
  have p2f : Md.all ([60, 33, 68, 111, 99, 84, 121, 112, 101, 32] ++ Md.word9 s1' ++ [32, 112, 117, 98, 108, 105, 99] ++ [q] ++ docD s2 ++ [q] ++ [32] ++ [q] ++ docD s3 ++ [q] ++ [62]) = [docT 2 (Md.word9 s1') (docD s2) (docD s3) false] := hP 2 (by omega) false
  have p2t : Md.all ([60, 33, 68, 111, 99, 84, 121, 112, 101, 32] ++ Md.word9 s1' ++ [32, 112, 117, 98, 108, 105, 99] ++ [q] ++ docD s2 ++ [q] ++ [32] ++ [q] ++ docD s3 ++ [q]) = [docT 2 (Md.word9 s1') (docD s2) (docD s3) true] := by
    have := hP 2 (by omega) true
    rw [show qkS true = [] from rfl, List.append_nil] at this
    exact this
  have p3f : Md.all ([60, 33, 68, 111, 99, 84, 121, 112, 101, 32] ++ Md.word9 s1' ++ [10, 115, 121, 115, 116, 101, 109, 32] ++ [q] ++ docD s3 ++ [q] ++ [32] ++ [62]) = [docT 3 (Md.word9 s1') (docD s2) (docD s3) false] := hP 3 (by omega) false
  have p3t : Md.all ([60, 33, 68, 111, 99, 84, 121, 112, 101, 32] ++ Md.word9 s1' ++ [10, 115, 121, 115, 116, 101, 109, 32] ++ [q] ++ docD s3 ++ [q] ++ [32]) = [docT 3 (Md.word9 s1') (docD s2) (docD s3) true] := by
    have := hP 3 (by omega) true
    rw [show qkS true = [] from rfl, List.append_nil] at this
    exact this
  clear hP
  repeat' first
    | exact c1 | exact n1 | (refine R0.onP s1 ?_) | (show BI _ _ _ _ _ _; first | exact biAnd1 | exact biAnd3 | exact biAnd8 | exact hsh) | (show IA _ _ _ _ _ _; exact IA.gen (w := .str [q]) .zof (.mk fun _ => ⟨by omega, hqi⟩))
    | (show FC _ _ _ _ _; first | exact plainq_F (by omega) | exact word9_F | exact all_F rfl (by simp only [List.length_append, List.length_cons, List.length_nil]; omega) | (first | exact tokSame_F (p := a1) (q := (docT 0 (Md.word9 s1') (docD s2) (docD s3) false, 0)) (by rw [e1]; exact Nat.zero_le _) | exact tokSame_F (p := a1) (q := (docT 0 (Md.word9 s1') (docD s2) (docD s3) true, 0)) (by rw [e1]; exact Nat.zero_le _) | exact tokSame_F (p := a1) (q := (docT 1 (Md.word9 s1') (docD s2) (docD s3) false, 0)) (by rw [e1]; exact Nat.zero_le _) | exact tokSame_F (p := a1) (q := (docT 1 (Md.word9 s1') (docD s2) (docD s3) true, 0)) (by rw [e1]; exact Nat.zero_le _) | exact tokSame_F (p := a1) (q := (docT 2 (Md.word9 s1') (docD s2) (docD s3) false, 0)) (by rw [e1]; exact Nat.zero_le _) | exact tokSame_F (p := a1) (q := (docT 2 (Md.word9 s1') (docD s2) (docD s3) true, 0)) (by rw [e1]; exact Nat.zero_le _) | exact tokSame_F (p := a1) (q := (docT 3 (Md.word9 s1') (docD s2) (docD s3) false, 0)) (by rw [e1]; exact Nat.zero_le _) | exact tokSame_F (p := a1) (q := (docT 3 (Md.word9 s1') (docD s2) (docD s3) true, 0)) (by rw [e1]; exact Nat.zero_le _)))
    | (refine Arith.mk ?_; simp only [List.length_append, List.length_cons, List.length_nil]; omega) | (refine fun (hc : _ = _) => ?_; (try simp only [BB] at hc); (try (first | contradiction | (exfalso; omega)))) | exact arI | refine Pst.mk ⟨?_, rfl⟩ (by (repeat' constructor); first | done | fail) | constructor | (refine fun _ _ (hq : Hold _) => ?_; replace hq := hq.out; obtain ⟨_, rfl, rfl⟩ := hq) | (refine fun _ _ (hq : Hold _) => ?_; replace hq := hq.out; obtain ⟨_, _, rfl, rfl⟩ := hq) | rintro _ _ ⟨rfl, rfl⟩ | rintro _ _ ⟨_, rfl, rfl⟩ | rintro _ _ ⟨_, _, rfl, rfl⟩ | (refine fun (hc : _ = _) => ?_; (try simp only [BB] at hc)) | refine fun (_ : Nat) => ?_ | refine fun (_ : _ ≤ _) => ?_ | refine fun (_ : _ < _) => ?_
    | (refine fun _ _ (hq : Hold _) => ?_; replace hq := hq.out; obtain ⟨tq, osq, rfl, hq0, ha, rfl⟩ := hq; (first | rw [p0f] at ha | rw [p0t] at ha | rw [p1f] at ha | rw [p1t] at ha | rw [p2f] at ha | rw [p2t] at ha | rw [p3f] at ha | rw [p3t] at ha); simp only [List.map_eq_cons_iff, List.map_eq_nil_iff] at ha; obtain ⟨a1, _, rfl, e1, rfl⟩ := ha)
  all_goals exact Pst.mk (by simp [e1]) .refl
end Go.Proofs.YticnenofiibpgaaDoor.Code
/- 'woodcutlaw09.LexDoctypes' returns true for every input; and its card. -/
namespace Go.Proofs.YticnenofiibpgaaDoor.lexDoctypes
set_option linter.unusedSimpArgs false
set_option linter.unusedVariables false
set_option linter.unnecessarySimpa false
open Go.ChangeShapes Go.WideShapes Go.ChangeAt Go.RowKit

theorem own : ownKnob Tryd.prog.godebug = none := by kernel_rfl
theorem gTab : Tryd.prog.globalNamed "woodcut/chars.windows" = some 0 := by kernel_rfl
theorem gTabType : (Tryd.prog.globals[0]?).map (·.type) = some 69 := by kernel_rfl
theorem cells33 : Tryd.prog.cellsOf 69 = 32 := by kernel_rfl
theorem cells21 : Tryd.prog.cellsOf 21 = 1 := by kernel_rfl

theorem table {W : World} (h : laidMetH Tryd.prog Rows.lexDoctypesRow.laid W) : Lib.TabIs Tryd.prog W "woodcut/chars.windows" .i32 Code.windows :=
  Lib.tabIs_of_head (rest := []) gTab gTabType Tryd.underlying69 Tryd.underlying21 cells21 cells33 h

theorem globOk {W : World} (h : Lib.TabIs Tryd.prog W "woodcut/chars.windows" .i32 Code.windows) : Dm.GlobOk Code.D (Dm.Cor.start W) := by
  refine ⟨fun g cs hg x hx => ?_, fun g cs hg => ?_⟩
  · simp only [Code.D, Code.glob] at hg
    split at hg <;> cases hg
    obtain ⟨z, _, rfl⟩ := List.mem_map.1 hx
    rfl
  · simp only [Code.D, Code.glob] at hg
    split at hg <;> cases hg
    rename_i hg0
    obtain rfl := Nat.eq_of_beq_eq_true hg0
    refine ⟨Code.windows.map (Value.int .i32), ?_, fun j x hj => ?_⟩
    · generalize Code.windows = ws
      induction ws with
      | nil => exact .nil
      | cons z zs ih => exact .cons (.int _ _) ih
    · show W.cell? ⟨0, j, none⟩ = some x
      have hlt : j < Code.windows.length := by have := (List.getElem?_eq_some_iff.1 hj).1; simpa using this
      have hc := h.cell gTab j hlt
      rw [hc]
      rw [List.getElem?_map, List.getElem?_eq_getElem hlt] at hj
      rw [List.getD_eq_getElem?_getD, List.getElem?_eq_getElem hlt]
      simpa using hj

theorem tys : Dm.tyB Tryd.prog [9, 3, 4, 21] = true := by kernel_rfl
theorem run (dvs : List Dm.DV) (h : Dm.TAs Tryd.prog Tryd.f7.params.toList dvs) : Dm.F0 Code.D 7 dvs Dm.Heap.start (fun v _ => v = .bool true) := by
  rw [Tryd.params7] at h
  cases h with | @cons _ c0 _ _ h0 h =>
  cases h with | @cons _ c1 _ _ h1 h =>
  cases h with | @cons _ c2 _ _ h2 h =>
  cases h with | @cons _ c3 _ _ h3 h =>
  cases h
  obtain ⟨s, e0, _⟩ := Dm.TC.strV Tryd.underlying9 h0
  obtain ⟨b, e1, _⟩ := Dm.TC.strV Tryd.underlying9 h1
  obtain ⟨c, e2, _⟩ := Dm.TC.strV Tryd.underlying9 h2
  obtain ⟨n, e3, _⟩ := Dm.TC.intV Tryd.underlying3 h3
  rw [e0, e1, e2, e3]
  exact Code.doctypesLaw (s1' := s) (s2 := b) (s3 := c) (n := n)

set_option maxRecDepth 100000 in
theorem contract (H : Type) (enc : TypeId × Value → H) (W : World) (base : Nat) (args : Array Value) (ds gs : List (DataW H)) (before : List MemPlace)
    (hval : ∀ (j : Nat) t v, Tryd.f7.params[j]? = some t → args[j]? = some v → Value.okWide Tryd.prog W .any base t v)
    (hW : DataW.Whole enc Tryd.prog Tryd.f7.params.toList Rows.lexDoctypesSpec.vars false W args.toList ds gs before) (hL : laidMetH Tryd.prog Rows.lexDoctypesRow.laid W) :
    Calls Tryd.prog 7 args W fun e W' => ∃ v, e = .returned v ∧ Rows.lexDoctypesSpec.post enc Tryd.prog Tryd.f7 false true false false W args v W' := by
  refine Dm.contract_gen (D := Code.D) (cfg := Code.cfg) tys Code.hm Code.hD Code.hP (by kernel_rfl) rfl (tb := 4) Tryd.underlying4 rfl ?_ run W args ds gs before hval hW (globOk (table hL))
  intro ds hd
  rw [Tryd.params7] at hd
  match ds, hd with
  | [d0, d1, d2, d3], _ => rfl

noncomputable def laidWorld (os : Os) : World :=
  { World.holding Tryd.prog os ⟨#[], #[], []⟩ with heap := (World.holding Tryd.prog os ⟨#[], #[], []⟩).heap.modify 0 fun
      | .cells _ t frozen => .cells (Code.windows.map (Value.int .i32)).toArray t frozen
      | o => o }
theorem laid_met (os : Os) : laidMet Tryd.prog Rows.lexDoctypesRow.laid ((laidWorld os).forCall (fun _ _ => 0) ⟨#[], #[.string ⟨#[]⟩, .string ⟨#[]⟩, .string ⟨#[]⟩, .int .i64 0], []⟩).memory :=
  laidMet_of_run' 8 (by kernel_rfl) (by kernel_rfl)
theorem reads (os : Os) {H : Type} (enc : TypeId × Value → H) : ∃ places, DataW.whole enc Tryd.prog ((laidWorld os).forCall (fun _ _ => 0) ⟨#[], #[.string ⟨#[]⟩, .string ⟨#[]⟩, .string ⟨#[]⟩, .int .i64 0], []⟩).memory Tryd.f7.params.toList Rows.lexDoctypesSpec.vars false #[.string ⟨#[]⟩, .string ⟨#[]⟩, .string ⟨#[]⟩, .int .i64 0].toList 8 = some ([.lit (.string []), .lit (.string []), .lit (.string []), .lit (.int .i64 0)], [], places) :=
  ⟨[], by kernel_rfl⟩

set_option maxRecDepth 100000 in
theorem lifted (os : Os) (started : os.Started) (H : Type) (enc : TypeId × Value → H) (F : Stop.Interp) :
    ReturnsInHanded {} Tryd.checked os 7 .any ((OpenSpec.ofChange Rows.lexDoctypesSpec).preRow enc Tryd.prog Tryd.f7 Rows.lexDoctypesRow.domain false Rows.lexDoctypesRow.laid) (((OpenSpec.ofChange Rows.lexDoctypesSpec).at F).post enc Tryd.prog Tryd.f7 false true false false) := by
  obtain ⟨places, hx⟩ := reads os enc
  refine returnsInHanded_of_row (C := Tryd.checked) (s := OpenSpec.ofChange Rows.lexDoctypesSpec) own started (by kernel_rfl) Tryd.func7
    (witness_row_at (enc := enc) (C := Tryd.checked) false (laidWorld os) #[.string ⟨#[]⟩, .string ⟨#[]⟩, .string ⟨#[]⟩, .int .i64 0] rfl (by kernel_rfl) (by kernel_rfl) (by kernel_rfl)
      (OpenSpec.preRow_of_cond 8 hx (by kernel_rfl) (fun k hk => by cases hk) (by kernel_rfl) (laid_met os))) ?_
  intro W base args ds gs before hval hW _ _ _ hL _ _
  exact contract H enc W base args ds gs before hval hW hL

theorem said : Rows.LexDoctypesSaid :=
  OpenClaim.holds_of_cond 7 Tryd.f7 rfl rfl rfl rfl rfl rfl rfl ⟨rfl, rfl, rfl, rfl, rfl⟩ rfl rfl rfl rfl rfl (by kernel_rfl) Tryd.func7 (by kernel_rfl)
    (of_decide_eq_true (by kernel_rfl)) (by unfold Func.isWrapper; first | (rw [if_pos (by decide +kernel)]; kernel_rfl) | (rw [if_neg (by decide +kernel)]; exact ⟨rfl, rfl⟩))
    (fun os started H enc _ F => by rw [OpenClaim.pre_eq_preRow]; exact lifted os started H enc F)

theorem plain (f : FuncId) (fn : Func) (hf : Tryd.pinned.checked.prog.funcNamed "woodcut/woodcutlaw09.LexDoctypes" = some f) (hfn : Tryd.pinned.checked.prog.funcs[f]? = some fn) :
    false = Tryd.pinned.checked.prog.looks [] ∧ ∀ (j : Nat) t, fn.params[j]? = some t → Tryd.pinned.checked.prog.wantsStandIn t = false := by
  obtain rfl : f = 7 := Option.some.inj ((show Tryd.prog.funcNamed "woodcut/woodcutlaw09.LexDoctypes" = some 7 by kernel_rfl).symm.trans hf) |>.symm
  obtain rfl : fn = Tryd.f7 := (Option.some.inj (Tryd.func7.symm.trans hfn)).symm
  refine ⟨by kernel_rfl, fun j t ht => ?_⟩
  rw [Tryd.params7] at ht
  have hall : [9, 9, 9, 3].all (fun t => Tryd.prog.wantsStandIn t == false) = true := by kernel_rfl
  have hmem : t ∈ [9, 9, 9, 3] := by have := Array.mem_of_getElem? ht; simpa using this
  exact eq_of_beq (List.all_eq_true.1 hall t hmem)

theorem card : Rows.LexDoctypesCardSaid :=
  Claim7.holds_tied_plain_at .later [] _ _ _ _ said (fun _ h => by cases h) (by kernel_rfl) (fun _ h => by cases h) lexDoctypes_row_tie rfl ⟨rfl, rfl⟩ (by kernel_rfl) rfl plain (by kernel_rfl)
end Go.Proofs.YticnenofiibpgaaDoor.lexDoctypes
