/- LexScripts returns true for every input: part 7 of the proof (several texts joined). -/
import Derived.Test.YticnenofiibpgaaDoorCards
import Derived.Test.YticnenofiibpgaaDoorTie
import Derived.WalkKit
import Derived.ProofKit
import Derived.OpenShut
import Derived.Deep.DeepHandedRow
import Derived.Lib.LaidTab
import Derived.Test.YticnenofiibpgaaDoorJ6
/- What slices.Collect of a lexer's tokens and lex.All do; two tokens compared. -/
namespace Go.Proofs.YticnenofiibpgaaDoor.Code
open Go.Dm Go.Dm.C
set_option linter.unusedSimpArgs false
set_option linter.unusedVariables false
set_option linter.unnecessarySimpa false
set_option maxRecDepth 10000
attribute [local irreducible] Go.Dm.F Go.Dm.RS Go.Dm.Y Go.Dm.FD Go.Dm.FZ1 Go.Dm.Hold
variable {id : Nat} {s : Md.Lx} {g : Nat × Nat} {R : List Ck}
theorem joinZ_F {t z : Nat} {ls : List (Md.Tok × Nat)} (hz : z = zOf t 10) (hn : ls.length ≤ 1000000000) (hd : Md.dl (ls.map Prod.fst) ≤ 1000000000000) :
    FZ D (.fn (.func 26) [] []) [.lst t z (ls.map encT)] R (fun v cs' => Hold (∃ (t : Nat) (os : List (Md.Tok × Nat)), v = .lst t (zOf t 10) (os.map encT) ∧ (t = 0 ∧ os = [] ∨ t = 1) ∧ os.map Prod.fst = Md.join (ls.map Prod.fst) ∧ R = cs')) :=
  FZ1.ofT (join_F hz hn hd)
theorem joinZ_F2 {t z : Nat} {ls : List (Md.Tok × Nat)} {ts : List Md.Tok} (hz : z = zOf t 10) (ha : ls.map Prod.fst = ts) (hn : ts.length ≤ 1000000000) (hd : Md.dl ts ≤ 1000000000000) :
    FZ D (.fn (.func 26) [] []) [.lst t z (ls.map encT)] R (fun v cs' => Hold (∃ (t : Nat) (os : List (Md.Tok × Nat)), v = .lst t (zOf t 10) (os.map encT) ∧ (t = 0 ∧ os = [] ∨ t = 1) ∧ os.map Prod.fst = Md.join ts ∧ R = cs')) := by
  subst ha; rw [List.length_map] at hn; exact joinZ_F hz hn hd
theorem seq_F {q : Nat} (hN : NI s) (hn : s.toks.length ≤ 1000000000) : F D 53 [.lst 0 0 [], .fn (.func 40) [] [.ptr q 0]] (.obj q (.cells [.ptr id 0] none) :: LX id s g :: R)
    (fun v cs' => Hold (∃ (t : Nat) (os : List (Md.Tok × Nat)), v = .lst t (zOf t 10) (os.map encT) ∧ .own t 10 (os.map encT) :: R = cs' ∧ os.map Prod.fst = s.toks)) := by
  refine F.of rfl rfl rfl ?_
  repeat' first | exact arI | refine Pst.mk ⟨?_, rfl⟩ (by (repeat' constructor); first | done | fail) | constructor | (refine fun _ _ (hq : Hold _) => ?_; replace hq := hq.out; obtain ⟨_, rfl, rfl⟩ := hq) | (refine fun _ _ (hq : Hold _) => ?_; replace hq := hq.out; obtain ⟨_, _, rfl, rfl⟩ := hq) | rintro _ _ ⟨rfl, rfl⟩ | rintro _ _ ⟨_, rfl, rfl⟩ | rintro _ _ ⟨_, _, rfl, rfl⟩ | (refine fun (hc : _ = _) => ?_; (try simp only [BB] at hc)) | refine fun (_ : Nat) => ?_ | refine fun (_ : _ ≤ _) => ?_ | refine fun (_ : _ < _) => ?_
  rename_i x _
  refine RS.nilOwn 10 ?_
  refine RS.rangeO rfl rfl fun m l Lr Lb Ld hL => ?_
  refine F.perm ((Rem.perm' (c := .obj q _) (by (repeat' constructor); first | done | fail)).trans ((Rem.perm' (c := LX id _ _) (by (repeat' constructor); first | done | fail)).cons _)) ?_
  refine F.mono (tokens_it (l := l) (fun ts cs => ∃ (t : Nat) (os : List (Md.Tok × Nat)), Lr :: .obj m .mark :: .own t 10 (os.map encT) :: .obj x (.cells [.lst t (zOf t 10) (os.map encT)] none) :: R = cs ∧ os.map Prod.fst ++ ts = s.toks) (fun _ => False) ?_ hN ⟨0, [], rfl, rfl⟩) ?_
  · rintro t tag ts s2 g2 _ ⟨t1, os, rfl, ha⟩
    refine hL.y (.tail (.tail .head)) rfl ?_
    have hlen := congrArg List.length ha
    rw [List.length_append, List.length_map, List.length_cons] at hlen
    repeat' first | exact MapL.cons (y := (t, tag)) .nil | (refine Arith.mk ?_; omega) | (refine fun (hc : _ = _) => ?_; (try simp only [BB] at hc); (try (first | contradiction | (exfalso; omega)))) | exact arI | refine Pst.mk ⟨?_, rfl⟩ (by (repeat' constructor); first | done | fail) | constructor | (refine fun _ _ (hq : Hold _) => ?_; replace hq := hq.out; obtain ⟨_, rfl, rfl⟩ := hq) | (refine fun _ _ (hq : Hold _) => ?_; replace hq := hq.out; obtain ⟨_, _, rfl, rfl⟩ := hq) | rintro _ _ ⟨rfl, rfl⟩ | rintro _ _ ⟨_, rfl, rfl⟩ | rintro _ _ ⟨_, _, rfl, rfl⟩ | (refine fun (hc : _ = _) => ?_; (try simp only [BB] at hc)) | refine fun (_ : Nat) => ?_ | refine fun (_ : _ ≤ _) => ?_ | refine fun (_ : _ < _) => ?_
    rename_i t2
    exact Pst.mk (.mk ⟨_, rfl, .inl ⟨rfl, t2, os ++ [(t, tag)], rfl, by rw [← ha]; simp⟩⟩) (by (repeat' constructor); first | done | fail)
  · rintro v cs' hq
    obtain ⟨s2, g2, cs1, rfl, hq2⟩ := hq.out
    rcases hq2 with ⟨t1, os, rfl, ha⟩ | hq2
    · refine .ready (by (repeat' constructor); first | done | fail) ?_
      rw [List.append_nil] at ha
      repeat' first | exact arI | refine Pst.mk ⟨?_, rfl⟩ (by (repeat' constructor); first | done | fail) | constructor | (refine fun _ _ (hq : Hold _) => ?_; replace hq := hq.out; obtain ⟨_, rfl, rfl⟩ := hq) | (refine fun _ _ (hq : Hold _) => ?_; replace hq := hq.out; obtain ⟨_, _, rfl, rfl⟩ := hq) | rintro _ _ ⟨rfl, rfl⟩ | rintro _ _ ⟨_, rfl, rfl⟩ | rintro _ _ ⟨_, _, rfl, rfl⟩ | (refine fun (hc : _ = _) => ?_; (try simp only [BB] at hc)) | refine fun (_ : Nat) => ?_ | refine fun (_ : _ ≤ _) => ?_ | refine fun (_ : _ < _) => ?_
      exact Pst.mk (.mk ⟨t1, os, rfl, rfl, ha⟩) (by (repeat' constructor); first | done | fail)
    · exact hq2.elim
theorem collect_F {q : Nat} (hN : NI s) (hn : s.toks.length ≤ 1000000000) : F D 36 [.fn (.func 40) [] [.ptr q 0]] (.obj q (.cells [.ptr id 0] none) :: LX id s g :: R)
    (fun v cs' => Hold (∃ (t : Nat) (os : List (Md.Tok × Nat)), v = .lst t (zOf t 10) (os.map encT) ∧ .own t 10 (os.map encT) :: R = cs' ∧ os.map Prod.fst = s.toks)) := by
  refine F.of rfl rfl rfl ?_
  repeat' first | (show FC _ _ _ _ _; first | exact seq_F hN hn) | (refine fun _ _ (hq : Hold _) => ?_; replace hq := hq.out; obtain ⟨t1, os, rfl, rfl, ha⟩ := hq) | (refine fun (hc : _ = _) => ?_; (try simp only [BB] at hc); (try (first | contradiction | (exfalso; omega)))) | exact arI | refine Pst.mk ⟨?_, rfl⟩ (by (repeat' constructor); first | done | fail) | constructor | (refine fun _ _ (hq : Hold _) => ?_; replace hq := hq.out; obtain ⟨_, rfl, rfl⟩ := hq) | (refine fun _ _ (hq : Hold _) => ?_; replace hq := hq.out; obtain ⟨_, _, rfl, rfl⟩ := hq) | rintro _ _ ⟨rfl, rfl⟩ | rintro _ _ ⟨_, rfl, rfl⟩ | rintro _ _ ⟨_, _, rfl, rfl⟩ | (refine fun (hc : _ = _) => ?_; (try simp only [BB] at hc)) | refine fun (_ : Nat) => ?_ | refine fun (_ : _ ≤ _) => ?_ | refine fun (_ : _ < _) => ?_
  exact Pst.mk (.mk ⟨t1, os, rfl, rfl, ha⟩) (by (repeat' constructor); first | done | fail)
end Go.Proofs.YticnenofiibpgaaDoor.Code
/- What lex.All does; tokens compared; words. -/
namespace Go.Proofs.YticnenofiibpgaaDoor.Code
open Go.Dm Go.Dm.C
set_option linter.unusedSimpArgs false
set_option linter.unusedVariables false
set_option linter.unnecessarySimpa false
set_option maxRecDepth 10000
attribute [local irreducible] Go.Dm.F Go.Dm.RS Go.Dm.Y Go.Dm.FD Go.Dm.FZ1 Go.Dm.Hold
variable {R : List Ck}
theorem toks_small {s : Md.Lx} {k : Nat} (hN : NI s) (ho : s.out = []) (ht : s.text = []) (hp : s.pos = 0) (hl : s.inp.length ≤ k) : s.toks.length ≤ 6 * (k + 1) ∧ Md.dl s.toks ≤ 40 * (k + 1) := by
  have h := toks_bd s.left s (Nat.le_refl _) hN ho
  rw [ht, List.length_nil] at h
  have e : s.left = s.inp.length + 1 := by unfold Md.Lx.left; rw [hp]; rfl
  rw [e] at h
  omega
theorem new_small {c : Md.Str} {k : Nat} {w : Int} {n : Md.Str} {b : Bool} (hl : c.length ≤ k) (hk : k ≤ 1000000000) (hn : n.length ≤ 10000000000) : NI { Md.Lx.new c with way := w, last := n, room := b } ∧ ({ Md.Lx.new c with way := w, last := n, room := b } : Md.Lx).toks.length ≤ 6 * (k + 1) ∧ Md.dl ({ Md.Lx.new c with way := w, last := n, room := b } : Md.Lx).toks ≤ 40 * (k + 1) := by
  have hd := decode_len c
  have hN : NI { Md.Lx.new c with way := w, last := n, room := b } := ⟨Nat.le_trans hd (Nat.le_trans hl hk), fun r hr => (decode_sv c r hr).1.1, Nat.zero_le _, fun _ => Nat.zero_le _, Nat.zero_le _, by show (0 : Nat) ≤ 100; omega, hn⟩
  exact ⟨hN, toks_small hN rfl rfl rfl (Nat.le_trans hd hl)⟩
theorem all_F {t z : Nat} {b : List UInt8} (hz : z = zOf t 1) (hl : b.length ≤ 100000000) : F D 15 [.lst t z (bytesV b)] R (fun v cs' => Hold (∃ (t : Nat) (os : List (Md.Tok × Nat)), v = .lst t (zOf t 10) (os.map encT) ∧ (t = 0 ∧ os = [] ∨ t = 1) ∧ os.map Prod.fst = Md.all b ∧ R = cs')) := by
  obtain ⟨hN, hb1, hb2⟩ := new_small (w := 0) (n := []) (b := false) hl (by omega) (by simp)
  refine F.of rfl rfl rfl ?_
  repeat' first | (show FC _ _ _ _ _; first | exact new_F hz (by omega) | exact tokens_F | exact collect_F (s := { Md.Lx.new b with way := 0, last := [], room := false }) hN (by omega)) | (show FZ _ _ _ _ _; exact joinZ_F2 rfl (by assumption) (Nat.le_trans hb1 (by decide)) (Nat.le_trans hb2 (by decide))) | (refine fun (hc : _ = _) => ?_; (try simp only [BB] at hc); (try (first | contradiction | (exfalso; omega)))) | exact arI | refine Pst.mk ⟨?_, rfl⟩ (by (repeat' constructor); first | done | fail) | constructor | (refine fun _ _ (hq : Hold _) => ?_; replace hq := hq.out; obtain ⟨_, rfl, rfl⟩ := hq) | (refine fun _ _ (hq : Hold _) => ?_; replace hq := hq.out; obtain ⟨_, _, rfl, rfl⟩ := hq) | rintro _ _ ⟨rfl, rfl⟩ | rintro _ _ ⟨_, rfl, rfl⟩ | rintro _ _ ⟨_, _, rfl, rfl⟩ | (refine fun (hc : _ = _) => ?_; (try simp only [BB] at hc)) | refine fun (_ : Nat) => ?_ | refine fun (_ : _ ≤ _) => ?_ | refine fun (_ : _ < _) => ?_ | (refine fun _ _ (hq : Hold _) => ?_; replace hq := hq.out; first | obtain ⟨t1, os, rfl, rfl, ha⟩ := hq | obtain ⟨t1, os, rfl, h0, ha, rfl⟩ := hq)
  rename_i t1 os h0 ha
  exact Pst.mk (.mk ⟨t1, os, rfl, h0, ha, rfl⟩) (by (repeat' constructor); first | done | fail)
end Go.Proofs.YticnenofiibpgaaDoor.Code
/- Tokens compared; words. -/
namespace Go.Md
def wd (c : UInt8) : UInt8 := byteN (97 + c.toNat % 26)
/-- A name of small letters. -/
def word9 (s : Str) : Str := 119 :: (s.take 8).map wd
end Go.Md
namespace Go.Proofs.YticnenofiibpgaaDoor.Code
open Go.Dm Go.Dm.C
set_option linter.unusedSimpArgs false
set_option linter.unusedVariables false
set_option linter.unnecessarySimpa false
set_option maxRecDepth 10000
attribute [local irreducible] Go.Dm.F Go.Dm.RS Go.Dm.Y Go.Dm.FD Go.Dm.FZ1 Go.Dm.Hold
variable {R : List Ck}
theorem take_eq_step {α : Type} [Inhabited α] {l m : List α} {i : Nat} (h : l.take i = m.take i) (hl : i < l.length) (hm : i < m.length) : l.take (i + 1) = m.take (i + 1) ↔ l.getD i default = m.getD i default := by
  have e1 : l.take (i + 1) = l.take i ++ [l[i]] := by rw [List.take_add_one, List.getElem?_eq_getElem hl]; rfl
  have e2 : m.take (i + 1) = m.take i ++ [m[i]] := by rw [List.take_add_one, List.getElem?_eq_getElem hm]; rfl
  rw [e1, e2, h]
  simp only [List.append_cancel_left_eq, List.cons.injEq, and_true, List.getD_eq_getElem?_getD, List.getElem?_eq_getElem hl, List.getElem?_eq_getElem hm, Option.getD_some]
theorem equal_F {t z t' z' : Nat} {l m : List (Md.Str × Md.Str)} (hz : z = zOf t 2) (hz' : z' = zOf t' 2) (hl : l.length ≤ 1000000000) : F D 42 [.lst t z (l.map encA), .lst t' z' (m.map encA)] R (fun v cs' => v = .bool (decide (l = m)) ∧ R = cs') := by
  subst hz; subst hz'
  refine F.of rfl rfl rfl ?_
  repeat' first | exact arI | refine Pst.mk ⟨?_, rfl⟩ (by (repeat' constructor); first | done | fail) | constructor | (refine fun _ _ (hq : Hold _) => ?_; replace hq := hq.out; obtain ⟨_, rfl, rfl⟩ := hq) | (refine fun _ _ (hq : Hold _) => ?_; replace hq := hq.out; obtain ⟨_, _, rfl, rfl⟩ := hq) | rintro _ _ ⟨rfl, rfl⟩ | rintro _ _ ⟨_, rfl, rfl⟩ | rintro _ _ ⟨_, _, rfl, rfl⟩ | (refine fun (hc : _ = _) => ?_; (try simp only [BB] at hc)) | refine fun (_ : Nat) => ?_ | refine fun (_ : _ ≤ _) => ?_ | refine fun (_ : _ < _) => ?_
  · rw [decide_eq_false]; intro e; subst e; omega
  refine RS.loopW (α := Nat) (fun i => [(0, .lst t (zOf t 2) (l.map encA)), (1, .lst t' (zOf t' 2) (m.map encA)), (12, .int .i64 l.length), (13, .int .i64 (i : Nat))]) (fun _ => R)
    (fun i => i ≤ l.length ∧ l.take i = m.take i) (fun i => l.length - i) 0 ⟨Nat.zero_le _, rfl⟩ ⟨rfl, rfl, rfl, rfl, trivial⟩ .refl ?_
  rintro i ⟨h1, h2⟩ ih
  dsimp only [ents] at *
  have hte := fun a b => take_eq_step h2 (i := i) a b
  repeat' first | (refine fun (hc : _ = _) => ?_; (try simp only [BB] at hc); (try (first | contradiction | (exfalso; omega)))) | exact arI | refine Pst.mk ⟨?_, rfl⟩ (by (repeat' constructor); first | done | fail) | constructor | (refine fun _ _ (hq : Hold _) => ?_; replace hq := hq.out; obtain ⟨_, rfl, rfl⟩ := hq) | (refine fun _ _ (hq : Hold _) => ?_; replace hq := hq.out; obtain ⟨_, _, rfl, rfl⟩ := hq) | rintro _ _ ⟨rfl, rfl⟩ | rintro _ _ ⟨_, rfl, rfl⟩ | rintro _ _ ⟨_, _, rfl, rfl⟩ | (refine fun (hc : _ = _) => ?_; (try simp only [BB] at hc)) | refine fun (_ : Nat) => ?_ | refine fun (_ : _ ≤ _) => ?_ | refine fun (_ : _ < _) => ?_
  · rw [decide_eq_false]; intro e; subst e; simp at hc
  · refine ih _ _ (i + 1) ⟨by omega, (hte (by omega) (by omega)).2 (Prod.ext hc.1 hc.2)⟩ (by omega) ⟨rfl, rfl, rfl, rfl, trivial⟩ .refl
  · rw [decide_eq_true]
    rw [List.take_of_length_le (by omega), List.take_of_length_le (by omega)] at h2
    exact h2
set_option maxHeartbeats 1000000 in
theorem tokSame_F {p q : Md.Tok × Nat} (hl : p.1.attrs.length ≤ 1000000000) : F D 29 [encT p, encT q] R (fun v cs' => v = .bool (decide (p.1 = q.1)) ∧ R = cs') := by
  refine F.of rfl rfl rfl ?_
  repeat' first | (show FC _ _ _ _ _; exact equal_F rfl rfl hl) | (refine fun (hc : _ = _) => ?_; (try simp only [BB] at hc); (try (first | contradiction | (exfalso; omega)))) | exact arI | refine Pst.mk ⟨?_, rfl⟩ (by (repeat' constructor); first | done | fail) | constructor | (refine fun _ _ (hq : Hold _) => ?_; replace hq := hq.out; obtain ⟨_, rfl, rfl⟩ := hq) | (refine fun _ _ (hq : Hold _) => ?_; replace hq := hq.out; obtain ⟨_, _, rfl, rfl⟩ := hq) | rintro _ _ ⟨rfl, rfl⟩ | rintro _ _ ⟨_, rfl, rfl⟩ | rintro _ _ ⟨_, _, rfl, rfl⟩ | (refine fun (hc : _ = _) => ?_; (try simp only [BB] at hc)) | refine fun (_ : Nat) => ?_ | refine fun (_ : _ ≤ _) => ?_ | refine fun (_ : _ < _) => ?_
  obtain ⟨⟨p1, p2, p3, p4, p5, p6, p7, p8, p9, p10⟩, tp⟩ := p
  obtain ⟨⟨q1, q2, q3, q4, q5, q6, q7, q8, q9, q10⟩, tq⟩ := q
  dsimp only
  congr 1
  rw [Bool.eq_iff_iff]
  simp [and_assoc]
  exact ⟨fun ⟨a, b, c, d⟩ => ⟨b, c, a, d⟩, fun ⟨b, c, a, d⟩ => ⟨a, b, c, d⟩⟩
theorem word9_take {s : Md.Str} {i : Nat} (h : i < s.length) : (s.take (i + 1)).map Md.wd = (s.take i).map Md.wd ++ [Md.wd (s.getD i 0)] := by
  rw [List.take_add_one, List.getElem?_eq_getElem h]
  simp only [List.getD_eq_getElem?_getD, List.getElem?_eq_getElem h, Option.getD_some, Option.toList_some, List.map_append, List.map_cons, List.map_nil]
theorem word9_F {s : Md.Str} : F D 14 [.str s] R (fun v cs' => v = .str (Md.word9 s) ∧ R = cs') := by
  refine F.of rfl rfl rfl ?_
  repeat' first | exact arI | refine Pst.mk ⟨?_, rfl⟩ (by (repeat' constructor); first | done | fail) | constructor | (refine fun _ _ (hq : Hold _) => ?_; replace hq := hq.out; obtain ⟨_, rfl, rfl⟩ := hq) | (refine fun _ _ (hq : Hold _) => ?_; replace hq := hq.out; obtain ⟨_, _, rfl, rfl⟩ := hq) | rintro _ _ ⟨rfl, rfl⟩ | rintro _ _ ⟨_, rfl, rfl⟩ | rintro _ _ ⟨_, _, rfl, rfl⟩ | (refine fun (hc : _ = _) => ?_; (try simp only [BB] at hc)) | refine fun (_ : Nat) => ?_ | refine fun (_ : _ ≤ _) => ?_ | refine fun (_ : _ < _) => ?_
  refine RS.loopW (α := Nat) (fun i => [(0, .str s), (3, .str (119 :: (s.take i).map Md.wd)), (4, .int .i64 (i : Nat))]) (fun _ => R)
    (fun i => i ≤ s.length ∧ i ≤ 8) (fun i => 8 - i) 0 ⟨Nat.zero_le _, Nat.zero_le _⟩ ⟨rfl, rfl, rfl, trivial⟩ .refl ?_
  rintro i ⟨h1, h2⟩ ih
  dsimp only [ents] at *
  have hw := fun h => word9_take (s := s) (i := i) h
  repeat' first | (refine fun (hc : _ = _) => ?_; (try simp only [BB] at hc); (try (first | contradiction | (exfalso; omega)))) | exact arI | refine Pst.mk ⟨?_, rfl⟩ (by (repeat' constructor); first | done | fail) | constructor | (refine fun _ _ (hq : Hold _) => ?_; replace hq := hq.out; obtain ⟨_, rfl, rfl⟩ := hq) | (refine fun _ _ (hq : Hold _) => ?_; replace hq := hq.out; obtain ⟨_, _, rfl, rfl⟩ := hq) | rintro _ _ ⟨rfl, rfl⟩ | rintro _ _ ⟨_, rfl, rfl⟩ | rintro _ _ ⟨_, _, rfl, rfl⟩ | (refine fun (hc : _ = _) => ?_; (try simp only [BB] at hc)) | refine fun (_ : Nat) => ?_ | refine fun (_ : _ ≤ _) => ?_ | refine fun (_ : _ < _) => ?_
  · have e := hw (by omega)
    have h26 := (List.getD s i 0).toNat_lt
    have e2 : UInt8.ofNat (IntKind.u8.wrap (97 + (((List.getD s (i : Int).toNat 0).toNat : Int)).tmod 26)).toNat = Md.wd (List.getD s i 0) := by
      rw [Int.toNat_natCast, wrap_u8, Int.tmod_eq_emod_of_nonneg (by omega)]
      apply UInt8.toNat.inj
      rw [Md.wd, byteN_nat (by omega), UInt8.toNat_ofNat']
      omega
    refine ih _ _ (i + 1) (by omega) (by omega) ?_ (by (repeat' constructor); first | done | fail)
    rw [e, ← e2]; exact ⟨rfl, rfl, rfl, trivial⟩
  · unfold Md.word9
    congr 2
    by_cases h8 : i = 8
    · subst h8; rfl
    · rw [List.take_of_length_le (by omega), List.take_of_length_le (by omega)]
theorem indexS_F {t z : Nat} {ns : List Md.Str} {m : Md.Str} (hz : ZK t z 1) (hl : ns.length ≤ 1000000000) : F D 56 [.lst t z (ns.map DV.str), .str m] R (fun v cs' => Hold (∃ k : Int, v = .int .i64 k ∧ R = cs' ∧ (0 ≤ k ↔ m ∈ ns))) := by
  refine F.of rfl rfl rfl ?_
  repeat' first | exact arI | refine Pst.mk ⟨?_, rfl⟩ (by (repeat' constructor); first | done | fail) | constructor | (refine fun _ _ (hq : Hold _) => ?_; replace hq := hq.out; obtain ⟨_, rfl, rfl⟩ := hq) | (refine fun _ _ (hq : Hold _) => ?_; replace hq := hq.out; obtain ⟨_, _, rfl, rfl⟩ := hq) | rintro _ _ ⟨rfl, rfl⟩ | rintro _ _ ⟨_, rfl, rfl⟩ | rintro _ _ ⟨_, _, rfl, rfl⟩ | (refine fun (hc : _ = _) => ?_; (try simp only [BB] at hc)) | refine fun (_ : Nat) => ?_ | refine fun (_ : _ ≤ _) => ?_ | refine fun (_ : _ < _) => ?_
  refine RS.loopW (α := Nat) (fun i => [(0, .lst t z (ns.map DV.str)), (1, .str m), (7, .int .i64 ns.length), (8, .int .i64 (i : Nat))]) (fun _ => R)
    (fun i => i ≤ ns.length ∧ m ∉ ns.take i) (fun i => ns.length - i) 0 ⟨Nat.zero_le _, by simp⟩ ⟨rfl, rfl, rfl, rfl, trivial⟩ .refl ?_
  rintro i ⟨h1, h2⟩ ih
  dsimp only [ents] at *
  repeat' first | (show IA _ _ _ _ _ _; exact IA.map hz arI) | (refine fun (hc : _ = _) => ?_; (try simp only [BB] at hc); (try (first | contradiction | (exfalso; omega)))) | exact arI | refine Pst.mk ⟨?_, rfl⟩ (by (repeat' constructor); first | done | fail) | constructor | (refine fun _ _ (hq : Hold _) => ?_; replace hq := hq.out; obtain ⟨_, rfl, rfl⟩ := hq) | (refine fun _ _ (hq : Hold _) => ?_; replace hq := hq.out; obtain ⟨_, _, rfl, rfl⟩ := hq) | rintro _ _ ⟨rfl, rfl⟩ | rintro _ _ ⟨_, rfl, rfl⟩ | rintro _ _ ⟨_, _, rfl, rfl⟩ | (refine fun (hc : _ = _) => ?_; (try simp only [BB] at hc)) | refine fun (_ : Nat) => ?_ | refine fun (_ : _ ≤ _) => ?_ | refine fun (_ : _ < _) => ?_
  · exact Pst.mk (.mk ⟨_, rfl, rfl, fun _ => by rw [hc, List.getD_eq_getElem?_getD, List.getElem?_eq_getElem (by omega)]; exact List.getElem_mem _, fun _ => by omega⟩) .refl
  · refine ih _ _ (i + 1) ⟨by omega, ?_⟩ (by omega) ⟨rfl, rfl, rfl, rfl, trivial⟩ .refl
    rw [List.take_add_one, List.getElem?_eq_getElem (by omega)]
    rw [List.getD_eq_getElem?_getD, List.getElem?_eq_getElem (by omega)] at hc
    simp only [Option.toList_some, List.mem_append, List.mem_singleton, not_or]
    exact ⟨h2, hc⟩
  · rw [List.take_of_length_le (by omega)] at h2
    exact Pst.mk (.mk ⟨_, rfl, rfl, fun h => by omega, fun h => absurd h h2⟩) .refl
theorem containsS_F {t z : Nat} {ns : List Md.Str} {m : Md.Str} (hz : ZK t z 1) (hl : ns.length ≤ 1000000000) : F D 43 [.lst t z (ns.map DV.str), .str m] R (fun v cs' => v = .bool (decide (m ∈ ns)) ∧ R = cs') := by
  refine F.of rfl rfl rfl ?_
  repeat' first | (show FC _ _ _ _ _; exact indexS_F hz hl) | (refine fun (hc : _ = _) => ?_; (try simp only [BB] at hc); (try (first | contradiction | (exfalso; omega)))) | exact arI | refine Pst.mk ⟨?_, rfl⟩ (by (repeat' constructor); first | done | fail) | constructor | (refine fun _ _ (hq : Hold _) => ?_; replace hq := hq.out; obtain ⟨_, rfl, rfl⟩ := hq) | (refine fun _ _ (hq : Hold _) => ?_; replace hq := hq.out; obtain ⟨_, _, rfl, rfl⟩ := hq) | rintro _ _ ⟨rfl, rfl⟩ | rintro _ _ ⟨_, rfl, rfl⟩ | rintro _ _ ⟨_, _, rfl, rfl⟩ | (refine fun (hc : _ = _) => ?_; (try simp only [BB] at hc)) | refine fun (_ : Nat) => ?_ | refine fun (_ : _ ≤ _) => ?_ | refine fun (_ : _ < _) => ?_ | (refine fun _ _ (hq : Hold _) => ?_; replace hq := hq.out; obtain ⟨k, rfl, rfl, hk⟩ := hq)
  congr 1
  by_cases h : m ∈ ns
  · rw [decide_eq_true h, decide_eq_true (hk.2 h)]
  · rw [decide_eq_false h, decide_eq_false (fun x => h (hk.1 x))]
theorem is_F {p : Md.Tok × Nat} {k : Int} {t : Nat} {n : Md.Str} : F D 30 [encT p, .int .i64 k, .lst t (zOf t 1) [.str n]] R (fun v cs' => v = .bool (decide (p.1.kind = k ∧ p.1.name = n)) ∧ R = cs') := by
  refine F.of rfl rfl rfl ?_
  repeat' first | (show FC _ _ _ _ _; exact containsS_F (ns := [n]) .zof (by simp)) | (refine fun (hc : _ = _) => ?_; (try simp only [BB] at hc); (try (first | contradiction | (exfalso; omega)))) | exact arI | refine Pst.mk ⟨?_, rfl⟩ (by (repeat' constructor); first | done | fail) | constructor | (refine fun _ _ (hq : Hold _) => ?_; replace hq := hq.out; obtain ⟨_, rfl, rfl⟩ := hq) | (refine fun _ _ (hq : Hold _) => ?_; replace hq := hq.out; obtain ⟨_, _, rfl, rfl⟩ := hq) | rintro _ _ ⟨rfl, rfl⟩ | rintro _ _ ⟨_, rfl, rfl⟩ | rintro _ _ ⟨_, _, rfl, rfl⟩ | (refine fun (hc : _ = _) => ?_; (try simp only [BB] at hc)) | refine fun (_ : Nat) => ?_ | refine fun (_ : _ ≤ _) => ?_ | refine fun (_ : _ < _) => ?_
  all_goals (congr 1; simp [hc])
end Go.Proofs.YticnenofiibpgaaDoor.Code
/- How a text is read on, with texts az one: rules. -/
namespace Go.Md
def tx (d : Str) : Tok := { Tok.zero with kind := 1, data := d }
/-- A text more. -/
def app (l : List Tok) (d : Str) : List Tok := joinStep l (tx d)
theorem app_emp (d : Str) : app [] d = if d = [] then [] else [tx d] := by
  unfold app
  rw [joinStep_nil]
  by_cases h : d = []
  · subst h; rfl
  · rw [if_neg (fun x => h x.2), if_neg h]
theorem app_snoc (l : List Tok) (u : Tok) (d : Str) : app (l ++ [u]) d = if u.kind = 1 then l ++ [{ u with data := u.data ++ d }] else if d = [] then l ++ [u] else l ++ [u] ++ [tx d] := by
  unfold app
  rw [joinStep_snoc]
  simp only [tx, true_and]
theorem app_nil (l : List Tok) : app l [] = l := by
  rcases List.eq_nil_or_concat l with rfl | ⟨l, u, rfl⟩
  · rw [app_emp, if_pos rfl]
  · rw [List.concat_eq_append, app_snoc]; split
    · simp
    · rw [if_pos rfl]
theorem app_app (l : List Tok) (a b : Str) : app (app l a) b = app l (a ++ b) := by
  by_cases ha : a = []
  · subst ha; rw [app_nil, List.nil_append]
  · have h2 : a ++ b ≠ [] := by simp [ha]
    rcases List.eq_nil_or_concat l with rfl | ⟨l, u, rfl⟩
    · rw [app_emp, if_neg ha, app_emp, if_neg h2]
      have := app_snoc [] (tx a) b
      rw [List.nil_append] at this
      rw [this, if_pos (show (tx a).kind = 1 from rfl)]; rfl
    · rw [List.concat_eq_append, app_snoc, app_snoc]; split
      · rename_i hk
        rw [app_snoc, if_pos (by exact hk)]; simp
      · (try rw [if_neg ha]); (try rw [if_neg h2]); rw [app_snoc, if_pos (show (tx a).kind = 1 from rfl)]; simp [tx, Tok.zero]
def vt (acc : List Tok) (x : Lx) : List Tok := app (x.out.foldl joinStep acc) (encode x.text)
/-- Where a lexer is, and what it gave. -/
structure At (acc : List Tok) (x : Lx) (w : Int) (n : Str) (b : Bool) (r : List Int) (A : List Tok) : Prop where
  done : x.done = false
  way : x.way = w
  last : x.last = n
  room : x.room = b
  rest : x.rest = r
  vt : vt acc x = A
end Go.Md
namespace Go.Proofs.YticnenofiibpgaaDoor.Code
open Go.Dm
set_option linter.unusedSimpArgs false
set_option linter.unusedVariables false
variable {acc : List Md.Tok} {x : Md.Lx} {w : Int} {n : Md.Str} {b : Bool} {r : List Int} {A B : List Md.Tok}
theorem enc_app (a b : List Int) : Md.encode (a ++ b) = Md.encode a ++ Md.encode b := by simp [Md.encode]
theorem enc_one (r : Int) : Md.encode [r] = Md.putR r := by simp [Md.encode]
theorem enc_cons (r : Int) (l : List Int) : Md.encode (r :: l) = Md.putR r ++ Md.encode l := by simp [Md.encode]
theorem At.adv (h : Md.At acc x w n b r A) (k : Nat) : Md.At acc (x.adv k) w n b (r.drop k) A := ⟨h.done, h.way, h.last, h.room, by rw [rest_adv, h.rest], h.vt⟩
theorem At.say (h : Md.At acc x w n b r A) (d : List Int) : Md.At acc (x.say d) w n b r (Md.app A (Md.encode (d.filter (· != -1)))) := ⟨h.done, h.way, h.last, h.room, h.rest, by
  rw [← h.vt]; unfold Md.vt
  rw [Md.app_app, ← enc_app]; rfl⟩
theorem At.say' (h : Md.At acc x w n b r A) {d : List Int} (hd : ∀ r ∈ d, 0 ≤ r) : Md.At acc (x.say d) w n b r (Md.app A (Md.encode d)) := by
  have := At.say h d
  rwa [filter_nn hd] at this
theorem At.flush (h : Md.At acc x w n b r A) : Md.At acc x.flush w n b r A := by
  unfold Md.Lx.flush
  split
  · exact h
  · refine ⟨h.done, h.way, h.last, h.room, h.rest, ?_⟩
    rw [← h.vt]; unfold Md.vt
    show Md.app ((x.out ++ [Md.textTok x.text]).foldl Md.joinStep acc) [] = _
    rw [Md.app_nil, List.foldl_append]; rfl
theorem flush_text0 : x.flush.text = [] := flush_text
theorem At.emit (h : Md.At acc x w n b r A) (t : Md.Tok) : Md.At acc (x.emit t) w (if t.kind = 2 then t.name else n) b r (Md.joinStep A t) := by
  have h1 := At.flush h
  refine ⟨h1.done, h1.way, ?_, h1.room, h1.rest, ?_⟩
  · show (if t.kind = 2 then t.name else x.flush.last) = _; rw [h1.last]
  · have h2 := h1.vt
    unfold Md.vt at h2 ⊢
    have e : (x.emit t).text = [] := flush_text
    have e0 : x.flush.text = [] := flush_text
    rw [e0] at h2
    rw [e]
    show Md.app ((x.flush.out ++ [t]).foldl Md.joinStep acc) [] = _
    have e2 : Md.encode [] = [] := rfl
    rw [e2, Md.app_nil] at h2
    rw [Md.app_nil, List.foldl_append, h2]; rfl
theorem At.setWay (h : Md.At acc x w n b r A) (w' : Int) : Md.At acc { x with way := w' } w' n b r A := ⟨h.done, rfl, h.last, h.room, h.rest, h.vt⟩
theorem At.pk (h : Md.At acc x w n b r A) (k : Nat) : x.pk k = r.getD k (-1) := by rw [pk_rest, h.rest]
/-- Read from here on, with what is there already: what it all is. -/
def Rd (w : Int) (n : Md.Str) (b : Bool) (r : List Int) (A B : List Md.Tok) : Prop := ∀ acc x, NI x → Md.At acc x w n b r A → x.toks.foldl Md.joinStep acc = B
theorem NI.noOut (h : NI x) : NI { x with out := [] } := ⟨h.len, h.nn, h.pos, h.pos2, h.text, by show (0 : Nat) ≤ 100; omega, h.last⟩
theorem At.noOut (h : Md.At acc x w n b r A) : Md.At (x.out.foldl Md.joinStep acc) { x with out := [] } w n b r A := ⟨h.done, h.way, h.last, h.room, h.rest, h.vt⟩
theorem At.fin (h : Md.At acc x w n b r A) : Md.At acc (stepFin x) w n b r A := by
  unfold stepFin; split
  · exact At.flush h
  · exact h
theorem Rd.step {w' : Int} {n' : Md.Str} {b' : Bool} {r' : List Int} {A' : List Md.Tok} (h : ∀ acc x, NI x → x.out = [] → Md.At acc x w n b r A → Md.At acc (stepMid x) w' n' b' r' A') (hr : Rd w' n' b' r' A' B) : Rd w n b r A B := by
  intro acc x hN hS
  have hN0 := hN.noOut
  have hS0 := At.noOut hS
  rw [toks_out, List.foldl_append]
  have ho : ({ x with out := [] } : Md.Lx).out = [] := rfl
  generalize ({ x with out := [] } : Md.Lx) = y at *
  rw [toks_step hN0 hS0.done ho]
  refine hr _ _ (hN0.step hS0.done ho) ?_
  rw [step_eq]
  exact At.fin (h _ _ hN0 ho hS0)
theorem Rd.nil : Rd w n b [] A A := by
  intro acc x hN hS
  have hN0 := hN.noOut
  have hS0 := At.noOut hS
  rw [toks_out, List.foldl_append]
  have ho : ({ x with out := [] } : Md.Lx).out = [] := rfl
  generalize ({ x with out := [] } : Md.Lx) = y at *
  rw [toks_step hN0 hS0.done ho]
  have hp : y.pk 0 = -1 := by rw [At.pk hS0]; rfl
  have hmid : stepMid y = { (y.adv 1).flush with done := true } := by rw [stepMid, if_pos hp]
  have hst : y.step = { (y.adv 1).flush with done := true } := by
    rw [step_eq, stepFin, hmid, if_neg]
    intro h; apply h.2.1; show (y.adv 1).flush.text = []; exact flush_text
  have hf := (At.flush (At.adv hS0 1)).vt
  rw [toks_out, hst]
  have hd : ({ ({ (y.adv 1).flush with done := true } : Md.Lx) with out := [] } : Md.Lx).toks = [] := toks_done rfl rfl
  rw [hd, List.append_nil]
  unfold Md.vt at hf
  have e : (y.adv 1).flush.text = [] := flush_text
  have e2 : Md.encode [] = [] := rfl
  rw [e, e2, Md.app_nil] at hf
  exact hf
/-- Signs that are a part of the text, in a way. -/
def okSign (w : Int) (c : Int) : Prop := 0 < c ∧ c ≠ 60 ∧ (c = 38 → w ≠ 0 ∧ w ≠ 1)
theorem okSign.of {c : Int} (h : Md.plainSign c = true ∧ 0 ≤ c) : okSign w c := by
  obtain ⟨hc, h0⟩ := h
  simp only [Md.plainSign, Bool.not_eq_true', Bool.or_eq_false_iff, beq_eq_false_iff_ne, ne_eq] at hc
  exact ⟨by omega, hc.1.2, fun h => absurd h hc.1.1⟩
theorem mid_plain {c : Int} {l : List Int} (hc : okSign x.way c) (hr : x.rest = c :: l) : stepMid x = ((x.adv 1).adv (l.takeWhile Md.plainSign).length).say (c :: l.takeWhile Md.plainSign) := by
  have hp : x.pk 0 = c := by rw [pk_rest, hr]; rfl
  have h1 : (x.adv 1).rest = l := by rw [rest_adv, hr]; rfl
  obtain ⟨h0, h60, h38⟩ := hc
  rw [stepMid, hp, h1, if_neg (by omega), if_neg (fun h => by have := h38 h.1; omega), if_neg (fun h => h60 h.1), if_neg (fun h => h60 h.1), if_neg (fun h => h60 h.1), if_neg (by omega), if_neg (by omega)]
theorem Rd.plain1 {c : Int} {l : List Int} (hc : okSign w c) (h : Rd w n b l (Md.app A (Md.putR c)) B) : Rd w n b (c :: l) A B := by
  have h0 : 0 ≤ c := Int.le_of_lt hc.1
  cases l with
  | nil =>
    refine Rd.step (fun acc x hN ho hS => ?_) h
    rw [mid_plain (by rw [hS.way]; exact hc) hS.rest]
    have := At.say' (At.adv (At.adv hS 1) 0) (d := [c]) (by simp [h0])
    rw [enc_one] at this
    exact this
  | cons e l =>
    by_cases he : Md.plainSign e = true
    · intro acc x hN hS
      have hN0 := hN.noOut
      have hS0 := At.noOut hS
      rw [toks_out, List.foldl_append]
      have ho : ({ x with out := [] } : Md.Lx).out = [] := rfl
      generalize ({ x with out := [] } : Md.Lx) = y at *
      have hlt : y.pos < y.inp.length := by
        by_cases hlt : y.pos < y.inp.length
        · exact hlt
        · have := rest_nil (s := y) (by omega); rw [hS0.rest] at this; cases this
      have hNz : NI ((y.adv 1).say [c]) := ⟨hN0.len, hN0.nn, by show y.pos + 1 ≤ _; exact Nat.succ_le_succ (Nat.le_of_lt hlt), fun _ => by show y.pos + 1 ≤ y.inp.length; omega, by
        show (y.text ++ [c].filter (· != -1)).length ≤ 10 * (y.pos + 1)
        have := hN0.text
        rw [filter_nn (by simp [h0]), List.length_append, List.length_singleton]; omega, hN0.out, hN0.last⟩
      have hSz := At.say' (At.adv hS0 1) (d := [c]) (by simp [h0])
      rw [enc_one] at hSz
      have := h _ _ hNz hSz
      rw [← this]
      have he0 : 0 ≤ e := hN0.nn e (by
        have : e ∈ y.rest := by rw [hS0.rest]; simp
        exact List.mem_of_mem_drop this)
      congr 1
      rw [toks_step hN0 hS0.done ho, toks_step hNz hSz.done (by exact ho), step_eq, step_eq]
      congr 2
      rw [mid_plain (by rw [hS0.way]; exact hc) hS0.rest, mid_plain (okSign.of ⟨he, he0⟩) (show ((y.adv 1).say [c]).rest = e :: l by rw [rest_say, rest_adv, hS0.rest]; rfl)]
      rw [List.takeWhile_cons, if_pos he]
      unfold Md.Lx.say Md.Lx.adv
      simp only [List.length_cons, Md.Lx.mk.injEq, true_and, and_true]
      have e1 : (c :: e :: l.takeWhile Md.plainSign).filter (· != -1) = [c].filter (· != -1) ++ (e :: l.takeWhile Md.plainSign).filter (· != -1) := by rw [← List.filter_append]; rfl
      exact ⟨by omega, by rw [e1, List.append_assoc]⟩
    · refine Rd.step (fun acc x hN ho hS => ?_) h
      rw [mid_plain (by rw [hS.way]; exact hc) hS.rest, List.takeWhile_cons, if_neg he]
      have := At.say' (At.adv (At.adv hS 1) 0) (d := [c]) (by simp [h0])
      rw [enc_one] at this
      exact this
theorem Rd.plain {l : List Int} : ∀ (d : List Int) {A : List Md.Tok}, (∀ c ∈ d, okSign w c) → Rd w n b l (Md.app A (Md.encode d)) B → Rd w n b (d ++ l) A B
  | [], A, _, h => by have e : Md.encode [] = [] := rfl; rw [e, Md.app_nil] at h; exact h
  | c :: d, A, hd, h => Rd.plain1 (hd c (by simp)) (Rd.plain d (fun x hx => hd x (by simp [hx])) (by rw [Md.app_app, ← enc_cons]; exact h))
/-- A < where tags may stand. -/
theorem Rd.tag {n' : Md.Str} {w' : Int} {b' : Bool} {l r' : List Int} {A' : List Md.Tok} (h : ∀ acc x, (∀ r ∈ x.inp, 0 ≤ r) → Md.At acc x 0 n b l A → Md.At acc x.open_ w' n' b' r' A') (hr : Rd w' n' b' r' A' B) : Rd 0 n b (60 :: l) A B := by
  refine Rd.step (fun acc x hN ho hS => ?_) hr
  have hp : x.pk 0 = 60 := by rw [At.pk hS]; rfl
  have hw := hS.way
  rw [stepMid, if_neg (by omega), if_neg (by omega), if_pos ⟨hp, hw⟩]
  exact h _ _ (by rw [flush_inp]; exact hN.nn) (At.flush (At.adv hS 1))
/-- A < in the other ways. -/
theorem Rd.shut {n' : Md.Str} {w' : Int} {b' : Bool} {l r' : List Int} {A' : List Md.Tok} (hw : w = 1 ∨ w = 2) (h : ∀ acc x, (∀ r ∈ x.inp, 0 ≤ r) → Md.At acc x w n b l A → Md.At acc x.close w' n' b' r' A') (hr : Rd w' n' b' r' A' B) : Rd w n b (60 :: l) A B := by
  refine Rd.step (fun acc x hN ho hS => ?_) hr
  have hp : x.pk 0 = 60 := by rw [At.pk hS]; rfl
  have hw' := hS.way
  rw [stepMid, if_neg (by omega), if_neg (by omega), if_neg (by omega), if_pos ⟨hp, by omega⟩]
  exact h _ _ (by rw [flush_inp]; exact hN.nn) (At.flush (At.adv hS 1))
theorem Rd.scr {n' : Md.Str} {w' : Int} {b' : Bool} {l r' : List Int} {A' : List Md.Tok} (h : ∀ acc x, (∀ r ∈ x.inp, 0 ≤ r) → Md.At acc x 3 n b l A → Md.At acc x.script w' n' b' r' A') (hr : Rd w' n' b' r' A' B) : Rd 3 n b (60 :: l) A B := by
  refine Rd.step (fun acc x hN ho hS => ?_) hr
  have hp : x.pk 0 = 60 := by rw [At.pk hS]; rfl
  have hw' := hS.way
  rw [stepMid, if_neg (by omega), if_neg (by omega), if_neg (by omega), if_neg (by omega), if_pos ⟨hp, by omega⟩]
  exact h _ _ (by rw [flush_inp]; exact hN.nn) (At.flush (At.adv hS 1))
theorem Rd.ref {l : List Int} (hw : w = 0 ∨ w = 1) (hs : ∀ r ∈ (Md.refer false l).1, 0 ≤ r) (hr : Rd w n b (l.drop (Md.refer false l).2) (Md.app A (Md.encode (Md.refer false l).1)) B) : Rd w n b (38 :: l) A B := by
  refine Rd.step (fun acc x hN ho hS => ?_) hr
  have hp : x.pk 0 = 38 := by rw [At.pk hS]; rfl
  have hw' := hS.way
  rw [stepMid, if_neg (by omega), if_pos ⟨hp, by omega⟩]
  have h1 : (x.adv 1).rest = l := by rw [rest_adv, hS.rest]; rfl
  unfold refA
  rw [h1]
  exact At.say' (At.adv (At.adv hS 1) _) hs
theorem Rd.start {c : Md.Str} {w : Int} {nm : Md.Str} {room : Bool} (hN : NI { Md.Lx.new c with way := w, last := nm, room := room }) (h : Rd w nm room (Md.decode c) [] B) : Md.join ({ Md.Lx.new c with way := w, last := nm, room := room } : Md.Lx).toks = B :=
  h [] _ hN ⟨rfl, rfl, rfl, rfl, rfl, rfl⟩
theorem Rd.conv {r' : List Int} {A' B' : List Md.Tok} (h : Rd w n b r' A' B') (h1 : r = r') (h2 : A = A') (h3 : B' = B) : Rd w n b r A B := by subst h1; subst h2; subst h3; exact h
end Go.Proofs.YticnenofiibpgaaDoor.Code
/- A marked section is a text where it may stand, and a comment where it may not. -/
namespace Go.Md
def asc (b : Str) : List Int := b.map fun c => (c.toNat : Int)
end Go.Md
namespace Go.Proofs.YticnenofiibpgaaDoor.Code
open Go.Dm
set_option linter.unusedSimpArgs false
set_option linter.unusedVariables false
theorem asc_app (a b : Md.Str) : Md.asc (a ++ b) = Md.asc a ++ Md.asc b := List.map_append
theorem putR_asc {c : UInt8} (h : c.toNat < 128) : Md.putR (c.toNat : Int) = [c] := by
  rw [putR_nat (by omega), if_pos (by omega)]
  congr 1
  apply UInt8.toNat.inj
  rw [byteN_nat (by omega)]
theorem enc_asc {b : Md.Str} (h : ∀ c ∈ b, c.toNat < 128) : Md.encode (Md.asc b) = b := by
  induction b with
  | nil => rfl
  | cons c b ih =>
    show Md.encode ((c.toNat : Int) :: Md.asc b) = _
    rw [enc_cons, putR_asc (h c (by simp)), ih (fun x hx => h x (by simp [hx]))]; rfl
theorem dec_asc {b : Md.Str} (h : ∀ c ∈ b, c.toNat < 128 ∧ c.toNat ≠ 13) : Md.decode b = Md.asc b := by
  conv => lhs; rw [← enc_asc (fun c hc => (h c hc).1)]
  refine decode_encode fun r hr => ?_
  obtain ⟨c, hc, rfl⟩ := List.mem_map.1 hr
  have := h c hc
  exact ⟨⟨by omega, by omega, by omega⟩, by omega, by omega⟩
theorem asc_nn {b : Md.Str} : ∀ r ∈ Md.asc b, 0 ≤ r := fun r hr => by obtain ⟨c, hc, rfl⟩ := List.mem_map.1 hr; omega
theorem asc_plain {w : Int} {b : Md.Str} (h : ∀ c ∈ b, c.toNat ≠ 0 ∧ c.toNat ≠ 60 ∧ (c.toNat = 38 → w ≠ 0 ∧ w ≠ 1)) : ∀ r ∈ Md.asc b, okSign w r := fun r hr => by
  obtain ⟨c, hc, rfl⟩ := List.mem_map.1 hr
  have := h c hc
  exact ⟨by omega, by omega, fun h => this.2.2 (by omega)⟩
theorem section_app : ∀ (d l : List Int), (∀ r ∈ d, r ≠ 93) → Md.sectionGo (d ++ 93 :: 93 :: 62 :: l) = (d, d.length + 3)
  | [], l, _ => by simp [Md.sectionGo]
  | r :: d, l, h => by
    have h1 := h r (by simp)
    have := section_app d l (fun x hx => h x (by simp [hx]))
    rw [List.cons_append, Md.sectionGo, if_neg (fun hh => h1 hh.1), this]
    simp only [List.length_cons, Prod.mk.injEq, true_and]
theorem bogus_app : ∀ (d l : List Int), (∀ r ∈ d, r ≠ 62 ∧ r ≠ 0) → Md.bogusGo (d ++ 62 :: l) = (d, d.length + 1)
  | [], l, _ => by simp [Md.bogusGo]
  | r :: d, l, h => by
    have h1 := h r (by simp)
    have := bogus_app d l (fun x hx => h x (by simp [hx]))
    rw [List.cons_append, Md.bogusGo, if_neg h1.1, this]
    simp only [List.length_cons, Prod.mk.injEq, and_true, Md.fixr, if_neg h1.2]
def secOk (c : UInt8) : Bool := decide (32 ≤ c.toNat) && decide (c.toNat < 127) && decide (c.toNat ≠ 93) && decide (c.toNat ≠ 62)
theorem secOk_iff {c : UInt8} : secOk c = true ↔ 32 ≤ c.toNat ∧ c.toNat < 127 ∧ c.toNat ≠ 93 ∧ c.toNat ≠ 62 := by simp [secOk, and_assoc]
def secPre : Md.Str := [60, 33, 91, 67, 68, 65, 84, 65, 91]
def comTok (d : Md.Str) : Md.Tok := { Md.Tok.zero with kind := 4, data := d }
def secRes (may : Bool) (d : Md.Str) : List Md.Tok := if may then [Md.tx (d ++ [120])] else [comTok ([91, 67, 68, 65, 84, 65, 91] ++ d ++ [93, 93]), Md.tx [120]]
theorem sections_pure {d : Md.Str} {may : Bool} (hd : ∀ c ∈ d, secOk c = true) (hN : NI { Md.Lx.new (secPre ++ d ++ [93, 93, 62, 120]) with room := may }) : Md.join ({ Md.Lx.new (secPre ++ d ++ [93, 93, 62, 120]) with room := may } : Md.Lx).toks = secRes may d := by
  have hd' : ∀ c ∈ d, 32 ≤ c.toNat ∧ c.toNat < 127 ∧ c.toNat ≠ 93 ∧ c.toNat ≠ 62 := fun c hc => secOk_iff.1 (hd c hc)
  refine Rd.start (w := 0) (nm := []) (room := may) hN ?_
  rw [dec_asc (by
    intro c hc
    simp only [secPre, List.mem_append] at hc
    rcases hc with (hc | hc) | hc
    · revert hc; revert c; decide
    · have := hd' c hc; omega
    · revert hc; revert c; decide), asc_app, asc_app]
  have hA : ∀ r ∈ Md.asc d, r ≠ 93 ∧ r ≠ 62 ∧ r ≠ 0 := fun r hr => by
    obtain ⟨c, hc, rfl⟩ := List.mem_map.1 hr
    have := hd' c hc; omega
  have hE : Md.encode (Md.asc d) = d := enc_asc (fun c hc => by have := hd' c hc; omega)
  show Rd 0 [] may (60 :: 33 :: 91 :: 67 :: 68 :: 65 :: 84 :: 65 :: 91 :: (Md.asc d ++ [93, 93, 62, 120])) [] _
  have hs1 := section_app (Md.asc d) [120] (fun r hr => (hA r hr).1)
  have hb1 := bogus_app ([91, 67, 68, 65, 84, 65, 91] ++ Md.asc d ++ [93, 93]) [120] (fun r hr => by
    simp only [List.mem_append] at hr
    rcases hr with (hr | hr) | hr
    · revert hr; revert r; decide
    · have := hA r hr; omega
    · revert hr; revert r; decide)
  have e1 : ([91, 67, 68, 65, 84, 65, 91] ++ Md.asc d ++ [93, 93] : List Int) ++ 62 :: [120] = 91 :: 67 :: 68 :: 65 :: 84 :: 65 :: 91 :: (Md.asc d ++ [93, 93, 62, 120]) := by simp
  rw [e1] at hb1
  generalize hL : Md.asc d ++ [93, 93, 62, 120] = L at *
  cases may with
  | true =>
    refine Rd.tag (w' := 0) (n' := []) (b' := true) (r' := [120]) (A' := Md.app [] d) (fun acc x hx hS => ?_) ?_
    · have hp0 : x.pk 0 = 33 := At.pk hS 0
      have h1 := At.adv hS 1
      have hr1 : (x.adv 1).rest = 91 :: 67 :: 68 :: 65 :: 84 :: 65 :: 91 :: L := h1.rest
      have hp1 : (x.adv 1).pk 0 = 91 := At.pk h1 0
      have e : x.open_ = ((x.adv 1).adv 7).section_ := by
        rw [Md.Lx.open_, if_pos hp0, Md.Lx.declare, hr1]
        rw [if_neg (by simp [Md.stands, Md.small]), if_neg (by simp [Md.stands, Md.small]), if_pos ⟨h1.room, hp1, by simp [Md.exact]⟩]
      rw [e]
      have h7 := At.adv h1 7
      have hr7 : ((x.adv 1).adv 7).rest = L := h7.rest
      unfold Md.Lx.section_
      rw [hr7, hs1]
      have h8 := At.say' (At.adv h7 (Md.asc d).length.succ.succ.succ) (d := Md.asc d) asc_nn
      rw [hE] at h8
      have e9 : (List.drop (Md.asc d).length.succ.succ.succ (List.drop 7 (List.drop 1 (33 :: 91 :: 67 :: 68 :: 65 :: 84 :: 65 :: 91 :: L)))) = [120] := by
        show List.drop ((Md.asc d).length + 3) L = _
        rw [← hL, ← List.drop_drop, List.drop_left]; rfl
      rw [e9] at h8
      exact h8
    · refine Rd.conv (Rd.plain (d := [120]) (by simp [okSign]) Rd.nil) rfl rfl ?_
      rw [Md.app_app, show Md.encode [120] = [120] from rfl, Md.app_emp, if_neg (by simp)]; rfl
  | false =>
    refine Rd.tag (w' := 0) (n' := []) (b' := false) (r' := [120]) (A' := [comTok ([91, 67, 68, 65, 84, 65, 91] ++ d ++ [93, 93])]) (fun acc x hx hS => ?_) ?_
    · have hp0 : x.pk 0 = 33 := At.pk hS 0
      have h1 := At.adv hS 1
      have hr1 : (x.adv 1).rest = 91 :: 67 :: 68 :: 65 :: 84 :: 65 :: 91 :: L := h1.rest
      have hp1 : (x.adv 1).pk 0 = 91 := At.pk h1 0
      have hrm : (x.adv 1).room = false := h1.room
      have e : x.open_ = (x.adv 1).bogus := by
        rw [Md.Lx.open_, if_pos hp0, Md.Lx.declare, hr1]
        rw [if_neg (by simp [Md.stands, Md.small]), if_neg (by simp [Md.stands, Md.small]), if_neg (by rw [hrm]; simp)]
      rw [e]
      unfold Md.Lx.bogus
      rw [hr1, hb1]
      have h8 := At.emit (At.adv h1 (([91, 67, 68, 65, 84, 65, 91] ++ Md.asc d ++ [93, 93]).length + 1)) (comTok ([91, 67, 68, 65, 84, 65, 91] ++ d ++ [93, 93]))
      have e9 : List.drop (([91, 67, 68, 65, 84, 65, 91] ++ Md.asc d ++ [93, 93]).length + 1) (List.drop 1 (33 :: 91 :: 67 :: 68 :: 65 :: 84 :: 65 :: 91 :: L)) = [120] := by
        show List.drop _ (91 :: 67 :: 68 :: 65 :: 84 :: 65 :: 91 :: L) = _
        rw [← e1, ← List.drop_drop, List.drop_left]; rfl
      rw [e9] at h8
      have e10 : Md.encode ([91, 67, 68, 65, 84, 65, 91] ++ Md.asc d ++ [93, 93]) = [91, 67, 68, 65, 84, 65, 91] ++ d ++ [93, 93] := by
        rw [enc_app, enc_app, hE]; rfl
      rw [e10]
      exact h8
    · refine Rd.conv (Rd.plain (d := [120]) (by simp [okSign]) Rd.nil) rfl rfl ?_
      rfl
theorem filter_take {f : UInt8 → Bool} {s : Md.Str} {i : Nat} (h : i < s.length) : (s.take (i + 1)).filter f = (s.take i).filter f ++ (if f (s.getD i 0) = true then [s.getD i 0] else []) := by
  rw [List.take_add_one, List.getElem?_eq_getElem h, List.filter_append]
  congr 1
  rw [List.getD_eq_getElem?_getD, List.getElem?_eq_getElem h]
  simp only [Option.toList_some, Option.getD_some, List.filter_cons, List.filter_nil]
theorem one_cut {s : Md.Str} {i : Nat} (h : i < s.length) : List.take (((i : Int) + 1).toNat - (i : Int).toNat) (List.drop (i : Int).toNat s) = [s.getD i 0] := by
  rw [show ((i : Int) + 1).toNat - (i : Int).toNat = 1 by omega, Int.toNat_natCast, drop_get h]; rfl
end Go.Proofs.YticnenofiibpgaaDoor.Code
/- An element's end, where its text is read in the raw way. -/
namespace Go.Proofs.YticnenofiibpgaaDoor.Code
open Go.Dm
set_option linter.unusedSimpArgs false
set_option linter.unusedVariables false
variable {acc : List Md.Tok} {x : Md.Lx} {w : Int} {n : Md.Str} {b : Bool} {r : List Int} {A B : List Md.Tok}
theorem dec1 {s : Md.Str} {i : Nat} (h : i < s.length) (ha : (s.getD i 0).toNat < 128) : Utf8.decode ⟨s.toArray⟩ i = ((s.getD i 0).toNat, 1) := by
  have e : ByteArray.get! ⟨s.toArray⟩ i = s.getD i 0 := by
    show s.toArray[i]! = _
    simp [List.getD_eq_getElem?_getD, h]
  unfold Utf8.decode
  simp only [Nat.add_zero, e]
  rw [if_pos (by omega)]
theorem runesGo_asc {s : Md.Str} (ha : ∀ c ∈ s, c.toNat < 128) : ∀ (f i : Nat), s.length ≤ i + f → Md.runesGo f s i = Md.asc (s.drop i)
  | 0, i, h => by rw [Md.runesGo, List.drop_eq_nil_of_le (by omega)]; rfl
  | f + 1, i, h => by
    rw [Md.runesGo]
    split
    · rename_i hi
      have hm : s.getD i 0 ∈ s := by rw [List.getD_eq_getElem?_getD, List.getElem?_eq_getElem hi]; exact List.getElem_mem _
      rw [dec1 hi (ha _ hm), drop_get hi, runesGo_asc ha f (i + 1) (by omega)]; rfl
    · rw [List.drop_eq_nil_of_le (by omega)]; rfl
theorem runes_asc {s : Md.Str} (ha : ∀ c ∈ s, c.toNat < 128) : Md.runes s = Md.asc s := by
  rw [Md.runes, runesGo_asc ha _ 0 (by omega)]; rfl
def lowName (n : Md.Str) : Prop := n ≠ [] ∧ ∀ c ∈ n, 97 ≤ c.toNat ∧ c.toNat ≤ 122
theorem small_low {c : Int} (h : 97 ≤ c) : Md.small c = c := by
  unfold Md.small; rw [if_neg (by omega)]
theorem goes_asc : ∀ (n : Md.Str) (T : List Int), (∀ c ∈ n, 97 ≤ c.toNat ∧ c.toNat ≤ 122) → Md.goesOn (Md.asc n) (Md.asc n ++ T) = true
  | [], T, _ => rfl
  | c :: n, T, h => by
    have h1 := h c (by simp)
    have := goes_asc n T (fun x hx => h x (by simp [hx]))
    show (Md.small (c.toNat : Int) == (c.toNat : Int) && Md.goesOn (Md.asc n) (Md.asc n ++ T)) = true
    rw [this, small_low (by omega)]; simp
theorem over_low {c : Int} (h : 97 ≤ c) : Md.over c = false := by
  simp [Md.over, Md.blank]; omega
theorem nameOf_asc {n : Md.Str} {T : List Int} (h : ∀ c ∈ n, 97 ≤ c.toNat ∧ c.toNat ≤ 122) (hT : Md.over (T.headD (-1)) = true) : Md.nameOf (Md.asc n ++ T) = Md.asc n := by
  induction n with
  | nil =>
    cases T with
    | nil => rfl
    | cons t T => show List.takeWhile _ (t :: T) = []; rw [List.takeWhile_cons, if_neg]; simpa using hT
  | cons c n ih =>
    have h1 := h c (by simp)
    show List.takeWhile _ ((c.toNat : Int) :: (Md.asc n ++ T)) = _
    rw [List.takeWhile_cons, if_pos (by rw [over_low (by omega)]; rfl)]
    have := ih (fun x hx => h x (by simp [hx]))
    unfold Md.nameOf at this
    rw [this]; rfl
theorem enc_name {n : Md.Str} (h : ∀ c ∈ n, 97 ≤ c.toNat ∧ c.toNat ≤ 122) : Md.encode ((Md.asc n).map fun r => Md.small (Md.fixr r)) = n := by
  have e : (Md.asc n).map (fun r => Md.small (Md.fixr r)) = Md.asc n := by
    rw [List.map_congr_left (g := id), List.map_id]
    intro r hr
    obtain ⟨c, hc, rfl⟩ := List.mem_map.1 hr
    have := h c hc
    rw [Md.fixr, if_neg (by omega), small_low (by omega)]; rfl
  rw [e, enc_asc (fun c hc => by have := h c hc; omega)]
def endTok (n : Md.Str) : Md.Tok := { Md.Tok.zero with kind := 3, name := n }
/-- A tag's rest, for an end. -/
theorem At.tag3 {n' : Md.Str} {T : List Int} (hn : lowName n) (hT : Md.over (T.headD (-1)) = true) (hq : (Md.attrsGo T []).2.2.1 = true) (h : Md.At acc x w n' b (Md.asc n ++ T) A) : Md.At acc (x.tag 3) w n' b (T.drop (Md.attrsGo T []).2.2.2) (Md.joinStep A (endTok n)) := by
  unfold Md.Lx.tag
  dsimp only
  rw [h.rest, nameOf_asc hn.2 hT, List.drop_left, if_pos hq, if_pos rfl, if_pos rfl, enc_name hn.2]
  have h1 := At.emit (At.adv h ((Md.asc n).length + (Md.attrsGo T []).2.2.2)) (endTok n)
  have e3 : ¬(endTok n).kind = 2 := by show ¬(3 : Int) = 2; decide
  rw [if_neg e3, ← List.drop_drop, List.drop_left] at h1
  exact h1
theorem closes_asc {T : List Int} (hn : lowName n) (hT : Md.over (T.headD (-1)) = true) : Md.closes n (47 :: (Md.asc n ++ T)) = 1 + n.length := by
  obtain ⟨h0, h1⟩ := hn
  obtain ⟨c, m, rfl⟩ : ∃ c m, n = c :: m := by cases n with
    | nil => exact absurd rfl h0
    | cons c m => exact ⟨c, m, rfl⟩
  have hl := h1 c (by simp)
  have hr : Md.runes (c :: m) = Md.asc (c :: m) := runes_asc (fun x hx => by have := h1 x hx; omega)
  have hlen : (Md.asc (c :: m)).length = (c :: m).length := List.length_map ..
  unfold Md.closes
  rw [if_neg, hr, if_pos, hlen]
  · refine ⟨goes_asc _ _ h1, ?_⟩
    have e : (47 :: (Md.asc (c :: m) ++ T)).getD (1 + (Md.asc (c :: m)).length) (-1) = T.headD (-1) := by
      rw [Nat.add_comm, List.getD_cons_succ, List.getD_eq_getElem?_getD, List.getElem?_append_right (Nat.le_refl _), Nat.sub_self]
      cases T <;> rfl
    rw [e]; exact hT
  · rintro (h | h | h)
    · exact h rfl
    · have : Md.letter (c.toNat : Int) = false := h
      have h2 : Md.letter (c.toNat : Int) = true := by simp [Md.letter]; omega
      rw [h2] at this; cases this
    · cases h
theorem At.close {T : List Int} (hn : lowName n) (hT : Md.over (T.headD (-1)) = true) (hq : (Md.attrsGo T []).2.2.1 = true) (h : Md.At acc x w n b (47 :: (Md.asc n ++ T)) A) : Md.At acc x.close 0 n b (T.drop (Md.attrsGo T []).2.2.2) (Md.joinStep A (endTok n)) := by
  unfold Md.Lx.close
  rw [h.last, h.rest, if_neg (by rw [closes_asc hn hT]; omega)]
  exact At.tag3 hn hT hq (At.setWay (At.adv h 1) 0)
theorem At.noClose (h : Md.At acc x w n b r A) (hc : Md.closes n r = 0) : Md.At acc x.close w n b r (Md.app A [60]) := by
  unfold Md.Lx.close
  rw [h.last, h.rest, if_pos hc]
  exact At.say' h (by simp)
theorem attrs_gt (l : List Int) (a : List (Md.Str × Md.Str)) : Md.attrsGo (62 :: l) a = (a, false, true, 1) := by
  rw [Md.attrsGo]; simp [Md.blank]
end Go.Proofs.YticnenofiibpgaaDoor.Code
/- A script that hides another one in a comment goes on behind that one's end. -/
namespace Go.Proofs.YticnenofiibpgaaDoor.Code
open Go.Dm
set_option linter.unusedSimpArgs false
set_option linter.unusedVariables false
variable {last : Md.Str} {p q l : List Int} {k k1 k2 : Nat} {h h1 h2 : Bool}
/-- A script's signs up to a place. -/
def Sg (last : Md.Str) (p l : List Int) (k : Nat) (h : Bool) (k' : Nat) (h' : Bool) : Prop := Md.scriptGo last (p ++ l) k h = (p ++ (Md.scriptGo last l k' h').1, (Md.scriptGo last l k' h').2.1 + p.length, (Md.scriptGo last l k' h').2.2)
theorem Sg.nil : Sg last [] l k h k h := by unfold Sg; simp
theorem Sg.trans (a : Sg last p (q ++ l) k h k1 h1) (b : Sg last q l k1 h1 k2 h2) : Sg last (p ++ q) l k h k2 h2 := by
  unfold Sg at *
  rw [List.append_assoc, a, b]
  simp only [List.append_assoc, List.length_append, Prod.mk.injEq, true_and, and_true]; omega
theorem Sg.ord1 {r : Int} (h1 : r ≠ 45) (h2 : r ≠ 60) (h3 : r ≠ 0) (h4 : r ≠ 62 ∨ k < 2) : Sg last [r] l k h 0 h := by
  unfold Sg
  rw [List.singleton_append, scriptGo_cons, if_neg h1, if_neg (by omega), if_neg (fun x => h2 x.1), if_neg h2, Md.fixr, if_neg h3]; rfl
theorem Sg.ords : ∀ (d : List Int), (∀ r ∈ d, r ≠ 45 ∧ r ≠ 60 ∧ r ≠ 0 ∧ r ≠ 62) → Sg last d l 0 h 0 h
  | [], _ => Sg.nil
  | r :: d, hd => by
    have h0 := hd r (by simp)
    exact Sg.trans (p := [r]) (Sg.ord1 h0.1 h0.2.1 h0.2.2.1 (.inl h0.2.2.2)) (Sg.ords d (fun x hx => hd x (by simp [hx])))
theorem Sg.dash : Sg last [45] l k h (k + 1) h := by
  unfold Sg
  rw [List.singleton_append, scriptGo_cons, if_pos rfl]; rfl
theorem Sg.dashes {last : Md.Str} {l : List Int} {h : Bool} : ∀ (n k : Nat), Sg last (List.replicate n 45) l k h (k + n) h
  | 0, k => Sg.nil
  | n + 1, k => by
    have := Sg.trans (p := [45]) (q := List.replicate n 45) (l := l) (last := last) (h := h) Sg.dash (Sg.dashes n (k + 1))
    rw [show k + (n + 1) = k + 1 + n by omega]
    exact this
theorem word_sp {c : Int} (hc : Md.over c = true) : Md.word (115 :: 99 :: 114 :: 105 :: 112 :: 116 :: c :: l) = 7 := by
  unfold Md.word
  rw [if_pos ⟨rfl, hc⟩]
theorem Sg.word : Sg last [60, 115, 99, 114, 105, 112, 116, 32] l k false 0 true := by
  unfold Sg
  show Md.scriptGo last (60 :: 115 :: 99 :: 114 :: 105 :: 112 :: 116 :: 32 :: l) k false = _
  have hc : Md.closes last (115 :: 99 :: 114 :: 105 :: 112 :: 116 :: 32 :: l) = 0 := by
    unfold Md.closes; rw [if_pos (.inl (by show (115 : Int) ≠ 47; decide))]
  rw [scriptGo_cons, if_neg (by decide), if_neg (by intro x; exact absurd x.1 (by decide)), if_pos ⟨rfl, rfl⟩, if_neg (by rw [hc]; omega), word_sp rfl]
  rfl
theorem Sg.back : Sg last [60, 47, 115, 99, 114, 105, 112, 116, 62] l k true 0 false := by
  unfold Sg
  show Md.scriptGo last (60 :: 47 :: 115 :: 99 :: 114 :: 105 :: 112 :: 116 :: 62 :: l) k true = _
  rw [scriptGo_cons, if_neg (by decide), if_neg (by intro x; exact absurd x.1 (by decide)), if_neg (by intro x; exact absurd x.2 (by decide)), if_pos rfl, if_pos (show List.headD (47 :: 115 :: 99 :: 114 :: 105 :: 112 :: 116 :: 62 :: l) (-1) = 47 from rfl), List.tail_cons, word_sp rfl]
  rfl
def scrOk (c : UInt8) : Bool := decide (32 ≤ c.toNat) && decide (c.toNat < 127) && decide (c.toNat ≠ 60) && decide (c.toNat ≠ 45) && decide (c.toNat ≠ 62)
theorem scrOk_iff {c : UInt8} : scrOk c = true ↔ 32 ≤ c.toNat ∧ c.toNat < 127 ∧ c.toNat ≠ 60 ∧ c.toNat ≠ 45 ∧ c.toNat ≠ 62 := by simp [scrOk, and_assoc]
/-- The script's begin, up to its dashes. -/
def scrMid (hide : Bool) (d : Md.Str) : Md.Str := if hide then [60, 115, 99, 114, 105, 112, 116, 32] ++ d ++ [62, 60, 47, 115, 99, 114, 105, 112, 116, 62] ++ d else []
def scrBody (hide : Bool) (d : Md.Str) (k : Nat) : Md.Str := [60, 33, 45, 45, 120] ++ d ++ scrMid hide d ++ List.replicate k 45 ++ [45, 62] ++ d
def scrName : Md.Str := [115, 99, 114, 105, 112, 116]
def scrAll (hide : Bool) (d : Md.Str) (k : Nat) : Md.Str := scrBody hide d k ++ [60, 47, 115, 99, 114, 105, 112, 116, 62, 122]
theorem asc_rep (k : Nat) : Md.asc (List.replicate k 45) = List.replicate k 45 := by unfold Md.asc; rw [List.map_replicate]; rfl
theorem scr_mid {hide : Bool} {d : Md.Str} (hd : ∀ c ∈ d, scrOk c = true) : Sg last (Md.asc (scrMid hide d)) l 0 false 0 false := by
  have hA : ∀ r ∈ Md.asc d, r ≠ 45 ∧ r ≠ 60 ∧ r ≠ 0 ∧ r ≠ 62 := fun r hr => by
    obtain ⟨c, hc, rfl⟩ := List.mem_map.1 hr
    have := scrOk_iff.1 (hd c hc); omega
  cases hide with
  | false => exact Sg.nil
  | true =>
    show Sg last (Md.asc ([60, 115, 99, 114, 105, 112, 116, 32] ++ d ++ [62, 60, 47, 115, 99, 114, 105, 112, 116, 62] ++ d)) l 0 false 0 false
    rw [asc_app, asc_app, asc_app]
    refine Sg.trans (k1 := 0) (h1 := false) (Sg.trans (k1 := 0) (h1 := true) (Sg.trans (k1 := 0) (h1 := true) Sg.word (Sg.ords _ hA)) ?_) (Sg.ords _ hA)
    exact Sg.trans (p := [62]) (q := [60, 47, 115, 99, 114, 105, 112, 116, 62]) (Sg.ord1 (by decide) (by decide) (by decide) (.inr (by decide))) Sg.back
theorem scripts_pure {hide : Bool} {d : Md.Str} {k : Nat} (hk : 1 ≤ k) (hd : ∀ c ∈ d, scrOk c = true) (hN : NI { Md.Lx.new (scrAll hide d k) with way := 3, last := scrName }) :
    Md.join ({ Md.Lx.new (scrAll hide d k) with way := 3, last := scrName } : Md.Lx).toks = [Md.tx (scrBody hide d k), endTok scrName, Md.tx [122]] := by
  have hA : ∀ r ∈ Md.asc d, r ≠ 45 ∧ r ≠ 60 ∧ r ≠ 0 ∧ r ≠ 62 := fun r hr => by
    obtain ⟨c, hc, rfl⟩ := List.mem_map.1 hr
    have := scrOk_iff.1 (hd c hc); omega
  have hd' : ∀ c ∈ d, 32 ≤ c.toNat ∧ c.toNat < 127 := fun c hc => by have := scrOk_iff.1 (hd c hc); omega
  have hm : ∀ c ∈ scrMid hide d, c.toNat < 128 ∧ c.toNat ≠ 13 := fun c hc => by
    unfold scrMid at hc
    split at hc
    · simp only [List.mem_append] at hc
      rcases hc with ((hc | hc) | hc) | hc
      · revert hc; revert c; decide
      · have := hd' c hc; omega
      · revert hc; revert c; decide
      · have := hd' c hc; omega
    · cases hc
  refine Rd.start (w := 3) (nm := scrName) (room := false) hN ?_
  rw [dec_asc (by
    intro c hc
    simp only [scrAll, scrBody, List.mem_append, List.mem_replicate] at hc
    rcases hc with (((((hc | hc) | hc) | hc) | hc) | hc) | hc
    · revert hc; revert c; decide
    · have := hd' c hc; omega
    · exact hm c hc
    · rw [hc.2]; decide
    · revert hc; revert c; decide
    · have := hd' c hc; omega
    · revert hc; revert c; decide)]
  have e1 : Md.asc (scrAll hide d k) = 60 :: 33 :: 45 :: 45 :: ((((([120] ++ Md.asc d) ++ Md.asc (scrMid hide d)) ++ List.replicate k 45) ++ [45]) ++ 62 :: (Md.asc d ++ 60 :: (47 :: (Md.asc scrName ++ [62, 122])))) := by
    unfold scrAll scrBody
    rw [asc_app, asc_app, asc_app, asc_app, asc_app, asc_app, asc_rep]
    simp only [List.append_assoc]; rfl
  rw [e1]
  have hS : ∀ l, Sg scrName (((([120] ++ Md.asc d) ++ Md.asc (scrMid hide d)) ++ List.replicate k 45) ++ [45]) l 2 false (0 + k + 1) false := fun l =>
    Sg.trans (Sg.trans (Sg.trans (Sg.trans (Sg.ord1 (by decide) (by decide) (by decide) (.inl (by decide))) (Sg.ords _ hA)) (scr_mid hd)) (Sg.dashes _ _)) Sg.dash
  have hE : Md.encode (Md.asc d) = d := enc_asc (fun c hc => by have := hd' c hc; omega)
  have hEp : Md.encode (((([120] ++ Md.asc d) ++ Md.asc (scrMid hide d)) ++ List.replicate k 45) ++ [45]) = [120] ++ d ++ scrMid hide d ++ List.replicate k 45 ++ [45] := by
    have e : ((([120] ++ Md.asc d) ++ Md.asc (scrMid hide d)) ++ List.replicate k 45) ++ [45] = Md.asc ([120] ++ d ++ scrMid hide d ++ List.replicate k 45 ++ [45]) := by
      rw [asc_app, asc_app, asc_app, asc_app, asc_rep]; rfl
    rw [e, enc_asc]
    intro c hc
    simp only [List.mem_append, List.mem_replicate] at hc
    rcases hc with (((hc | hc) | hc) | hc) | hc
    · revert hc; revert c; decide
    · have := hd' c hc; omega
    · exact (hm c hc).1
    · rw [hc.2]; decide
    · revert hc; revert c; decide
  generalize ((([120] ++ Md.asc d) ++ Md.asc (scrMid hide d)) ++ List.replicate k 45) ++ [45] = P at *
  refine Rd.scr (w' := 3) (n' := scrName) (b' := false) (r' := Md.asc d ++ 60 :: (47 :: (Md.asc scrName ++ [62, 122]))) (A' := Md.app (Md.app [] [60, 33, 45, 45]) (Md.encode (P ++ [62]))) (fun acc x hx hS' => ?_) ?_
  · generalize hL : Md.asc d ++ 60 :: (47 :: (Md.asc scrName ++ [62, 122])) = L at *
    have hr : x.rest = 33 :: 45 :: 45 :: (P ++ 62 :: L) := hS'.rest
    have hl := hS'.last
    have hex : Md.exact [33, 45, 45] x.rest = true := by rw [hr]; rfl
    have h1 := At.adv (At.say' hS' (d := [60, 33, 45, 45]) (by simp)) 3
    have hr1 : ((x.say [60, 33, 45, 45]).adv 3).rest = P ++ 62 :: L := h1.rest
    have hq : Md.scriptGo scrName (P ++ 62 :: L) 2 false = (P ++ [62], P.length + 1, false) := by
      have := hS (62 :: L)
      unfold Sg at this
      rw [this, scriptGo_cons, if_neg (by decide), if_pos ⟨rfl, by omega⟩, Nat.add_comm]
    unfold Md.Lx.script
    rw [if_neg (by rw [hex]; decide)]
    dsimp only
    rw [hl, hr1, hq]
    dsimp only
    rw [if_neg (by decide)]
    have hP0 : ∀ r ∈ P ++ [62], 0 ≤ r := fun r hr' => hx r (by
      have : r ∈ x.rest := by
        rw [hr]
        simp only [List.mem_append, List.mem_cons, List.not_mem_nil, or_false] at hr' ⊢
        rcases hr' with h | h
        · exact .inr (.inr (.inr (.inl h)))
        · exact .inr (.inr (.inr (.inr (.inl h))))
      exact List.mem_of_mem_drop this)
    have h2 := At.adv (At.say' h1 (d := P ++ [62]) hP0) (P.length + 1)
    have e9 : List.drop (P.length + 1) (List.drop 3 (33 :: 45 :: 45 :: (P ++ 62 :: L))) = L := by
      show List.drop (P.length + 1) (P ++ 62 :: L) = L
      rw [← List.drop_drop, List.drop_left]; rfl
    rw [e9] at h2
    exact h2
  refine Rd.plain _ (asc_plain fun c hc => ?_) ?_
  · have := scrOk_iff.1 (hd c hc)
    exact ⟨by omega, by omega, fun _ => by decide⟩
  refine Rd.scr (w' := 0) (n' := scrName) (b' := false) (r' := [122]) (A' := Md.joinStep (Md.app (Md.app (Md.app [] [60, 33, 45, 45]) (Md.encode (P ++ [62]))) (Md.encode (Md.asc d))) (endTok scrName)) (fun acc x hx hS' => ?_) ?_
  · have hex : Md.exact [33, 45, 45] x.rest = false := by rw [hS'.rest]; rfl
    unfold Md.Lx.script
    rw [if_pos hex]
    have := At.close (T := [62, 122]) (by exact ⟨by decide, by decide⟩) rfl (by rw [attrs_gt]) hS'
    rw [attrs_gt] at this
    exact this
  refine Rd.conv (Rd.plain (d := [122]) (by simp [okSign]) Rd.nil) rfl rfl ?_
  rw [Md.app_app, Md.app_app, Md.app_emp, if_neg (by simp), enc_app P, hEp, hE]
  have e2 : [60, 33, 45, 45] ++ ([120] ++ d ++ scrMid hide d ++ List.replicate k 45 ++ [45] ++ Md.encode [62] ++ d) = scrBody hide d k := by
    unfold scrBody; simp [show Md.encode [62] = [62] from rfl]
  rw [e2]; rfl
end Go.Proofs.YticnenofiibpgaaDoor.Code
/- The head of the lexer's laws, by a run from the start. -/
namespace Go.Proofs.YticnenofiibpgaaDoor
namespace Code
open Go.Dm
noncomputable def rhs : Option (DV × Heap) := closed D 3000 13 [] false Heap.start
theorem heads_run : okR rhs (.bool true) = true := by decide +kernel
theorem heads_both : ClC D 13 [] false Heap.start (.bool true) (heapOf rhs) ∧ Nat.ble 2 (heapOf rhs).next = true := by
  have h := heads_run
  unfold rhs at h ⊢
  exact closed_ok h
theorem sat_nil2 {h : Heap} (h2 : Nat.ble 2 h.next = true) : Sat h [] := ⟨Nat.le_of_ble_eq_true h2, fun _ hm => absurd hm List.not_mem_nil, List.Pairwise.nil⟩
theorem headSOk : ∃ h1 : Heap, ClC D 13 [] false Heap.start (.bool true) h1 ∧ Nat.ble 2 h1.next = true ∧ Sat h1 [] := ⟨_, heads_both.1, heads_both.2, sat_nil2 heads_both.2⟩
end Code
end Go.Proofs.YticnenofiibpgaaDoor
/- What LexScripts does on typed values. -/
namespace Go.Proofs.YticnenofiibpgaaDoor.Code
open Go.Dm Go.Dm.C
set_option linter.unusedSimpArgs false
set_option linter.unusedVariables false
set_option linter.unnecessarySimpa false
set_option maxRecDepth 10000
attribute [local irreducible] Go.Dm.F Go.Dm.RS Go.Dm.Y Go.Dm.FD Go.Dm.FZ1 Go.Dm.Hold
theorem and3 (n : Int) : ∃ k : Nat, k ≤ 3 ∧ binD .and .any (.int .i64 n) (.int .i64 3) = some (.int .i64 (k : Nat)) := by
  have hk : (BitVec.ofInt 64 n &&& BitVec.ofInt 64 3).toNat ≤ 3 := by
    rw [BitVec.toNat_and]
    exact Nat.and_le_right (n := (BitVec.ofInt 64 n).toNat) (m := 3)
  refine ⟨_, hk, ?_⟩
  show some (DV.int .i64 (IntKind.i64.wrap ((BitVec.ofInt 64 n &&& BitVec.ofInt 64 3).toNat : Int))) = _
  generalize (BitVec.ofInt 64 n &&& BitVec.ofInt 64 3).toNat = m at *
  match m, hk with
  | 0, _ => rfl
  | 1, _ => rfl
  | 2, _ => rfl
  | 3, _ => rfl
set_option maxHeartbeats 2000000 in
theorem scriptsLaw {s : Md.Str} {hide : Bool} {n : Int} : F0 D 8 [.str s, .bool hide, .int .i64 n] Heap.start (fun v cs' => v = .bool true) := by
  obtain ⟨hp1, c1, n1, s1⟩ := headSOk
  obtain ⟨k, hk, hkb⟩ := and3 n
  refine F0.of rfl rfl rfl ?_
  repeat' first | exact c1 | exact n1 | (refine R0.onP s1 ?_) | (refine Arith.mk ?_; omega) | (refine fun (hc : _ = _) => ?_; (try simp only [BB] at hc); (try (first | contradiction | (exfalso; omega)))) | exact arI | refine Pst.mk ⟨?_, rfl⟩ (by (repeat' constructor); first | done | fail) | constructor | (refine fun _ _ (hq : Hold _) => ?_; replace hq := hq.out; obtain ⟨_, rfl, rfl⟩ := hq) | (refine fun _ _ (hq : Hold _) => ?_; replace hq := hq.out; obtain ⟨_, _, rfl, rfl⟩ := hq) | rintro _ _ ⟨rfl, rfl⟩ | rintro _ _ ⟨_, rfl, rfl⟩ | rintro _ _ ⟨_, _, rfl, rfl⟩ | (refine fun (hc : _ = _) => ?_; (try simp only [BB] at hc)) | refine fun (_ : Nat) => ?_ | refine fun (_ : _ ≤ _) => ?_ | refine fun (_ : _ < _) => ?_
  · exact Pst.mk rfl .refl
  refine RS.loopW (α := Nat) (fun i => [(0, .str s), (1, .bool hide), (2, .int .i64 n), (7, .str ((s.take i).filter scrOk)), (8, .int .i64 (i : Nat))]) (fun _ => [])
    (fun i => i ≤ s.length) (fun i => s.length - i) 0 (Nat.zero_le _) ⟨rfl, rfl, rfl, rfl, rfl, trivial⟩ .refl ?_
  rintro i h1 ih
  dsimp only [ents] at *
  have hft := fun h => filter_take (f := scrOk) (s := s) (i := i) h
  have hfl := List.length_filter_le scrOk (s.take i)
  rw [List.length_take] at hfl
  have hok := scrOk_iff (c := s.getD i 0)
  repeat' first | (refine Arith.mk ?_; omega) | (refine fun (hc : _ = _) => ?_; (try simp only [BB] at hc); (try (first | contradiction | (exfalso; omega)))) | exact arI | refine Pst.mk ⟨?_, rfl⟩ (by (repeat' constructor); first | done | fail) | constructor | (refine fun _ _ (hq : Hold _) => ?_; replace hq := hq.out; obtain ⟨_, rfl, rfl⟩ := hq) | (refine fun _ _ (hq : Hold _) => ?_; replace hq := hq.out; obtain ⟨_, _, rfl, rfl⟩ := hq) | rintro _ _ ⟨rfl, rfl⟩ | rintro _ _ ⟨_, rfl, rfl⟩ | rintro _ _ ⟨_, _, rfl, rfl⟩ | (refine fun (hc : _ = _) => ?_; (try simp only [BB] at hc)) | refine fun (_ : Nat) => ?_ | refine fun (_ : _ ≤ _) => ?_ | refine fun (_ : _ < _) => ?_
  · have e := hft (by omega)
    rw [if_pos (hok.2 (by omega)), ← one_cut (by omega)] at e
    exact ih _ _ (i + 1) (by omega) (by omega) (by rw [e]; exact ⟨rfl, rfl, rfl, rfl, rfl, trivial⟩) .refl
  · have e := hft (by omega)
    rw [if_neg (fun h => by have := hok.1 h; omega), List.append_nil] at e
    exact ih _ _ (i + 1) (by omega) (by omega) (by rw [e]; exact ⟨rfl, rfl, rfl, rfl, rfl, trivial⟩) .refl
  all_goals
    have hd : ∀ c ∈ (s.take i).filter scrOk, scrOk c = true := fun c hc => (List.mem_filter.1 hc).2
    generalize (s.take i).filter scrOk = d at *
    have hml : (scrMid hide d).length ≤ 2 * d.length + 20 := by
      unfold scrMid; split <;> simp only [List.length_append, List.length_cons, List.length_nil] <;> omega
    refine RS.loopW (α := Nat) (fun j => [(2, .int .i64 n), (7, .str d), (9, .str ([60, 33, 45, 45, 120] ++ d ++ scrMid hide d ++ List.replicate j 45)), (10, .int .i64 (j : Nat))]) (fun _ => [])
      (fun j => j ≤ k + 1) (fun j => k + 1 - j) 0 (Nat.zero_le _) ⟨rfl, rfl, (by show some (DV.str _) = some (DV.str _); simp [scrMid, hc]), rfl, trivial⟩ .refl ?_
    clear ih
    rintro j hj ih
    dsimp only [ents] at *
    have hbl : (scrAll hide d j).length ≤ 1200 := by
      simp only [scrAll, scrBody, List.length_append, List.length_cons, List.length_nil, List.length_replicate]; omega
    repeat' first | (show BI _ _ _ _ _ _; exact .gen hkb) | (show FC _ _ _ _ _; first | exact new_F rfl (by simp only [List.length_append, List.length_cons, List.length_nil, List.length_replicate]; omega) | exact tokens_F | exact way_F (by (repeat' constructor); first | done | fail)) | (refine Arith.mk ?_; simp only [List.length_append, List.length_cons, List.length_nil, List.length_replicate]; omega) | (refine fun (hc : _ = _) => ?_; (try simp only [BB] at hc); (try (first | contradiction | (exfalso; omega)))) | exact arI | refine Pst.mk ⟨?_, rfl⟩ (by (repeat' constructor); first | done | fail) | constructor | (refine fun _ _ (hq : Hold _) => ?_; replace hq := hq.out; obtain ⟨_, rfl, rfl⟩ := hq) | (refine fun _ _ (hq : Hold _) => ?_; replace hq := hq.out; obtain ⟨_, _, rfl, rfl⟩ := hq) | rintro _ _ ⟨rfl, rfl⟩ | rintro _ _ ⟨_, rfl, rfl⟩ | rintro _ _ ⟨_, _, rfl, rfl⟩ | (refine fun (hc : _ = _) => ?_; (try simp only [BB] at hc)) | refine fun (_ : Nat) => ?_ | refine fun (_ : _ ≤ _) => ?_ | refine fun (_ : _ < _) => ?_
  all_goals first
    | (refine ih _ _ (j + 1) (by omega) (by omega) ⟨rfl, rfl, (by show some (DV.str _) = some (DV.str _); rw [List.replicate_succ', ← List.append_assoc]), rfl, trivial⟩ .refl)
    | skip
  all_goals
    rename_i t5 _ l0 t3 _ x1 _ q0
    obtain rfl : j = k + 1 := by omega
    obtain ⟨hN, hb1, hb2⟩ := new_small (c := scrAll hide d (k + 1)) (k := 1200) (w := 3) (n := scrName) (b := false) hbl (by omega) (by decide)
    have hP := scripts_pure (k := k + 1) (by omega) hd hN
    generalize hT : ({ Md.Lx.new (scrAll hide d (k + 1)) with way := 3, last := scrName, room := false } : Md.Lx).toks = T at *
    replace hP : Md.join T = [Md.tx (scrBody hide d (k + 1)), endTok scrName, Md.tx [122]] := by rw [← hT]; exact hP
    refine RS.rangeO rfl rfl fun m l Lr Lb Ld hL => ?_
    refine F.perm ((Rem.perm' (c := .obj q0 _) (by (repeat' constructor); first | done | fail)).trans ((Rem.perm' (c := LX l0 _ _) (by (repeat' constructor); first | done | fail)).cons _)) ?_
    refine F.mono (tokens_it (s := { Md.Lx.new (scrAll hide d (k + 1)) with way := 3, last := scrName, room := false }) (l := l) (fun ts cs => ∃ (t : Nat) (os : List (Md.Tok × Nat)), Lr :: .obj m .mark :: .obj x1 (.cells [.lst t (zOf t 10) (os.map encT)] none) :: .own t 10 (os.map encT) :: .own t5 1 (bytesV (scrAll hide d (k + 1))) :: [] = cs ∧ os.map Prod.fst ++ ts = T) (fun _ => False) ?_ hN ⟨t3, [], rfl, hT⟩) ?_
    · rintro t tag ts s2 g2 _ ⟨t1, os, rfl, ha⟩
      refine hL.y (.tail (.tail .head)) rfl ?_
      have hlen := congrArg List.length ha
      rw [List.length_append, List.length_map, List.length_cons] at hlen
      repeat' first | exact MapL.cons (y := (t, tag)) .nil | (refine Arith.mk ?_; omega) | (refine fun (hc : _ = _) => ?_; (try simp only [BB] at hc); (try (first | contradiction | (exfalso; omega)))) | exact arI | refine Pst.mk ⟨?_, rfl⟩ (by (repeat' constructor); first | done | fail) | constructor | (refine fun _ _ (hq : Hold _) => ?_; replace hq := hq.out; obtain ⟨_, rfl, rfl⟩ := hq) | (refine fun _ _ (hq : Hold _) => ?_; replace hq := hq.out; obtain ⟨_, _, rfl, rfl⟩ := hq) | rintro _ _ ⟨rfl, rfl⟩ | rintro _ _ ⟨_, rfl, rfl⟩ | rintro _ _ ⟨_, _, rfl, rfl⟩ | (refine fun (hc : _ = _) => ?_; (try simp only [BB] at hc)) | refine fun (_ : Nat) => ?_ | refine fun (_ : _ ≤ _) => ?_ | refine fun (_ : _ < _) => ?_
      rename_i t2
      exact Pst.mk (.mk ⟨_, rfl, .inl ⟨rfl, t2, os ++ [(t, tag)], rfl, by rw [← ha]; simp⟩⟩) (by (repeat' constructor); first | done | fail)
    rintro v cs' hq
    obtain ⟨s2, g2, cs1, rfl, hq2⟩ := hq.out
    rcases hq2 with ⟨t1, os, rfl, ha⟩ | hq2
    rotate_left
    · exact hq2.elim
    refine .ready (by (repeat' constructor); first | done | fail) ?_
    rw [List.append_nil] at ha
    repeat' first | (show FZ _ _ _ _ _; exact joinZ_F2 rfl ha (by omega) (by omega)) | (show FC _ _ _ _ _; exact is_F) | (refine fun _ _ (hq : Hold _) => ?_; replace hq := hq.out; obtain ⟨t6, os6, rfl, h6, ha6, rfl⟩ := hq; rw [hP] at ha6; simp only [List.map_eq_cons_iff, List.map_eq_nil_iff] at ha6; obtain ⟨a1, _, rfl, e1, a2, _, rfl, e2, a3, _, rfl, e3, rfl⟩ := ha6; have h9 : a1.1.data = [60, 33, 45, 45, 120] ++ d ++ scrMid hide d ++ List.replicate (k + 1) 45 ++ [45, 62] ++ d := by rw [e1]; rfl) | (refine fun (hc : _ = _) => ?_; (try simp only [BB] at hc); (try (first | contradiction | (exfalso; omega)))) | exact arI | refine Pst.mk ⟨?_, rfl⟩ (by (repeat' constructor); first | done | fail) | constructor | (refine fun _ _ (hq : Hold _) => ?_; replace hq := hq.out; obtain ⟨_, rfl, rfl⟩ := hq) | (refine fun _ _ (hq : Hold _) => ?_; replace hq := hq.out; obtain ⟨_, _, rfl, rfl⟩ := hq) | rintro _ _ ⟨rfl, rfl⟩ | rintro _ _ ⟨_, rfl, rfl⟩ | rintro _ _ ⟨_, _, rfl, rfl⟩ | (refine fun (hc : _ = _) => ?_; (try simp only [BB] at hc)) | refine fun (_ : Nat) => ?_ | refine fun (_ : _ ≤ _) => ?_ | refine fun (_ : _ < _) => ?_
    all_goals first
      | exact absurd h9 (‹((([a1, a2, a3].length : Nat) : Int) = 3 → ¬ a1.fst.data = [60, 33, 45, 45, 120] ++ d ++ scrMid hide d ++ List.replicate (k + 1) 45 ++ [45, 62] ++ d)› rfl)
      | exact Pst.mk (by simp [h9, e2, e3, endTok, scrName, Md.tx]) .refl
      | trace_state
end Go.Proofs.YticnenofiibpgaaDoor.Code
/- 'woodcutlaw09.LexScripts' returns true for every input; and its card. -/
namespace Go.Proofs.YticnenofiibpgaaDoor.lexScripts
set_option linter.unusedSimpArgs false
set_option linter.unusedVariables false
set_option linter.unnecessarySimpa false
open Go.ChangeShapes Go.WideShapes Go.ChangeAt Go.RowKit

theorem own : ownKnob Tryd.prog.godebug = none := by kernel_rfl
theorem gTab : Tryd.prog.globalNamed "woodcut/chars.windows" = some 0 := by kernel_rfl
theorem gTabType : (Tryd.prog.globals[0]?).map (·.type) = some 69 := by kernel_rfl
theorem cells33 : Tryd.prog.cellsOf 69 = 32 := by kernel_rfl
theorem cells21 : Tryd.prog.cellsOf 21 = 1 := by kernel_rfl

theorem table {W : World} (h : laidMetH Tryd.prog Rows.lexScriptsRow.laid W) : Lib.TabIs Tryd.prog W "woodcut/chars.windows" .i32 Code.windows :=
  Lib.tabIs_of_head (rest := []) gTab gTabType Tryd.underlying69 Tryd.underlying21 cells21 cells33 h

theorem globOk {W : World} (h : Lib.TabIs Tryd.prog W "woodcut/chars.windows" .i32 Code.windows) : Dm.GlobOk Code.D (Dm.Cor.start W) := by
  refine ⟨fun g cs hg x hx => ?_, fun g cs hg => ?_⟩
  · simp only [Code.D, Code.glob] at hg
    split at hg <;> cases hg
    obtain ⟨z, _, rfl⟩ := List.mem_map.1 hx
    rfl
  · simp only [Code.D, Code.glob] at hg
    split at hg <;> cases hg
    rename_i hg0
    obtain rfl := Nat.eq_of_beq_eq_true hg0
    refine ⟨Code.windows.map (Value.int .i32), ?_, fun j x hj => ?_⟩
    · generalize Code.windows = ws
      induction ws with
      | nil => exact .nil
      | cons z zs ih => exact .cons (.int _ _) ih
    · show W.cell? ⟨0, j, none⟩ = some x
      have hlt : j < Code.windows.length := by have := (List.getElem?_eq_some_iff.1 hj).1; simpa using this
      have hc := h.cell gTab j hlt
      rw [hc]
      rw [List.getElem?_map, List.getElem?_eq_getElem hlt] at hj
      rw [List.getD_eq_getElem?_getD, List.getElem?_eq_getElem hlt]
      simpa using hj

theorem tys : Dm.tyB Tryd.prog [9, 4, 3, 21] = true := by kernel_rfl
theorem run (dvs : List Dm.DV) (h : Dm.TAs Tryd.prog Tryd.f8.params.toList dvs) : Dm.F0 Code.D 8 dvs Dm.Heap.start (fun v _ => v = .bool true) := by
  rw [Tryd.params8] at h
  cases h with | @cons _ c0 _ _ h0 h =>
  cases h with | @cons _ c1 _ _ h1 h =>
  cases h with | @cons _ c2 _ _ h2 h =>
  cases h
  obtain ⟨s, e0, _⟩ := Dm.TC.strV Tryd.underlying9 h0
  obtain ⟨b, e1⟩ := Dm.TC.boolV Tryd.underlying4 h1
  obtain ⟨n, e2, _⟩ := Dm.TC.intV Tryd.underlying3 h2
  rw [e0, e1, e2]
  exact Code.scriptsLaw (s := s) (hide := b) (n := n)

set_option maxRecDepth 100000 in
theorem contract (H : Type) (enc : TypeId × Value → H) (W : World) (base : Nat) (args : Array Value) (ds gs : List (DataW H)) (before : List MemPlace)
    (hval : ∀ (j : Nat) t v, Tryd.f8.params[j]? = some t → args[j]? = some v → Value.okWide Tryd.prog W .any base t v)
    (hW : DataW.Whole enc Tryd.prog Tryd.f8.params.toList Rows.lexScriptsSpec.vars false W args.toList ds gs before) (hL : laidMetH Tryd.prog Rows.lexScriptsRow.laid W) :
    Calls Tryd.prog 8 args W fun e W' => ∃ v, e = .returned v ∧ Rows.lexScriptsSpec.post enc Tryd.prog Tryd.f8 false true false false W args v W' := by
  refine Dm.contract_gen (D := Code.D) (cfg := Code.cfg) tys Code.hm Code.hD Code.hP (by kernel_rfl) rfl (tb := 4) Tryd.underlying4 rfl ?_ run W args ds gs before hval hW (globOk (table hL))
  intro ds hd
  rw [Tryd.params8] at hd
  match ds, hd with
  | [d0, d1, d2], _ => rfl

noncomputable def laidWorld (os : Os) : World :=
  { World.holding Tryd.prog os ⟨#[], #[], []⟩ with heap := (World.holding Tryd.prog os ⟨#[], #[], []⟩).heap.modify 0 fun
      | .cells _ t frozen => .cells (Code.windows.map (Value.int .i32)).toArray t frozen
      | o => o }
theorem laid_met (os : Os) : laidMet Tryd.prog Rows.lexScriptsRow.laid ((laidWorld os).forCall (fun _ _ => 0) ⟨#[], #[.string ⟨#[]⟩, .bool false, .int .i64 0], []⟩).memory :=
  laidMet_of_run' 8 (by kernel_rfl) (by kernel_rfl)
theorem reads (os : Os) {H : Type} (enc : TypeId × Value → H) : ∃ places, DataW.whole enc Tryd.prog ((laidWorld os).forCall (fun _ _ => 0) ⟨#[], #[.string ⟨#[]⟩, .bool false, .int .i64 0], []⟩).memory Tryd.f8.params.toList Rows.lexScriptsSpec.vars false #[.string ⟨#[]⟩, .bool false, .int .i64 0].toList 8 = some ([.lit (.string []), .lit (.bool false), .lit (.int .i64 0)], [], places) :=
  ⟨[], by kernel_rfl⟩

set_option maxRecDepth 100000 in
theorem lifted (os : Os) (started : os.Started) (H : Type) (enc : TypeId × Value → H) (F : Stop.Interp) :
    ReturnsInHanded {} Tryd.checked os 8 .any ((OpenSpec.ofChange Rows.lexScriptsSpec).preRow enc Tryd.prog Tryd.f8 Rows.lexScriptsRow.domain false Rows.lexScriptsRow.laid) (((OpenSpec.ofChange Rows.lexScriptsSpec).at F).post enc Tryd.prog Tryd.f8 false true false false) := by
  obtain ⟨places, hx⟩ := reads os enc
  refine returnsInHanded_of_row (C := Tryd.checked) (s := OpenSpec.ofChange Rows.lexScriptsSpec) own started (by kernel_rfl) Tryd.func8
    (witness_row_at (enc := enc) (C := Tryd.checked) false (laidWorld os) #[.string ⟨#[]⟩, .bool false, .int .i64 0] rfl (by kernel_rfl) (by kernel_rfl) (by kernel_rfl)
      (OpenSpec.preRow_of_cond 8 hx (by kernel_rfl) (fun k hk => by cases hk) (by kernel_rfl) (laid_met os))) ?_
  intro W base args ds gs before hval hW _ _ _ hL _ _
  exact contract H enc W base args ds gs before hval hW hL

theorem said : Rows.LexScriptsSaid :=
  OpenClaim.holds_of_cond 8 Tryd.f8 rfl rfl rfl rfl rfl rfl rfl ⟨rfl, rfl, rfl, rfl, rfl⟩ rfl rfl rfl rfl rfl (by kernel_rfl) Tryd.func8 (by kernel_rfl)
    (of_decide_eq_true (by kernel_rfl)) (by unfold Func.isWrapper; first | (rw [if_pos (by decide +kernel)]; kernel_rfl) | (rw [if_neg (by decide +kernel)]; exact ⟨rfl, rfl⟩))
    (fun os started H enc _ F => by rw [OpenClaim.pre_eq_preRow]; exact lifted os started H enc F)

theorem plain (f : FuncId) (fn : Func) (hf : Tryd.pinned.checked.prog.funcNamed "woodcut/woodcutlaw09.LexScripts" = some f) (hfn : Tryd.pinned.checked.prog.funcs[f]? = some fn) :
    false = Tryd.pinned.checked.prog.looks [] ∧ ∀ (j : Nat) t, fn.params[j]? = some t → Tryd.pinned.checked.prog.wantsStandIn t = false := by
  obtain rfl : f = 8 := Option.some.inj ((show Tryd.prog.funcNamed "woodcut/woodcutlaw09.LexScripts" = some 8 by kernel_rfl).symm.trans hf) |>.symm
  obtain rfl : fn = Tryd.f8 := (Option.some.inj (Tryd.func8.symm.trans hfn)).symm
  refine ⟨by kernel_rfl, fun j t ht => ?_⟩
  rw [Tryd.params8] at ht
  have hall : [9, 4, 3].all (fun t => Tryd.prog.wantsStandIn t == false) = true := by kernel_rfl
  have hmem : t ∈ [9, 4, 3] := by have := Array.mem_of_getElem? ht; simpa using this
  exact eq_of_beq (List.all_eq_true.1 hall t hmem)

theorem card : Rows.LexScriptsCardSaid :=
  Claim7.holds_tied_plain_at .later [] _ _ _ _ said (fun _ h => by cases h) (by kernel_rfl) (fun _ h => by cases h) lexScripts_row_tie rfl ⟨rfl, rfl⟩ (by kernel_rfl) rfl plain (by kernel_rfl)
end Go.Proofs.YticnenofiibpgaaDoor.lexScripts
