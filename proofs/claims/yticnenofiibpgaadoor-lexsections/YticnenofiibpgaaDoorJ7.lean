/- LexSections returns true for every input: part 7 of the proof (several texts joined). -/
import Derived.Test.YticnenofiibpgaaDoorCards
import Derived.Test.YticnenofiibpgaaDoorTie
import Derived.WalkKit
import Derived.ProofKit
import Derived.OpenShut
import Derived.Deep.DeepHandedRow
import Derived.Lib.LaidTab
import Derived.Test.YticnenofiibpgaaDoorJ6
/- What slices.Collect of a lexer's tokens and lex.All do; two tokens compared. -/
namespace Go.Proofs.YticnenofiibpgaaDoor.Code
open Go.Dm Go.Dm.C
set_option linter.unusedSimpArgs false
set_option linter.unusedVariables false
set_option linter.unnecessarySimpa false
set_option maxRecDepth 10000
attribute [local irreducible] Go.Dm.F Go.Dm.RS Go.Dm.Y Go.Dm.FD Go.Dm.FZ1 Go.Dm.Hold
variable {id : Nat} {s : Md.Lx} {g : Nat × Nat} {R : List Ck}
theorem joinZ_F {t z : Nat} {ls : List (Md.Tok × Nat)} (hz : z = zOf t 10) (hn : ls.length ≤ 1000000000) (hd : Md.dl (ls.map Prod.fst) ≤ 1000000000000) :
    FZ D (.fn (.func 26) [] []) [.lst t z (ls.map encT)] R (fun v cs' => Hold (∃ (t : Nat) (os : List (Md.Tok × Nat)), v = .lst t (zOf t 10) (os.map encT) ∧ (t = 0 ∧ os = [] ∨ t = 1) ∧ os.map Prod.fst = Md.join (ls.map Prod.fst) ∧ R = cs')) :=
  FZ1.ofT (join_F hz hn hd)
theorem joinZ_F2 {t z : Nat} {ls : List (Md.Tok × Nat)} {ts : List Md.Tok} (hz : z = zOf t 10) (ha : ls.map Prod.fst = ts) (hn : ts.length ≤ 1000000000) (hd : Md.dl ts ≤ 1000000000000) :
    FZ D (.fn (.func 26) [] []) [.lst t z (ls.map encT)] R (fun v cs' => Hold (∃ (t : Nat) (os : List (Md.Tok × Nat)), v = .lst t (zOf t 10) (os.map encT) ∧ (t = 0 ∧ os = [] ∨ t = 1) ∧ os.map Prod.fst = Md.join ts ∧ R = cs')) := by
  subst ha; rw [List.length_map] at hn; exact joinZ_F hz hn hd
theorem seq_F {q : Nat} (hN : NI s) (hn : s.toks.length ≤ 1000000000) : F D 53 [.lst 0 0 [], .fn (.func 40) [] [.ptr q 0]] (.obj q (.cells [.ptr id 0] none) :: LX id s g :: R)
    (fun v cs' => Hold (∃ (t : Nat) (os : List (Md.Tok × Nat)), v = .lst t (zOf t 10) (os.map encT) ∧ .own t 10 (os.map encT) :: R = cs' ∧ os.map Prod.fst = s.toks)) := by
  refine F.of rfl rfl rfl ?_
  repeat' first | exact arI | refine Pst.mk ⟨?_, rfl⟩ (by (repeat' constructor); first | done | fail) | constructor | (refine fun _ _ (hq : Hold _) => ?_; replace hq := hq.out; obtain ⟨_, rfl, rfl⟩ := hq) | (refine fun _ _ (hq : Hold _) => ?_; replace hq := hq.out; obtain ⟨_, _, rfl, rfl⟩ := hq) | rintro _ _ ⟨rfl, rfl⟩ | rintro _ _ ⟨_, rfl, rfl⟩ | rintro _ _ ⟨_, _, rfl, rfl⟩ | (refine fun (hc : _ = _) => ?_; (try simp only [BB] at hc)) | refine fun (_ : Nat) => ?_ | refine fun (_ : _ ≤ _) => ?_ | refine fun (_ : _ < _) => ?_
  rename_i x _
  refine RS.nilOwn 10 ?_
  refine RS.rangeO rfl rfl fun m l Lr Lb Ld hL => ?_
  refine F.perm ((Rem.perm' (c := .obj q _) (by (repeat' constructor); first | done | fail)).trans ((Rem.perm' (c := LX id _ _) (by (repeat' constructor); first | done | fail)).cons _)) ?_
  refine F.mono (tokens_it (l := l) (fun ts cs => ∃ (t : Nat) (os : List (Md.Tok × Nat)), Lr :: .obj m .mark :: .own t 10 (os.map encT) :: .obj x (.cells [.lst t (zOf t 10) (os.map encT)] none) :: R = cs ∧ os.map Prod.fst ++ ts = s.toks) (fun _ => False) ?_ hN ⟨0, [], rfl, rfl⟩) ?_
  · rintro t tag ts s2 g2 _ ⟨t1, os, rfl, ha⟩
    refine hL.y (.tail (.tail .head)) rfl ?_
    have hlen := congrArg List.length ha
    rw [List.length_append, List.length_map, List.length_cons] at hlen
    repeat' first | exact MapL.cons (y := (t, tag)) .nil | (refine Arith.mk ?_; omega) | (refine fun (hc : _ = _) => ?_; (try simp only [BB] at hc); (try (first | contradiction | (exfalso; omega)))) | exact arI | refine Pst.mk ⟨?_, rfl⟩ (by (repeat' constructor); first | done | fail) | constructor | (refine fun _ _ (hq : Hold _) => ?_; replace hq := hq.out; obtain ⟨_, rfl, rfl⟩ := hq) | (refine fun _ _ (hq : Hold _) => ?_; replace hq := hq.out; obtain ⟨_, _, rfl, rfl⟩ := hq) | rintro _ _ ⟨rfl, rfl⟩ | rintro _ _ ⟨_, rfl, rfl⟩ | rintro _ _ ⟨_, _, rfl, rfl⟩ | (refine fun (hc : _ = _) => ?_; (try simp only [BB] at hc)) | refine fun (_ : Nat) => ?_ | refine fun (_ : _ ≤ _) => ?_ | refine fun (_ : _ < _) => ?_
    rename_i t2
    exact Pst.mk (.mk ⟨_, rfl, .inl ⟨rfl, t2, os ++ [(t, tag)], rfl, by rw [← ha]; simp⟩⟩) (by (repeat' constructor); first | done | fail)
  · rintro v cs' hq
    obtain ⟨s2, g2, cs1, rfl, hq2⟩ := hq.out
    rcases hq2 with ⟨t1, os, rfl, ha⟩ | hq2
    · refine .ready (by (repeat' constructor); first | done | fail) ?_
      rw [List.append_nil] at ha
      repeat' first | exact arI | refine Pst.mk ⟨?_, rfl⟩ (by (repeat' constructor); first | done | fail) | constructor | (refine fun _ _ (hq : Hold _) => ?_; replace hq := hq.out; obtain ⟨_, rfl, rfl⟩ := hq) | (refine fun _ _ (hq : Hold _) => ?_; replace hq := hq.out; obtain ⟨_, _, rfl, rfl⟩ := hq) | rintro _ _ ⟨rfl, rfl⟩ | rintro _ _ ⟨_, rfl, rfl⟩ | rintro _ _ ⟨_, _, rfl, rfl⟩ | (refine fun (hc : _ = _) => ?_; (try simp only [BB] at hc)) | refine fun (_ : Nat) => ?_ | refine fun (_ : _ ≤ _) => ?_ | refine fun (_ : _ < _) => ?_
      exact Pst.mk (.mk ⟨t1, os, rfl, rfl, ha⟩) (by (repeat' constructor); first | done | fail)
    · exact hq2.elim
theorem collect_F {q : Nat} (hN : NI s) (hn : s.toks.length ≤ 1000000000) : F D 36 [.fn (.func 40) [] [.ptr q 0]] (.obj q (.cells [.ptr id 0] none) :: LX id s g :: R)
    (fun v cs' => Hold (∃ (t : Nat) (os : List (Md.Tok × Nat)), v = .lst t (zOf t 10) (os.map encT) ∧ .own t 10 (os.map encT) :: R = cs' ∧ os.map Prod.fst = s.toks)) := by
  refine F.of rfl rfl rfl ?_
  repeat' first | (show FC _ _ _ _ _; first | exact seq_F hN hn) | (refine fun _ _ (hq : Hold _) => ?_; replace hq := hq.out; obtain ⟨t1, os, rfl, rfl, ha⟩ := hq) | (refine fun (hc : _ = _) => ?_; (try simp only [BB] at hc); (try (first | contradiction | (exfalso; omega)))) | exact arI | refine Pst.mk ⟨?_, rfl⟩ (by (repeat' constructor); first | done | fail) | constructor | (refine fun _ _ (hq : Hold _) => ?_; replace hq := hq.out; obtain ⟨_, rfl, rfl⟩ := hq) | (refine fun _ _ (hq : Hold _) => ?_; replace hq := hq.out; obtain ⟨_, _, rfl, rfl⟩ := hq) | rintro _ _ ⟨rfl, rfl⟩ | rintro _ _ ⟨_, rfl, rfl⟩ | rintro _ _ ⟨_, _, rfl, rfl⟩ | (refine fun (hc : _ = _) => ?_; (try simp only [BB] at hc)) | refine fun (_ : Nat) => ?_ | refine fun (_ : _ ≤ _) => ?_ | refine fun (_ : _ < _) => ?_
  exact Pst.mk (.mk ⟨t1, os, rfl, rfl, ha⟩) (by (repeat' constructor); first | done | fail)
end Go.Proofs.YticnenofiibpgaaDoor.Code
/- What lex.All does; tokens compared; words. -/
namespace Go.Proofs.YticnenofiibpgaaDoor.Code
open Go.Dm Go.Dm.C
set_option linter.unusedSimpArgs false
set_option linter.unusedVariables false
set_option linter.unnecessarySimpa false
set_option maxRecDepth 10000
attribute [local irreducible] Go.Dm.F Go.Dm.RS Go.Dm.Y Go.Dm.FD Go.Dm.FZ1 Go.Dm.Hold
variable {R : List Ck}
theorem toks_small {s : Md.Lx} {k : Nat} (hN : NI s) (ho : s.out = []) (ht : s.text = []) (hp : s.pos = 0) (hl : s.inp.length ≤ k) : s.toks.length ≤ 6 * (k + 1) ∧ Md.dl s.toks ≤ 40 * (k + 1) := by
  have h := toks_bd s.left s (Nat.le_refl _) hN ho
  rw [ht, List.length_nil] at h
  have e : s.left = s.inp.length + 1 := by unfold Md.Lx.left; rw [hp]; rfl
  rw [e] at h
  omega
theorem new_small {c : Md.Str} {k : Nat} {w : Int} {n : Md.Str} {b : Bool} (hl : c.length ≤ k) (hk : k ≤ 1000000000) (hn : n.length ≤ 10000000000) : NI { Md.Lx.new c with way := w, last := n, room := b } ∧ ({ Md.Lx.new c with way := w, last := n, room := b } : Md.Lx).toks.length ≤ 6 * (k + 1) ∧ Md.dl ({ Md.Lx.new c with way := w, last := n, room := b } : Md.Lx).toks ≤ 40 * (k + 1) := by
  have hd := decode_len c
  have hN : NI { Md.Lx.new c with way := w, last := n, room := b } := ⟨Nat.le_trans hd (Nat.le_trans hl hk), fun r hr => (decode_sv c r hr).1.1, Nat.zero_le _, fun _ => Nat.zero_le _, Nat.zero_le _, by show (0 : Nat) ≤ 100; omega, hn⟩
  exact ⟨hN, toks_small hN rfl rfl rfl (Nat.le_trans hd hl)⟩
theorem all_F {t z : Nat} {b : List UInt8} (hz : z = zOf t 1) (hl : b.length ≤ 100000000) : F D 15 [.lst t z (bytesV b)] R (fun v cs' => Hold (∃ (t : Nat) (os : List (Md.Tok × Nat)), v = .lst t (zOf t 10) (os.map encT) ∧ (t = 0 ∧ os = [] ∨ t = 1) ∧ os.map Prod.fst = Md.all b ∧ R = cs')) := by
  obtain ⟨hN, hb1, hb2⟩ := new_small (w := 0) (n := []) (b := false) hl (by omega) (by simp)
  refine F.of rfl rfl rfl ?_
  repeat' first | (show FC _ _ _ _ _; first | exact new_F hz (by omega) | exact tokens_F | exact collect_F (s := { Md.Lx.new b with way := 0, last := [], room := false }) hN (by omega)) | (show FZ _ _ _ _ _; exact joinZ_F2 rfl (by assumption) (Nat.le_trans hb1 (by decide)) (Nat.le_trans hb2 (by decide))) | (refine fun (hc : _ = _) => ?_; (try simp only [BB] at hc); (try (first | contradiction | (exfalso; omega)))) | exact arI | refine Pst.mk ⟨?_, rfl⟩ (by (repeat' constructor); first | done | fail) | constructor | (refine fun _ _ (hq : Hold _) => ?_; replace hq := hq.out; obtain ⟨_, rfl, rfl⟩ := hq) | (refine fun _ _ (hq : Hold _) => ?_; replace hq := hq.out; obtain ⟨_, _, rfl, rfl⟩ := hq) | rintro _ _ ⟨rfl, rfl⟩ | rintro _ _ ⟨_, rfl, rfl⟩ | rintro _ _ ⟨_, _, rfl, rfl⟩ | (refine fun (hc : _ = _) => ?_; (try simp only [BB] at hc)) | refine fun (_ : Nat) => ?_ | refine fun (_ : _ ≤ _) => ?_ | refine fun (_ : _ < _) => ?_ | (refine fun _ _ (hq : Hold _) => ?_; replace hq := hq.out; first | obtain ⟨t1, os, rfl, rfl, ha⟩ := hq | obtain ⟨t1, os, rfl, h0, ha, rfl⟩ := hq)
  rename_i t1 os h0 ha
  exact Pst.mk (.mk ⟨t1, os, rfl, h0, ha, rfl⟩) (by (repeat' constructor); first | done | fail)
end Go.Proofs.YticnenofiibpgaaDoor.Code
/- How a text is read on, with texts az one: rules. -/
namespace Go.Md
def tx (d : Str) : Tok := { Tok.zero with kind := 1, data := d }
/-- A text more. -/
def app (l : List Tok) (d : Str) : List Tok := joinStep l (tx d)
theorem app_emp (d : Str) : app [] d = if d = [] then [] else [tx d] := by
  unfold app
  rw [joinStep_nil]
  by_cases h : d = []
  · subst h; rfl
  · rw [if_neg (fun x => h x.2), if_neg h]
theorem app_snoc (l : List Tok) (u : Tok) (d : Str) : app (l ++ [u]) d = if u.kind = 1 then l ++ [{ u with data := u.data ++ d }] else if d = [] then l ++ [u] else l ++ [u] ++ [tx d] := by
  unfold app
  rw [joinStep_snoc]
  simp only [tx, true_and]
theorem app_nil (l : List Tok) : app l [] = l := by
  rcases List.eq_nil_or_concat l with rfl | ⟨l, u, rfl⟩
  · rw [app_emp, if_pos rfl]
  · rw [List.concat_eq_append, app_snoc]; split
    · simp
    · rw [if_pos rfl]
theorem app_app (l : List Tok) (a b : Str) : app (app l a) b = app l (a ++ b) := by
  by_cases ha : a = []
  · subst ha; rw [app_nil, List.nil_append]
  · have h2 : a ++ b ≠ [] := by simp [ha]
    rcases List.eq_nil_or_concat l with rfl | ⟨l, u, rfl⟩
    · rw [app_emp, if_neg ha, app_emp, if_neg h2]
      have := app_snoc [] (tx a) b
      rw [List.nil_append] at this
      rw [this, if_pos (show (tx a).kind = 1 from rfl)]; rfl
    · rw [List.concat_eq_append, app_snoc, app_snoc]; split
      · rename_i hk
        rw [app_snoc, if_pos (by exact hk)]; simp
      · (try rw [if_neg ha]); (try rw [if_neg h2]); rw [app_snoc, if_pos (show (tx a).kind = 1 from rfl)]; simp [tx, Tok.zero]
def vt (acc : List Tok) (x : Lx) : List Tok := app (x.out.foldl joinStep acc) (encode x.text)
/-- Where a lexer is, and what it gave. -/
structure At (acc : List Tok) (x : Lx) (w : Int) (n : Str) (b : Bool) (r : List Int) (A : List Tok) : Prop where
  done : x.done = false
  way : x.way = w
  last : x.last = n
  room : x.room = b
  rest : x.rest = r
  vt : vt acc x = A
end Go.Md
namespace Go.Proofs.YticnenofiibpgaaDoor.Code
open Go.Dm
set_option linter.unusedSimpArgs false
set_option linter.unusedVariables false
variable {acc : List Md.Tok} {x : Md.Lx} {w : Int} {n : Md.Str} {b : Bool} {r : List Int} {A B : List Md.Tok}
theorem enc_app (a b : List Int) : Md.encode (a ++ b) = Md.encode a ++ Md.encode b := by simp [Md.encode]
theorem enc_one (r : Int) : Md.encode [r] = Md.putR r := by simp [Md.encode]
theorem enc_cons (r : Int) (l : List Int) : Md.encode (r :: l) = Md.putR r ++ Md.encode l := by simp [Md.encode]
theorem At.adv (h : Md.At acc x w n b r A) (k : Nat) : Md.At acc (x.adv k) w n b (r.drop k) A := ⟨h.done, h.way, h.last, h.room, by rw [rest_adv, h.rest], h.vt⟩
theorem At.say (h : Md.At acc x w n b r A) (d : List Int) : Md.At acc (x.say d) w n b r (Md.app A (Md.encode (d.filter (· != -1)))) := ⟨h.done, h.way, h.last, h.room, h.rest, by
  rw [← h.vt]; unfold Md.vt
  rw [Md.app_app, ← enc_app]; rfl⟩
theorem At.say' (h : Md.At acc x w n b r A) {d : List Int} (hd : ∀ r ∈ d, 0 ≤ r) : Md.At acc (x.say d) w n b r (Md.app A (Md.encode d)) := by
  have := At.say h d
  rwa [filter_nn hd] at this
theorem At.flush (h : Md.At acc x w n b r A) : Md.At acc x.flush w n b r A := by
  unfold Md.Lx.flush
  split
  · exact h
  · refine ⟨h.done, h.way, h.last, h.room, h.rest, ?_⟩
    rw [← h.vt]; unfold Md.vt
    show Md.app ((x.out ++ [Md.textTok x.text]).foldl Md.joinStep acc) [] = _
    rw [Md.app_nil, List.foldl_append]; rfl
theorem flush_text0 : x.flush.text = [] := flush_text
theorem At.emit (h : Md.At acc x w n b r A) (t : Md.Tok) : Md.At acc (x.emit t) w (if t.kind = 2 then t.name else n) b r (Md.joinStep A t) := by
  have h1 := At.flush h
  refine ⟨h1.done, h1.way, ?_, h1.room, h1.rest, ?_⟩
  · show (if t.kind = 2 then t.name else x.flush.last) = _; rw [h1.last]
  · have h2 := h1.vt
    unfold Md.vt at h2 ⊢
    have e : (x.emit t).text = [] := flush_text
    have e0 : x.flush.text = [] := flush_text
    rw [e0] at h2
    rw [e]
    show Md.app ((x.flush.out ++ [t]).foldl Md.joinStep acc) [] = _
    have e2 : Md.encode [] = [] := rfl
    rw [e2, Md.app_nil] at h2
    rw [Md.app_nil, List.foldl_append, h2]; rfl
theorem At.setWay (h : Md.At acc x w n b r A) (w' : Int) : Md.At acc { x with way := w' } w' n b r A := ⟨h.done, rfl, h.last, h.room, h.rest, h.vt⟩
theorem At.pk (h : Md.At acc x w n b r A) (k : Nat) : x.pk k = r.getD k (-1) := by rw [pk_rest, h.rest]
/-- Read from here on, with what is there already: what it all is. -/
def Rd (w : Int) (n : Md.Str) (b : Bool) (r : List Int) (A B : List Md.Tok) : Prop := ∀ acc x, NI x → Md.At acc x w n b r A → x.toks.foldl Md.joinStep acc = B
theorem NI.noOut (h : NI x) : NI { x with out := [] } := ⟨h.len, h.nn, h.pos, h.pos2, h.text, by show (0 : Nat) ≤ 100; omega, h.last⟩
theorem At.noOut (h : Md.At acc x w n b r A) : Md.At (x.out.foldl Md.joinStep acc) { x with out := [] } w n b r A := ⟨h.done, h.way, h.last, h.room, h.rest, h.vt⟩
theorem At.fin (h : Md.At acc x w n b r A) : Md.At acc (stepFin x) w n b r A := by
  unfold stepFin; split
  · exact At.flush h
  · exact h
theorem Rd.step {w' : Int} {n' : Md.Str} {b' : Bool} {r' : List Int} {A' : List Md.Tok} (h : ∀ acc x, NI x → x.out = [] → Md.At acc x w n b r A → Md.At acc (stepMid x) w' n' b' r' A') (hr : Rd w' n' b' r' A' B) : Rd w n b r A B := by
  intro acc x hN hS
  have hN0 := hN.noOut
  have hS0 := At.noOut hS
  rw [toks_out, List.foldl_append]
  have ho : ({ x with out := [] } : Md.Lx).out = [] := rfl
  generalize ({ x with out := [] } : Md.Lx) = y at *
  rw [toks_step hN0 hS0.done ho]
  refine hr _ _ (hN0.step hS0.done ho) ?_
  rw [step_eq]
  exact At.fin (h _ _ hN0 ho hS0)
theorem Rd.nil : Rd w n b [] A A := by
  intro acc x hN hS
  have hN0 := hN.noOut
  have hS0 := At.noOut hS
  rw [toks_out, List.foldl_append]
  have ho : ({ x with out := [] } : Md.Lx).out = [] := rfl
  generalize ({ x with out := [] } : Md.Lx) = y at *
  rw [toks_step hN0 hS0.done ho]
  have hp : y.pk 0 = -1 := by rw [At.pk hS0]; rfl
  have hmid : stepMid y = { (y.adv 1).flush with done := true } := by rw [stepMid, if_pos hp]
  have hst : y.step = { (y.adv 1).flush with done := true } := by
    rw [step_eq, stepFin, hmid, if_neg]
    intro h; apply h.2.1; show (y.adv 1).flush.text = []; exact flush_text
  have hf := (At.flush (At.adv hS0 1)).vt
  rw [toks_out, hst]
  have hd : ({ ({ (y.adv 1).flush with done := true } : Md.Lx) with out := [] } : Md.Lx).toks = [] := toks_done rfl rfl
  rw [hd, List.append_nil]
  unfold Md.vt at hf
  have e : (y.adv 1).flush.text = [] := flush_text
  have e2 : Md.encode [] = [] := rfl
  rw [e, e2, Md.app_nil] at hf
  exact hf
/-- Signs that are a part of the text, in a way. -/
def okSign (w : Int) (c : Int) : Prop := 0 < c ∧ c ≠ 60 ∧ (c = 38 → w ≠ 0 ∧ w ≠ 1)
theorem okSign.of {c : Int} (h : Md.plainSign c = true ∧ 0 ≤ c) : okSign w c := by
  obtain ⟨hc, h0⟩ := h
  simp only [Md.plainSign, Bool.not_eq_true', Bool.or_eq_false_iff, beq_eq_false_iff_ne, ne_eq] at hc
  exact ⟨by omega, hc.1.2, fun h => absurd h hc.1.1⟩
theorem mid_plain {c : Int} {l : List Int} (hc : okSign x.way c) (hr : x.rest = c :: l) : stepMid x = ((x.adv 1).adv (l.takeWhile Md.plainSign).length).say (c :: l.takeWhile Md.plainSign) := by
  have hp : x.pk 0 = c := by rw [pk_rest, hr]; rfl
  have h1 : (x.adv 1).rest = l := by rw [rest_adv, hr]; rfl
  obtain ⟨h0, h60, h38⟩ := hc
  rw [stepMid, hp, h1, if_neg (by omega), if_neg (fun h => by have := h38 h.1; omega), if_neg (fun h => h60 h.1), if_neg (fun h => h60 h.1), if_neg (fun h => h60 h.1), if_neg (by omega), if_neg (by omega)]
theorem Rd.plain1 {c : Int} {l : List Int} (hc : okSign w c) (h : Rd w n b l (Md.app A (Md.putR c)) B) : Rd w n b (c :: l) A B := by
  have h0 : 0 ≤ c := Int.le_of_lt hc.1
  cases l with
  | nil =>
    refine Rd.step (fun acc x hN ho hS => ?_) h
    rw [mid_plain (by rw [hS.way]; exact hc) hS.rest]
    have := At.say' (At.adv (At.adv hS 1) 0) (d := [c]) (by simp [h0])
    rw [enc_one] at this
    exact this
  | cons e l =>
    by_cases he : Md.plainSign e = true
    · intro acc x hN hS
      have hN0 := hN.noOut
      have hS0 := At.noOut hS
      rw [toks_out, List.foldl_append]
      have ho : ({ x with out := [] } : Md.Lx).out = [] := rfl
      generalize ({ x with out := [] } : Md.Lx) = y at *
      have hlt : y.pos < y.inp.length := by
        by_cases hlt : y.pos < y.inp.length
        · exact hlt
        · have := rest_nil (s := y) (by omega); rw [hS0.rest] at this; cases this
      have hNz : NI ((y.adv 1).say [c]) := ⟨hN0.len, hN0.nn, by show y.pos + 1 ≤ _; exact Nat.succ_le_succ (Nat.le_of_lt hlt), fun _ => by show y.pos + 1 ≤ y.inp.length; omega, by
        show (y.text ++ [c].filter (· != -1)).length ≤ 10 * (y.pos + 1)
        have := hN0.text
        rw [filter_nn (by simp [h0]), List.length_append, List.length_singleton]; omega, hN0.out, hN0.last⟩
      have hSz := At.say' (At.adv hS0 1) (d := [c]) (by simp [h0])
      rw [enc_one] at hSz
      have := h _ _ hNz hSz
      rw [← this]
      have he0 : 0 ≤ e := hN0.nn e (by
        have : e ∈ y.rest := by rw [hS0.rest]; simp
        exact List.mem_of_mem_drop this)
      congr 1
      rw [toks_step hN0 hS0.done ho, toks_step hNz hSz.done (by exact ho), step_eq, step_eq]
      congr 2
      rw [mid_plain (by rw [hS0.way]; exact hc) hS0.rest, mid_plain (okSign.of ⟨he, he0⟩) (show ((y.adv 1).say [c]).rest = e :: l by rw [rest_say, rest_adv, hS0.rest]; rfl)]
      rw [List.takeWhile_cons, if_pos he]
      unfold Md.Lx.say Md.Lx.adv
      simp only [List.length_cons, Md.Lx.mk.injEq, true_and, and_true]
      have e1 : (c :: e :: l.takeWhile Md.plainSign).filter (· != -1) = [c].filter (· != -1) ++ (e :: l.takeWhile Md.plainSign).filter (· != -1) := by rw [← List.filter_append]; rfl
      exact ⟨by omega, by rw [e1, List.append_assoc]⟩
    · refine Rd.step (fun acc x hN ho hS => ?_) h
      rw [mid_plain (by rw [hS.way]; exact hc) hS.rest, List.takeWhile_cons, if_neg he]
      have := At.say' (At.adv (At.adv hS 1) 0) (d := [c]) (by simp [h0])
      rw [enc_one] at this
      exact this
theorem Rd.plain {l : List Int} : ∀ (d : List Int) {A : List Md.Tok}, (∀ c ∈ d, okSign w c) → Rd w n b l (Md.app A (Md.encode d)) B → Rd w n b (d ++ l) A B
  | [], A, _, h => by have e : Md.encode [] = [] := rfl; rw [e, Md.app_nil] at h; exact h
  | c :: d, A, hd, h => Rd.plain1 (hd c (by simp)) (Rd.plain d (fun x hx => hd x (by simp [hx])) (by rw [Md.app_app, ← enc_cons]; exact h))
/-- A < where tags may stand. -/
theorem Rd.tag {n' : Md.Str} {w' : Int} {b' : Bool} {l r' : List Int} {A' : List Md.Tok} (h : ∀ acc x, (∀ r ∈ x.inp, 0 ≤ r) → Md.At acc x 0 n b l A → Md.At acc x.open_ w' n' b' r' A') (hr : Rd w' n' b' r' A' B) : Rd 0 n b (60 :: l) A B := by
  refine Rd.step (fun acc x hN ho hS => ?_) hr
  have hp : x.pk 0 = 60 := by rw [At.pk hS]; rfl
  have hw := hS.way
  rw [stepMid, if_neg (by omega), if_neg (by omega), if_pos ⟨hp, hw⟩]
  exact h _ _ (by rw [flush_inp]; exact hN.nn) (At.flush (At.adv hS 1))
/-- A < in the other ways. -/
theorem Rd.shut {n' : Md.Str} {w' : Int} {b' : Bool} {l r' : List Int} {A' : List Md.Tok} (hw : w = 1 ∨ w = 2) (h : ∀ acc x, (∀ r ∈ x.inp, 0 ≤ r) → Md.At acc x w n b l A → Md.At acc x.close w' n' b' r' A') (hr : Rd w' n' b' r' A' B) : Rd w n b (60 :: l) A B := by
  refine Rd.step (fun acc x hN ho hS => ?_) hr
  have hp : x.pk 0 = 60 := by rw [At.pk hS]; rfl
  have hw' := hS.way
  rw [stepMid, if_neg (by omega), if_neg (by omega), if_neg (by omega), if_pos ⟨hp, by omega⟩]
  exact h _ _ (by rw [flush_inp]; exact hN.nn) (At.flush (At.adv hS 1))
theorem Rd.scr {n' : Md.Str} {w' : Int} {b' : Bool} {l r' : List Int} {A' : List Md.Tok} (h : ∀ acc x, (∀ r ∈ x.inp, 0 ≤ r) → Md.At acc x 3 n b l A → Md.At acc x.script w' n' b' r' A') (hr : Rd w' n' b' r' A' B) : Rd 3 n b (60 :: l) A B := by
  refine Rd.step (fun acc x hN ho hS => ?_) hr
  have hp : x.pk 0 = 60 := by rw [At.pk hS]; rfl
  have hw' := hS.way
  rw [stepMid, if_neg (by omega), if_neg (by omega), if_neg (by omega), if_neg (by omega), if_pos ⟨hp, by omega⟩]
  exact h _ _ (by rw [flush_inp]; exact hN.nn) (At.flush (At.adv hS 1))
theorem Rd.ref {l : List Int} (hw : w = 0 ∨ w = 1) (hs : ∀ r ∈ (Md.refer false l).1, 0 ≤ r) (hr : Rd w n b (l.drop (Md.refer false l).2) (Md.app A (Md.encode (Md.refer false l).1)) B) : Rd w n b (38 :: l) A B := by
  refine Rd.step (fun acc x hN ho hS => ?_) hr
  have hp : x.pk 0 = 38 := by rw [At.pk hS]; rfl
  have hw' := hS.way
  rw [stepMid, if_neg (by omega), if_pos ⟨hp, by omega⟩]
  have h1 : (x.adv 1).rest = l := by rw [rest_adv, hS.rest]; rfl
  unfold refA
  rw [h1]
  exact At.say' (At.adv (At.adv hS 1) _) hs
theorem Rd.start {c : Md.Str} {w : Int} {nm : Md.Str} {room : Bool} (hN : NI { Md.Lx.new c with way := w, last := nm, room := room }) (h : Rd w nm room (Md.decode c) [] B) : Md.join ({ Md.Lx.new c with way := w, last := nm, room := room } : Md.Lx).toks = B :=
  h [] _ hN ⟨rfl, rfl, rfl, rfl, rfl, rfl⟩
theorem Rd.conv {r' : List Int} {A' B' : List Md.Tok} (h : Rd w n b r' A' B') (h1 : r = r') (h2 : A = A') (h3 : B' = B) : Rd w n b r A B := by subst h1; subst h2; subst h3; exact h
end Go.Proofs.YticnenofiibpgaaDoor.Code
/- A marked section is a text where it may stand, and a comment where it may not. -/
namespace Go.Md
def asc (b : Str) : List Int := b.map fun c => (c.toNat : Int)
end Go.Md
namespace Go.Proofs.YticnenofiibpgaaDoor.Code
open Go.Dm
set_option linter.unusedSimpArgs false
set_option linter.unusedVariables false
theorem asc_app (a b : Md.Str) : Md.asc (a ++ b) = Md.asc a ++ Md.asc b := List.map_append
theorem putR_asc {c : UInt8} (h : c.toNat < 128) : Md.putR (c.toNat : Int) = [c] := by
  rw [putR_nat (by omega), if_pos (by omega)]
  congr 1
  apply UInt8.toNat.inj
  rw [byteN_nat (by omega)]
theorem enc_asc {b : Md.Str} (h : ∀ c ∈ b, c.toNat < 128) : Md.encode (Md.asc b) = b := by
  induction b with
  | nil => rfl
  | cons c b ih =>
    show Md.encode ((c.toNat : Int) :: Md.asc b) = _
    rw [enc_cons, putR_asc (h c (by simp)), ih (fun x hx => h x (by simp [hx]))]; rfl
theorem dec_asc {b : Md.Str} (h : ∀ c ∈ b, c.toNat < 128 ∧ c.toNat ≠ 13) : Md.decode b = Md.asc b := by
  conv => lhs; rw [← enc_asc (fun c hc => (h c hc).1)]
  refine decode_encode fun r hr => ?_
  obtain ⟨c, hc, rfl⟩ := List.mem_map.1 hr
  have := h c hc
  exact ⟨⟨by omega, by omega, by omega⟩, by omega, by omega⟩
theorem asc_nn {b : Md.Str} : ∀ r ∈ Md.asc b, 0 ≤ r := fun r hr => by obtain ⟨c, hc, rfl⟩ := List.mem_map.1 hr; omega
theorem asc_plain {w : Int} {b : Md.Str} (h : ∀ c ∈ b, c.toNat ≠ 0 ∧ c.toNat ≠ 60 ∧ (c.toNat = 38 → w ≠ 0 ∧ w ≠ 1)) : ∀ r ∈ Md.asc b, okSign w r := fun r hr => by
  obtain ⟨c, hc, rfl⟩ := List.mem_map.1 hr
  have := h c hc
  exact ⟨by omega, by omega, fun h => this.2.2 (by omega)⟩
theorem section_app : ∀ (d l : List Int), (∀ r ∈ d, r ≠ 93) → Md.sectionGo (d ++ 93 :: 93 :: 62 :: l) = (d, d.length + 3)
  | [], l, _ => by simp [Md.sectionGo]
  | r :: d, l, h => by
    have h1 := h r (by simp)
    have := section_app d l (fun x hx => h x (by simp [hx]))
    rw [List.cons_append, Md.sectionGo, if_neg (fun hh => h1 hh.1), this]
    simp only [List.length_cons, Prod.mk.injEq, true_and]
theorem bogus_app : ∀ (d l : List Int), (∀ r ∈ d, r ≠ 62 ∧ r ≠ 0) → Md.bogusGo (d ++ 62 :: l) = (d, d.length + 1)
  | [], l, _ => by simp [Md.bogusGo]
  | r :: d, l, h => by
    have h1 := h r (by simp)
    have := bogus_app d l (fun x hx => h x (by simp [hx]))
    rw [List.cons_append, Md.bogusGo, if_neg h1.1, this]
    simp only [List.length_cons, Prod.mk.injEq, and_true, Md.fixr, if_neg h1.2]
def secOk (c : UInt8) : Bool := decide (32 ≤ c.toNat) && decide (c.toNat < 127) && decide (c.toNat ≠ 93) && decide (c.toNat ≠ 62)
theorem secOk_iff {c : UInt8} : secOk c = true ↔ 32 ≤ c.toNat ∧ c.toNat < 127 ∧ c.toNat ≠ 93 ∧ c.toNat ≠ 62 := by simp [secOk, and_assoc]
def secPre : Md.Str := [60, 33, 91, 67, 68, 65, 84, 65, 91]
def comTok (d : Md.Str) : Md.Tok := { Md.Tok.zero with kind := 4, data := d }
def secRes (may : Bool) (d : Md.Str) : List Md.Tok := if may then [Md.tx (d ++ [120])] else [comTok ([91, 67, 68, 65, 84, 65, 91] ++ d ++ [93, 93]), Md.tx [120]]
theorem sections_pure {d : Md.Str} {may : Bool} (hd : ∀ c ∈ d, secOk c = true) (hN : NI { Md.Lx.new (secPre ++ d ++ [93, 93, 62, 120]) with room := may }) : Md.join ({ Md.Lx.new (secPre ++ d ++ [93, 93, 62, 120]) with room := may } : Md.Lx).toks = secRes may d := by
  have hd' : ∀ c ∈ d, 32 ≤ c.toNat ∧ c.toNat < 127 ∧ c.toNat ≠ 93 ∧ c.toNat ≠ 62 := fun c hc => secOk_iff.1 (hd c hc)
  refine Rd.start (w := 0) (nm := []) (room := may) hN ?_
  rw [dec_asc (by
    intro c hc
    simp only [secPre, List.mem_append] at hc
    rcases hc with (hc | hc) | hc
    · revert hc; revert c; decide
    · have := hd' c hc; omega
    · revert hc; revert c; decide), asc_app, asc_app]
  have hA : ∀ r ∈ Md.asc d, r ≠ 93 ∧ r ≠ 62 ∧ r ≠ 0 := fun r hr => by
    obtain ⟨c, hc, rfl⟩ := List.mem_map.1 hr
    have := hd' c hc; omega
  have hE : Md.encode (Md.asc d) = d := enc_asc (fun c hc => by have := hd' c hc; omega)
  show Rd 0 [] may (60 :: 33 :: 91 :: 67 :: 68 :: 65 :: 84 :: 65 :: 91 :: (Md.asc d ++ [93, 93, 62, 120])) [] _
  have hs1 := section_app (Md.asc d) [120] (fun r hr => (hA r hr).1)
  have hb1 := bogus_app ([91, 67, 68, 65, 84, 65, 91] ++ Md.asc d ++ [93, 93]) [120] (fun r hr => by
    simp only [List.mem_append] at hr
    rcases hr with (hr | hr) | hr
    · revert hr; revert r; decide
    · have := hA r hr; omega
    · revert hr; revert r; decide)
  have e1 : ([91, 67, 68, 65, 84, 65, 91] ++ Md.asc d ++ [93, 93] : List Int) ++ 62 :: [120] = 91 :: 67 :: 68 :: 65 :: 84 :: 65 :: 91 :: (Md.asc d ++ [93, 93, 62, 120]) := by simp
  rw [e1] at hb1
  generalize hL : Md.asc d ++ [93, 93, 62, 120] = L at *
  cases may with
  | true =>
    refine Rd.tag (w' := 0) (n' := []) (b' := true) (r' := [120]) (A' := Md.app [] d) (fun acc x hx hS => ?_) ?_
    · have hp0 : x.pk 0 = 33 := At.pk hS 0
      have h1 := At.adv hS 1
      have hr1 : (x.adv 1).rest = 91 :: 67 :: 68 :: 65 :: 84 :: 65 :: 91 :: L := h1.rest
      have hp1 : (x.adv 1).pk 0 = 91 := At.pk h1 0
      have e : x.open_ = ((x.adv 1).adv 7).section_ := by
        rw [Md.Lx.open_, if_pos hp0, Md.Lx.declare, hr1]
        rw [if_neg (by simp [Md.stands, Md.small]), if_neg (by simp [Md.stands, Md.small]), if_pos ⟨h1.room, hp1, by simp [Md.exact]⟩]
      rw [e]
      have h7 := At.adv h1 7
      have hr7 : ((x.adv 1).adv 7).rest = L := h7.rest
      unfold Md.Lx.section_
      rw [hr7, hs1]
      have h8 := At.say' (At.adv h7 (Md.asc d).length.succ.succ.succ) (d := Md.asc d) asc_nn
      rw [hE] at h8
      have e9 : (List.drop (Md.asc d).length.succ.succ.succ (List.drop 7 (List.drop 1 (33 :: 91 :: 67 :: 68 :: 65 :: 84 :: 65 :: 91 :: L)))) = [120] := by
        show List.drop ((Md.asc d).length + 3) L = _
        rw [← hL, ← List.drop_drop, List.drop_left]; rfl
      rw [e9] at h8
      exact h8
    · refine Rd.conv (Rd.plain (d := [120]) (by simp [okSign]) Rd.nil) rfl rfl ?_
      rw [Md.app_app, show Md.encode [120] = [120] from rfl, Md.app_emp, if_neg (by simp)]; rfl
  | false =>
    refine Rd.tag (w' := 0) (n' := []) (b' := false) (r' := [120]) (A' := [comTok ([91, 67, 68, 65, 84, 65, 91] ++ d ++ [93, 93])]) (fun acc x hx hS => ?_) ?_
    · have hp0 : x.pk 0 = 33 := At.pk hS 0
      have h1 := At.adv hS 1
      have hr1 : (x.adv 1).rest = 91 :: 67 :: 68 :: 65 :: 84 :: 65 :: 91 :: L := h1.rest
      have hp1 : (x.adv 1).pk 0 = 91 := At.pk h1 0
      have hrm : (x.adv 1).room = false := h1.room
      have e : x.open_ = (x.adv 1).bogus := by
        rw [Md.Lx.open_, if_pos hp0, Md.Lx.declare, hr1]
        rw [if_neg (by simp [Md.stands, Md.small]), if_neg (by simp [Md.stands, Md.small]), if_neg (by rw [hrm]; simp)]
      rw [e]
      unfold Md.Lx.bogus
      rw [hr1, hb1]
      have h8 := At.emit (At.adv h1 (([91, 67, 68, 65, 84, 65, 91] ++ Md.asc d ++ [93, 93]).length + 1)) (comTok ([91, 67, 68, 65, 84, 65, 91] ++ d ++ [93, 93]))
      have e9 : List.drop (([91, 67, 68, 65, 84, 65, 91] ++ Md.asc d ++ [93, 93]).length + 1) (List.drop 1 (33 :: 91 :: 67 :: 68 :: 65 :: 84 :: 65 :: 91 :: L)) = [120] := by
        show List.drop _ (91 :: 67 :: 68 :: 65 :: 84 :: 65 :: 91 :: L) = _
        rw [← e1, ← List.drop_drop, List.drop_left]; rfl
      rw [e9] at h8
      have e10 : Md.encode ([91, 67, 68, 65, 84, 65, 91] ++ Md.asc d ++ [93, 93]) = [91, 67, 68, 65, 84, 65, 91] ++ d ++ [93, 93] := by
        rw [enc_app, enc_app, hE]; rfl
      rw [e10]
      exact h8
    · refine Rd.conv (Rd.plain (d := [120]) (by simp [okSign]) Rd.nil) rfl rfl ?_
      rfl
end Go.Proofs.YticnenofiibpgaaDoor.Code
/- The head of the lexer's laws, by a run from the start. -/
namespace Go.Proofs.YticnenofiibpgaaDoor
namespace Code
open Go.Dm
noncomputable def rhs : Option (DV × Heap) := closed D 3000 13 [] false Heap.start
theorem heads_run : okR rhs (.bool true) = true := by decide +kernel
theorem heads_both : ClC D 13 [] false Heap.start (.bool true) (heapOf rhs) ∧ Nat.ble 2 (heapOf rhs).next = true := by
  have h := heads_run
  unfold rhs at h ⊢
  exact closed_ok h
theorem sat_nil2 {h : Heap} (h2 : Nat.ble 2 h.next = true) : Sat h [] := ⟨Nat.le_of_ble_eq_true h2, fun _ hm => absurd hm List.not_mem_nil, List.Pairwise.nil⟩
theorem headSOk : ∃ h1 : Heap, ClC D 13 [] false Heap.start (.bool true) h1 ∧ Nat.ble 2 h1.next = true ∧ Sat h1 [] := ⟨_, heads_both.1, heads_both.2, sat_nil2 heads_both.2⟩
end Code
end Go.Proofs.YticnenofiibpgaaDoor
/- What LexSections does on typed values. -/
namespace Go.Proofs.YticnenofiibpgaaDoor.Code
open Go.Dm Go.Dm.C
set_option linter.unusedSimpArgs false
set_option linter.unusedVariables false
set_option linter.unnecessarySimpa false
set_option maxRecDepth 10000
attribute [local irreducible] Go.Dm.F Go.Dm.RS Go.Dm.Y Go.Dm.FD Go.Dm.FZ1 Go.Dm.Hold
variable {R : List Ck}
theorem filter_take {f : UInt8 → Bool} {s : Md.Str} {i : Nat} (h : i < s.length) : (s.take (i + 1)).filter f = (s.take i).filter f ++ (if f (s.getD i 0) = true then [s.getD i 0] else []) := by
  rw [List.take_add_one, List.getElem?_eq_getElem h, List.filter_append]
  congr 1
  rw [List.getD_eq_getElem?_getD, List.getElem?_eq_getElem h]
  simp only [Option.toList_some, Option.getD_some, List.filter_cons, List.filter_nil]
theorem one_cut {s : Md.Str} {i : Nat} (h : i < s.length) : List.take (((i : Int) + 1).toNat - (i : Int).toNat) (List.drop (i : Int).toNat s) = [s.getD i 0] := by
  rw [show ((i : Int) + 1).toNat - (i : Int).toNat = 1 by omega, Int.toNat_natCast, drop_get h]; rfl
def secD (s : Md.Str) : Md.Str := (s.take 100).filter secOk
set_option maxHeartbeats 2000000 in
theorem sectionsLaw {s : Md.Str} {may : Bool} : F0 D 5 [.str s, .bool may] Heap.start (fun v cs' => v = .bool true) := by
  obtain ⟨hp1, c1, n1, s1⟩ := headSOk
  refine F0.of rfl rfl rfl ?_
  repeat' first | exact c1 | exact n1 | (refine R0.onP s1 ?_) | (refine Arith.mk ?_; omega) | (refine fun (hc : _ = _) => ?_; (try simp only [BB] at hc); (try (first | contradiction | (exfalso; omega)))) | exact arI | refine Pst.mk ⟨?_, rfl⟩ (by (repeat' constructor); first | done | fail) | constructor | (refine fun _ _ (hq : Hold _) => ?_; replace hq := hq.out; obtain ⟨_, rfl, rfl⟩ := hq) | (refine fun _ _ (hq : Hold _) => ?_; replace hq := hq.out; obtain ⟨_, _, rfl, rfl⟩ := hq) | rintro _ _ ⟨rfl, rfl⟩ | rintro _ _ ⟨_, rfl, rfl⟩ | rintro _ _ ⟨_, _, rfl, rfl⟩ | (refine fun (hc : _ = _) => ?_; (try simp only [BB] at hc)) | refine fun (_ : Nat) => ?_ | refine fun (_ : _ ≤ _) => ?_ | refine fun (_ : _ < _) => ?_
  refine RS.loopW (α := Nat) (fun i => [(0, .str s), (1, .bool may), (5, .str ((s.take i).filter secOk)), (6, .int .i64 (i : Nat))]) (fun _ => [])
    (fun i => i ≤ s.length ∧ i ≤ 100) (fun i => s.length - i) 0 ⟨Nat.zero_le _, Nat.zero_le _⟩ ⟨rfl, rfl, rfl, rfl, trivial⟩ .refl ?_
  rintro i ⟨h1, h2⟩ ih
  dsimp only [ents] at *
  have hft := fun h => filter_take (f := secOk) (s := s) (i := i) h
  have hfl := List.length_filter_le secOk (s.take i)
  rw [List.length_take] at hfl
  have hok := secOk_iff (c := s.getD i 0)
  repeat' first | (show FC _ _ _ _ _; first | exact new_F rfl (by simp only [List.length_append, List.length_cons, List.length_nil]; omega) | exact tokens_F | exact sections_F (by (repeat' constructor); first | done | fail)) | (refine Arith.mk ?_; omega) | (refine fun (hc : _ = _) => ?_; (try simp only [BB] at hc); (try (first | contradiction | (exfalso; omega)))) | exact arI | refine Pst.mk ⟨?_, rfl⟩ (by (repeat' constructor); first | done | fail) | constructor | (refine fun _ _ (hq : Hold _) => ?_; replace hq := hq.out; obtain ⟨_, rfl, rfl⟩ := hq) | (refine fun _ _ (hq : Hold _) => ?_; replace hq := hq.out; obtain ⟨_, _, rfl, rfl⟩ := hq) | rintro _ _ ⟨rfl, rfl⟩ | rintro _ _ ⟨_, rfl, rfl⟩ | rintro _ _ ⟨_, _, rfl, rfl⟩ | (refine fun (hc : _ = _) => ?_; (try simp only [BB] at hc)) | refine fun (_ : Nat) => ?_ | refine fun (_ : _ ≤ _) => ?_ | refine fun (_ : _ < _) => ?_
  · have e := hft (by omega)
    rw [if_pos (hok.2 (by omega)), ← one_cut (by omega)] at e
    exact ih _ _ (i + 1) (by omega) (by omega) (by rw [e]; exact ⟨rfl, rfl, rfl, rfl, trivial⟩) .refl
  · have e := hft (by omega)
    rw [if_neg (fun h => by have := hok.1 h; omega), List.append_nil] at e
    exact ih _ _ (i + 1) (by omega) (by omega) (by rw [e]; exact ⟨rfl, rfl, rfl, rfl, trivial⟩) .refl
  rename_i t5 _ l0 t3 _ x1 _ q0
  have hd : ∀ c ∈ (s.take i).filter secOk, secOk c = true := fun c hc => (List.mem_filter.1 hc).2
  generalize (s.take i).filter secOk = d at *
  obtain ⟨hN, hb1, hb2⟩ := new_small (c := secPre ++ d ++ [93, 93, 62, 120]) (k := 200) (w := 0) (n := []) (b := may) (by simp only [secPre, List.length_append, List.length_cons, List.length_nil]; omega) (by omega) (by simp)
  have hP := sections_pure hd hN
  generalize hT : ({ Md.Lx.new (secPre ++ d ++ [93, 93, 62, 120]) with way := 0, last := [], room := may } : Md.Lx).toks = T at *
  replace hP : Md.join T = secRes may d := by rw [← hT]; exact hP
  refine RS.rangeO rfl rfl fun m l Lr Lb Ld hL => ?_
  refine F.perm ((Rem.perm' (c := .obj q0 _) (by (repeat' constructor); first | done | fail)).trans ((Rem.perm' (c := LX l0 _ _) (by (repeat' constructor); first | done | fail)).cons _)) ?_
  refine F.mono (tokens_it (s := { Md.Lx.new (secPre ++ d ++ [93, 93, 62, 120]) with way := 0, last := [], room := may }) (l := l) (fun ts cs => ∃ (t : Nat) (os : List (Md.Tok × Nat)), Lr :: .obj m .mark :: .obj x1 (.cells [.lst t (zOf t 10) (os.map encT)] none) :: .own t 10 (os.map encT) :: .own t5 1 (bytesV (secPre ++ d ++ [93, 93, 62, 120])) :: [] = cs ∧ os.map Prod.fst ++ ts = T) (fun _ => False) ?_ hN ⟨t3, [], rfl, hT⟩) ?_
  · rintro t tag ts s2 g2 _ ⟨t1, os, rfl, ha⟩
    refine hL.y (.tail (.tail .head)) rfl ?_
    have hlen := congrArg List.length ha
    rw [List.length_append, List.length_map, List.length_cons] at hlen
    repeat' first | exact MapL.cons (y := (t, tag)) .nil | (refine Arith.mk ?_; omega) | (refine fun (hc : _ = _) => ?_; (try simp only [BB] at hc); (try (first | contradiction | (exfalso; omega)))) | exact arI | refine Pst.mk ⟨?_, rfl⟩ (by (repeat' constructor); first | done | fail) | constructor | (refine fun _ _ (hq : Hold _) => ?_; replace hq := hq.out; obtain ⟨_, rfl, rfl⟩ := hq) | (refine fun _ _ (hq : Hold _) => ?_; replace hq := hq.out; obtain ⟨_, _, rfl, rfl⟩ := hq) | rintro _ _ ⟨rfl, rfl⟩ | rintro _ _ ⟨_, rfl, rfl⟩ | rintro _ _ ⟨_, _, rfl, rfl⟩ | (refine fun (hc : _ = _) => ?_; (try simp only [BB] at hc)) | refine fun (_ : Nat) => ?_ | refine fun (_ : _ ≤ _) => ?_ | refine fun (_ : _ < _) => ?_
    rename_i t2
    exact Pst.mk (.mk ⟨_, rfl, .inl ⟨rfl, t2, os ++ [(t, tag)], rfl, by rw [← ha]; simp⟩⟩) (by (repeat' constructor); first | done | fail)
  rintro v cs' hq
  obtain ⟨s2, g2, cs1, rfl, hq2⟩ := hq.out
  rcases hq2 with ⟨t1, os, rfl, ha⟩ | hq2
  rotate_left
  · exact hq2.elim
  refine .ready (by (repeat' constructor); first | done | fail) ?_
  rw [List.append_nil] at ha
  cases may
  all_goals repeat' first | (show FZ _ _ _ _ _; exact joinZ_F2 rfl ha (by omega) (by omega)) | (refine fun _ _ (hq : Hold _) => ?_; replace hq := hq.out; obtain ⟨t6, os6, rfl, h6, ha6, rfl⟩ := hq; rw [hP] at ha6; unfold secRes at ha6; simp only [Bool.false_eq_true, if_true, if_false, List.map_eq_cons_iff, List.map_eq_nil_iff] at ha6) | (refine fun (hc : _ = _) => ?_; (try simp only [BB] at hc); (try (first | contradiction | (exfalso; omega)))) | exact arI | refine Pst.mk ⟨?_, rfl⟩ (by (repeat' constructor); first | done | fail) | constructor | (refine fun _ _ (hq : Hold _) => ?_; replace hq := hq.out; obtain ⟨_, rfl, rfl⟩ := hq) | (refine fun _ _ (hq : Hold _) => ?_; replace hq := hq.out; obtain ⟨_, _, rfl, rfl⟩ := hq) | rintro _ _ ⟨rfl, rfl⟩ | rintro _ _ ⟨_, rfl, rfl⟩ | rintro _ _ ⟨_, _, rfl, rfl⟩ | (refine fun (hc : _ = _) => ?_; (try simp only [BB] at hc)) | refine fun (_ : Nat) => ?_ | refine fun (_ : _ ≤ _) => ?_ | refine fun (_ : _ < _) => ?_
  · obtain ⟨a, _, rfl, e1, b, _, rfl, e2, rfl⟩ := ha6
    exact Pst.mk (by simp [e1, e2, comTok, Md.tx]) .refl
  · obtain ⟨a, _, rfl, e1, rfl⟩ := ha6
    exact Pst.mk (by simp [e1, Md.tx]) .refl
end Go.Proofs.YticnenofiibpgaaDoor.Code
/- 'woodcutlaw09.LexSections' returns true for every input; and its card. -/
namespace Go.Proofs.YticnenofiibpgaaDoor.lexSections
set_option linter.unusedSimpArgs false
set_option linter.unusedVariables false
set_option linter.unnecessarySimpa false
open Go.ChangeShapes Go.WideShapes Go.ChangeAt Go.RowKit

theorem own : ownKnob Tryd.prog.godebug = none := by kernel_rfl
theorem gTab : Tryd.prog.globalNamed "woodcut/chars.windows" = some 0 := by kernel_rfl
theorem gTabType : (Tryd.prog.globals[0]?).map (·.type) = some 69 := by kernel_rfl
theorem cells33 : Tryd.prog.cellsOf 69 = 32 := by kernel_rfl
theorem cells21 : Tryd.prog.cellsOf 21 = 1 := by kernel_rfl

theorem table {W : World} (h : laidMetH Tryd.prog Rows.lexSectionsRow.laid W) : Lib.TabIs Tryd.prog W "woodcut/chars.windows" .i32 Code.windows :=
  Lib.tabIs_of_head (rest := []) gTab gTabType Tryd.underlying69 Tryd.underlying21 cells21 cells33 h

theorem globOk {W : World} (h : Lib.TabIs Tryd.prog W "woodcut/chars.windows" .i32 Code.windows) : Dm.GlobOk Code.D (Dm.Cor.start W) := by
  refine ⟨fun g cs hg x hx => ?_, fun g cs hg => ?_⟩
  · simp only [Code.D, Code.glob] at hg
    split at hg <;> cases hg
    obtain ⟨z, _, rfl⟩ := List.mem_map.1 hx
    rfl
  · simp only [Code.D, Code.glob] at hg
    split at hg <;> cases hg
    rename_i hg0
    obtain rfl := Nat.eq_of_beq_eq_true hg0
    refine ⟨Code.windows.map (Value.int .i32), ?_, fun j x hj => ?_⟩
    · generalize Code.windows = ws
      induction ws with
      | nil => exact .nil
      | cons z zs ih => exact .cons (.int _ _) ih
    · show W.cell? ⟨0, j, none⟩ = some x
      have hlt : j < Code.windows.length := by have := (List.getElem?_eq_some_iff.1 hj).1; simpa using this
      have hc := h.cell gTab j hlt
      rw [hc]
      rw [List.getElem?_map, List.getElem?_eq_getElem hlt] at hj
      rw [List.getD_eq_getElem?_getD, List.getElem?_eq_getElem hlt]
      simpa using hj

theorem tys : Dm.tyB Tryd.prog [9, 4, 21] = true := by kernel_rfl
theorem run (dvs : List Dm.DV) (h : Dm.TAs Tryd.prog Tryd.f5.params.toList dvs) : Dm.F0 Code.D 5 dvs Dm.Heap.start (fun v _ => v = .bool true) := by
  rw [Tryd.params5] at h
  cases h with | @cons _ c0 _ _ h0 h =>
  cases h with | @cons _ c1 _ _ h1 h =>
  cases h
  obtain ⟨s, e0, _⟩ := Dm.TC.strV Tryd.underlying9 h0
  obtain ⟨b, e1⟩ := Dm.TC.boolV Tryd.underlying4 h1
  rw [e0, e1]
  exact Code.sectionsLaw (s := s) (may := b)

set_option maxRecDepth 100000 in
theorem contract (H : Type) (enc : TypeId × Value → H) (W : World) (base : Nat) (args : Array Value) (ds gs : List (DataW H)) (before : List MemPlace)
    (hval : ∀ (j : Nat) t v, Tryd.f5.params[j]? = some t → args[j]? = some v → Value.okWide Tryd.prog W .any base t v)
    (hW : DataW.Whole enc Tryd.prog Tryd.f5.params.toList Rows.lexSectionsSpec.vars false W args.toList ds gs before) (hL : laidMetH Tryd.prog Rows.lexSectionsRow.laid W) :
    Calls Tryd.prog 5 args W fun e W' => ∃ v, e = .returned v ∧ Rows.lexSectionsSpec.post enc Tryd.prog Tryd.f5 false true false false W args v W' := by
  refine Dm.contract_gen (D := Code.D) (cfg := Code.cfg) tys Code.hm Code.hD Code.hP (by kernel_rfl) rfl (tb := 4) Tryd.underlying4 rfl ?_ run W args ds gs before hval hW (globOk (table hL))
  intro ds hd
  rw [Tryd.params5] at hd
  match ds, hd with
  | [d0, d1], _ => rfl

noncomputable def laidWorld (os : Os) : World :=
  { World.holding Tryd.prog os ⟨#[], #[], []⟩ with heap := (World.holding Tryd.prog os ⟨#[], #[], []⟩).heap.modify 0 fun
      | .cells _ t frozen => .cells (Code.windows.map (Value.int .i32)).toArray t frozen
      | o => o }
theorem laid_met (os : Os) : laidMet Tryd.prog Rows.lexSectionsRow.laid ((laidWorld os).forCall (fun _ _ => 0) ⟨#[], #[.string ⟨#[]⟩, .bool false], []⟩).memory :=
  laidMet_of_run' 8 (by kernel_rfl) (by kernel_rfl)
theorem reads (os : Os) {H : Type} (enc : TypeId × Value → H) : ∃ places, DataW.whole enc Tryd.prog ((laidWorld os).forCall (fun _ _ => 0) ⟨#[], #[.string ⟨#[]⟩, .bool false], []⟩).memory Tryd.f5.params.toList Rows.lexSectionsSpec.vars false #[.string ⟨#[]⟩, .bool false].toList 8 = some ([.lit (.string []), .lit (.bool false)], [], places) :=
  ⟨[], by kernel_rfl⟩

set_option maxRecDepth 100000 in
theorem lifted (os : Os) (started : os.Started) (H : Type) (enc : TypeId × Value → H) (F : Stop.Interp) :
    ReturnsInHanded {} Tryd.checked os 5 .any ((OpenSpec.ofChange Rows.lexSectionsSpec).preRow enc Tryd.prog Tryd.f5 Rows.lexSectionsRow.domain false Rows.lexSectionsRow.laid) (((OpenSpec.ofChange Rows.lexSectionsSpec).at F).post enc Tryd.prog Tryd.f5 false true false false) := by
  obtain ⟨places, hx⟩ := reads os enc
  refine returnsInHanded_of_row (C := Tryd.checked) (s := OpenSpec.ofChange Rows.lexSectionsSpec) own started (by kernel_rfl) Tryd.func5
    (witness_row_at (enc := enc) (C := Tryd.checked) false (laidWorld os) #[.string ⟨#[]⟩, .bool false] rfl (by kernel_rfl) (by kernel_rfl) (by kernel_rfl)
      (OpenSpec.preRow_of_cond 8 hx (by kernel_rfl) (fun k hk => by cases hk) (by kernel_rfl) (laid_met os))) ?_
  intro W base args ds gs before hval hW _ _ _ hL _ _
  exact contract H enc W base args ds gs before hval hW hL

theorem said : Rows.LexSectionsSaid :=
  OpenClaim.holds_of_cond 5 Tryd.f5 rfl rfl rfl rfl rfl rfl rfl ⟨rfl, rfl, rfl, rfl, rfl⟩ rfl rfl rfl rfl rfl (by kernel_rfl) Tryd.func5 (by kernel_rfl)
    (of_decide_eq_true (by kernel_rfl)) (by unfold Func.isWrapper; first | (rw [if_pos (by decide +kernel)]; kernel_rfl) | (rw [if_neg (by decide +kernel)]; exact ⟨rfl, rfl⟩))
    (fun os started H enc _ F => by rw [OpenClaim.pre_eq_preRow]; exact lifted os started H enc F)

theorem plain (f : FuncId) (fn : Func) (hf : Tryd.pinned.checked.prog.funcNamed "woodcut/woodcutlaw09.LexSections" = some f) (hfn : Tryd.pinned.checked.prog.funcs[f]? = some fn) :
    false = Tryd.pinned.checked.prog.looks [] ∧ ∀ (j : Nat) t, fn.params[j]? = some t → Tryd.pinned.checked.prog.wantsStandIn t = false := by
  obtain rfl : f = 5 := Option.some.inj ((show Tryd.prog.funcNamed "woodcut/woodcutlaw09.LexSections" = some 5 by kernel_rfl).symm.trans hf) |>.symm
  obtain rfl : fn = Tryd.f5 := (Option.some.inj (Tryd.func5.symm.trans hfn)).symm
  refine ⟨by kernel_rfl, fun j t ht => ?_⟩
  rw [Tryd.params5] at ht
  have hall : [9, 4].all (fun t => Tryd.prog.wantsStandIn t == false) = true := by kernel_rfl
  have hmem : t ∈ [9, 4] := by have := Array.mem_of_getElem? ht; simpa using this
  exact eq_of_beq (List.all_eq_true.1 hall t hmem)

theorem card : Rows.LexSectionsCardSaid :=
  Claim7.holds_tied_plain_at .later [] _ _ _ _ said (fun _ h => by cases h) (by kernel_rfl) (fun _ h => by cases h) lexSections_row_tie rfl ⟨rfl, rfl⟩ (by kernel_rfl) rfl plain (by kernel_rfl)
end Go.Proofs.YticnenofiibpgaaDoor.lexSections
