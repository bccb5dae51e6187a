/- LexRefs returns true for every input: part 7 of the proof (several texts joined). -/
import Derived.Test.YticnenofiibpgaaDoorCards
import Derived.Test.YticnenofiibpgaaDoorTie
import Derived.WalkKit
import Derived.ProofKit
import Derived.OpenShut
import Derived.Deep.DeepHandedRow
import Derived.Lib.LaidTab
import Derived.Test.YticnenofiibpgaaDoorJ6
/- Tokens compared; words. -/
namespace Go.Md
def wd (c : UInt8) : UInt8 := byteN (97 + c.toNat % 26)
/-- A name of small letters. -/
def word9 (s : Str) : Str := 119 :: (s.take 8).map wd
end Go.Md
namespace Go.Proofs.YticnenofiibpgaaDoor.Code
open Go.Dm Go.Dm.C
set_option linter.unusedSimpArgs false
set_option linter.unusedVariables false
set_option linter.unnecessarySimpa false
set_option maxRecDepth 10000
attribute [local irreducible] Go.Dm.F Go.Dm.RS Go.Dm.Y Go.Dm.FD Go.Dm.FZ1 Go.Dm.Hold
variable {R : List Ck}
theorem word9_take {s : Md.Str} {i : Nat} (h : i < s.length) : (s.take (i + 1)).map Md.wd = (s.take i).map Md.wd ++ [Md.wd (s.getD i 0)] := by
  rw [List.take_add_one, List.getElem?_eq_getElem h]
  simp only [List.getD_eq_getElem?_getD, List.getElem?_eq_getElem h, Option.getD_some, Option.toList_some, List.map_append, List.map_cons, List.map_nil]
theorem word9_F {s : Md.Str} : F D 14 [.str s] R (fun v cs' => v = .str (Md.word9 s) ∧ R = cs') := by
  refine F.of rfl rfl rfl ?_
  repeat' first | exact arI | refine Pst.mk ⟨?_, rfl⟩ (by (repeat' constructor); first | done | fail) | constructor | (refine fun _ _ (hq : Hold _) => ?_; replace hq := hq.out; obtain ⟨_, rfl, rfl⟩ := hq) | (refine fun _ _ (hq : Hold _) => ?_; replace hq := hq.out; obtain ⟨_, _, rfl, rfl⟩ := hq) | rintro _ _ ⟨rfl, rfl⟩ | rintro _ _ ⟨_, rfl, rfl⟩ | rintro _ _ ⟨_, _, rfl, rfl⟩ | (refine fun (hc : _ = _) => ?_; (try simp only [BB] at hc)) | refine fun (_ : Nat) => ?_ | refine fun (_ : _ ≤ _) => ?_ | refine fun (_ : _ < _) => ?_
  refine RS.loopW (α := Nat) (fun i => [(0, .str s), (3, .str (119 :: (s.take i).map Md.wd)), (4, .int .i64 (i : Nat))]) (fun _ => R)
    (fun i => i ≤ s.length ∧ i ≤ 8) (fun i => 8 - i) 0 ⟨Nat.zero_le _, Nat.zero_le _⟩ ⟨rfl, rfl, rfl, trivial⟩ .refl ?_
  rintro i ⟨h1, h2⟩ ih
  dsimp only [ents] at *
  have hw := fun h => word9_take (s := s) (i := i) h
  repeat' first | (refine fun (hc : _ = _) => ?_; (try simp only [BB] at hc); (try (first | contradiction | (exfalso; omega)))) | exact arI | refine Pst.mk ⟨?_, rfl⟩ (by (repeat' constructor); first | done | fail) | constructor | (refine fun _ _ (hq : Hold _) => ?_; replace hq := hq.out; obtain ⟨_, rfl, rfl⟩ := hq) | (refine fun _ _ (hq : Hold _) => ?_; replace hq := hq.out; obtain ⟨_, _, rfl, rfl⟩ := hq) | rintro _ _ ⟨rfl, rfl⟩ | rintro _ _ ⟨_, rfl, rfl⟩ | rintro _ _ ⟨_, _, rfl, rfl⟩ | (refine fun (hc : _ = _) => ?_; (try simp only [BB] at hc)) | refine fun (_ : Nat) => ?_ | refine fun (_ : _ ≤ _) => ?_ | refine fun (_ : _ < _) => ?_
  · have e := hw (by omega)
    have h26 := (List.getD s i 0).toNat_lt
    have e2 : UInt8.ofNat (IntKind.u8.wrap (97 + (((List.getD s (i : Int).toNat 0).toNat : Int)).tmod 26)).toNat = Md.wd (List.getD s i 0) := by
      rw [Int.toNat_natCast, wrap_u8, Int.tmod_eq_emod_of_nonneg (by omega)]
      apply UInt8.toNat.inj
      rw [Md.wd, byteN_nat (by omega), UInt8.toNat_ofNat']
      omega
    refine ih _ _ (i + 1) (by omega) (by omega) ?_ (by (repeat' constructor); first | done | fail)
    rw [e, ← e2]; exact ⟨rfl, rfl, rfl, trivial⟩
  · unfold Md.word9
    congr 2
    by_cases h8 : i = 8
    · subst h8; rfl
    · rw [List.take_of_length_le (by omega), List.take_of_length_le (by omega)]
end Go.Proofs.YticnenofiibpgaaDoor.Code
/- How a text is read on, with texts az one: rules. -/
namespace Go.Md
def tx (d : Str) : Tok := { Tok.zero with kind := 1, data := d }
/-- A text more. -/
def app (l : List Tok) (d : Str) : List Tok := joinStep l (tx d)
theorem app_emp (d : Str) : app [] d = if d = [] then [] else [tx d] := by
  unfold app
  rw [joinStep_nil]
  by_cases h : d = []
  · subst h; rfl
  · rw [if_neg (fun x => h x.2), if_neg h]
theorem app_snoc (l : List Tok) (u : Tok) (d : Str) : app (l ++ [u]) d = if u.kind = 1 then l ++ [{ u with data := u.data ++ d }] else if d = [] then l ++ [u] else l ++ [u] ++ [tx d] := by
  unfold app
  rw [joinStep_snoc]
  simp only [tx, true_and]
theorem app_nil (l : List Tok) : app l [] = l := by
  rcases List.eq_nil_or_concat l with rfl | ⟨l, u, rfl⟩
  · rw [app_emp, if_pos rfl]
  · rw [List.concat_eq_append, app_snoc]; split
    · simp
    · rw [if_pos rfl]
theorem app_app (l : List Tok) (a b : Str) : app (app l a) b = app l (a ++ b) := by
  by_cases ha : a = []
  · subst ha; rw [app_nil, List.nil_append]
  · have h2 : a ++ b ≠ [] := by simp [ha]
    rcases List.eq_nil_or_concat l with rfl | ⟨l, u, rfl⟩
    · rw [app_emp, if_neg ha, app_emp, if_neg h2]
      have := app_snoc [] (tx a) b
      rw [List.nil_append] at this
      rw [this, if_pos (show (tx a).kind = 1 from rfl)]; rfl
    · rw [List.concat_eq_append, app_snoc, app_snoc]; split
      · rename_i hk
        rw [app_snoc, if_pos (by exact hk)]; simp
      · (try rw [if_neg ha]); (try rw [if_neg h2]); rw [app_snoc, if_pos (show (tx a).kind = 1 from rfl)]; simp [tx, Tok.zero]
def vt (acc : List Tok) (x : Lx) : List Tok := app (x.out.foldl joinStep acc) (encode x.text)
/-- Where a lexer is, and what it gave. -/
structure At (acc : List Tok) (x : Lx) (w : Int) (n : Str) (b : Bool) (r : List Int) (A : List Tok) : Prop where
  done : x.done = false
  way : x.way = w
  last : x.last = n
  room : x.room = b
  rest : x.rest = r
  vt : vt acc x = A
end Go.Md
namespace Go.Proofs.YticnenofiibpgaaDoor.Code
open Go.Dm
set_option linter.unusedSimpArgs false
set_option linter.unusedVariables false
variable {acc : List Md.Tok} {x : Md.Lx} {w : Int} {n : Md.Str} {b : Bool} {r : List Int} {A B : List Md.Tok}
theorem enc_app (a b : List Int) : Md.encode (a ++ b) = Md.encode a ++ Md.encode b := by simp [Md.encode]
theorem enc_one (r : Int) : Md.encode [r] = Md.putR r := by simp [Md.encode]
theorem enc_cons (r : Int) (l : List Int) : Md.encode (r :: l) = Md.putR r ++ Md.encode l := by simp [Md.encode]
theorem At.adv (h : Md.At acc x w n b r A) (k : Nat) : Md.At acc (x.adv k) w n b (r.drop k) A := ⟨h.done, h.way, h.last, h.room, by rw [rest_adv, h.rest], h.vt⟩
theorem At.say (h : Md.At acc x w n b r A) (d : List Int) : Md.At acc (x.say d) w n b r (Md.app A (Md.encode (d.filter (· != -1)))) := ⟨h.done, h.way, h.last, h.room, h.rest, by
  rw [← h.vt]; unfold Md.vt
  rw [Md.app_app, ← enc_app]; rfl⟩
theorem At.say' (h : Md.At acc x w n b r A) {d : List Int} (hd : ∀ r ∈ d, 0 ≤ r) : Md.At acc (x.say d) w n b r (Md.app A (Md.encode d)) := by
  have := At.say h d
  rwa [filter_nn hd] at this
theorem At.flush (h : Md.At acc x w n b r A) : Md.At acc x.flush w n b r A := by
  unfold Md.Lx.flush
  split
  · exact h
  · refine ⟨h.done, h.way, h.last, h.room, h.rest, ?_⟩
    rw [← h.vt]; unfold Md.vt
    show Md.app ((x.out ++ [Md.textTok x.text]).foldl Md.joinStep acc) [] = _
    rw [Md.app_nil, List.foldl_append]; rfl
theorem At.emit (h : Md.At acc x w n b r A) (t : Md.Tok) : Md.At acc (x.emit t) w (if t.kind = 2 then t.name else n) b r (Md.joinStep A t) := by
  have h1 := At.flush h
  refine ⟨h1.done, h1.way, ?_, h1.room, h1.rest, ?_⟩
  · show (if t.kind = 2 then t.name else x.flush.last) = _; rw [h1.last]
  · have h2 := h1.vt
    unfold Md.vt at h2 ⊢
    have e : (x.emit t).text = [] := flush_text
    have e0 : x.flush.text = [] := flush_text
    rw [e0] at h2
    rw [e]
    show Md.app ((x.flush.out ++ [t]).foldl Md.joinStep acc) [] = _
    have e2 : Md.encode [] = [] := rfl
    rw [e2, Md.app_nil] at h2
    rw [Md.app_nil, List.foldl_append, h2]; rfl
theorem At.setWay (h : Md.At acc x w n b r A) (w' : Int) : Md.At acc { x with way := w' } w' n b r A := ⟨h.done, rfl, h.last, h.room, h.rest, h.vt⟩
theorem At.pk (h : Md.At acc x w n b r A) (k : Nat) : x.pk k = r.getD k (-1) := by rw [pk_rest, h.rest]
/-- Read from here on, with what is there already: what it all is. -/
def Rd (w : Int) (n : Md.Str) (b : Bool) (r : List Int) (A B : List Md.Tok) : Prop := ∀ acc x, NI x → Md.At acc x w n b r A → x.toks.foldl Md.joinStep acc = B
theorem NI.noOut (h : NI x) : NI { x with out := [] } := ⟨h.len, h.nn, h.pos, h.pos2, h.text, by show (0 : Nat) ≤ 100; omega, h.last⟩
theorem At.noOut (h : Md.At acc x w n b r A) : Md.At (x.out.foldl Md.joinStep acc) { x with out := [] } w n b r A := ⟨h.done, h.way, h.last, h.room, h.rest, h.vt⟩
theorem At.fin (h : Md.At acc x w n b r A) : Md.At acc (stepFin x) w n b r A := by
  unfold stepFin; split
  · exact At.flush h
  · exact h
theorem Rd.step {w' : Int} {n' : Md.Str} {b' : Bool} {r' : List Int} {A' : List Md.Tok} (h : ∀ acc x, NI x → x.out = [] → Md.At acc x w n b r A → Md.At acc (stepMid x) w' n' b' r' A') (hr : Rd w' n' b' r' A' B) : Rd w n b r A B := by
  intro acc x hN hS
  have hN0 := hN.noOut
  have hS0 := At.noOut hS
  rw [toks_out, List.foldl_append]
  have ho : ({ x with out := [] } : Md.Lx).out = [] := rfl
  generalize ({ x with out := [] } : Md.Lx) = y at *
  rw [toks_step hN0 hS0.done ho]
  refine hr _ _ (hN0.step hS0.done ho) ?_
  rw [step_eq]
  exact At.fin (h _ _ hN0 ho hS0)
theorem Rd.nil : Rd w n b [] A A := by
  intro acc x hN hS
  have hN0 := hN.noOut
  have hS0 := At.noOut hS
  rw [toks_out, List.foldl_append]
  have ho : ({ x with out := [] } : Md.Lx).out = [] := rfl
  generalize ({ x with out := [] } : Md.Lx) = y at *
  rw [toks_step hN0 hS0.done ho]
  have hp : y.pk 0 = -1 := by rw [At.pk hS0]; rfl
  have hmid : stepMid y = { (y.adv 1).flush with done := true } := by rw [stepMid, if_pos hp]
  have hst : y.step = { (y.adv 1).flush with done := true } := by
    rw [step_eq, stepFin, hmid, if_neg]
    intro h; apply h.2.1; show (y.adv 1).flush.text = []; exact flush_text
  have hf := (At.flush (At.adv hS0 1)).vt
  rw [toks_out, hst]
  have hd : ({ ({ (y.adv 1).flush with done := true } : Md.Lx) with out := [] } : Md.Lx).toks = [] := toks_done rfl rfl
  rw [hd, List.append_nil]
  unfold Md.vt at hf
  have e : (y.adv 1).flush.text = [] := flush_text
  have e2 : Md.encode [] = [] := rfl
  rw [e, e2, Md.app_nil] at hf
  exact hf
/-- Signs that are a part of the text, in a way. -/
def okSign (w : Int) (c : Int) : Prop := 0 < c ∧ c ≠ 60 ∧ (c = 38 → w ≠ 0 ∧ w ≠ 1)
theorem okSign.of {c : Int} (h : Md.plainSign c = true ∧ 0 ≤ c) : okSign w c := by
  obtain ⟨hc, h0⟩ := h
  simp only [Md.plainSign, Bool.not_eq_true', Bool.or_eq_false_iff, beq_eq_false_iff_ne, ne_eq] at hc
  exact ⟨by omega, hc.1.2, fun h => absurd h hc.1.1⟩
theorem mid_plain {c : Int} {l : List Int} (hc : okSign x.way c) (hr : x.rest = c :: l) : stepMid x = ((x.adv 1).adv (l.takeWhile Md.plainSign).length).say (c :: l.takeWhile Md.plainSign) := by
  have hp : x.pk 0 = c := by rw [pk_rest, hr]; rfl
  have h1 : (x.adv 1).rest = l := by rw [rest_adv, hr]; rfl
  obtain ⟨h0, h60, h38⟩ := hc
  rw [stepMid, hp, h1, if_neg (by omega), if_neg (fun h => by have := h38 h.1; omega), if_neg (fun h => h60 h.1), if_neg (fun h => h60 h.1), if_neg (fun h => h60 h.1), if_neg (by omega), if_neg (by omega)]
theorem Rd.plain1 {c : Int} {l : List Int} (hc : okSign w c) (h : Rd w n b l (Md.app A (Md.putR c)) B) : Rd w n b (c :: l) A B := by
  have h0 : 0 ≤ c := Int.le_of_lt hc.1
  cases l with
  | nil =>
    refine Rd.step (fun acc x hN ho hS => ?_) h
    rw [mid_plain (by rw [hS.way]; exact hc) hS.rest]
    have := At.say' (At.adv (At.adv hS 1) 0) (d := [c]) (by simp [h0])
    rw [enc_one] at this
    exact this
  | cons e l =>
    by_cases he : Md.plainSign e = true
    · intro acc x hN hS
      have hN0 := hN.noOut
      have hS0 := At.noOut hS
      rw [toks_out, List.foldl_append]
      have ho : ({ x with out := [] } : Md.Lx).out = [] := rfl
      generalize ({ x with out := [] } : Md.Lx) = y at *
      have hlt : y.pos < y.inp.length := by
        by_cases hlt : y.pos < y.inp.length
        · exact hlt
        · have := rest_nil (s := y) (by omega); rw [hS0.rest] at this; cases this
      have hNz : NI ((y.adv 1).say [c]) := ⟨hN0.len, hN0.nn, by show y.pos + 1 ≤ _; exact Nat.succ_le_succ (Nat.le_of_lt hlt), fun _ => by show y.pos + 1 ≤ y.inp.length; omega, by
        show (y.text ++ [c].filter (· != -1)).length ≤ 10 * (y.pos + 1)
        have := hN0.text
        rw [filter_nn (by simp [h0]), List.length_append, List.length_singleton]; omega, hN0.out, hN0.last⟩
      have hSz := At.say' (At.adv hS0 1) (d := [c]) (by simp [h0])
      rw [enc_one] at hSz
      have := h _ _ hNz hSz
      rw [← this]
      have he0 : 0 ≤ e := hN0.nn e (by
        have : e ∈ y.rest := by rw [hS0.rest]; simp
        exact List.mem_of_mem_drop this)
      congr 1
      rw [toks_step hN0 hS0.done ho, toks_step hNz hSz.done (by exact ho), step_eq, step_eq]
      congr 2
      rw [mid_plain (by rw [hS0.way]; exact hc) hS0.rest, mid_plain (okSign.of ⟨he, he0⟩) (show ((y.adv 1).say [c]).rest = e :: l by rw [rest_say, rest_adv, hS0.rest]; rfl)]
      rw [List.takeWhile_cons, if_pos he]
      unfold Md.Lx.say Md.Lx.adv
      simp only [List.length_cons, Md.Lx.mk.injEq, true_and, and_true]
      have e1 : (c :: e :: l.takeWhile Md.plainSign).filter (· != -1) = [c].filter (· != -1) ++ (e :: l.takeWhile Md.plainSign).filter (· != -1) := by rw [← List.filter_append]; rfl
      exact ⟨by omega, by rw [e1, List.append_assoc]⟩
    · refine Rd.step (fun acc x hN ho hS => ?_) h
      rw [mid_plain (by rw [hS.way]; exact hc) hS.rest, List.takeWhile_cons, if_neg he]
      have := At.say' (At.adv (At.adv hS 1) 0) (d := [c]) (by simp [h0])
      rw [enc_one] at this
      exact this
theorem Rd.plain {l : List Int} : ∀ (d : List Int) {A : List Md.Tok}, (∀ c ∈ d, okSign w c) → Rd w n b l (Md.app A (Md.encode d)) B → Rd w n b (d ++ l) A B
  | [], A, _, h => by have e : Md.encode [] = [] := rfl; rw [e, Md.app_nil] at h; exact h
  | c :: d, A, hd, h => Rd.plain1 (hd c (by simp)) (Rd.plain d (fun x hx => hd x (by simp [hx])) (by rw [Md.app_app, ← enc_cons]; exact h))
/-- A < where tags may stand. -/
theorem Rd.tag {n' : Md.Str} {w' : Int} {b' : Bool} {l r' : List Int} {A' : List Md.Tok} (h : ∀ acc x, (∀ r ∈ x.inp, 0 ≤ r) → Md.At acc x 0 n b l A → Md.At acc x.open_ w' n' b' r' A') (hr : Rd w' n' b' r' A' B) : Rd 0 n b (60 :: l) A B := by
  refine Rd.step (fun acc x hN ho hS => ?_) hr
  have hp : x.pk 0 = 60 := by rw [At.pk hS]; rfl
  have hw := hS.way
  rw [stepMid, if_neg (by omega), if_neg (by omega), if_pos ⟨hp, hw⟩]
  exact h _ _ (by rw [flush_inp]; exact hN.nn) (At.flush (At.adv hS 1))
/-- A < in the other ways. -/
theorem Rd.shut {n' : Md.Str} {w' : Int} {b' : Bool} {l r' : List Int} {A' : List Md.Tok} (hw : w = 1 ∨ w = 2) (h : ∀ acc x, (∀ r ∈ x.inp, 0 ≤ r) → Md.At acc x w n b l A → Md.At acc x.close w' n' b' r' A') (hr : Rd w' n' b' r' A' B) : Rd w n b (60 :: l) A B := by
  refine Rd.step (fun acc x hN ho hS => ?_) hr
  have hp : x.pk 0 = 60 := by rw [At.pk hS]; rfl
  have hw' := hS.way
  rw [stepMid, if_neg (by omega), if_neg (by omega), if_neg (by omega), if_pos ⟨hp, by omega⟩]
  exact h _ _ (by rw [flush_inp]; exact hN.nn) (At.flush (At.adv hS 1))
theorem Rd.scr {n' : Md.Str} {w' : Int} {b' : Bool} {l r' : List Int} {A' : List Md.Tok} (h : ∀ acc x, (∀ r ∈ x.inp, 0 ≤ r) → Md.At acc x 3 n b l A → Md.At acc x.script w' n' b' r' A') (hr : Rd w' n' b' r' A' B) : Rd 3 n b (60 :: l) A B := by
  refine Rd.step (fun acc x hN ho hS => ?_) hr
  have hp : x.pk 0 = 60 := by rw [At.pk hS]; rfl
  have hw' := hS.way
  rw [stepMid, if_neg (by omega), if_neg (by omega), if_neg (by omega), if_neg (by omega), if_pos ⟨hp, by omega⟩]
  exact h _ _ (by rw [flush_inp]; exact hN.nn) (At.flush (At.adv hS 1))
theorem Rd.ref {l : List Int} (hw : w = 0 ∨ w = 1) (hs : ∀ r ∈ (Md.refer false l).1, 0 ≤ r) (hr : Rd w n b (l.drop (Md.refer false l).2) (Md.app A (Md.encode (Md.refer false l).1)) B) : Rd w n b (38 :: l) A B := by
  refine Rd.step (fun acc x hN ho hS => ?_) hr
  have hp : x.pk 0 = 38 := by rw [At.pk hS]; rfl
  have hw' := hS.way
  rw [stepMid, if_neg (by omega), if_pos ⟨hp, by omega⟩]
  have h1 : (x.adv 1).rest = l := by rw [rest_adv, hS.rest]; rfl
  unfold refA
  rw [h1]
  exact At.say' (At.adv (At.adv hS 1) _) hs
theorem Rd.start {c : Md.Str} {w : Int} {nm : Md.Str} {room : Bool} (hN : NI { Md.Lx.new c with way := w, last := nm, room := room }) (h : Rd w nm room (Md.decode c) [] B) : Md.join ({ Md.Lx.new c with way := w, last := nm, room := room } : Md.Lx).toks = B :=
  h [] _ hN ⟨rfl, rfl, rfl, rfl, rfl, rfl⟩
theorem Rd.conv {r' : List Int} {A' B' : List Md.Tok} (h : Rd w n b r' A' B') (h1 : r = r') (h2 : A = A') (h3 : B' = B) : Rd w n b r A B := by subst h1; subst h2; subst h3; exact h
end Go.Proofs.YticnenofiibpgaaDoor.Code
/- A marked section is a text where it may stand, and a comment where it may not. -/
namespace Go.Md
def asc (b : Str) : List Int := b.map fun c => (c.toNat : Int)
end Go.Md
namespace Go.Proofs.YticnenofiibpgaaDoor.Code
open Go.Dm
set_option linter.unusedSimpArgs false
set_option linter.unusedVariables false
theorem asc_app (a b : Md.Str) : Md.asc (a ++ b) = Md.asc a ++ Md.asc b := List.map_append
theorem putR_asc {c : UInt8} (h : c.toNat < 128) : Md.putR (c.toNat : Int) = [c] := by
  rw [putR_nat (by omega), if_pos (by omega)]
  congr 1
  apply UInt8.toNat.inj
  rw [byteN_nat (by omega)]
theorem enc_asc {b : Md.Str} (h : ∀ c ∈ b, c.toNat < 128) : Md.encode (Md.asc b) = b := by
  induction b with
  | nil => rfl
  | cons c b ih =>
    show Md.encode ((c.toNat : Int) :: Md.asc b) = _
    rw [enc_cons, putR_asc (h c (by simp)), ih (fun x hx => h x (by simp [hx]))]; rfl
theorem dec_asc {b : Md.Str} (h : ∀ c ∈ b, c.toNat < 128 ∧ c.toNat ≠ 13) : Md.decode b = Md.asc b := by
  conv => lhs; rw [← enc_asc (fun c hc => (h c hc).1)]
  refine decode_encode fun r hr => ?_
  obtain ⟨c, hc, rfl⟩ := List.mem_map.1 hr
  have := h c hc
  exact ⟨⟨by omega, by omega, by omega⟩, by omega, by omega⟩
theorem asc_plain {w : Int} {b : Md.Str} (h : ∀ c ∈ b, c.toNat ≠ 0 ∧ c.toNat ≠ 60 ∧ (c.toNat = 38 → w ≠ 0 ∧ w ≠ 1)) : ∀ r ∈ Md.asc b, okSign w r := fun r hr => by
  obtain ⟨c, hc, rfl⟩ := List.mem_map.1 hr
  have := h c hc
  exact ⟨by omega, by omega, fun h => this.2.2 (by omega)⟩
end Go.Proofs.YticnenofiibpgaaDoor.Code
/- An element's end, where its text is read in the raw way. -/
namespace Go.Proofs.YticnenofiibpgaaDoor.Code
open Go.Dm
set_option linter.unusedSimpArgs false
set_option linter.unusedVariables false
variable {acc : List Md.Tok} {x : Md.Lx} {w : Int} {n : Md.Str} {b : Bool} {r : List Int} {A B : List Md.Tok}
theorem dec1 {s : Md.Str} {i : Nat} (h : i < s.length) (ha : (s.getD i 0).toNat < 128) : Utf8.decode ⟨s.toArray⟩ i = ((s.getD i 0).toNat, 1) := by
  have e : ByteArray.get! ⟨s.toArray⟩ i = s.getD i 0 := by
    show s.toArray[i]! = _
    simp [List.getD_eq_getElem?_getD, h]
  unfold Utf8.decode
  simp only [Nat.add_zero, e]
  rw [if_pos (by omega)]
theorem runesGo_asc {s : Md.Str} (ha : ∀ c ∈ s, c.toNat < 128) : ∀ (f i : Nat), s.length ≤ i + f → Md.runesGo f s i = Md.asc (s.drop i)
  | 0, i, h => by rw [Md.runesGo, List.drop_eq_nil_of_le (by omega)]; rfl
  | f + 1, i, h => by
    rw [Md.runesGo]
    split
    · rename_i hi
      have hm : s.getD i 0 ∈ s := by rw [List.getD_eq_getElem?_getD, List.getElem?_eq_getElem hi]; exact List.getElem_mem _
      rw [dec1 hi (ha _ hm), drop_get hi, runesGo_asc ha f (i + 1) (by omega)]; rfl
    · rw [List.drop_eq_nil_of_le (by omega)]; rfl
theorem runes_asc {s : Md.Str} (ha : ∀ c ∈ s, c.toNat < 128) : Md.runes s = Md.asc s := by
  rw [Md.runes, runesGo_asc ha _ 0 (by omega)]; rfl
def lowName (n : Md.Str) : Prop := n ≠ [] ∧ ∀ c ∈ n, 97 ≤ c.toNat ∧ c.toNat ≤ 122
theorem small_low {c : Int} (h : 97 ≤ c) : Md.small c = c := by
  unfold Md.small; rw [if_neg (by omega)]
theorem goes_asc : ∀ (n : Md.Str) (T : List Int), (∀ c ∈ n, 97 ≤ c.toNat ∧ c.toNat ≤ 122) → Md.goesOn (Md.asc n) (Md.asc n ++ T) = true
  | [], T, _ => rfl
  | c :: n, T, h => by
    have h1 := h c (by simp)
    have := goes_asc n T (fun x hx => h x (by simp [hx]))
    show (Md.small (c.toNat : Int) == (c.toNat : Int) && Md.goesOn (Md.asc n) (Md.asc n ++ T)) = true
    rw [this, small_low (by omega)]; simp
theorem over_low {c : Int} (h : 97 ≤ c) : Md.over c = false := by
  simp [Md.over, Md.blank]; omega
theorem nameOf_asc {n : Md.Str} {T : List Int} (h : ∀ c ∈ n, 97 ≤ c.toNat ∧ c.toNat ≤ 122) (hT : Md.over (T.headD (-1)) = true) : Md.nameOf (Md.asc n ++ T) = Md.asc n := by
  induction n with
  | nil =>
    cases T with
    | nil => rfl
    | cons t T => show List.takeWhile _ (t :: T) = []; rw [List.takeWhile_cons, if_neg]; simpa using hT
  | cons c n ih =>
    have h1 := h c (by simp)
    show List.takeWhile _ ((c.toNat : Int) :: (Md.asc n ++ T)) = _
    rw [List.takeWhile_cons, if_pos (by rw [over_low (by omega)]; rfl)]
    have := ih (fun x hx => h x (by simp [hx]))
    unfold Md.nameOf at this
    rw [this]; rfl
theorem enc_name {n : Md.Str} (h : ∀ c ∈ n, 97 ≤ c.toNat ∧ c.toNat ≤ 122) : Md.encode ((Md.asc n).map fun r => Md.small (Md.fixr r)) = n := by
  have e : (Md.asc n).map (fun r => Md.small (Md.fixr r)) = Md.asc n := by
    rw [List.map_congr_left (g := id), List.map_id]
    intro r hr
    obtain ⟨c, hc, rfl⟩ := List.mem_map.1 hr
    have := h c hc
    rw [Md.fixr, if_neg (by omega), small_low (by omega)]; rfl
  rw [e, enc_asc (fun c hc => by have := h c hc; omega)]
def endTok (n : Md.Str) : Md.Tok := { Md.Tok.zero with kind := 3, name := n }
/-- A tag's rest, for an end. -/
theorem At.tag3 {n' : Md.Str} {T : List Int} (hn : lowName n) (hT : Md.over (T.headD (-1)) = true) (hq : (Md.attrsGo T []).2.2.1 = true) (h : Md.At acc x w n' b (Md.asc n ++ T) A) : Md.At acc (x.tag 3) w n' b (T.drop (Md.attrsGo T []).2.2.2) (Md.joinStep A (endTok n)) := by
  unfold Md.Lx.tag
  dsimp only
  rw [h.rest, nameOf_asc hn.2 hT, List.drop_left, if_pos hq, if_pos rfl, if_pos rfl, enc_name hn.2]
  have h1 := At.emit (At.adv h ((Md.asc n).length + (Md.attrsGo T []).2.2.2)) (endTok n)
  have e3 : ¬(endTok n).kind = 2 := by show ¬(3 : Int) = 2; decide
  rw [if_neg e3, ← List.drop_drop, List.drop_left] at h1
  exact h1
theorem closes_asc {T : List Int} (hn : lowName n) (hT : Md.over (T.headD (-1)) = true) : Md.closes n (47 :: (Md.asc n ++ T)) = 1 + n.length := by
  obtain ⟨h0, h1⟩ := hn
  obtain ⟨c, m, rfl⟩ : ∃ c m, n = c :: m := by cases n with
    | nil => exact absurd rfl h0
    | cons c m => exact ⟨c, m, rfl⟩
  have hl := h1 c (by simp)
  have hr : Md.runes (c :: m) = Md.asc (c :: m) := runes_asc (fun x hx => by have := h1 x hx; omega)
  have hlen : (Md.asc (c :: m)).length = (c :: m).length := List.length_map ..
  unfold Md.closes
  rw [if_neg, hr, if_pos, hlen]
  · refine ⟨goes_asc _ _ h1, ?_⟩
    have e : (47 :: (Md.asc (c :: m) ++ T)).getD (1 + (Md.asc (c :: m)).length) (-1) = T.headD (-1) := by
      rw [Nat.add_comm, List.getD_cons_succ, List.getD_eq_getElem?_getD, List.getElem?_append_right (Nat.le_refl _), Nat.sub_self]
      cases T <;> rfl
    rw [e]; exact hT
  · rintro (h | h | h)
    · exact h rfl
    · have : Md.letter (c.toNat : Int) = false := h
      have h2 : Md.letter (c.toNat : Int) = true := by simp [Md.letter]; omega
      rw [h2] at this; cases this
    · cases h
theorem At.close {T : List Int} (hn : lowName n) (hT : Md.over (T.headD (-1)) = true) (hq : (Md.attrsGo T []).2.2.1 = true) (h : Md.At acc x w n b (47 :: (Md.asc n ++ T)) A) : Md.At acc x.close 0 n b (T.drop (Md.attrsGo T []).2.2.2) (Md.joinStep A (endTok n)) := by
  unfold Md.Lx.close
  rw [h.last, h.rest, if_neg (by rw [closes_asc hn hT]; omega)]
  exact At.tag3 hn hT hq (At.setWay (At.adv h 1) 0)
theorem At.noClose (h : Md.At acc x w n b r A) (hc : Md.closes n r = 0) : Md.At acc x.close w n b r (Md.app A [60]) := by
  unfold Md.Lx.close
  rw [h.last, h.rest, if_pos hc]
  exact At.say' h (by simp)
theorem attrs_gt (l : List Int) (a : List (Md.Str × Md.Str)) : Md.attrsGo (62 :: l) a = (a, false, true, 1) := by
  rw [Md.attrsGo]; simp [Md.blank]
end Go.Proofs.YticnenofiibpgaaDoor.Code
/- An element's text that is read in the raw way goes on to its own end. -/
namespace Go.Proofs.YticnenofiibpgaaDoor.Code
open Go.Dm
set_option linter.unusedSimpArgs false
set_option linter.unusedVariables false
variable {acc : List Md.Tok} {x : Md.Lx} {w : Int} {n : Md.Str} {b : Bool} {r : List Int} {A B : List Md.Tok}
def rawOk : List Int → Prop
  | [] => True
  | r :: l => (r ≠ 38 ∧ 0 < r ∧ (r = 60 → l.headD 60 ≠ 47 ∧ l.headD 60 ≠ 33)) ∧ rawOk l
/-- A < that begins no end. -/
theorem Rd.lt (hw : w = 1 ∨ w = 2 ∨ w = 3) (h33 : r.headD (-1) ≠ 33) (hc : Md.closes n r = 0) (h : Rd w n b r (Md.app A [60]) B) : Rd w n b (60 :: r) A B := by
  rcases hw with rfl | rfl | rfl
  · exact Rd.shut (.inl rfl) (fun acc x hx hS => At.noClose hS hc) h
  · exact Rd.shut (.inr rfl) (fun acc x hx hS => At.noClose hS hc) h
  · refine Rd.scr (fun acc x hx hS => ?_) h
    unfold Md.Lx.script
    rw [if_pos]
    · exact At.noClose hS hc
    · rw [hS.rest]
      cases r with
      | nil => rfl
      | cons a r => 
        have : a ≠ 33 := h33
        show (a == 33 && _) = false
        simp [this]
theorem closes_no {l : List Int} (h : l.headD (-1) ≠ 47) : Md.closes n l = 0 := by
  unfold Md.closes
  exact if_pos (.inl (by
    cases l with
    | nil => show (-1 : Int) ≠ 47; decide
    | cons a l => exact h))
theorem Rd.raw {T : List Int} (hw : w = 1 ∨ w = 2 ∨ w = 3) (hT : T.headD (-1) = 60) : ∀ (o : List Int) {A : List Md.Tok}, rawOk o → Rd w n b T (Md.app A (Md.encode o)) B → Rd w n b (o ++ T) A B
  | [], A, _, h => by have e : Md.encode [] = [] := rfl; rw [e, Md.app_nil] at h; exact h
  | r :: o, A, ho, h => by
    have h' : Rd w n b T (Md.app (Md.app A (Md.putR r)) (Md.encode o)) B := by rw [Md.app_app, ← enc_cons]; exact h
    have hrec := Rd.raw hw hT o ho.2 h'
    by_cases h60 : r = 60
    · subst h60
      have h1 := ho.1.2.2 rfl
      have hh : (o ++ T).headD (-1) = o.headD 60 := by
        cases o with
        | nil => exact hT
        | cons a o => rfl
      exact Rd.lt hw (by show (o ++ T).headD (-1) ≠ 33; rw [hh]; exact h1.2) (closes_no (by show (o ++ T).headD (-1) ≠ 47; rw [hh]; exact h1.1)) hrec
    · exact Rd.plain1 ⟨ho.1.2.1, h60, fun e => absurd e ho.1.1⟩ hrec
/-- A tag that begins. -/
def startTok (m : Md.Str) (al : List (Md.Str × Md.Str)) (self : Bool) : Md.Tok := { Md.Tok.zero with kind := 2, name := m, attrs := al, self := self }
theorem At.start {m : Md.Str} {T : List Int} (hm : lowName m) (hT : Md.over (T.headD (-1)) = true) (hq : (Md.attrsGo T []).2.2.1 = true) (h : Md.At acc x 0 n b (Md.asc m ++ T) A) : Md.At acc x.open_ 0 m b (T.drop (Md.attrsGo T []).2.2.2) (Md.joinStep A (startTok m (Md.attrsGo T []).1 (Md.attrsGo T []).2.1)) := by
  obtain ⟨c, m', rfl⟩ : ∃ c m', m = c :: m' := by cases m with
    | nil => exact absurd rfl hm.1
    | cons c m' => exact ⟨c, m', rfl⟩
  have hl := hm.2 c (by simp)
  have hp : x.pk 0 = (c.toNat : Int) := At.pk h 0
  have hlet : Md.letter (c.toNat : Int) = true := by simp [Md.letter]; omega
  have e : x.open_ = x.tag 2 := by
    unfold Md.Lx.open_
    rw [hp, if_neg (by omega), if_neg (by omega), if_pos hlet]
  rw [e]
  unfold Md.Lx.tag
  dsimp only
  rw [h.rest, nameOf_asc hm.2 hT, List.drop_left, if_pos hq, if_neg (by decide), if_neg (by decide), enc_name hm.2]
  have h1 := At.emit (At.adv h ((Md.asc (c :: m')).length + (Md.attrsGo T []).2.2.2)) (startTok (c :: m') (Md.attrsGo T []).1 (Md.attrsGo T []).2.1)
  have e3 : (startTok (c :: m') (Md.attrsGo T []).1 (Md.attrsGo T []).2.1).kind = 2 := rfl
  rw [if_pos e3, ← List.drop_drop, List.drop_left] at h1
  exact h1
theorem word9_low (s : Md.Str) : lowName (Md.word9 s) := by
  refine ⟨by unfold Md.word9; simp, fun c hc => ?_⟩
  unfold Md.word9 at hc
  rcases List.mem_cons.1 hc with rfl | hc
  · decide
  · obtain ⟨a, _, rfl⟩ := List.mem_map.1 hc
    unfold Md.wd
    rw [byteN_nat (by omega)]; omega
end Go.Proofs.YticnenofiibpgaaDoor.Code
/- Attributes read. -/
namespace Go.Proofs.YticnenofiibpgaaDoor.Code
open Go.Dm
set_option linter.unusedSimpArgs false
set_option linter.unusedVariables false
/-- Signs that are a part of a value, just so. -/
theorem value_plain {q : Int} (hq : q ≠ 0) : ∀ (d l acc : List Int), (∀ r ∈ d, r ≠ q ∧ r ≠ 38 ∧ r ≠ 0) → Md.valueGo q (d ++ l) acc = ((Md.valueGo q l (acc ++ d)).1, (Md.valueGo q l (acc ++ d)).2.1, (Md.valueGo q l (acc ++ d)).2.2 + d.length)
  | [], l, acc, _ => by simp
  | r :: d, l, acc, h => by
    have h1 := h r (by simp)
    have ih := value_plain hq d l (acc ++ [r]) (fun x hx => h x (by simp [hx]))
    rw [List.cons_append, valueGo_cons, if_neg (fun e => h1.1 e.2), if_neg (fun e => hq e.1), if_neg h1.2.1, Md.fixr, if_neg h1.2.2, ih]
    simp only [List.append_assoc, List.singleton_append, List.length_cons, Prod.mk.injEq, true_and]; omega
theorem value_end {q : Int} (hq : q ≠ 0) (l acc : List Int) : Md.valueGo q (q :: l) acc = (acc, true, 1) := by
  rw [valueGo_cons, if_pos ⟨hq, rfl⟩]
theorem value_amp {q : Int} (hq : q ≠ 0) (h38 : q ≠ 38) (l acc : List Int) : Md.valueGo q (38 :: l) acc = ((Md.valueGo q (l.drop (Md.refer true l).2) (acc ++ (Md.refer true l).1)).1, (Md.valueGo q (l.drop (Md.refer true l).2) (acc ++ (Md.refer true l).1)).2.1, (Md.valueGo q (l.drop (Md.refer true l).2) (acc ++ (Md.refer true l).1)).2.2 + (Md.refer true l).2 + 1) := by
  rw [valueGo_cons, if_neg (fun e => h38 e.2.symm), if_neg (fun e => hq e.1), if_pos rfl]
def blanksOk (g : List Int) : Prop := ∀ r ∈ g, Md.blank r = true
theorem blanksN_app {g l : List Int} (hg : blanksOk g) (hl : Md.blank (l.headD (-1)) = false) : Md.blanksN (g ++ l) = g.length := by
  induction g with
  | nil =>
    cases l with
    | nil => rfl
    | cons a l =>
      have hl : Md.blank a = false := hl
      show (List.takeWhile Md.blank (a :: l)).length = 0
      rw [List.takeWhile_cons, if_neg (by rw [hl]; decide)]; rfl
  | cons a g ih =>
    have ha := hg a (by simp)
    have := ih (fun x hx => hg x (by simp [hx]))
    unfold Md.blanksN at this ⊢
    rw [List.cons_append, List.takeWhile_cons, if_pos ha, List.length_cons, this]; rfl
theorem attrName_asc {nm : Md.Str} {X : List Int} (hn : lowName nm) (hX : Md.over (X.headD (-1)) = true ∨ X.headD (-1) = 61) : Md.attrName (Md.asc nm ++ X) = Md.asc nm := by
  obtain ⟨c, m, rfl⟩ : ∃ c m, nm = c :: m := by cases nm with
    | nil => exact absurd rfl hn.1
    | cons c m => exact ⟨c, m, rfl⟩
  have hc := hn.2 c (by simp)
  show Md.attrName ((c.toNat : Int) :: (Md.asc m ++ X)) = (c.toNat : Int) :: Md.asc m
  unfold Md.attrName
  dsimp only
  rw [if_neg (by rw [over_low (by omega)]; decide)]
  congr 1
  have hm := fun x hx => hn.2 x (List.mem_cons_of_mem c hx)
  clear hc hn
  induction m with
  | nil =>
    cases X with
    | nil => rfl
    | cons a X =>
      show List.takeWhile _ (a :: X) = []
      rw [List.takeWhile_cons, if_neg]
      rcases hX with hX | hX
      · have hX : Md.over a = true := hX
        simp [hX]
      · have hX : a = 61 := hX
        simp [hX]
  | cons c' m ih =>
    have h1 := hm c' (by simp)
    have := ih (fun x hx => hm x (by simp [hx]))
    show List.takeWhile _ ((c'.toNat : Int) :: (Md.asc m ++ X)) = _
    rw [List.takeWhile_cons, if_pos, this]; rfl
    show (!(Md.over (c'.toNat : Int) || (c'.toNat : Int) == 61)) = true
    rw [over_low (by omega)]; simp; omega
theorem attr_quoted {nm : Md.Str} {g1 g2 body v : List Int} {q : Int} {k : Nat} (hn : lowName nm) (h1 : blanksOk g1) (h2 : blanksOk g2) (hq : q = 34 ∨ q = 39) (hv : Md.valueGo q body [] = (v, true, k)) :
    Md.attr1 (Md.asc nm ++ (g1 ++ 61 :: (g2 ++ q :: body))) = ((nm, Md.encode v), true, nm.length + g1.length + 1 + g2.length + 1 + k) := by
  have hlen : (Md.asc nm).length = nm.length := List.length_map ..
  have hnm : Md.attrName (Md.asc nm ++ (g1 ++ 61 :: (g2 ++ q :: body))) = Md.asc nm := attrName_asc hn (by
    cases g1 with
    | nil => exact .inr rfl
    | cons a g => left; have := h1 a (by simp); show Md.over a = true; simp [Md.over, this])
  have hb1 : Md.blanksN (g1 ++ 61 :: (g2 ++ q :: body)) = g1.length := blanksN_app h1 rfl
  have hqb : Md.blank q = false := by rcases hq with rfl | rfl <;> rfl
  have hb2 : Md.blanksN (g2 ++ q :: body) = g2.length := blanksN_app h2 hqb
  have hval : Md.value (g2 ++ q :: body) = (Md.encode v, true, g2.length + 1 + k) := by
    unfold Md.value
    have eg : (g2 ++ q :: body).getD g2.length (-1) = q := by
      rw [List.getD_eq_getElem?_getD, List.getElem?_append_right (Nat.le_refl _), Nat.sub_self]; rfl
    have ed : (g2 ++ q :: body).drop (g2.length + 1) = body := by rw [← List.drop_drop, List.drop_left]; rfl
    dsimp only
    rw [hb2, eg, if_neg (by rcases hq with rfl | rfl <;> decide), if_pos hq, ed, hv]
  unfold Md.attr1
  dsimp only
  rw [hnm, List.drop_left, hb1]
  have eg : (Md.asc nm ++ (g1 ++ 61 :: (g2 ++ q :: body))).getD ((Md.asc nm).length + g1.length) (-1) = 61 := by
    rw [List.getD_eq_getElem?_getD, List.getElem?_append_right (by omega), Nat.add_sub_cancel_left, List.getElem?_append_right (Nat.le_refl _), Nat.sub_self]; rfl
  have ed : (Md.asc nm ++ (g1 ++ 61 :: (g2 ++ q :: body))).drop ((Md.asc nm).length + g1.length + 1) = g2 ++ q :: body := by
    rw [Nat.add_assoc, ← List.drop_drop, List.drop_left, ← List.drop_drop, List.drop_left]; rfl
  rw [if_pos eg, ed, hval, enc_name hn.2, hlen]
  simp only [Prod.mk.injEq, true_and]; omega
/-- An attribute more. -/
theorem attrs_one {nm : Md.Str} {X T : List Int} {v : Md.Str} {k : Nat} {acc : List (Md.Str × Md.Str)} (hn : lowName nm) (ha : Md.attr1 (Md.asc nm ++ X) = ((nm, v), true, k)) (hk : (Md.asc nm ++ X).drop k = T) :
    Md.attrsGo (Md.asc nm ++ X) acc = ((Md.attrsGo T (Md.putAttr acc (nm, v))).1, (Md.attrsGo T (Md.putAttr acc (nm, v))).2.1, (Md.attrsGo T (Md.putAttr acc (nm, v))).2.2.1, (Md.attrsGo T (Md.putAttr acc (nm, v))).2.2.2 + k) := by
  obtain ⟨c, m, rfl⟩ : ∃ c m, nm = c :: m := by cases nm with
    | nil => exact absurd rfl hn.1
    | cons c m => exact ⟨c, m, rfl⟩
  have hc := hn.2 c (by simp)
  have e : Md.asc (c :: m) ++ X = (c.toNat : Int) :: (Md.asc m ++ X) := rfl
  rw [e] at ha hk ⊢
  rw [attrsGo_attr (by simp [Md.blank]; omega) (by omega) (by omega), ha, if_pos rfl]
  dsimp only
  rw [hk]
end Go.Proofs.YticnenofiibpgaaDoor.Code
/- References by name and by number, in texts and in values. -/
namespace Go.Proofs.YticnenofiibpgaaDoor.Code
open Go.Dm
set_option linter.unusedSimpArgs false
set_option linter.unusedVariables false
theorem name_facts : ∀ e ∈ Md.table, e.name.all (· != 34) = true := by decide +kernel
theorem matchStep_ext {rs l : List Int} {a : Int × Nat × Bool} {i : Nat} {e : Md.Entry} (he : e ∈ Md.table) : Md.matchStep runeBytes (rs ++ 34 :: l) a i e = Md.matchStep runeBytes rs a i e := by
  unfold Md.matchStep
  dsimp only
  by_cases hl : e.name.length ≤ rs.length
  · have e1 : (rs ++ 34 :: l).take e.name.length = rs.take e.name.length := List.take_append_of_le_length hl
    have e2 : (decide (e.name.length < (rs ++ 34 :: l).length) && (rs ++ 34 :: l).getD e.name.length 0 == 59) = (decide (e.name.length < rs.length) && rs.getD e.name.length 0 == 59) := by
      by_cases h2 : e.name.length < rs.length
      · rw [decide_eq_true h2, decide_eq_true (by rw [List.length_append]; omega), List.getD_eq_getElem?_getD, List.getElem?_append_left h2, ← List.getD_eq_getElem?_getD]
      · rw [decide_eq_false h2, List.getD_eq_getElem?_getD, List.getElem?_append_right (by omega), show e.name.length - rs.length = 0 by omega]
        simp
    rw [e1, e2]
    by_cases hc : runeBytes (rs.take e.name.length) ≠ e.name
    · rw [if_pos (.inr hc), if_pos (.inr hc)]
    · have hn1 : ¬(e.name.length > (rs ++ 34 :: l).length ∨ runeBytes (rs.take e.name.length) ≠ e.name) := fun x => x.elim (fun y => by rw [List.length_append] at y; omega) hc
      have hn2 : ¬(e.name.length > rs.length ∨ runeBytes (rs.take e.name.length) ≠ e.name) := fun x => x.elim (fun y => by omega) hc
      rw [if_neg hn1, if_neg hn2]
  · have hR : e.name.length > rs.length ∨ runeBytes (rs.take e.name.length) ≠ e.name := .inl (by omega)
    have hE : e.name.length > (rs ++ 34 :: l).length ∨ runeBytes ((rs ++ 34 :: l).take e.name.length) ≠ e.name := by
      refine .inr fun hx => ?_
      have hm : (34 : Int) ∈ (rs ++ 34 :: l).take e.name.length := by
        rw [List.take_append, show e.name.length - rs.length = (e.name.length - rs.length - 1) + 1 by omega, List.take_succ_cons]
        simp
      have h34 : (34 : UInt8) ∈ runeBytes ((rs ++ 34 :: l).take e.name.length) := by
        unfold runeBytes
        rw [List.mem_flatMap]
        exact ⟨34, hm, by rw [Md.enc_low (by omega)]; decide⟩
      rw [hx] at h34
      have := List.all_eq_true.1 (name_facts e he) _ h34
      simp at this
    rw [if_pos hE, if_pos hR]
theorem fold_congr {α β : Type} {f g : β → α → β} : ∀ (l : List α) (a : β), (∀ x ∈ l, ∀ b, f b x = g b x) → l.foldl f a = l.foldl g a
  | [], a, _ => rfl
  | x :: l, a, h => by
    rw [List.foldl_cons, List.foldl_cons, h x (by simp)]
    exact fold_congr l _ (fun y hy => h y (by simp [hy]))
theorem match_ext (rs l : List Int) : Md.matchT runeBytes (rs ++ 34 :: l) = Md.matchT runeBytes rs := by
  have e : Md.matchAll runeBytes (rs ++ 34 :: l) = Md.matchAll runeBytes rs := by
    unfold Md.matchAll
    refine fold_congr _ _ fun p hp b => matchStep_ext ?_
    have := List.mem_zipIdx' hp
    rw [this.2]; exact List.getElem_mem _
  unfold Md.matchT
  rw [e]
/-- What stands behind the &. -/
def refRs (W : Md.Str) (semi : Bool) (C : UInt8) : Md.Str := W ++ (if semi then [59] else []) ++ [C]
def refM (R : Md.Str) : List Int × Nat × Bool := Md.matchT runeBytes (Md.asc R)
def refWant (R : Md.Str) : Md.Str := if 0 < (refM R).2.1 then Md.encode (refM R).1 ++ R.drop (refM R).2.1 else [38] ++ R
def refOpen (R : Md.Str) : Prop := 0 < (refM R).2.1 ∧ (refM R).2.2 = false ∧ (refM R).2.1 < R.length ∧ ((Md.asc R).getD (refM R).2.1 (-1) = 61 ∨ Md.letter ((Md.asc R).getD (refM R).2.1 (-1)) = true ∨ Md.digit ((Md.asc R).getD (refM R).2.1 (-1)) = true)
instance (R : Md.Str) : Decidable (refOpen R) := by unfold refOpen; exact inferInstance
def refVal (R : Md.Str) : Md.Str := if refOpen R then [38] ++ R else refWant R
structure refOk (R : Md.Str) : Prop where
  low : ∀ c ∈ R, 32 ≤ c.toNat ∧ c.toNat < 128 ∧ c.toNat ≠ 34 ∧ c.toNat ≠ 38 ∧ c.toNat ≠ 60
  first : R.getD 0 0 ≠ 35
  len : R.length ≤ 1000
  ne : R ≠ []
theorem asc_drop (R : Md.Str) (n : Nat) : (Md.asc R).drop n = Md.asc (R.drop n) := by unfold Md.asc; rw [List.map_drop]
theorem asc_len (R : Md.Str) : (Md.asc R).length = R.length := List.length_map ..
variable {R : Md.Str}
theorem ref_first (h : refOk R) (X : List Int) : ¬(Md.asc R ++ X).getD 0 (-1) = 35 := by
  obtain ⟨c, l, rfl⟩ : ∃ c l, R = c :: l := by cases R with
    | nil => exact absurd rfl h.ne
    | cons c l => exact ⟨c, l, rfl⟩
  have := h.first
  show ¬(c.toNat : Int) = 35
  intro e
  apply this
  show c = 35
  apply UInt8.toNat.inj
  have : (35 : UInt8).toNat = 35 := rfl
  omega
theorem enc_drop (h : refOk R) (n : Nat) : Md.encode ((Md.asc R).drop n) = R.drop n := by
  rw [asc_drop]
  exact enc_asc fun c hc => (h.low c (List.mem_of_mem_drop hc)).2.1
theorem low_new {c : Md.Str} (hl : c.length ≤ 1000000000) : NI { Md.Lx.new c with way := 0, last := [], room := false } := by
  have hd := decode_len c
  exact ⟨Nat.le_trans hd hl, fun r hr => (decode_sv c r hr).1.1, Nat.zero_le _, fun _ => Nat.zero_le _, Nat.zero_le _, by show (0 : Nat) ≤ 100; omega, by show (0 : Nat) ≤ _; omega⟩
theorem match_pos (R : Md.Str) : 0 < (refM R).2.1 → (refM R).1 ≠ [] := by
  intro h e
  unfold refM Md.matchT at h e
  dsimp only at h e
  split at h
  · exact absurd h (by decide)
  · rename_i hc
    rw [if_neg hc] at e
    dsimp only at e
    split at e <;> cases e
theorem app_one {d : Md.Str} (h : d ≠ []) : Md.app [] d = [Md.tx d] := by rw [Md.app_emp, if_neg h]
theorem refs_text (h : refOk R) : Md.all ([38] ++ R) = [Md.tx (refWant R)] := by
  refine Rd.start (w := 0) (nm := []) (room := false) (low_new (c := [38] ++ R) (by have := h.len; simp only [List.length_append, List.length_cons, List.length_nil]; omega)) ?_
  have hlow : ∀ c ∈ [38] ++ R, c.toNat < 128 ∧ c.toNat ≠ 13 := fun c hc => by
    rcases List.mem_append.1 hc with hc | hc
    · simp only [List.mem_singleton] at hc; subst hc; decide
    · have := h.low c hc; omega
  rw [dec_asc hlow, asc_app, show Md.asc [38] ++ Md.asc R = 38 :: Md.asc R from rfl]
  have hf := ref_first h []
  rw [List.append_nil] at hf
  have hle := Md.matchT_le (Md.asc R)
  have hr : Md.refer false (Md.asc R) = if (refM R).2.1 = 0 then ([38], 0) else ((refM R).1, (refM R).2.1) := by
    rw [refer_name hf]
    show (if (refM R).2.1 = 0 then _ else _) = _
    by_cases h0 : (refM R).2.1 = 0
    · rw [if_pos h0, if_pos h0]
    · rw [if_neg h0, if_neg h0, if_neg (fun e => by cases e.1.1)]; rfl
  have hfa := refer_facts false (Md.asc R)
  have hok : ∀ n, ∀ c ∈ (Md.asc R).drop n, okSign 0 c := fun n c hc => by
    rw [asc_drop] at hc
    exact asc_plain (fun x hx => by have := h.low x (List.mem_of_mem_drop hx); exact ⟨by omega, by omega, fun e => by omega⟩) c hc
  refine Rd.ref (.inl rfl) hfa.2.2 ?_
  refine Rd.conv (Rd.plain (l := []) ((Md.asc R).drop (Md.refer false (Md.asc R)).2) (hok _) Rd.nil) (List.append_nil _).symm rfl ?_
  rw [Md.app_app, enc_drop h, hr]
  unfold refWant
  by_cases h0 : (refM R).2.1 = 0
  · rw [if_pos h0, if_neg (by omega)]
    have e : Md.encode ([38] : List Int) = [38] := rfl
    rw [e, List.drop_zero, app_one (by simp)]
  · rw [if_neg h0, if_pos (by omega)]
    have hne := match_pos R (by omega)
    rw [app_one]
    intro e
    have := (List.append_eq_nil_iff.1 e).1
    cases hs : (refM R).1 with
    | nil => exact hne hs
    | cons r l =>
      rw [hs, enc_cons] at this
      exact putR_ne r (List.append_eq_nil_iff.1 this).1
theorem refs_value (h : refOk R) : Md.all ([60, 97, 32, 98, 61, 34] ++ ([38] ++ R) ++ [34, 62]) = [startTok [97] [([98], refVal R)] false] := by
  refine Rd.start (w := 0) (nm := []) (room := false) (low_new (c := [60, 97, 32, 98, 61, 34] ++ ([38] ++ R) ++ [34, 62]) (by have := h.len; simp only [List.length_append, List.length_cons, List.length_nil]; omega)) ?_
  have hlow : ∀ c ∈ [60, 97, 32, 98, 61, 34] ++ ([38] ++ R) ++ [34, 62], c.toNat < 128 ∧ c.toNat ≠ 13 := fun c hc => by
    have h1 : ∀ c ∈ ([60, 97, 32, 98, 61, 34] : Md.Str), c.toNat < 128 ∧ c.toNat ≠ 13 := by decide
    have h2 : ∀ c ∈ ([34, 62] : Md.Str), c.toNat < 128 ∧ c.toNat ≠ 13 := by decide
    have h3 : ∀ c ∈ ([38] : Md.Str), c.toNat < 128 ∧ c.toNat ≠ 13 := by decide
    simp only [List.mem_append] at hc
    rcases hc with (hc | hc | hc) | hc
    · exact h1 c hc
    · exact h3 c hc
    · have := h.low c hc; omega
    · exact h2 c hc
  rw [dec_asc hlow, asc_app, asc_app, asc_app]
  show Rd 0 [] false (60 :: (Md.asc [97] ++ (32 :: (Md.asc [98] ++ ([] ++ 61 :: ([] ++ 34 :: 38 :: (Md.asc R ++ [34, 62]))))))) [] _
  have hle : (refM R).2.1 ≤ R.length := by have := Md.matchT_le (Md.asc R); rw [asc_len] at this; exact this
  -- the reference in the value
  have hr : Md.refer true (Md.asc R ++ [34, 62]) = if (refM R).2.1 = 0 then ([38], 0) else if refOpen R then ([38], 0) else ((refM R).1, (refM R).2.1) := by
    rw [refer_name (ref_first h _), match_ext]
    show (if (refM R).2.1 = 0 then _ else if (true = true ∧ (refM R).2.2 = false ∧ (refM R).2.1 < (Md.asc R ++ [34, 62]).length) ∧ ((Md.asc R ++ [34, 62]).getD (refM R).2.1 (-1) = 61 ∨ Md.letter ((Md.asc R ++ [34, 62]).getD (refM R).2.1 (-1)) = true ∨ Md.digit ((Md.asc R ++ [34, 62]).getD (refM R).2.1 (-1)) = true) then _ else ((refM R).1, (refM R).2.1)) = _
    by_cases h0 : (refM R).2.1 = 0
    · rw [if_pos h0, if_pos h0]
    · rw [if_neg h0, if_neg h0]
      have hiff : ((true = true ∧ (refM R).2.2 = false ∧ (refM R).2.1 < (Md.asc R ++ [34, 62]).length) ∧ ((Md.asc R ++ [34, 62]).getD (refM R).2.1 (-1) = 61 ∨ Md.letter ((Md.asc R ++ [34, 62]).getD (refM R).2.1 (-1)) = true ∨ Md.digit ((Md.asc R ++ [34, 62]).getD (refM R).2.1 (-1)) = true)) ↔ refOpen R := by
        unfold refOpen
        by_cases hn : (refM R).2.1 < R.length
        · have e : (Md.asc R ++ [34, 62]).getD (refM R).2.1 (-1) = (Md.asc R).getD (refM R).2.1 (-1) := by
            rw [List.getD_eq_getElem?_getD, List.getElem?_append_left (by rw [asc_len]; exact hn), ← List.getD_eq_getElem?_getD]
          rw [e]
          constructor
          · rintro ⟨⟨_, a, _⟩, c⟩; exact ⟨by omega, a, hn, c⟩
          · rintro ⟨_, a, _, c⟩; exact ⟨⟨rfl, a, by rw [List.length_append, asc_len]; omega⟩, c⟩
        · have e : (Md.asc R ++ [34, 62]).getD (refM R).2.1 (-1) = 34 := by
            rw [List.getD_eq_getElem?_getD, List.getElem?_append_right (by rw [asc_len]; omega), asc_len, show (refM R).2.1 - R.length = 0 by omega]; rfl
          rw [e]
          constructor
          · rintro ⟨_, c⟩
            rcases c with c | c | c
            · exact absurd c (by decide)
            · exact absurd c (by decide)
            · exact absurd c (by decide)
          · rintro ⟨_, _, c, _⟩; exact absurd c hn
      by_cases ho : refOpen R
      · rw [if_pos (hiff.2 ho), if_pos ho]
      · rw [if_neg (fun e => ho (hiff.1 e)), if_neg ho]
  have hfa := refer_facts true (Md.asc R ++ [34, 62])
  -- how much of R it takes
  have hn : (Md.refer true (Md.asc R ++ [34, 62])).2 ≤ R.length := by
    rw [hr]; split
    · exact Nat.zero_le _
    · split
      · exact Nat.zero_le _
      · exact hle
  have hv : Md.encode (Md.refer true (Md.asc R ++ [34, 62])).1 ++ R.drop (Md.refer true (Md.asc R ++ [34, 62])).2 = refVal R := by
    rw [hr]; unfold refVal refWant
    have e : Md.encode ([38] : List Int) = [38] := rfl
    by_cases h0 : (refM R).2.1 = 0
    · rw [if_pos h0, if_neg (fun ho => by have := ho.1; omega), if_neg (by omega), e, List.drop_zero]
    · rw [if_neg h0]
      by_cases ho : refOpen R
      · rw [if_pos ho, if_pos ho, e, List.drop_zero]
      · rw [if_neg ho, if_neg ho, if_pos (by omega)]
  generalize hQ : Md.refer true (Md.asc R ++ [34, 62]) = Q at *
  have hdrop : (Md.asc R ++ [34, 62]).drop Q.2 = (Md.asc R).drop Q.2 ++ 34 :: [62] := by
    rw [List.drop_append, show Q.2 - (Md.asc R).length = 0 by rw [asc_len]; omega]; rfl
  have hbody : Md.valueGo 34 (38 :: (Md.asc R ++ [34, 62])) [] = (Q.1 ++ (Md.asc R).drop Q.2, true, R.length + 2) := by
    rw [value_amp (by decide) (by decide), hQ, hdrop, value_plain (by decide) _ _ _ (fun r hr => ?_), value_end (by decide)]
    · dsimp only
      rw [List.nil_append, List.length_drop, asc_len]
      simp only [Prod.mk.injEq, true_and]; omega
    · rw [asc_drop] at hr
      obtain ⟨c, hc, rfl⟩ := List.mem_map.1 hr
      have := h.low c (List.mem_of_mem_drop hc)
      omega
  have ha := attr_quoted (nm := [98]) (g1 := []) (g2 := []) (q := 34) (by exact ⟨by decide, by decide⟩) (fun r hr => by cases hr) (fun r hr => by cases hr) (.inl rfl) hbody
  have hT : Md.attrsGo (32 :: (Md.asc [98] ++ ([] ++ 61 :: ([] ++ 34 :: 38 :: (Md.asc R ++ [34, 62]))))) [] = ([([98], refVal R)], false, true, R.length + 7) := by
    rw [attrsGo_blank (by rfl), attrs_one (T := [62]) (by exact ⟨by decide, by decide⟩) ha, attrs_gt]
    · rw [enc_app, enc_drop h, hv]
      dsimp only
      simp only [Md.putAttr, Md.hasAttr, List.any_nil, List.length_cons, List.length_nil]
      simp only [Bool.false_eq_true, if_false, List.nil_append, Prod.mk.injEq, true_and]; omega
    · show List.drop _ (98 :: 61 :: 34 :: 38 :: (Md.asc R ++ [34, 62])) = _
      have e : ([98] : Md.Str).length + ([] : List Int).length + 1 + ([] : List Int).length + 1 + (R.length + 2) = 4 + ((Md.asc R).length + 1) := by
        rw [asc_len]; simp only [List.length_cons, List.length_nil]; omega
      rw [e, ← List.drop_drop]
      show List.drop ((Md.asc R).length + 1) (Md.asc R ++ [34, 62]) = _
      rw [← List.drop_drop, List.drop_left]; rfl
  refine Rd.tag (fun acc x hx hS => At.start (m := [97]) (by exact ⟨by decide, by decide⟩) rfl (by rw [hT]) hS) ?_
  rw [hT]
  have e : List.drop (R.length + 7) (32 :: (Md.asc [98] ++ ([] ++ 61 :: ([] ++ 34 :: 38 :: (Md.asc R ++ [34, 62]))))) = [] := by
    apply List.drop_eq_nil_of_le
    simp only [List.length_cons, List.length_append, asc_len, List.length_nil]; omega
  show Rd 0 [97] false (List.drop (R.length + 7) _) _ _
  rw [e]
  exact Rd.conv Rd.nil rfl rfl rfl
/-! ### by a number -/
def decS (k : Nat) : Md.Str := if h : k < 10 then [Md.byteN (48 + k)] else decS (k / 10) ++ [Md.byteN (48 + k % 10)]
  termination_by k
  decreasing_by omega
theorem decS_low : ∀ (n k : Nat), k ≤ n → (∀ c ∈ decS k, 48 ≤ c.toNat ∧ c.toNat ≤ 57) ∧ decS k ≠ [] := by
  intro n
  induction n with
  | zero =>
    intro k hk
    obtain rfl : k = 0 := by omega
    rw [decS, dif_pos (by omega)]
    exact ⟨by decide, by decide⟩
  | succ n ih =>
    intro k hk
    rw [decS]
    split
    · refine ⟨fun c hc => ?_, by simp⟩
      simp only [List.mem_singleton] at hc; subst hc
      rw [byteN_nat (by omega)]; omega
    · obtain ⟨h1, h2⟩ := ih (k / 10) (by omega)
      refine ⟨fun c hc => ?_, by simp⟩
      rcases List.mem_append.1 hc with hc | hc
      · exact h1 c hc
      · simp only [List.mem_singleton] at hc; subst hc
        rw [byteN_nat (by omega)]; omega
theorem hex_dig {d : Nat} (h : d < 10) : Md.hex (((Md.byteN (48 + d)).toNat : Nat) : Int) = d := by
  rw [byteN_nat (by omega)]
  unfold Md.hex
  rw [if_pos (by omega)]; omega
theorem number_dec : ∀ (n k : Nat), k ≤ n → ∀ (l : List Int), Md.number 10 (Md.asc (decS k) ++ l) 0 0 = Md.number 10 l (min (k : Int) 1114112) (decS k).length := by
  intro n
  induction n with
  | zero =>
    intro k hk l
    obtain rfl : k = 0 := by omega
    rw [decS, dif_pos (by omega)]
    show Md.number 10 (((Md.byteN (48 + 0)).toNat : Int) :: l) 0 0 = _
    rw [Md.number, hex_dig (by omega), if_neg (by omega)]; rfl
  | succ n ih =>
    intro k hk l
    rw [decS]
    split
    · rename_i h
      show Md.number 10 (((Md.byteN (48 + k)).toNat : Int) :: l) 0 0 = _
      rw [Md.number, hex_dig h, if_neg (by omega)]
      simp
    · rename_i h
      rw [asc_app, List.append_assoc, ih (k / 10) (by omega)]
      show Md.number 10 (((Md.byteN (48 + k % 10)).toNat : Int) :: l) _ _ = _
      rw [Md.number, hex_dig (by omega), if_neg (by omega), List.length_append, List.length_singleton]
      congr 1
      have : ((k / 10 : Nat) : Int) * 10 + ((k % 10 : Nat) : Int) = k := by omega
      rcases Int.le_total ((k / 10 : Nat) : Int) 1114112 with h1 | h1
      · rw [Int.min_eq_left h1, this]
      · rw [Int.min_eq_right h1]
        omega
theorem numeric_min (k : Int) : Md.numeric (min k 1114112) = Md.numeric k := by
  rcases Int.le_total k 1114112 with h | h
  · rw [Int.min_eq_left h]
  · rw [Int.min_eq_right h]
    unfold Md.numeric
    rw [if_pos (by omega), if_pos (by omega)]
theorem windows_nn : ∀ i, i < 32 → 0 ≤ Md.windows.getD i 0 := by decide
theorem numeric_nn2 (k : Int) : 0 ≤ Md.numeric k := by
  unfold Md.numeric
  split
  · omega
  · split
    · exact windows_nn _ (by omega)
    · omega
theorem refs_number (k : Nat) (hk : k ≤ 100000000) : Md.all ([38, 35] ++ decS k ++ [59, 120]) = [Md.tx (Md.encode [Md.numeric k] ++ [120])] := by
  obtain ⟨hl, hne⟩ := decS_low k k (Nat.le_refl _)
  have hlen : (decS k).length ≤ k + 1 := by
    suffices h : ∀ n k : Nat, k ≤ n → (decS k).length ≤ k + 1 from h k k (Nat.le_refl _)
    intro n
    induction n with
    | zero => intro k hk; obtain rfl : k = 0 := by omega
              rw [decS, dif_pos (by omega)]; simp
    | succ n ih =>
      intro k hk
      rw [decS]
      split
      · simp
      · have := ih (k / 10) (by omega)
        rw [List.length_append, List.length_singleton]; omega
  refine Rd.start (w := 0) (nm := []) (room := false) (low_new (c := [38, 35] ++ decS k ++ [59, 120]) (by simp only [List.length_append, List.length_cons, List.length_nil]; omega)) ?_
  have hlow : ∀ c ∈ [38, 35] ++ decS k ++ [59, 120], c.toNat < 128 ∧ c.toNat ≠ 13 := fun c hc => by
    have h1 : ∀ c ∈ ([38, 35] : Md.Str), c.toNat < 128 ∧ c.toNat ≠ 13 := by decide
    have h2 : ∀ c ∈ ([59, 120] : Md.Str), c.toNat < 128 ∧ c.toNat ≠ 13 := by decide
    simp only [List.mem_append] at hc
    rcases hc with (hc | hc) | hc
    · exact h1 c hc
    · have := hl c hc; omega
    · exact h2 c hc
  rw [dec_asc hlow, asc_app, asc_app]
  show Rd 0 [] false (38 :: (35 :: (Md.asc (decS k) ++ [59, 120]))) [] _
  obtain ⟨c, m, hcm⟩ : ∃ c m, decS k = c :: m := by cases h : decS k with
    | nil => exact absurd h hne
    | cons c m => exact ⟨c, m, rfl⟩
  have hc := hl c (by rw [hcm]; simp)
  have hnum : Md.number 10 (Md.asc (decS k) ++ [59, 120]) 0 0 = (min (k : Int) 1114112, (decS k).length) := by
    rw [number_dec k k (Nat.le_refl _), Md.number, if_pos (.inl (by decide))]
  have hr : Md.refer false (35 :: (Md.asc (decS k) ++ [59, 120])) = ([Md.numeric k], (decS k).length + 2) := by
    rw [refer_dec (by rfl) (by
      rw [hcm]
      show ¬((c.toNat : Int) = 120 ∨ (c.toNat : Int) = 88)
      omega)]
    have hnum' : Md.number 10 ((35 :: (Md.asc (decS k) ++ [59, 120])).drop 1) 0 0 = (min (k : Int) 1114112, (decS k).length) := hnum
    have e59 : (35 :: (Md.asc (decS k) ++ [59, 120])).getD (1 + (decS k).length) (-1) = 59 := by
      rw [Nat.add_comm, List.getD_cons_succ, List.getD_eq_getElem?_getD, List.getElem?_append_right (by rw [asc_len]; omega), asc_len, Nat.sub_self]; rfl
    have hne0 : ¬(decS k).length = 0 := by rw [hcm]; simp
    simp only [hnum', if_neg hne0, if_pos e59, numeric_min, Prod.mk.injEq, true_and]; omega
  refine Rd.ref (.inl rfl) (by rw [hr]; simp [numeric_nn2]) ?_
  rw [hr]
  have ed : List.drop ((decS k).length + 2) (35 :: (Md.asc (decS k) ++ [59, 120])) = [120] := by
    show List.drop ((decS k).length + 1) (Md.asc (decS k) ++ [59, 120]) = _
    rw [← List.drop_drop, ← asc_len, List.drop_left]; rfl
  show Rd 0 [] false (List.drop ((decS k).length + 2) (35 :: (Md.asc (decS k) ++ [59, 120]))) _ _
  rw [ed]
  refine Rd.conv (Rd.plain (d := [120]) (by simp [okSign]) Rd.nil) rfl rfl ?_
  rw [Md.app_app, app_one (by rw [show Md.encode ([120] : List Int) = [120] from rfl]; simp)]; rfl
end Go.Proofs.YticnenofiibpgaaDoor.Code
/- The head of the lexer's laws, by a run from the start. -/
namespace Go.Proofs.YticnenofiibpgaaDoor
namespace Code
open Go.Dm
noncomputable def rhs : Option (DV × Heap) := closed D 3000 13 [] false Heap.start
theorem heads_run : okR rhs (.bool true) = true := by decide +kernel
theorem heads_both : ClC D 13 [] false Heap.start (.bool true) (heapOf rhs) ∧ Nat.ble 2 (heapOf rhs).next = true := by
  have h := heads_run
  unfold rhs at h ⊢
  exact closed_ok h
theorem sat_nil2 {h : Heap} (h2 : Nat.ble 2 h.next = true) : Sat h [] := ⟨Nat.le_of_ble_eq_true h2, fun _ hm => absurd hm List.not_mem_nil, List.Pairwise.nil⟩
theorem headSOk : ∃ h1 : Heap, ClC D 13 [] false Heap.start (.bool true) h1 ∧ Nat.ble 2 h1.next = true ∧ Sat h1 [] := ⟨_, heads_both.1, heads_both.2, sat_nil2 heads_both.2⟩
end Code
end Go.Proofs.YticnenofiibpgaaDoor
/- What LexRefs does on typed values. -/
namespace Go.Proofs.YticnenofiibpgaaDoor.Code
open Go.Dm Go.Dm.C
set_option linter.unusedSimpArgs false
set_option linter.unusedVariables false
set_option linter.unnecessarySimpa false
set_option maxRecDepth 10000
attribute [local irreducible] Go.Dm.F Go.Dm.RS Go.Dm.Y Go.Dm.FD Go.Dm.FZ1 Go.Dm.Hold
variable {R0 : List Ck}
theorem and_any (n : Int) (m : Nat) (hm : m ≤ 1000000000) : ∃ k : Nat, k ≤ m ∧ ∀ p, BI p .and .any (.int .i64 n) (.int .i64 (m : Int)) (.int .i64 (k : Int)) := by
  have hk : (BitVec.ofInt 64 n &&& BitVec.ofInt 64 (m : Int)).toNat ≤ m := by
    rw [BitVec.toNat_and]
    refine Nat.le_trans Nat.and_le_right ?_
    rw [BitVec.toNat_ofInt]; omega
  refine ⟨_, hk, fun p => .gen ?_⟩
  show some (DV.int .i64 (IntKind.i64.wrap ((BitVec.ofInt 64 n &&& BitVec.ofInt 64 (m : Int)).toNat : Int))) = _
  rw [wrap_i64_in (by omega)]
theorem shr2_any (n : Int) : ∃ m : Int, ∀ p, BI p .shr .any (.int .i64 n) (.int .u64 2) (.int .i64 m) := ⟨_, fun p => .gen rfl⟩
theorem rem5 (c : Int) (h : 0 ≤ c) : ∃ j : Nat, j < 5 ∧ ∀ p, BI p .rem .any (.int .i64 c) (.int .i64 5) (.int .i64 (j : Int)) := by
  refine ⟨(c % 5).toNat, by omega, fun p => .gen ?_⟩
  show some (DV.int .i64 (c.tmod 5)) = _
  rw [Int.tmod_eq_emod_of_nonneg h]
  congr 2; omega
theorem quo10 {k : Nat} {p : Bool} (h : k ≤ 1000000000) : BI p .quo .any (.int .i64 (k : Int)) (.int .i64 10) (.int .i64 ((k / 10 : Nat) : Int)) := .gen (by
  show some (DV.int .i64 (IntKind.i64.wrap ((k : Int).tdiv 10))) = _
  rw [Int.tdiv_eq_ediv_of_nonneg (by omega), wrap_i64_in (by omega)]; rfl)
theorem rem10 {k : Nat} {p : Bool} : BI p .rem .any (.int .i64 (k : Int)) (.int .i64 10) (.int .i64 ((k % 10 : Nat) : Int)) := .gen (by
  show some (DV.int .i64 ((k : Int).tmod 10)) = _
  rw [Int.tmod_eq_emod_of_nonneg (by omega)]; rfl)
theorem matchR_F {X : List Int} {R : Md.Str} {t z : Nat} (hX : X = Md.asc R) (hz : z = zOf t 1) (hl : R.length < 1000000) : F D 16 [.lst t z (X.map I32)] R0 (fun v cs' => Hold (∃ t', v = .tup [.lst t' (zOf t' 1) ((refM R).1.map I32), .int .i64 ((refM R).2.1 : Nat), .bool (refM R).2.2] ∧ R0 = cs')) := by
  subst hX
  exact match_F hz (by rw [asc_len]; omega)
def refNames : List Md.Str := [[97, 109, 112], [108, 116], [99, 111, 112, 121], [110, 111, 116, 105, 110], [101, 117, 114, 111], [116, 105, 109, 101, 115], [97, 112, 111, 115]]
theorem refNames_ok : ∀ i, i < 7 → lowName (refNames.getD i default) ∧ (refNames.getD i default).length ≤ 9 := by
  intro i hi
  have : ∀ i : Fin 7, (refNames.getD i.val default) ≠ [] ∧ (∀ c ∈ refNames.getD i.val default, 97 ≤ c.toNat ∧ c.toNat ≤ 122) ∧ (refNames.getD i.val default).length ≤ 9 := by decide
  have := this ⟨i, hi⟩
  exact ⟨⟨this.1, this.2.1⟩, this.2.2⟩
theorem low_drop {s : Md.Str} (h : lowName s) (hl : 1 < s.length) : lowName (s.drop 1) := by
  refine ⟨fun e => ?_, fun c hc => h.2 c (List.mem_of_mem_drop hc)⟩
  have := congrArg List.length e
  rw [List.length_drop, List.length_nil] at this; omega
theorem refOk_mk {W : Md.Str} {semi : Bool} {C : UInt8} (hW : lowName W) (hl : W.length ≤ 9) (hC : C = 97 ∨ C = 46 ∨ C = 61 ∨ C = 53 ∨ C = 32) : refOk (refRs W semi C) := by
  obtain ⟨c, m, rfl⟩ : ∃ c m, W = c :: m := by cases W with
    | nil => exact absurd rfl hW.1
    | cons c m => exact ⟨c, m, rfl⟩
  have hs : (if semi then ([59] : Md.Str) else []).length ≤ 1 := by cases semi <;> decide
  refine ⟨fun x hx => ?_, ?_, ?_, by unfold refRs; simp⟩
  · unfold refRs at hx
    simp only [List.mem_append] at hx
    rcases hx with (hx | hx) | hx
    · have := hW.2 x hx; omega
    · have h59 : ∀ x ∈ (if semi then ([59] : Md.Str) else []), x = 59 := by cases semi <;> simp
      rw [h59 x hx]; decide
    · simp only [List.mem_singleton] at hx
      subst hx
      rcases hC with rfl | rfl | rfl | rfl | rfl <;> decide
  · have := hW.2 c (by simp)
    show c ≠ 35
    intro e
    subst e
    exact absurd this.1 (by decide)
  · unfold refRs
    simp only [List.length_append, List.length_singleton]; omega
def refT2 : DC := match c_woodcutlaw09_LexRefs.body with
  | .seq _ (.seq _ (.seq _ (.seq _ (.seq _ (.seq _ (.seq _ (.seq _ e))))))) => e
  | _ => .skip
def refT3 : DC := match refT2 with
  | .seq _ (.seq _ (.seq _ (.seq _ (.seq _ (.seq _ (.seq _ (.seq _ (.seq _ (.seq _ (.seq _ (.seq _ (.seq _ e)))))))))))) => e
  | _ => .skip
theorem decS_bd {k : Nat} (h : k ≤ 2097151) : (decS k).length ≤ 8 := by
  have hs : ∀ n, ∀ k, k < 10 ^ n → (decS k).length ≤ max n 1 := by
    intro n
    induction n with
    | zero => intro k hk; obtain rfl : k = 0 := by omega
              rw [decS, dif_pos (by omega)]; simp
    | succ n ih =>
      intro k hk
      rw [decS]
      split
      · simp
      · rename_i h10
        have h1 : k / 10 < 10 ^ n := by rw [Nat.pow_succ] at hk; omega
        have := ih (k / 10) h1
        have hn : n ≠ 0 := by rintro rfl; simp at h1; omega
        rw [List.length_append, List.length_singleton]; omega
  have := hs 8 k (by omega)
  omega
theorem decS_step (k : Nat) : (k / 10 = 0 ∧ decS k = [Md.byteN (48 + k % 10)]) ∨ (0 < k / 10 ∧ decS k = decS (k / 10) ++ [Md.byteN (48 + k % 10)]) := by
  by_cases h : k < 10
  · left
    rw [decS, dif_pos h, Nat.mod_eq_of_lt h]; exact ⟨by omega, rfl⟩
  · right
    refine ⟨by omega, ?_⟩
    conv => lhs; rw [decS, dif_neg h]
set_option maxHeartbeats 4000000 in
theorem refT3_R {cs : List Ck} {es : List En} {n : Int} (hsub : Dm.Sub es [(1, .int .i64 n)]) : RR D [It.code refT3] ⟨244, es, [], none⟩ cs (Dm.Fin D (fun v cs' => v = .bool true) [DRes.tmp 8]) := by
  refine RR.weak _ (RR.drop (cs' := []) (List.nil_sublist _) ?_) hsub
  obtain ⟨N, hN, hAN⟩ := and_any n 2097151 (by omega)
  dsimp only [ents]
  unfold refT3 refT2
  dsimp only [c_woodcutlaw09_LexRefs]
  repeat' first
    | (show BI _ _ _ _ _ _; first | exact hAN _) | (refine Arith.mk ?_; omega) | (refine fun (hc : _ = _) => ?_; (try simp only [BB] at hc); (try (first | contradiction | (exfalso; omega)))) | exact arI | refine Pst.mk ⟨?_, rfl⟩ (by (repeat' constructor); first | done | fail) | constructor | (refine fun _ _ (hq : Hold _) => ?_; replace hq := hq.out; obtain ⟨_, rfl, rfl⟩ := hq) | (refine fun _ _ (hq : Hold _) => ?_; replace hq := hq.out; obtain ⟨_, _, rfl, rfl⟩ := hq) | rintro _ _ ⟨rfl, rfl⟩ | rintro _ _ ⟨_, rfl, rfl⟩ | rintro _ _ ⟨_, _, rfl, rfl⟩ | (refine fun (hc : _ = _) => ?_; (try simp only [BB] at hc)) | refine fun (_ : Nat) => ?_ | refine fun (_ : _ ≤ _) => ?_ | refine fun (_ : _ < _) => ?_
  refine RS.loopW (α := Nat × Md.Str) (fun a => [(1, .int .i64 (N : Nat)), (23, .str a.2), (24, .int .i64 (a.1 : Nat))]) (fun _ => [])
    (fun a => (a.2 = [] ∧ a.1 = N) ∨ (a.2 ≠ [] ∧ 0 < a.1 ∧ a.1 ≤ N ∧ decS N = decS a.1 ++ a.2) ∨ (a.2 ≠ [] ∧ a.1 = 0 ∧ decS N = a.2)) (fun a => 2 * a.1 + (if a.2 = [] then 1 else 0)) (N, []) (.inl ⟨rfl, rfl⟩) ⟨rfl, rfl, rfl, trivial⟩ .refl ?_
  rintro ⟨k, ds⟩ hI ih
  dsimp only [ents] at *
  have hkN : k ≤ N := by rcases hI with h | h | h <;> omega
  have hdl : decS N = ds ∨ ds.length ≤ 8 := by
    have := decS_bd hN
    rcases hI with h | h | h
    · rw [h.1]; exact .inr (by decide)
    · rw [h.2.2.2, List.length_append] at this; exact .inr (by omega)
    · exact .inl h.2.2
  have hdl : ds.length ≤ 8 := by
    rcases hdl with h | h
    · rw [← h]; exact decS_bd hN
    · exact h
  have hP := refs_number N (by omega)
  repeat' first
    | (show BI _ _ _ _ _ _; first | exact quo10 (by omega) | exact rem10)
    | (show FC _ _ _ _ _; first | exact all_F rfl (by simp only [List.length_append, List.length_cons, List.length_nil]; omega) | exact numeric_F (by omega) | exact encode_F (rs := [_]) rfl (by simp))
    | (refine Arith.mk ?_; simp only [List.length_append, List.length_cons, List.length_nil]; omega) | (refine fun (hc : _ = _) => ?_; (try simp only [BB] at hc); (try (first | contradiction | (exfalso; omega)))) | exact arI | refine Pst.mk ⟨?_, rfl⟩ (by (repeat' constructor); first | done | fail) | constructor | (refine fun _ _ (hq : Hold _) => ?_; replace hq := hq.out; obtain ⟨_, rfl, rfl⟩ := hq) | (refine fun _ _ (hq : Hold _) => ?_; replace hq := hq.out; obtain ⟨_, _, rfl, rfl⟩ := hq) | rintro _ _ ⟨rfl, rfl⟩ | rintro _ _ ⟨_, rfl, rfl⟩ | rintro _ _ ⟨_, _, rfl, rfl⟩ | (refine fun (hc : _ = _) => ?_; (try simp only [BB] at hc)) | refine fun (_ : Nat) => ?_ | refine fun (_ : _ ≤ _) => ?_ | refine fun (_ : _ < _) => ?_
  · have e : UInt8.ofNat (IntKind.u8.wrap (48 + ((k % 10 : Nat) : Int))).toNat = Md.byteN (48 + k % 10) := by
      rw [wrap_u8]
      apply UInt8.toNat.inj
      rw [byteN_nat (by omega), UInt8.toNat_ofNat']
      omega
    rw [e]
    refine ih _ _ (k / 10, [Md.byteN (48 + k % 10)] ++ ds) ?_ ?_ ⟨rfl, rfl, rfl, trivial⟩ (by (repeat' constructor); first | done | fail)
    · rcases hI with ⟨rfl, rfl⟩ | ⟨h1, h2, h3, h4⟩ | ⟨h1, rfl, h3⟩
      · rcases decS_step k with ⟨g1, g2⟩ | ⟨g1, g2⟩
        · exact .inr (.inr ⟨by simp, g1, by rw [g2]; rfl⟩)
        · exact .inr (.inl ⟨by simp, g1, by dsimp only; omega, by rw [g2]; rfl⟩)
      · rcases decS_step k with ⟨g1, g2⟩ | ⟨g1, g2⟩
        · exact .inr (.inr ⟨by simp, g1, by rw [h4, g2]⟩)
        · exact .inr (.inl ⟨by simp, g1, by dsimp only; omega, by rw [h4, g2, List.append_assoc]⟩)
      · exact absurd hc (by simp [h1])
    · dsimp only
      rw [if_neg (by simp)]
      by_cases hds : ds = []
      · rw [if_pos hds]; omega
      · rw [if_neg hds]
        have := hc.resolve_right hds
        omega
  · have hds : ds = decS N := by
      rcases hI with h | h | h
      · exact absurd h.1 hc.2
      · exact absurd h.2.1 (by omega)
      · exact h.2.2.symm
    subst hds
    refine fun _ _ (hq : Hold _) => ?_
    replace hq := hq.out
    obtain ⟨tq, osq, rfl, hq0, ha, rfl⟩ := hq
    rw [hP] at ha
    simp only [List.map_eq_cons_iff, List.map_eq_nil_iff] at ha
    obtain ⟨g1, _, rfl, e1, rfl⟩ := ha
    have hel := encode_len [Md.numeric (N : Int)]
    repeat' first
      | (refine Arith.mk fun _ => ?_; simp only [List.length_append, List.length_cons, List.length_nil] at hel ⊢; omega)
      | (refine fun (hc : _ = _) => ?_; exfalso; (try simp only [BB] at hc); simp at hc; done)
      | (show FC _ _ _ _ _; first | exact numeric_F (by omega) | exact encode_F (rs := [Md.numeric N]) rfl (by simp))
      | (refine Arith.mk ?_; simp only [List.length_append, List.length_cons, List.length_nil]; omega) | (refine fun (hc : _ = _) => ?_; (try simp only [BB] at hc); (try (first | contradiction | (exfalso; omega)))) | exact arI | refine Pst.mk ⟨?_, rfl⟩ (by (repeat' constructor); first | done | fail) | constructor | (refine fun _ _ (hq : Hold _) => ?_; replace hq := hq.out; obtain ⟨_, rfl, rfl⟩ := hq) | (refine fun _ _ (hq : Hold _) => ?_; replace hq := hq.out; obtain ⟨_, _, rfl, rfl⟩ := hq) | rintro _ _ ⟨rfl, rfl⟩ | rintro _ _ ⟨_, rfl, rfl⟩ | rintro _ _ ⟨_, _, rfl, rfl⟩ | (refine fun (hc : _ = _) => ?_; (try simp only [BB] at hc)) | refine fun (_ : Nat) => ?_ | refine fun (_ : _ ≤ _) => ?_ | refine fun (_ : _ < _) => ?_
    exact Pst.mk (by simp [e1, Md.tx]) .refl
theorem asc_take {T : Md.Str} {i : Nat} (h : i < T.length) : Md.asc (T.take (i + 1)) = Md.asc (T.take i) ++ [((T.getD i 0).toNat : Int)] := by
  rw [List.take_add_one, List.getElem?_eq_getElem h, asc_app, List.getD_eq_getElem?_getD, List.getElem?_eq_getElem h]; rfl
theorem refVal_len {R : Md.Str} : (refVal R).length ≤ R.length + 9 ∧ (refWant R).length ≤ R.length + 9 := by
  have h1 := Md.matchT_len (Md.asc R)
  have h2 := encode_len (refM R).1
  have h3 : (refM R).1.length ≤ 2 := h1
  have hw : (refWant R).length ≤ R.length + 9 := by
    unfold refWant; split
    · rw [List.length_append, List.length_drop]; omega
    · rw [List.length_append]; simp only [List.length_cons, List.length_nil]; omega
  refine ⟨?_, hw⟩
  unfold refVal; split
  · rw [List.length_append]; simp only [List.length_cons, List.length_nil]; omega
  · exact hw
set_option maxHeartbeats 8000000 in
theorem refT2_R {cs : List Ck} {es : List En} {n c : Int} {W : Md.Str} {semi : Bool} (hc : 0 ≤ c ∧ c < 256) (hW : lowName W) (hWl : W.length ≤ 9) (hsub : Dm.Sub es [(1, .int .i64 n), (2, .int .u8 c), (12, .str ([38] ++ (W ++ if semi then [59] else [])))]) : RR D [It.code refT2] ⟨244, es, [], none⟩ cs (Dm.Fin D (fun v cs' => v = .bool true) [DRes.tmp 8]) := by
  refine RR.weak _ (RR.drop (cs' := []) (List.nil_sublist _) ?_) hsub
  clear hsub
  obtain ⟨j, hj, hrem⟩ := rem5 c hc.1
  obtain ⟨C, hC, hCe⟩ : ∃ C : UInt8, (C = 97 ∨ C = 46 ∨ C = 61 ∨ C = 53 ∨ C = 32) ∧ List.take (((j : Int) + 1).toNat - (j : Int).toNat) (List.drop (j : Int).toNat [97, 46, 61, 53, 32]) = [C] := by
    match j, hj with
    | 0, _ => exact ⟨97, .inl rfl, rfl⟩
    | 1, _ => exact ⟨46, .inr (.inl rfl), rfl⟩
    | 2, _ => exact ⟨61, .inr (.inr (.inl rfl)), rfl⟩
    | 3, _ => exact ⟨53, .inr (.inr (.inr (.inl rfl))), rfl⟩
    | 4, _ => exact ⟨32, .inr (.inr (.inr (.inr rfl))), rfl⟩
  have hok := refOk_mk (semi := semi) hW hWl hC
  have hs1 : (if semi then ([59] : Md.Str) else []).length ≤ 1 := by cases semi <;> decide
  obtain ⟨T, hT⟩ : ∃ T, T = W ++ (if semi then ([59] : Md.Str) else []) := ⟨_, rfl⟩
  have hR : refRs W semi C = T ++ [C] := by rw [hT]; rfl
  rw [← hT]
  rw [hR] at hok
  have hTl : T.length ≤ 10 := by rw [hT, List.length_append]; omega
  have hp1 := refs_text hok
  have hp2 := refs_value hok
  clear hT hR hs1 hW hWl
  dsimp only [ents]
  unfold refT2
  dsimp only [c_woodcutlaw09_LexRefs]
  repeat' first
    | (show BI _ _ _ _ _ _; first | exact hrem _)
    | (show FC _ _ _ _ _; first | exact all_F rfl (by rw [hCe]; simp only [List.length_append, List.length_cons, List.length_nil]; omega))
    | (refine fun _ _ (hq : Hold _) => ?_; replace hq := hq.out; obtain ⟨tq, osq, rfl, hq0, ha, rfl⟩ := hq; rw [hCe, List.append_assoc, hp1] at ha; simp only [List.map_eq_cons_iff, List.map_eq_nil_iff] at ha; obtain ⟨g1, _, rfl, e1, rfl⟩ := ha)
    | (refine Arith.mk ?_; (try rw [hCe]); simp only [List.length_append, List.length_cons, List.length_nil]; omega) | (refine fun (hc : _ = _) => ?_; (try simp only [BB] at hc); (try (first | contradiction | (exfalso; omega)))) | exact arI | refine Pst.mk ⟨?_, rfl⟩ (by (repeat' constructor); first | done | fail) | constructor | (refine fun _ _ (hq : Hold _) => ?_; replace hq := hq.out; obtain ⟨_, rfl, rfl⟩ := hq) | (refine fun _ _ (hq : Hold _) => ?_; replace hq := hq.out; obtain ⟨_, _, rfl, rfl⟩ := hq) | rintro _ _ ⟨rfl, rfl⟩ | rintro _ _ ⟨_, rfl, rfl⟩ | rintro _ _ ⟨_, _, rfl, rfl⟩ | (refine fun (hc : _ = _) => ?_; (try simp only [BB] at hc)) | refine fun (_ : Nat) => ?_ | refine fun (_ : _ ≤ _) => ?_ | refine fun (_ : _ < _) => ?_
  rename_i t5 _ t1 _
  refine RS.loopW (α := Nat × Nat) (fun a => [(1, .int .i64 n), (12, .str ([38] ++ T)), (13, .str [C]), (14, .lst tq (zOf tq 10) ([g1].map encT)), (15, .lst a.2 (zOf a.2 1) ((Md.asc (T.take a.1)).map I32)), (16, .int .i64 (a.1 : Nat))]) (fun a => [.own a.2 1 ((Md.asc (T.take a.1)).map I32)])
    (fun a => a.1 ≤ T.length) (fun a => T.length - a.1) (0, t1) (Nat.zero_le _) ⟨rfl, rfl, (by show some (DV.str _) = some (DV.str _); rw [hCe]), rfl, rfl, rfl, trivial⟩ (by (repeat' constructor); first | done | fail) ?_
  clear hCe
  rintro ⟨i, t9⟩ h1 ih
  dsimp only [ents] at *
  have hat := fun h => asc_take (T := T) (i := i) h
  have hal := asc_len (T.take i)
  rw [List.length_take] at hal
  have hSl : ([38] ++ T : Md.Str).length = T.length + 1 := by rw [List.length_append]; simp only [List.length_cons, List.length_nil]; omega
  by_cases hi : i < T.length
  · repeat' first
      | (refine Arith.mk ?_; (try rw [hSl]); omega) | (refine fun (hc : _ = _) => ?_; (try simp only [BB] at hc); (try (first | contradiction | (exfalso; omega)))) | exact arI | refine Pst.mk ⟨?_, rfl⟩ (by (repeat' constructor); first | done | fail) | constructor | (refine fun _ _ (hq : Hold _) => ?_; replace hq := hq.out; obtain ⟨_, rfl, rfl⟩ := hq) | (refine fun _ _ (hq : Hold _) => ?_; replace hq := hq.out; obtain ⟨_, _, rfl, rfl⟩ := hq) | rintro _ _ ⟨rfl, rfl⟩ | rintro _ _ ⟨_, rfl, rfl⟩ | rintro _ _ ⟨_, _, rfl, rfl⟩ | (refine fun (hc : _ = _) => ?_; (try simp only [BB] at hc)) | refine fun (_ : Nat) => ?_ | refine fun (_ : _ ≤ _) => ?_ | refine fun (_ : _ < _) => ?_
    rename_i t2
    have e := hat hi
    have e2 : (([38] ++ T : Md.Str).getD ((i : Int) + 1).toNat 0).toNat = (T.getD i 0).toNat := by
      rw [show ((i : Int) + 1).toNat = i + 1 by omega]; rfl
    rw [e2, ← e]
    exact ih _ _ (i + 1, t2) (by dsimp only; omega) (by dsimp only; omega) ⟨rfl, rfl, rfl, rfl, rfl, rfl, trivial⟩ (by (repeat' constructor); first | done | fail)
  · obtain rfl : i = T.length := by omega
    rw [List.take_length] at *
    have hrs : Md.asc T ++ [(((([C] : Md.Str).getD (Int.toNat 0) 0).toNat : Nat) : Int)] = Md.asc (T ++ [C]) := by rw [asc_app]; rfl
    have hRl : (T ++ [C]).length = T.length + 1 := by rw [List.length_append]; rfl
    obtain ⟨hv1, hv2⟩ := refVal_len (R := T ++ [C])
    have hle : (refM (T ++ [C])).2.1 ≤ (T ++ [C]).length := by have := Md.matchT_le (Md.asc (T ++ [C])); rw [asc_len] at this; exact this
    have hml : (refM (T ++ [C])).1.length ≤ 2 := Md.matchT_len (Md.asc (T ++ [C]))
    have hel := encode_len (refM (T ++ [C])).1
    have hGe : (refM (T ++ [C])).2.1 < T.length + 1 → (Md.asc (T ++ [C])).getD (refM (T ++ [C])).2.1 (-1) = (Md.asc T ++ [(C.toNat : Int)]).getD (refM (T ++ [C])).2.1 default := fun h => by
      rw [asc_app]
      show (Md.asc T ++ [(C.toNat : Int)]).getD _ _ = _
      have hl : (refM (T ++ [C])).2.1 < (Md.asc T ++ [(C.toNat : Int)]).length := by rw [List.length_append, asc_len]; exact h
      rw [List.getD_eq_getElem?_getD, List.getD_eq_getElem?_getD, List.getElem?_eq_getElem hl]; rfl
    have hLl : (Md.asc T ++ [(C.toNat : Int)]).length = T.length + 1 := by rw [List.length_append, asc_len]; rfl
    have hw1 : 0 < (refM (T ++ [C])).2.1 → refWant (T ++ [C]) = Md.encode (refM (T ++ [C])).1 ++ List.drop (1 + ((refM (T ++ [C])).2.1 : Int)).toNat ([38] ++ T ++ [C]) := fun h => by
      unfold refWant
      rw [if_pos h, show (1 + ((refM (T ++ [C])).2.1 : Int)).toNat = (refM (T ++ [C])).2.1 + 1 by omega, List.append_assoc [38]]; rfl
    have hw0 : ¬0 < (refM (T ++ [C])).2.1 → refWant (T ++ [C]) = [38] ++ T ++ [C] := fun h => by
      unfold refWant; rw [if_neg h, List.append_assoc]
    have hv : refVal (T ++ [C]) = if refOpen (T ++ [C]) then [38] ++ T ++ [C] else refWant (T ++ [C]) := by
      unfold refVal
      by_cases h : refOpen (T ++ [C])
      · rw [if_pos h, if_pos h, List.append_assoc]
      · rw [if_neg h, if_neg h]
    have ho : refOpen (T ++ [C]) ↔ 0 < (refM (T ++ [C])).2.1 ∧ (refM (T ++ [C])).2.2 = false ∧ (refM (T ++ [C])).2.1 < T.length + 1 ∧ ((Md.asc T ++ [(C.toNat : Int)]).getD (refM (T ++ [C])).2.1 default = 61 ∨ Md.letter ((Md.asc T ++ [(C.toNat : Int)]).getD (refM (T ++ [C])).2.1 default) = true ∨ Md.digit ((Md.asc T ++ [(C.toNat : Int)]).getD (refM (T ++ [C])).2.1 default) = true) := by
      unfold refOpen
      rw [hRl]
      constructor
      · rintro ⟨a, b, c, d⟩; rw [hGe c] at d; exact ⟨a, b, c, d⟩
      · rintro ⟨a, b, c, d⟩; rw [← hGe c] at d; exact ⟨a, b, c, d⟩
    clear hGe hok hp1
    generalize hM : refM (T ++ [C]) = M at *
    generalize hG : (Md.asc T ++ [(C.toNat : Int)]).getD M.2.1 default = G at *
    have split : (¬0 < M.2.1 ∧ refVal (T ++ [C]) = [38] ++ T ++ [C] ∧ refWant (T ++ [C]) = [38] ++ T ++ [C])
        ∨ (0 < M.2.1 ∧ refWant (T ++ [C]) = Md.encode M.1 ++ List.drop (1 + (M.2.1 : Int)).toNat ([38] ++ T ++ [C]) ∧
          ((M.2.2 = true ∧ refVal (T ++ [C]) = refWant (T ++ [C])) ∨ (M.2.2 = false ∧ ¬M.2.1 < T.length + 1 ∧ refVal (T ++ [C]) = refWant (T ++ [C])) ∨
            (M.2.2 = false ∧ M.2.1 < T.length + 1 ∧ ((G = 61 ∧ refVal (T ++ [C]) = [38] ++ T ++ [C]) ∨ (G ≠ 61 ∧ Md.letter G = true ∧ refVal (T ++ [C]) = [38] ++ T ++ [C]) ∨ (G ≠ 61 ∧ Md.letter G = false ∧ Md.digit G = true ∧ refVal (T ++ [C]) = [38] ++ T ++ [C]) ∨ (G ≠ 61 ∧ Md.letter G = false ∧ Md.digit G = false ∧ refVal (T ++ [C]) = refWant (T ++ [C])))))) := by
      by_cases hn : 0 < M.2.1
      · right
        refine ⟨hn, hw1 hn, ?_⟩
        cases he : M.2.2 with
        | true => exact .inl ⟨rfl, by rw [hv, if_neg (fun h => by have := (ho.1 h).2.1; rw [he] at this; cases this)]⟩
        | false =>
          right
          by_cases hl : M.2.1 < T.length + 1
          · right
            refine ⟨rfl, hl, ?_⟩
            by_cases h61 : G = 61
            · exact .inl ⟨h61, by rw [hv, if_pos (ho.2 ⟨hn, he, hl, .inl h61⟩)]⟩
            · right
              cases hlt : Md.letter G with
              | true => exact .inl ⟨h61, rfl, by rw [hv, if_pos (ho.2 ⟨hn, he, hl, .inr (.inl hlt)⟩)]⟩
              | false =>
                right
                cases hdg : Md.digit G with
                | true => exact .inl ⟨h61, rfl, rfl, by rw [hv, if_pos (ho.2 ⟨hn, he, hl, .inr (.inr hdg)⟩)]⟩
                | false => exact .inr ⟨h61, rfl, rfl, by rw [hv, if_neg (fun h => by
                    rcases (ho.1 h).2.2.2 with h | h | h
                    · exact h61 h
                    · rw [hlt] at h; cases h
                    · rw [hdg] at h; cases h)]⟩
          · exact .inl ⟨rfl, hl, by rw [hv, if_neg (fun h => hl (ho.1 h).2.2.1)]⟩
      · exact .inl ⟨hn, by rw [hv, if_neg (fun h => hn (ho.1 h).1), hw0 hn], hw0 hn⟩
    clear hw1 hw0 hv ho
    generalize refVal (T ++ [C]) = RV at *
    generalize refWant (T ++ [C]) = RW at *
    have k2 : M.2.2 = M.2.2 := rfl
    have k3 : True := trivial
    have k4 : True := trivial
    have k5 : True := trivial
    have k6 : True := trivial
    rcases split with ⟨k1, kv, kw⟩ | ⟨k1, kw, ⟨k2, kv⟩ | ⟨k2, k3, kv⟩ | ⟨k2, k3, ⟨k4, kv⟩ | ⟨k4, k5, kv⟩ | ⟨k4, k5, k6, kv⟩ | ⟨k4, k5, k6, kv⟩⟩⟩
    all_goals
      (try rw [kw] at kv)
      rw [kw] at e1 hv2
      rw [kv] at hp2 hv1
      clear kv kw
      have n1 : (((M.2.1 : Nat) : Int) > 0) = (0 < M.2.1) := propext (by omega)
      have n3 : (((M.2.1 : Nat) : Int) < (((Md.asc T ++ [(C.toNat : Int)]).length : Nat) : Int)) = (M.2.1 < T.length + 1) := propext (by rw [hLl]; omega)
    all_goals repeat' first
      | (show RR D (It.code refT3 :: _) _ _ _; exact refT3_R ⟨rfl, trivial⟩)
      | (refine fun (hc : _ = _) => ?_; exfalso; (try simp only [BB] at hc); (try simp only [hG, n1, n3, k1, k2, k3, k4, k5, k6] at hc); first | (simp at hc; done) | (simp [e1, Md.tx] at hc; done))
      | (refine fun (hc : _ = _) => ?_; exfalso; (try simp only [BB] at hc); (try simp only [hG, n1, n3, k1, k2, k3, k4, k5, k6] at hc); simp [e1, e2, Md.tx, startTok] at hc; done)
      | (refine fun (hc : _ = _) => ?_; exfalso; (try simp only [BB] at hc); (try simp only [hG, n1, n3, k1, k2, k3, k4, k5, k6] at hc); omega)
      | (refine Arith.mk fun hp => ?_; (try simp only [BB]); simp only [hG]; simp [k4, k5, k6]; done)
      | (refine Arith.mk fun hp => ?_; exfalso; (try simp only [BB] at hp); (try simp only [hG, n1, n3, k1, k2, k3, k4, k5, k6] at hp); first | (simp at hp; done) | omega)
      | (refine fun _ _ (hq : Hold _) => ?_; replace hq := hq.out; obtain ⟨t', rfl, rfl⟩ := hq; (try rw [hM]))
      | (show FC _ _ _ _ _; first | exact matchR_F (R := T ++ [C]) hrs rfl (by omega) | exact encode_F rfl (by omega) | exact letter_F | exact digit_F | exact all_F rfl (by simp only [List.length_append, List.length_cons, List.length_nil]; omega))
      | (refine Arith.mk ?_; (try simp only [List.length_append, List.length_cons, List.length_nil, List.length_drop]); omega) | (refine fun (hc : _ = _) => ?_; (try simp only [BB] at hc); (try (first | contradiction | (exfalso; omega)))) | exact arI | refine Pst.mk ⟨?_, rfl⟩ (by (repeat' constructor); first | done | fail) | constructor | (refine fun _ _ (hq : Hold _) => ?_; replace hq := hq.out; obtain ⟨_, rfl, rfl⟩ := hq) | (refine fun _ _ (hq : Hold _) => ?_; replace hq := hq.out; obtain ⟨_, _, rfl, rfl⟩ := hq) | rintro _ _ ⟨rfl, rfl⟩ | rintro _ _ ⟨_, rfl, rfl⟩ | rintro _ _ ⟨_, _, rfl, rfl⟩ | (refine fun (hc : _ = _) => ?_; (try simp only [BB] at hc)) | refine fun (_ : Nat) => ?_ | refine fun (_ : _ ≤ _) => ?_ | refine fun (_ : _ < _) => ?_
      | (refine fun _ _ (hq : Hold _) => ?_; replace hq := hq.out; obtain ⟨tq, osq, rfl, hq0, ha, rfl⟩ := hq; simp only [List.append_assoc] at ha; simp only [List.append_assoc] at hp2; rw [hp2] at ha; simp only [List.map_eq_cons_iff, List.map_eq_nil_iff] at ha; obtain ⟨g2, _, rfl, e2, rfl⟩ := ha)
    all_goals trace_state
end Go.Proofs.YticnenofiibpgaaDoor.Code
/-
set_option maxHeartbeats 8000000 in
theorem refsLaw {nm : Md.Str} {n c how : Int} (hc : 0 ≤ c ∧ c < 256) : F0 D 3 [.str nm, .int .i64 n, .int .u8 c, .int .i64 how] Heap.start (fun v cs' => v = .bool true) := by
  obtain ⟨hp1, c1, n1, s1⟩ := headSOk
  obtain ⟨a1, ha1, hA1⟩ := and_any how 1 (by omega)
  obtain ⟨a2, ha2, hA2⟩ := and_any how 2 (by omega)
  obtain ⟨h2, hsh⟩ := shr2_any how
  obtain ⟨a7, ha7, hA7⟩ := and_any h2 7 (by omega)
  obtain ⟨N, hN, hAN⟩ := and_any n 2097151 (by omega)
  obtain ⟨j, hj, hrem⟩ := rem5 c hc.1
  have hwl : (Md.word9 nm).length ≤ 9 := by unfold Md.word9; simp only [List.length_cons, List.length_map, List.length_take]; omega
  have hwo := word9_low nm
  refine F0.of rfl rfl rfl ?_
  repeat' first
    | exact c1 | exact n1 | (refine R0.onP s1 ?_) | (show BI _ _ _ _ _ _; first | exact hA1 _ | exact hA2 _ | exact hA7 _ | exact hAN _ | exact hsh _ | exact hrem _)
    | (show FC _ _ _ _ _; first | exact word9_F) | (refine Arith.mk ?_; omega) | (refine fun (hc : _ = _) => ?_; (try simp only [BB] at hc); (try (first | contradiction | (exfalso; omega)))) | exact arI | refine Pst.mk ⟨?_, rfl⟩ (by (repeat' constructor); first | done | fail) | constructor | (refine fun _ _ (hq : Hold _) => ?_; replace hq := hq.out; obtain ⟨_, rfl, rfl⟩ := hq) | (refine fun _ _ (hq : Hold _) => ?_; replace hq := hq.out; obtain ⟨_, _, rfl, rfl⟩ := hq) | rintro _ _ ⟨rfl, rfl⟩ | rintro _ _ ⟨_, rfl, rfl⟩ | rintro _ _ ⟨_, _, rfl, rfl⟩ | (refine fun (hc : _ = _) => ?_; (try simp only [BB] at hc)) | refine fun (_ : Nat) => ?_ | refine fun (_ : _ ≤ _) => ?_ | refine fun (_ : _ < _) => ?_
  · exact Pst.mk rfl .refl
  all_goals
    obtain ⟨W0, hW0, hW0l, hW0e⟩ : ∃ W0, lowName W0 ∧ W0.length ≤ 9 ∧ ((a1 = 1 ∧ 1 < (Md.word9 nm).length) → W0 = (Md.word9 nm).drop 1) ∧ (¬(a1 = 1 ∧ 1 < (Md.word9 nm).length) → W0 = Md.word9 nm) := by
      by_cases h : a1 = 1 ∧ 1 < (Md.word9 nm).length
      · exact ⟨_, low_drop hwo h.2, by rw [List.length_drop]; omega, fun _ => rfl, fun h' => absurd h h'⟩
      · exact ⟨_, hwo, hwl, fun h' => absurd h' h, fun _ => rfl⟩
  · obtain rfl := hW0e.1 (by omega)
    rename_i t7 _
    refine RS.loopW (α := Nat × Md.Str) (fun a => [(1, .int .i64 n), (2, .int .u8 c), (3, .int .i64 how), (43, .lst t7 (zOf t7 1) (refNames.map DV.str)), (44, .int .i64 7), (45, .int .i64 (a.1 : Nat)), (9, .str a.2)]) (fun _ => [])
      (fun a => a.1 ≤ 7 ∧ lowName a.2 ∧ a.2.length ≤ 9) (fun a => 7 - a.1) (0, (Md.word9 nm).drop 1) ⟨Nat.zero_le _, hW0, hW0l⟩ ⟨rfl, rfl, rfl, rfl, rfl, rfl, rfl, trivial⟩ (by (repeat' constructor); first | done | fail) ?_
    rintro ⟨i, W⟩ ⟨h1, hW, hWl⟩ ih
    dsimp only [ents] at *
    exact refsRest
  all_goals trace_state
end Go.Proofs.YticnenofiibpgaaDoor.Code

-/
/- What LexRefs does on typed values: up to the tails. -/
namespace Go.Proofs.YticnenofiibpgaaDoor.Code
open Go.Dm Go.Dm.C
set_option linter.unusedSimpArgs false
set_option linter.unusedVariables false
set_option linter.unnecessarySimpa false
set_option maxRecDepth 10000
attribute [local irreducible] Go.Dm.F Go.Dm.RS Go.Dm.Y Go.Dm.FD Go.Dm.FZ1 Go.Dm.Hold
set_option maxHeartbeats 4000000 in
theorem refsLaw {nm : Md.Str} {n c how : Int} (hcc : 0 ≤ c ∧ c < 256) : F0 D 3 [.str nm, .int .i64 n, .int .u8 c, .int .i64 how] Heap.start (fun v cs' => v = .bool true) := by
  obtain ⟨hp1, c1, n1, s1⟩ := headSOk
  obtain ⟨a1, ha1, hA1⟩ := and_any how 1 (by omega)
  obtain ⟨a2, ha2, hA2⟩ := and_any how 2 (by omega)
  obtain ⟨h2, hsh⟩ := shr2_any how
  obtain ⟨a7, ha7, hA7⟩ := and_any h2 7 (by omega)
  have hwl : (Md.word9 nm).length ≤ 9 := by unfold Md.word9; simp only [List.length_cons, List.length_map, List.length_take]; omega
  have hwo := word9_low nm
  refine F0.of rfl rfl rfl ?_
  repeat' first
    | exact c1 | exact n1 | (refine R0.onP s1 ?_) | (show BI _ _ _ _ _ _; first | exact hA1 _)
    | (show FC _ _ _ _ _; first | exact word9_F) | (refine Arith.mk ?_; omega) | (refine fun (hc : _ = _) => ?_; (try simp only [BB] at hc); (try (first | contradiction | (exfalso; omega)))) | exact arI | refine Pst.mk ⟨?_, rfl⟩ (by (repeat' constructor); first | done | fail) | constructor | (refine fun _ _ (hq : Hold _) => ?_; replace hq := hq.out; obtain ⟨_, rfl, rfl⟩ := hq) | (refine fun _ _ (hq : Hold _) => ?_; replace hq := hq.out; obtain ⟨_, _, rfl, rfl⟩ := hq) | rintro _ _ ⟨rfl, rfl⟩ | rintro _ _ ⟨_, rfl, rfl⟩ | rintro _ _ ⟨_, _, rfl, rfl⟩ | (refine fun (hc : _ = _) => ?_; (try simp only [BB] at hc)) | refine fun (_ : Nat) => ?_ | refine fun (_ : _ ≤ _) => ?_ | refine fun (_ : _ < _) => ?_
  · exact Pst.mk rfl .refl
  · rename_i t7 _
    have hW0 := low_drop hwo (by omega)
    have hW0l : ((Md.word9 nm).drop 1).length ≤ 9 := by rw [List.length_drop]; omega
    refine RS.loopW (α := Nat × Md.Str) (fun a => [(1, .int .i64 n), (2, .int .u8 c), (3, .int .i64 how), (43, .lst t7 (zOf t7 1) (refNames.map DV.str)), (44, .int .i64 7), (45, .int .i64 (a.1 : Nat)), (9, .str a.2)]) (fun _ => [])
      (fun a => a.1 ≤ 7 ∧ lowName a.2 ∧ a.2.length ≤ 9) (fun a => 7 - a.1) (0, (Md.word9 nm).drop 1) ⟨Nat.zero_le _, hW0, hW0l⟩ ⟨rfl, rfl, rfl, rfl, rfl, rfl, rfl, trivial⟩ (by (repeat' constructor); first | done | fail) ?_
    rintro ⟨i, W⟩ ⟨h1, hW, hWl⟩ ih
    dsimp only [ents] at *
    have hno := refNames_ok i
    have hnl : refNames.length = 7 := rfl
    repeat' first
      | (show RR D (It.code refT2 :: _) _ _ _; first | exact refT2_R (semi := true) hcc hW hWl ⟨rfl, rfl, congrArg (fun x => some (DV.str x)) (List.append_assoc [38] W [59]), trivial⟩ | exact refT2_R (semi := false) hcc hW hWl ⟨rfl, rfl, congrArg (fun x => some (DV.str ([38] ++ x))) (List.append_nil W).symm, trivial⟩)
      | (show BI _ _ _ _ _ _; first | exact hA7 _ | exact hsh _ | exact hA2 _)
      | (refine Arith.mk ?_; (try simp only [List.length_append, List.length_cons, List.length_nil]); omega) | (refine fun (hc : _ = _) => ?_; (try simp only [BB] at hc); (try (first | contradiction | (exfalso; omega)))) | exact arI | refine Pst.mk ⟨?_, rfl⟩ (by (repeat' constructor); first | done | fail) | constructor | (refine fun _ _ (hq : Hold _) => ?_; replace hq := hq.out; obtain ⟨_, rfl, rfl⟩ := hq) | (refine fun _ _ (hq : Hold _) => ?_; replace hq := hq.out; obtain ⟨_, _, rfl, rfl⟩ := hq) | rintro _ _ ⟨rfl, rfl⟩ | rintro _ _ ⟨_, rfl, rfl⟩ | rintro _ _ ⟨_, _, rfl, rfl⟩ | (refine fun (hc : _ = _) => ?_; (try simp only [BB] at hc)) | refine fun (_ : Nat) => ?_ | refine fun (_ : _ ≤ _) => ?_ | refine fun (_ : _ < _) => ?_
    · exact ih _ _ (i + 1, refNames.getD i default) ⟨by dsimp only; omega, (hno (by omega)).1, (hno (by omega)).2⟩ (by dsimp only; omega) ⟨rfl, rfl, rfl, rfl, rfl, rfl, rfl, trivial⟩ (by (repeat' constructor); first | done | fail)
    · exact ih _ _ (i + 1, W) ⟨by dsimp only; omega, hW, hWl⟩ (by dsimp only; omega) ⟨rfl, rfl, rfl, rfl, rfl, rfl, rfl, trivial⟩ (by (repeat' constructor); first | done | fail)
  · rename_i t7 _
    have hW0 := hwo
    have hW0l := hwl
    refine RS.loopW (α := Nat × Md.Str) (fun a => [(1, .int .i64 n), (2, .int .u8 c), (3, .int .i64 how), (43, .lst t7 (zOf t7 1) (refNames.map DV.str)), (44, .int .i64 7), (45, .int .i64 (a.1 : Nat)), (9, .str a.2)]) (fun _ => [])
      (fun a => a.1 ≤ 7 ∧ lowName a.2 ∧ a.2.length ≤ 9) (fun a => 7 - a.1) (0, Md.word9 nm) ⟨Nat.zero_le _, hW0, hW0l⟩ ⟨rfl, rfl, rfl, rfl, rfl, rfl, rfl, trivial⟩ (by (repeat' constructor); first | done | fail) ?_
    rintro ⟨i, W⟩ ⟨h1, hW, hWl⟩ ih
    dsimp only [ents] at *
    have hno := refNames_ok i
    have hnl : refNames.length = 7 := rfl
    repeat' first
      | (show RR D (It.code refT2 :: _) _ _ _; first | exact refT2_R (semi := true) hcc hW hWl ⟨rfl, rfl, congrArg (fun x => some (DV.str x)) (List.append_assoc [38] W [59]), trivial⟩ | exact refT2_R (semi := false) hcc hW hWl ⟨rfl, rfl, congrArg (fun x => some (DV.str ([38] ++ x))) (List.append_nil W).symm, trivial⟩)
      | (show BI _ _ _ _ _ _; first | exact hA7 _ | exact hsh _ | exact hA2 _)
      | (refine Arith.mk ?_; (try simp only [List.length_append, List.length_cons, List.length_nil]); omega) | (refine fun (hc : _ = _) => ?_; (try simp only [BB] at hc); (try (first | contradiction | (exfalso; omega)))) | exact arI | refine Pst.mk ⟨?_, rfl⟩ (by (repeat' constructor); first | done | fail) | constructor | (refine fun _ _ (hq : Hold _) => ?_; replace hq := hq.out; obtain ⟨_, rfl, rfl⟩ := hq) | (refine fun _ _ (hq : Hold _) => ?_; replace hq := hq.out; obtain ⟨_, _, rfl, rfl⟩ := hq) | rintro _ _ ⟨rfl, rfl⟩ | rintro _ _ ⟨_, rfl, rfl⟩ | rintro _ _ ⟨_, _, rfl, rfl⟩ | (refine fun (hc : _ = _) => ?_; (try simp only [BB] at hc)) | refine fun (_ : Nat) => ?_ | refine fun (_ : _ ≤ _) => ?_ | refine fun (_ : _ < _) => ?_
    · exact ih _ _ (i + 1, refNames.getD i default) ⟨by dsimp only; omega, (hno (by omega)).1, (hno (by omega)).2⟩ (by dsimp only; omega) ⟨rfl, rfl, rfl, rfl, rfl, rfl, rfl, trivial⟩ (by (repeat' constructor); first | done | fail)
    · exact ih _ _ (i + 1, W) ⟨by dsimp only; omega, hW, hWl⟩ (by dsimp only; omega) ⟨rfl, rfl, rfl, rfl, rfl, rfl, rfl, trivial⟩ (by (repeat' constructor); first | done | fail)
end Go.Proofs.YticnenofiibpgaaDoor.Code
/- 'woodcutlaw09.LexRefs' returns true for every input; and its card. -/
namespace Go.Proofs.YticnenofiibpgaaDoor.lexRefs
set_option linter.unusedSimpArgs false
set_option linter.unusedVariables false
set_option linter.unnecessarySimpa false
open Go.ChangeShapes Go.WideShapes Go.ChangeAt Go.RowKit

theorem own : ownKnob Tryd.prog.godebug = none := by kernel_rfl
theorem gTab : Tryd.prog.globalNamed "woodcut/chars.windows" = some 0 := by kernel_rfl
theorem gTabType : (Tryd.prog.globals[0]?).map (·.type) = some 69 := by kernel_rfl
theorem cells33 : Tryd.prog.cellsOf 69 = 32 := by kernel_rfl
theorem cells21 : Tryd.prog.cellsOf 21 = 1 := by kernel_rfl

theorem table {W : World} (h : laidMetH Tryd.prog Rows.lexRefsRow.laid W) : Lib.TabIs Tryd.prog W "woodcut/chars.windows" .i32 Code.windows :=
  Lib.tabIs_of_head (rest := []) gTab gTabType Tryd.underlying69 Tryd.underlying21 cells21 cells33 h

theorem globOk {W : World} (h : Lib.TabIs Tryd.prog W "woodcut/chars.windows" .i32 Code.windows) : Dm.GlobOk Code.D (Dm.Cor.start W) := by
  refine ⟨fun g cs hg x hx => ?_, fun g cs hg => ?_⟩
  · simp only [Code.D, Code.glob] at hg
    split at hg <;> cases hg
    obtain ⟨z, _, rfl⟩ := List.mem_map.1 hx
    rfl
  · simp only [Code.D, Code.glob] at hg
    split at hg <;> cases hg
    rename_i hg0
    obtain rfl := Nat.eq_of_beq_eq_true hg0
    refine ⟨Code.windows.map (Value.int .i32), ?_, fun j x hj => ?_⟩
    · generalize Code.windows = ws
      induction ws with
      | nil => exact .nil
      | cons z zs ih => exact .cons (.int _ _) ih
    · show W.cell? ⟨0, j, none⟩ = some x
      have hlt : j < Code.windows.length := by have := (List.getElem?_eq_some_iff.1 hj).1; simpa using this
      have hc := h.cell gTab j hlt
      rw [hc]
      rw [List.getElem?_map, List.getElem?_eq_getElem hlt] at hj
      rw [List.getD_eq_getElem?_getD, List.getElem?_eq_getElem hlt]
      simpa using hj

theorem tys : Dm.tyB Tryd.prog [9, 3, 5, 4, 21] = true := by kernel_rfl
theorem run (dvs : List Dm.DV) (h : Dm.TAs Tryd.prog Tryd.f3.params.toList dvs) : Dm.F0 Code.D 3 dvs Dm.Heap.start (fun v _ => v = .bool true) := by
  rw [Tryd.params3] at h
  cases h with | @cons _ c0 _ _ h0 h =>
  cases h with | @cons _ c1 _ _ h1 h =>
  cases h with | @cons _ c2 _ _ h2 h =>
  cases h with | @cons _ c3 _ _ h3 h =>
  cases h
  obtain ⟨s, e0, _⟩ := Dm.TC.strV Tryd.underlying9 h0
  obtain ⟨n, e1, _⟩ := Dm.TC.intV Tryd.underlying3 h1
  obtain ⟨c, e2, _, hw⟩ := Dm.TC.intV Tryd.underlying5 h2
  obtain ⟨m, e3, _⟩ := Dm.TC.intV Tryd.underlying3 h3
  rw [e0, e1, e2, e3]
  exact Code.refsLaw (nm := s) (n := n) (c := c) (how := m) (by have h9 : 0 ≤ c ∧ c ≤ 255 := (by simpa [Lit.wf, IntKind.min, IntKind.max, IntKind.signed, IntKind.bits] using hw); omega)

set_option maxRecDepth 100000 in
theorem contract (H : Type) (enc : TypeId × Value → H) (W : World) (base : Nat) (args : Array Value) (ds gs : List (DataW H)) (before : List MemPlace)
    (hval : ∀ (j : Nat) t v, Tryd.f3.params[j]? = some t → args[j]? = some v → Value.okWide Tryd.prog W .any base t v)
    (hW : DataW.Whole enc Tryd.prog Tryd.f3.params.toList Rows.lexRefsSpec.vars false W args.toList ds gs before) (hL : laidMetH Tryd.prog Rows.lexRefsRow.laid W) :
    Calls Tryd.prog 3 args W fun e W' => ∃ v, e = .returned v ∧ Rows.lexRefsSpec.post enc Tryd.prog Tryd.f3 false true false false W args v W' := by
  refine Dm.contract_gen (D := Code.D) (cfg := Code.cfg) tys Code.hm Code.hD Code.hP (by kernel_rfl) rfl (tb := 4) Tryd.underlying4 rfl ?_ run W args ds gs before hval hW (globOk (table hL))
  intro ds hd
  rw [Tryd.params3] at hd
  match ds, hd with
  | [d0, d1, d2, d3], _ => rfl

noncomputable def laidWorld (os : Os) : World :=
  { World.holding Tryd.prog os ⟨#[], #[], []⟩ with heap := (World.holding Tryd.prog os ⟨#[], #[], []⟩).heap.modify 0 fun
      | .cells _ t frozen => .cells (Code.windows.map (Value.int .i32)).toArray t frozen
      | o => o }
theorem laid_met (os : Os) : laidMet Tryd.prog Rows.lexRefsRow.laid ((laidWorld os).forCall (fun _ _ => 0) ⟨#[], #[.string ⟨#[]⟩, .int .i64 0, .int .u8 0, .int .i64 0], []⟩).memory :=
  laidMet_of_run' 8 (by kernel_rfl) (by kernel_rfl)
theorem reads (os : Os) {H : Type} (enc : TypeId × Value → H) : ∃ places, DataW.whole enc Tryd.prog ((laidWorld os).forCall (fun _ _ => 0) ⟨#[], #[.string ⟨#[]⟩, .int .i64 0, .int .u8 0, .int .i64 0], []⟩).memory Tryd.f3.params.toList Rows.lexRefsSpec.vars false #[.string ⟨#[]⟩, .int .i64 0, .int .u8 0, .int .i64 0].toList 8 = some ([.lit (.string []), .lit (.int .i64 0), .lit (.int .u8 0), .lit (.int .i64 0)], [], places) :=
  ⟨[], by kernel_rfl⟩

set_option maxRecDepth 100000 in
theorem lifted (os : Os) (started : os.Started) (H : Type) (enc : TypeId × Value → H) (F : Stop.Interp) :
    ReturnsInHanded {} Tryd.checked os 3 .any ((OpenSpec.ofChange Rows.lexRefsSpec).preRow enc Tryd.prog Tryd.f3 Rows.lexRefsRow.domain false Rows.lexRefsRow.laid) (((OpenSpec.ofChange Rows.lexRefsSpec).at F).post enc Tryd.prog Tryd.f3 false true false false) := by
  obtain ⟨places, hx⟩ := reads os enc
  refine returnsInHanded_of_row (C := Tryd.checked) (s := OpenSpec.ofChange Rows.lexRefsSpec) own started (by kernel_rfl) Tryd.func3
    (witness_row_at (enc := enc) (C := Tryd.checked) false (laidWorld os) #[.string ⟨#[]⟩, .int .i64 0, .int .u8 0, .int .i64 0] rfl (by kernel_rfl) (by kernel_rfl) (by kernel_rfl)
      (OpenSpec.preRow_of_cond 8 hx (by kernel_rfl) (fun k hk => by cases hk) (by kernel_rfl) (laid_met os))) ?_
  intro W base args ds gs before hval hW _ _ _ hL _ _
  exact contract H enc W base args ds gs before hval hW hL

theorem said : Rows.LexRefsSaid :=
  OpenClaim.holds_of_cond 3 Tryd.f3 rfl rfl rfl rfl rfl rfl rfl ⟨rfl, rfl, rfl, rfl, rfl⟩ rfl rfl rfl rfl rfl (by kernel_rfl) Tryd.func3 (by kernel_rfl)
    (of_decide_eq_true (by kernel_rfl)) (by unfold Func.isWrapper; first | (rw [if_pos (by decide +kernel)]; kernel_rfl) | (rw [if_neg (by decide +kernel)]; exact ⟨rfl, rfl⟩))
    (fun os started H enc _ F => by rw [OpenClaim.pre_eq_preRow]; exact lifted os started H enc F)

theorem plain (f : FuncId) (fn : Func) (hf : Tryd.pinned.checked.prog.funcNamed "woodcut/woodcutlaw09.LexRefs" = some f) (hfn : Tryd.pinned.checked.prog.funcs[f]? = some fn) :
    false = Tryd.pinned.checked.prog.looks [] ∧ ∀ (j : Nat) t, fn.params[j]? = some t → Tryd.pinned.checked.prog.wantsStandIn t = false := by
  obtain rfl : f = 3 := Option.some.inj ((show Tryd.prog.funcNamed "woodcut/woodcutlaw09.LexRefs" = some 3 by kernel_rfl).symm.trans hf) |>.symm
  obtain rfl : fn = Tryd.f3 := (Option.some.inj (Tryd.func3.symm.trans hfn)).symm
  refine ⟨by kernel_rfl, fun j t ht => ?_⟩
  rw [Tryd.params3] at ht
  have hall : [9, 3, 5, 3].all (fun t => Tryd.prog.wantsStandIn t == false) = true := by kernel_rfl
  have hmem : t ∈ [9, 3, 5, 3] := by have := Array.mem_of_getElem? ht; simpa using this
  exact eq_of_beq (List.all_eq_true.1 hall t hmem)

theorem card : Rows.LexRefsCardSaid :=
  Claim7.holds_tied_plain_at .later [] _ _ _ _ said (fun _ h => by cases h) (by kernel_rfl) (fun _ h => by cases h) lexRefs_row_tie rfl ⟨rfl, rfl⟩ (by kernel_rfl) rfl plain (by kernel_rfl)
end Go.Proofs.YticnenofiibpgaaDoor.lexRefs
