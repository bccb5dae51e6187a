/- LexRefs returns true for every input: part 7 of the proof (several texts joined). -/
import Derived.Test.YticnenofiibpgaaDoorJ6
/- Tokens compared; words. -/
namespace Go.Md
def wd (c : UInt8) : UInt8 := byteN (97 + c.toNat % 26)
/-- A name of small letters. -/
def word9 (s : Str) : Str := 119 :: (s.take 8).map wd
end Go.Md
namespace Go.Proofs.YticnenofiibpgaaDoor.Code
open Go.Dm Go.Dm.C
set_option linter.unusedSimpArgs false
set_option linter.unusedVariables false
set_option linter.unnecessarySimpa false
set_option maxRecDepth 10000
attribute [local irreducible] Go.Dm.F Go.Dm.RS Go.Dm.Y Go.Dm.FD Go.Dm.FZ1 Go.Dm.Hold
variable {R : List Ck}
theorem word9_take {s : Md.Str} {i : Nat} (h : i < s.length) : (s.take (i + 1)).map Md.wd = (s.take i).map Md.wd ++ [Md.wd (s.getD i 0)] := by
  rw [List.take_add_one, List.getElem?_eq_getElem h]
  simp only [List.getD_eq_getElem?_getD, List.getElem?_eq_getElem h, Option.getD_some, Option.toList_some, List.map_append, List.map_cons, List.map_nil]
theorem word9_F {s : Md.Str} : F D 14 [.str s] R (fun v cs' => v = .str (Md.word9 s) ∧ R = cs') := by
  refine F.of rfl rfl rfl ?_
  repeat' first | exact arI | refine Pst.mk ⟨?_, rfl⟩ (by (repeat' constructor); first | done | fail) | constructor | (refine fun _ _ (hq : Hold _) => ?_; replace hq := hq.out; obtain ⟨_, rfl, rfl⟩ := hq) | (refine fun _ _ (hq : Hold _) => ?_; replace hq := hq.out; obtain ⟨_, _, rfl, rfl⟩ := hq) | rintro _ _ ⟨rfl, rfl⟩ | rintro _ _ ⟨_, rfl, rfl⟩ | rintro _ _ ⟨_, _, rfl, rfl⟩ | (refine fun (hc : _ = _) => ?_; (try simp only [BB] at hc)) | refine fun (_ : Nat) => ?_ | refine fun (_ : _ ≤ _) => ?_ | refine fun (_ : _ < _) => ?_
  refine RS.loopW (α := Nat) (fun i => [(0, .str s), (3, .str (119 :: (s.take i).map Md.wd)), (4, .int .i64 (i : Nat))]) (fun _ => R)
    (fun i => i ≤ s.length ∧ i ≤ 8) (fun i => 8 - i) 0 ⟨Nat.zero_le _, Nat.zero_le _⟩ ⟨rfl, rfl, rfl, trivial⟩ .refl ?_
  rintro i ⟨h1, h2⟩ ih
  dsimp only [ents] at *
  have hw := fun h => word9_take (s := s) (i := i) h
  repeat' first | (refine fun (hc : _ = _) => ?_; (try simp only [BB] at hc); (try (first | contradiction | (exfalso; omega)))) | exact arI | refine Pst.mk ⟨?_, rfl⟩ (by (repeat' constructor); first | done | fail) | constructor | (refine fun _ _ (hq : Hold _) => ?_; replace hq := hq.out; obtain ⟨_, rfl, rfl⟩ := hq) | (refine fun _ _ (hq : Hold _) => ?_; replace hq := hq.out; obtain ⟨_, _, rfl, rfl⟩ := hq) | rintro _ _ ⟨rfl, rfl⟩ | rintro _ _ ⟨_, rfl, rfl⟩ | rintro _ _ ⟨_, _, rfl, rfl⟩ | (refine fun (hc : _ = _) => ?_; (try simp only [BB] at hc)) | refine fun (_ : Nat) => ?_ | refine fun (_ : _ ≤ _) => ?_ | refine fun (_ : _ < _) => ?_
  · have e := hw (by omega)
    have h26 := (List.getD s i 0).toNat_lt
    have e2 : UInt8.ofNat (IntKind.u8.wrap (97 + (((List.getD s (i : Int).toNat 0).toNat : Int)).tmod 26)).toNat = Md.wd (List.getD s i 0) := by
      rw [Int.toNat_natCast, wrap_u8, Int.tmod_eq_emod_of_nonneg (by omega)]
      apply UInt8.toNat.inj
      rw [Md.wd, byteN_nat (by omega), UInt8.toNat_ofNat']
      omega
    refine ih _ _ (i + 1) (by omega) (by omega) ?_ (by (repeat' constructor); first | done | fail)
    rw [e, ← e2]; exact ⟨rfl, rfl, rfl, trivial⟩
  · unfold Md.word9
    congr 2
    by_cases h8 : i = 8
    · subst h8; rfl
    · rw [List.take_of_length_le (by omega), List.take_of_length_le (by omega)]
end Go.Proofs.YticnenofiibpgaaDoor.Code
/- How a text is read on, with texts az one: rules. -/
namespace Go.Md
def tx (d : Str) : Tok := { Tok.zero with kind := 1, data := d }
/-- A text more. -/
def app (l : List Tok) (d : Str) : List Tok := joinStep l (tx d)
theorem app_emp (d : Str) : app [] d = if d = [] then [] else [tx d] := by
  unfold app
  rw [joinStep_nil]
  by_cases h : d = []
  · subst h; rfl
  · rw [if_neg (fun x => h x.2), if_neg h]
theorem app_snoc (l : List Tok) (u : Tok) (d : Str) : app (l ++ [u]) d = if u.kind = 1 then l ++ [{ u with data := u.data ++ d }] else if d = [] then l ++ [u] else l ++ [u] ++ [tx d] := by
  unfold app
  rw [joinStep_snoc]
  simp only [tx, true_and]
theorem app_nil (l : List Tok) : app l [] = l := by
  rcases List.eq_nil_or_concat l with rfl | ⟨l, u, rfl⟩
  · rw [app_emp, if_pos rfl]
  · rw [List.concat_eq_append, app_snoc]; split
    · simp
    · rw [if_pos rfl]
theorem app_app (l : List Tok) (a b : Str) : app (app l a) b = app l (a ++ b) := by
  by_cases ha : a = []
  · subst ha; rw [app_nil, List.nil_append]
  · have h2 : a ++ b ≠ [] := by simp [ha]
    rcases List.eq_nil_or_concat l with rfl | ⟨l, u, rfl⟩
    · rw [app_emp, if_neg ha, app_emp, if_neg h2]
      have := app_snoc [] (tx a) b
      rw [List.nil_append] at this
      rw [this, if_pos (show (tx a).kind = 1 from rfl)]; rfl
    · rw [List.concat_eq_append, app_snoc, app_snoc]; split
      · rename_i hk
        rw [app_snoc, if_pos (by exact hk)]; simp
      · (try rw [if_neg ha]); (try rw [if_neg h2]); rw [app_snoc, if_pos (show (tx a).kind = 1 from rfl)]; simp [tx, Tok.zero]
def vt (acc : List Tok) (x : Lx) : List Tok := app (x.out.foldl joinStep acc) (encode x.text)
/-- Where a lexer is, and what it gave. -/
structure At (acc : List Tok) (x : Lx) (w : Int) (n : Str) (b : Bool) (r : List Int) (A : List Tok) : Prop where
  done : x.done = false
  way : x.way = w
  last : x.last = n
  room : x.room = b
  rest : x.rest = r
  vt : vt acc x = A
end Go.Md
namespace Go.Proofs.YticnenofiibpgaaDoor.Code
open Go.Dm
set_option linter.unusedSimpArgs false
set_option linter.unusedVariables false
variable {acc : List Md.Tok} {x : Md.Lx} {w : Int} {n : Md.Str} {b : Bool} {r : List Int} {A B : List Md.Tok}
theorem enc_app (a b : List Int) : Md.encode (a ++ b) = Md.encode a ++ Md.encode b := by simp [Md.encode]
theorem enc_one (r : Int) : Md.encode [r] = Md.putR r := by simp [Md.encode]
theorem enc_cons (r : Int) (l : List Int) : Md.encode (r :: l) = Md.putR r ++ Md.encode l := by simp [Md.encode]
theorem At.adv (h : Md.At acc x w n b r A) (k : Nat) : Md.At acc (x.adv k) w n b (r.drop k) A := ⟨h.done, h.way, h.last, h.room, by rw [rest_adv, h.rest], h.vt⟩
theorem At.say (h : Md.At acc x w n b r A) (d : List Int) : Md.At acc (x.say d) w n b r (Md.app A (Md.encode (d.filter (· != -1)))) := ⟨h.done, h.way, h.last, h.room, h.rest, by
  rw [← h.vt]; unfold Md.vt
  rw [Md.app_app, ← enc_app]; rfl⟩
theorem At.say' (h : Md.At acc x w n b r A) {d : List Int} (hd : ∀ r ∈ d, 0 ≤ r) : Md.At acc (x.say d) w n b r (Md.app A (Md.encode d)) := by
  have := At.say h d
  rwa [filter_nn hd] at this
theorem At.flush (h : Md.At acc x w n b r A) : Md.At acc x.flush w n b r A := by
  unfold Md.Lx.flush
  split
  · exact h
  · refine ⟨h.done, h.way, h.last, h.room, h.rest, ?_⟩
    rw [← h.vt]; unfold Md.vt
    show Md.app ((x.out ++ [Md.textTok x.text]).foldl Md.joinStep acc) [] = _
    rw [Md.app_nil, List.foldl_append]; rfl
theorem At.emit (h : Md.At acc x w n b r A) (t : Md.Tok) : Md.At acc (x.emit t) w (if t.kind = 2 then t.name else n) b r (Md.joinStep A t) := by
  have h1 := At.flush h
  refine ⟨h1.done, h1.way, ?_, h1.room, h1.rest, ?_⟩
  · show (if t.kind = 2 then t.name else x.flush.last) = _; rw [h1.last]
  · have h2 := h1.vt
    unfold Md.vt at h2 ⊢
    have e : (x.emit t).text = [] := flush_text
    have e0 : x.flush.text = [] := flush_text
    rw [e0] at h2
    rw [e]
    show Md.app ((x.flush.out ++ [t]).foldl Md.joinStep acc) [] = _
    have e2 : Md.encode [] = [] := rfl
    rw [e2, Md.app_nil] at h2
    rw [Md.app_nil, List.foldl_append, h2]; rfl
theorem At.setWay (h : Md.At acc x w n b r A) (w' : Int) : Md.At acc { x with way := w' } w' n b r A := ⟨h.done, rfl, h.last, h.room, h.rest, h.vt⟩
theorem At.pk (h : Md.At acc x w n b r A) (k : Nat) : x.pk k = r.getD k (-1) := by rw [pk_rest, h.rest]
/-- Read from here on, with what is there already: what it all is. -/
def Rd (w : Int) (n : Md.Str) (b : Bool) (r : List Int) (A B : List Md.Tok) : Prop := ∀ acc x, NI x → Md.At acc x w n b r A → x.toks.foldl Md.joinStep acc = B
theorem NI.noOut (h : NI x) : NI { x with out := [] } := ⟨h.len, h.nn, h.pos, h.pos2, h.text, by show (0 : Nat) ≤ 100; omega, h.last⟩
theorem At.noOut (h : Md.At acc x w n b r A) : Md.At (x.out.foldl Md.joinStep acc) { x with out := [] } w n b r A := ⟨h.done, h.way, h.last, h.room, h.rest, h.vt⟩
theorem At.fin (h : Md.At acc x w n b r A) : Md.At acc (stepFin x) w n b r A := by
  unfold stepFin; split
  · exact At.flush h
  · exact h
theorem Rd.step {w' : Int} {n' : Md.Str} {b' : Bool} {r' : List Int} {A' : List Md.Tok} (h : ∀ acc x, NI x → x.out = [] → Md.At acc x w n b r A → Md.At acc (stepMid x) w' n' b' r' A') (hr : Rd w' n' b' r' A' B) : Rd w n b r A B := by
  intro acc x hN hS
  have hN0 := hN.noOut
  have hS0 := At.noOut hS
  rw [toks_out, List.foldl_append]
  have ho : ({ x with out := [] } : Md.Lx).out = [] := rfl
  generalize ({ x with out := [] } : Md.Lx) = y at *
  rw [toks_step hN0 hS0.done ho]
  refine hr _ _ (hN0.step hS0.done ho) ?_
  rw [step_eq]
  exact At.fin (h _ _ hN0 ho hS0)
theorem Rd.nil : Rd w n b [] A A := by
  intro acc x hN hS
  have hN0 := hN.noOut
  have hS0 := At.noOut hS
  rw [toks_out, List.foldl_append]
  have ho : ({ x with out := [] } : Md.Lx).out = [] := rfl
  generalize ({ x with out := [] } : Md.Lx) = y at *
  rw [toks_step hN0 hS0.done ho]
  have hp : y.pk 0 = -1 := by rw [At.pk hS0]; rfl
  have hmid : stepMid y = { (y.adv 1).flush with done := true } := by rw [stepMid, if_pos hp]
  have hst : y.step = { (y.adv 1).flush with done := true } := by
    rw [step_eq, stepFin, hmid, if_neg]
    intro h; apply h.2.1; show (y.adv 1).flush.text = []; exact flush_text
  have hf := (At.flush (At.adv hS0 1)).vt
  rw [toks_out, hst]
  have hd : ({ ({ (y.adv 1).flush with done := true } : Md.Lx) with out := [] } : Md.Lx).toks = [] := toks_done rfl rfl
  rw [hd, List.append_nil]
  unfold Md.vt at hf
  have e : (y.adv 1).flush.text = [] := flush_text
  have e2 : Md.encode [] = [] := rfl
  rw [e, e2, Md.app_nil] at hf
  exact hf
/-- Signs that are a part of the text, in a way. -/
def okSign (w : Int) (c : Int) : Prop := 0 < c ∧ c ≠ 60 ∧ (c = 38 → w ≠ 0 ∧ w ≠ 1)
theorem okSign.of {c : Int} (h : Md.plainSign c = true ∧ 0 ≤ c) : okSign w c := by
  obtain ⟨hc, h0⟩ := h
  simp only [Md.plainSign, Bool.not_eq_true', Bool.or_eq_false_iff, beq_eq_false_iff_ne, ne_eq] at hc
  exact ⟨by omega, hc.1.2, fun h => absurd h hc.1.1⟩
theorem mid_plain {c : Int} {l : List Int} (hc : okSign x.way c) (hr : x.rest = c :: l) : stepMid x = ((x.adv 1).adv (l.takeWhile Md.plainSign).length).say (c :: l.takeWhile Md.plainSign) := by
  have hp : x.pk 0 = c := by rw [pk_rest, hr]; rfl
  have h1 : (x.adv 1).rest = l := by rw [rest_adv, hr]; rfl
  obtain ⟨h0, h60, h38⟩ := hc
  rw [stepMid, hp, h1, if_neg (by omega), if_neg (fun h => by have := h38 h.1; omega), if_neg (fun h => h60 h.1), if_neg (fun h => h60 h.1), if_neg (fun h => h60 h.1), if_neg (by omega), if_neg (by omega)]
theorem Rd.plain1 {c : Int} {l : List Int} (hc : okSign w c) (h : Rd w n b l (Md.app A (Md.putR c)) B) : Rd w n b (c :: l) A B := by
  have h0 : 0 ≤ c := Int.le_of_lt hc.1
  cases l with
  | nil =>
    refine Rd.step (fun acc x hN ho hS => ?_) h
    rw [mid_plain (by rw [hS.way]; exact hc) hS.rest]
    have := At.say' (At.adv (At.adv hS 1) 0) (d := [c]) (by simp [h0])
    rw [enc_one] at this
    exact this
  | cons e l =>
    by_cases he : Md.plainSign e = true
    · intro acc x hN hS
      have hN0 := hN.noOut
      have hS0 := At.noOut hS
      rw [toks_out, List.foldl_append]
      have ho : ({ x with out := [] } : Md.Lx).out = [] := rfl
      generalize ({ x with out := [] } : Md.Lx) = y at *
      have hlt : y.pos < y.inp.length := by
        by_cases hlt : y.pos < y.inp.length
        · exact hlt
        · have := rest_nil (s := y) (by omega); rw [hS0.rest] at this; cases this
      have hNz : NI ((y.adv 1).say [c]) := ⟨hN0.len, hN0.nn, by show y.pos + 1 ≤ _; exact Nat.succ_le_succ (Nat.le_of_lt hlt), fun _ => by show y.pos + 1 ≤ y.inp.length; omega, by
        show (y.text ++ [c].filter (· != -1)).length ≤ 10 * (y.pos + 1)
        have := hN0.text
        rw [filter_nn (by simp [h0]), List.length_append, List.length_singleton]; omega, hN0.out, hN0.last⟩
      have hSz := At.say' (At.adv hS0 1) (d := [c]) (by simp [h0])
      rw [enc_one] at hSz
      have := h _ _ hNz hSz
      rw [← this]
      have he0 : 0 ≤ e := hN0.nn e (by
        have : e ∈ y.rest := by rw [hS0.rest]; simp
        exact List.mem_of_mem_drop this)
      congr 1
      rw [toks_step hN0 hS0.done ho, toks_step hNz hSz.done (by exact ho), step_eq, step_eq]
      congr 2
      rw [mid_plain (by rw [hS0.way]; exact hc) hS0.rest, mid_plain (okSign.of ⟨he, he0⟩) (show ((y.adv 1).say [c]).rest = e :: l by rw [rest_say, rest_adv, hS0.rest]; rfl)]
      rw [List.takeWhile_cons, if_pos he]
      unfold Md.Lx.say Md.Lx.adv
      simp only [List.length_cons, Md.Lx.mk.injEq, true_and, and_true]
      have e1 : (c :: e :: l.takeWhile Md.plainSign).filter (· != -1) = [c].filter (· != -1) ++ (e :: l.takeWhile Md.plainSign).filter (· != -1) := by rw [← List.filter_append]; rfl
      exact ⟨by omega, by rw [e1, List.append_assoc]⟩
    · refine Rd.step (fun acc x hN ho hS => ?_) h
      rw [mid_plain (by rw [hS.way]; exact hc) hS.rest, List.takeWhile_cons, if_neg he]
      have := At.say' (At.adv (At.adv hS 1) 0) (d := [c]) (by simp [h0])
      rw [enc_one] at this
      exact this
theorem Rd.plain {l : List Int} : ∀ (d : List Int) {A : List Md.Tok}, (∀ c ∈ d, okSign w c) → Rd w n b l (Md.app A (Md.encode d)) B → Rd w n b (d ++ l) A B
  | [], A, _, h => by have e : Md.encode [] = [] := rfl; rw [e, Md.app_nil] at h; exact h
  | c :: d, A, hd, h => Rd.plain1 (hd c (by simp)) (Rd.plain d (fun x hx => hd x (by simp [hx])) (by rw [Md.app_app, ← enc_cons]; exact h))
/-- A < where tags may stand. -/
theorem Rd.tag {n' : Md.Str} {w' : Int} {b' : Bool} {l r' : List Int} {A' : List Md.Tok} (h : ∀ acc x, (∀ r ∈ x.inp, 0 ≤ r) → Md.At acc x 0 n b l A → Md.At acc x.open_ w' n' b' r' A') (hr : Rd w' n' b' r' A' B) : Rd 0 n b (60 :: l) A B := by
  refine Rd.step (fun acc x hN ho hS => ?_) hr
  have hp : x.pk 0 = 60 := by rw [At.pk hS]; rfl
  have hw := hS.way
  rw [stepMid, if_neg (by omega), if_neg (by omega), if_pos ⟨hp, hw⟩]
  exact h _ _ (by rw [flush_inp]; exact hN.nn) (At.flush (At.adv hS 1))
/-- A < in the other ways. -/
theorem Rd.shut {n' : Md.Str} {w' : Int} {b' : Bool} {l r' : List Int} {A' : List Md.Tok} (hw : w = 1 ∨ w = 2) (h : ∀ acc x, (∀ r ∈ x.inp, 0 ≤ r) → Md.At acc x w n b l A → Md.At acc x.close w' n' b' r' A') (hr : Rd w' n' b' r' A' B) : Rd w n b (60 :: l) A B := by
  refine Rd.step (fun acc x hN ho hS => ?_) hr
  have hp : x.pk 0 = 60 := by rw [At.pk hS]; rfl
  have hw' := hS.way
  rw [stepMid, if_neg (by omega), if_neg (by omega), if_neg (by omega), if_pos ⟨hp, by omega⟩]
  exact h _ _ (by rw [flush_inp]; exact hN.nn) (At.flush (At.adv hS 1))
theorem Rd.scr {n' : Md.Str} {w' : Int} {b' : Bool} {l r' : List Int} {A' : List Md.Tok} (h : ∀ acc x, (∀ r ∈ x.inp, 0 ≤ r) → Md.At acc x 3 n b l A → Md.At acc x.script w' n' b' r' A') (hr : Rd w' n' b' r' A' B) : Rd 3 n b (60 :: l) A B := by
  refine Rd.step (fun acc x hN ho hS => ?_) hr
  have hp : x.pk 0 = 60 := by rw [At.pk hS]; rfl
  have hw' := hS.way
  rw [stepMid, if_neg (by omega), if_neg (by omega), if_neg (by omega), if_neg (by omega), if_pos ⟨hp, by omega⟩]
  exact h _ _ (by rw [flush_inp]; exact hN.nn) (At.flush (At.adv hS 1))
theorem Rd.ref {l : List Int} (hw : w = 0 ∨ w = 1) (hs : ∀ r ∈ (Md.refer false l).1, 0 ≤ r) (hr : Rd w n b (l.drop (Md.refer false l).2) (Md.app A (Md.encode (Md.refer false l).1)) B) : Rd w n b (38 :: l) A B := by
  refine Rd.step (fun acc x hN ho hS => ?_) hr
  have hp : x.pk 0 = 38 := by rw [At.pk hS]; rfl
  have hw' := hS.way
  rw [stepMid, if_neg (by omega), if_pos ⟨hp, by omega⟩]
  have h1 : (x.adv 1).rest = l := by rw [rest_adv, hS.rest]; rfl
  unfold refA
  rw [h1]
  exact At.say' (At.adv (At.adv hS 1) _) hs
theorem Rd.start {c : Md.Str} {w : Int} {nm : Md.Str} {room : Bool} (hN : NI { Md.Lx.new c with way := w, last := nm, room := room }) (h : Rd w nm room (Md.decode c) [] B) : Md.join ({ Md.Lx.new c with way := w, last := nm, room := room } : Md.Lx).toks = B :=
  h [] _ hN ⟨rfl, rfl, rfl, rfl, rfl, rfl⟩
theorem Rd.conv {r' : List Int} {A' B' : List Md.Tok} (h : Rd w n b r' A' B') (h1 : r = r') (h2 : A = A') (h3 : B' = B) : Rd w n b r A B := by subst h1; subst h2; subst h3; exact h
end Go.Proofs.YticnenofiibpgaaDoor.Code
/- A marked section is a text where it may stand, and a comment where it may not. -/
namespace Go.Md
def asc (b : Str) : List Int := b.map fun c => (c.toNat : Int)
end Go.Md
namespace Go.Proofs.YticnenofiibpgaaDoor.Code
open Go.Dm
set_option linter.unusedSimpArgs false
set_option linter.unusedVariables false
theorem asc_app (a b : Md.Str) : Md.asc (a ++ b) = Md.asc a ++ Md.asc b := List.map_append
theorem putR_asc {c : UInt8} (h : c.toNat < 128) : Md.putR (c.toNat : Int) = [c] := by
  rw [putR_nat (by omega), if_pos (by omega)]
  congr 1
  apply UInt8.toNat.inj
  rw [byteN_nat (by omega)]
theorem enc_asc {b : Md.Str} (h : ∀ c ∈ b, c.toNat < 128) : Md.encode (Md.asc b) = b := by
  induction b with
  | nil => rfl
  | cons c b ih =>
    show Md.encode ((c.toNat : Int) :: Md.asc b) = _
    rw [enc_cons, putR_asc (h c (by simp)), ih (fun x hx => h x (by simp [hx]))]; rfl
theorem dec_asc {b : Md.Str} (h : ∀ c ∈ b, c.toNat < 128 ∧ c.toNat ≠ 13) : Md.decode b = Md.asc b := by
  conv => lhs; rw [← enc_asc (fun c hc => (h c hc).1)]
  refine decode_encode fun r hr => ?_
  obtain ⟨c, hc, rfl⟩ := List.mem_map.1 hr
  have := h c hc
  exact ⟨⟨by omega, by omega, by omega⟩, by omega, by omega⟩
theorem asc_plain {w : Int} {b : Md.Str} (h : ∀ c ∈ b, c.toNat ≠ 0 ∧ c.toNat ≠ 60 ∧ (c.toNat = 38 → w ≠ 0 ∧ w ≠ 1)) : ∀ r ∈ Md.asc b, okSign w r := fun r hr => by
  obtain ⟨c, hc, rfl⟩ := List.mem_map.1 hr
  have := h c hc
  exact ⟨by omega, by omega, fun h => this.2.2 (by omega)⟩
end Go.Proofs.YticnenofiibpgaaDoor.Code
/- An element's end, where its text is read in the raw way. -/
namespace Go.Proofs.YticnenofiibpgaaDoor.Code
open Go.Dm
set_option linter.unusedSimpArgs false
set_option linter.unusedVariables false
variable {acc : List Md.Tok} {x : Md.Lx} {w : Int} {n : Md.Str} {b : Bool} {r : List Int} {A B : List Md.Tok}
theorem dec1 {s : Md.Str} {i : Nat} (h : i < s.length) (ha : (s.getD i 0).toNat < 128) : Utf8.decode ⟨s.toArray⟩ i = ((s.getD i 0).toNat, 1) := by
  have e : ByteArray.get! ⟨s.toArray⟩ i = s.getD i 0 := by
    show s.toArray[i]! = _
    simp [List.getD_eq_getElem?_getD, h]
  unfold Utf8.decode
  simp only [Nat.add_zero, e]
  rw [if_pos (by omega)]
theorem runesGo_asc {s : Md.Str} (ha : ∀ c ∈ s, c.toNat < 128) : ∀ (f i : Nat), s.length ≤ i + f → Md.runesGo f s i = Md.asc (s.drop i)
  | 0, i, h => by rw [Md.runesGo, List.drop_eq_nil_of_le (by omega)]; rfl
  | f + 1, i, h => by
    rw [Md.runesGo]
    split
    · rename_i hi
      have hm : s.getD i 0 ∈ s := by rw [List.getD_eq_getElem?_getD, List.getElem?_eq_getElem hi]; exact List.getElem_mem _
      rw [dec1 hi (ha _ hm), drop_get hi, runesGo_asc ha f (i + 1) (by omega)]; rfl
    · rw [List.drop_eq_nil_of_le (by omega)]; rfl
theorem runes_asc {s : Md.Str} (ha : ∀ c ∈ s, c.toNat < 128) : Md.runes s = Md.asc s := by
  rw [Md.runes, runesGo_asc ha _ 0 (by omega)]; rfl
def lowName (n : Md.Str) : Prop := n ≠ [] ∧ ∀ c ∈ n, 97 ≤ c.toNat ∧ c.toNat ≤ 122
theorem small_low {c : Int} (h : 97 ≤ c) : Md.small c = c := by
  unfold Md.small; rw [if_neg (by omega)]
theorem goes_asc : ∀ (n : Md.Str) (T : List Int), (∀ c ∈ n, 97 ≤ c.toNat ∧ c.toNat ≤ 122) → Md.goesOn (Md.asc n) (Md.asc n ++ T) = true
  | [], T, _ => rfl
  | c :: n, T, h => by
    have h1 := h c (by simp)
    have := goes_asc n T (fun x hx => h x (by simp [hx]))
    show (Md.small (c.toNat : Int) == (c.toNat : Int) && Md.goesOn (Md.asc n) (Md.asc n ++ T)) = true
    rw [this, small_low (by omega)]; simp
theorem over_low {c : Int} (h : 97 ≤ c) : Md.over c = false := by
  simp [Md.over, Md.blank]; omega
theorem nameOf_asc {n : Md.Str} {T : List Int} (h : ∀ c ∈ n, 97 ≤ c.toNat ∧ c.toNat ≤ 122) (hT : Md.over (T.headD (-1)) = true) : Md.nameOf (Md.asc n ++ T) = Md.asc n := by
  induction n with
  | nil =>
    cases T with
    | nil => rfl
    | cons t T => show List.takeWhile _ (t :: T) = []; rw [List.takeWhile_cons, if_neg]; simpa using hT
  | cons c n ih =>
    have h1 := h c (by simp)
    show List.takeWhile _ ((c.toNat : Int) :: (Md.asc n ++ T)) = _
    rw [List.takeWhile_cons, if_pos (by rw [over_low (by omega)]; rfl)]
    have := ih (fun x hx => h x (by simp [hx]))
    unfold Md.nameOf at this
    rw [this]; rfl
theorem enc_name {n : Md.Str} (h : ∀ c ∈ n, 97 ≤ c.toNat ∧ c.toNat ≤ 122) : Md.encode ((Md.asc n).map fun r => Md.small (Md.fixr r)) = n := by
  have e : (Md.asc n).map (fun r => Md.small (Md.fixr r)) = Md.asc n := by
    rw [List.map_congr_left (g := id), List.map_id]
    intro r hr
    obtain ⟨c, hc, rfl⟩ := List.mem_map.1 hr
    have := h c hc
    rw [Md.fixr, if_neg (by omega), small_low (by omega)]; rfl
  rw [e, enc_asc (fun c hc => by have := h c hc; omega)]
def endTok (n : Md.Str) : Md.Tok := { Md.Tok.zero with kind := 3, name := n }
/-- A tag's rest, for an end. -/
theorem At.tag3 {n' : Md.Str} {T : List Int} (hn : lowName n) (hT : Md.over (T.headD (-1)) = true) (hq : (Md.attrsGo T []).2.2.1 = true) (h : Md.At acc x w n' b (Md.asc n ++ T) A) : Md.At acc (x.tag 3) w n' b (T.drop (Md.attrsGo T []).2.2.2) (Md.joinStep A (endTok n)) := by
  unfold Md.Lx.tag
  dsimp only
  rw [h.rest, nameOf_asc hn.2 hT, List.drop_left, if_pos hq, if_pos rfl, if_pos rfl, enc_name hn.2]
  have h1 := At.emit (At.adv h ((Md.asc n).length + (Md.attrsGo T []).2.2.2)) (endTok n)
  have e3 : ¬(endTok n).kind = 2 := by show ¬(3 : Int) = 2; decide
  rw [if_neg e3, ← List.drop_drop, List.drop_left] at h1
  exact h1
theorem closes_asc {T : List Int} (hn : lowName n) (hT : Md.over (T.headD (-1)) = true) : Md.closes n (47 :: (Md.asc n ++ T)) = 1 + n.length := by
  obtain ⟨h0, h1⟩ := hn
  obtain ⟨c, m, rfl⟩ : ∃ c m, n = c :: m := by cases n with
    | nil => exact absurd rfl h0
    | cons c m => exact ⟨c, m, rfl⟩
  have hl := h1 c (by simp)
  have hr : Md.runes (c :: m) = Md.asc (c :: m) := runes_asc (fun x hx => by have := h1 x hx; omega)
  have hlen : (Md.asc (c :: m)).length = (c :: m).length := List.length_map ..
  unfold Md.closes
  rw [if_neg, hr, if_pos, hlen]
  · refine ⟨goes_asc _ _ h1, ?_⟩
    have e : (47 :: (Md.asc (c :: m) ++ T)).getD (1 + (Md.asc (c :: m)).length) (-1) = T.headD (-1) := by
      rw [Nat.add_comm, List.getD_cons_succ, List.getD_eq_getElem?_getD, List.getElem?_append_right (Nat.le_refl _), Nat.sub_self]
      cases T <;> rfl
    rw [e]; exact hT
  · rintro (h | h | h)
    · exact h rfl
    · have : Md.letter (c.toNat : Int) = false := h
      have h2 : Md.letter (c.toNat : Int) = true := by simp [Md.letter]; omega
      rw [h2] at this; cases this
    · cases h
theorem At.close {T : List Int} (hn : lowName n) (hT : Md.over (T.headD (-1)) = true) (hq : (Md.attrsGo T []).2.2.1 = true) (h : Md.At acc x w n b (47 :: (Md.asc n ++ T)) A) : Md.At acc x.close 0 n b (T.drop (Md.attrsGo T []).2.2.2) (Md.joinStep A (endTok n)) := by
  unfold Md.Lx.close
  rw [h.last, h.rest, if_neg (by rw [closes_asc hn hT]; omega)]
  exact At.tag3 hn hT hq (At.setWay (At.adv h 1) 0)
theorem At.noClose (h : Md.At acc x w n b r A) (hc : Md.closes n r = 0) : Md.At acc x.close w n b r (Md.app A [60]) := by
  unfold Md.Lx.close
  rw [h.last, h.rest, if_pos hc]
  exact At.say' h (by simp)
theorem attrs_gt (l : List Int) (a : List (Md.Str × Md.Str)) : Md.attrsGo (62 :: l) a = (a, false, true, 1) := by
  rw [Md.attrsGo]; simp [Md.blank]
end Go.Proofs.YticnenofiibpgaaDoor.Code
/- An element's text that is read in the raw way goes on to its own end. -/
namespace Go.Proofs.YticnenofiibpgaaDoor.Code
open Go.Dm
set_option linter.unusedSimpArgs false
set_option linter.unusedVariables false
variable {acc : List Md.Tok} {x : Md.Lx} {w : Int} {n : Md.Str} {b : Bool} {r : List Int} {A B : List Md.Tok}
def rawOk : List Int → Prop
  | [] => True
  | r :: l => (r ≠ 38 ∧ 0 < r ∧ (r = 60 → l.headD 60 ≠ 47 ∧ l.headD 60 ≠ 33)) ∧ rawOk l
/-- A < that begins no end. -/
theorem Rd.lt (hw : w = 1 ∨ w = 2 ∨ w = 3) (h33 : r.headD (-1) ≠ 33) (hc : Md.closes n r = 0) (h : Rd w n b r (Md.app A [60]) B) : Rd w n b (60 :: r) A B := by
  rcases hw with rfl | rfl | rfl
  · exact Rd.shut (.inl rfl) (fun acc x hx hS => At.noClose hS hc) h
  · exact Rd.shut (.inr rfl) (fun acc x hx hS => At.noClose hS hc) h
  · refine Rd.scr (fun acc x hx hS => ?_) h
    unfold Md.Lx.script
    rw [if_pos]
    · exact At.noClose hS hc
    · rw [hS.rest]
      cases r with
      | nil => rfl
      | cons a r => 
        have : a ≠ 33 := h33
        show (a == 33 && _) = false
        simp [this]
theorem closes_no {l : List Int} (h : l.headD (-1) ≠ 47) : Md.closes n l = 0 := by
  unfold Md.closes
  exact if_pos (.inl (by
    cases l with
    | nil => show (-1 : Int) ≠ 47; decide
    | cons a l => exact h))
theorem Rd.raw {T : List Int} (hw : w = 1 ∨ w = 2 ∨ w = 3) (hT : T.headD (-1) = 60) : ∀ (o : List Int) {A : List Md.Tok}, rawOk o → Rd w n b T (Md.app A (Md.encode o)) B → Rd w n b (o ++ T) A B
  | [], A, _, h => by have e : Md.encode [] = [] := rfl; rw [e, Md.app_nil] at h; exact h
  | r :: o, A, ho, h => by
    have h' : Rd w n b T (Md.app (Md.app A (Md.putR r)) (Md.encode o)) B := by rw [Md.app_app, ← enc_cons]; exact h
    have hrec := Rd.raw hw hT o ho.2 h'
    by_cases h60 : r = 60
    · subst h60
      have h1 := ho.1.2.2 rfl
      have hh : (o ++ T).headD (-1) = o.headD 60 := by
        cases o with
        | nil => exact hT
        | cons a o => rfl
      exact Rd.lt hw (by show (o ++ T).headD (-1) ≠ 33; rw [hh]; exact h1.2) (closes_no (by show (o ++ T).headD (-1) ≠ 47; rw [hh]; exact h1.1)) hrec
    · exact Rd.plain1 ⟨ho.1.2.1, h60, fun e => absurd e ho.1.1⟩ hrec
/-- A tag that begins. -/
def startTok (m : Md.Str) (al : List (Md.Str × Md.Str)) (self : Bool) : Md.Tok := { Md.Tok.zero with kind := 2, name := m, attrs := al, self := self }
theorem At.start {m : Md.Str} {T : List Int} (hm : lowName m) (hT : Md.over (T.headD (-1)) = true) (hq : (Md.attrsGo T []).2.2.1 = true) (h : Md.At acc x 0 n b (Md.asc m ++ T) A) : Md.At acc x.open_ 0 m b (T.drop (Md.attrsGo T []).2.2.2) (Md.joinStep A (startTok m (Md.attrsGo T []).1 (Md.attrsGo T []).2.1)) := by
  obtain ⟨c, m', rfl⟩ : ∃ c m', m = c :: m' := by cases m with
    | nil => exact absurd rfl hm.1
    | cons c m' => exact ⟨c, m', rfl⟩
  have hl := hm.2 c (by simp)
  have hp : x.pk 0 = (c.toNat : Int) := At.pk h 0
  have hlet : Md.letter (c.toNat : Int) = true := by simp [Md.letter]; omega
  have e : x.open_ = x.tag 2 := by
    unfold Md.Lx.open_
    rw [hp, if_neg (by omega), if_neg (by omega), if_pos hlet]
  rw [e]
  unfold Md.Lx.tag
  dsimp only
  rw [h.rest, nameOf_asc hm.2 hT, List.drop_left, if_pos hq, if_neg (by decide), if_neg (by decide), enc_name hm.2]
  have h1 := At.emit (At.adv h ((Md.asc (c :: m')).length + (Md.attrsGo T []).2.2.2)) (startTok (c :: m') (Md.attrsGo T []).1 (Md.attrsGo T []).2.1)
  have e3 : (startTok (c :: m') (Md.attrsGo T []).1 (Md.attrsGo T []).2.1).kind = 2 := rfl
  rw [if_pos e3, ← List.drop_drop, List.drop_left] at h1
  exact h1
theorem word9_low (s : Md.Str) : lowName (Md.word9 s) := by
  refine ⟨by unfold Md.word9; simp, fun c hc => ?_⟩
  unfold Md.word9 at hc
  rcases List.mem_cons.1 hc with rfl | hc
  · decide
  · obtain ⟨a, _, rfl⟩ := List.mem_map.1 hc
    unfold Md.wd
    rw [byteN_nat (by omega)]; omega
end Go.Proofs.YticnenofiibpgaaDoor.Code
/- Attributes read. -/
namespace Go.Proofs.YticnenofiibpgaaDoor.Code
open Go.Dm
set_option linter.unusedSimpArgs false
set_option linter.unusedVariables false
/-- Signs that are a part of a value, just so. -/
theorem value_plain {q : Int} (hq : q ≠ 0) : ∀ (d l acc : List Int), (∀ r ∈ d, r ≠ q ∧ r ≠ 38 ∧ r ≠ 0) → Md.valueGo q (d ++ l) acc = ((Md.valueGo q l (acc ++ d)).1, (Md.valueGo q l (acc ++ d)).2.1, (Md.valueGo q l (acc ++ d)).2.2 + d.length)
  | [], l, acc, _ => by simp
  | r :: d, l, acc, h => by
    have h1 := h r (by simp)
    have ih := value_plain hq d l (acc ++ [r]) (fun x hx => h x (by simp [hx]))
    rw [List.cons_append, valueGo_cons, if_neg (fun e => h1.1 e.2), if_neg (fun e => hq e.1), if_neg h1.2.1, Md.fixr, if_neg h1.2.2, ih]
    simp only [List.append_assoc, List.singleton_append, List.length_cons, Prod.mk.injEq, true_and]; omega
theorem value_end {q : Int} (hq : q ≠ 0) (l acc : List Int) : Md.valueGo q (q :: l) acc = (acc, true, 1) := by
  rw [valueGo_cons, if_pos ⟨hq, rfl⟩]
theorem value_amp {q : Int} (hq : q ≠ 0) (h38 : q ≠ 38) (l acc : List Int) : Md.valueGo q (38 :: l) acc = ((Md.valueGo q (l.drop (Md.refer true l).2) (acc ++ (Md.refer true l).1)).1, (Md.valueGo q (l.drop (Md.refer true l).2) (acc ++ (Md.refer true l).1)).2.1, (Md.valueGo q (l.drop (Md.refer true l).2) (acc ++ (Md.refer true l).1)).2.2 + (Md.refer true l).2 + 1) := by
  rw [valueGo_cons, if_neg (fun e => h38 e.2.symm), if_neg (fun e => hq e.1), if_pos rfl]
def blanksOk (g : List Int) : Prop := ∀ r ∈ g, Md.blank r = true
theorem blanksN_app {g l : List Int} (hg : blanksOk g) (hl : Md.blank (l.headD (-1)) = false) : Md.blanksN (g ++ l) = g.length := by
  induction g with
  | nil =>
    cases l with
    | nil => rfl
    | cons a l =>
      have hl : Md.blank a = false := hl
      show (List.takeWhile Md.blank (a :: l)).length = 0
      rw [List.takeWhile_cons, if_neg (by rw [hl]; decide)]; rfl
  | cons a g ih =>
    have ha := hg a (by simp)
    have := ih (fun x hx => hg x (by simp [hx]))
    unfold Md.blanksN at this ⊢
    rw [List.cons_append, List.takeWhile_cons, if_pos ha, List.length_cons, this]; rfl
theorem attrName_asc {nm : Md.Str} {X : List Int} (hn : lowName nm) (hX : Md.over (X.headD (-1)) = true ∨ X.headD (-1) = 61) : Md.attrName (Md.asc nm ++ X) = Md.asc nm := by
  obtain ⟨c, m, rfl⟩ : ∃ c m, nm = c :: m := by cases nm with
    | nil => exact absurd rfl hn.1
    | cons c m => exact ⟨c, m, rfl⟩
  have hc := hn.2 c (by simp)
  show Md.attrName ((c.toNat : Int) :: (Md.asc m ++ X)) = (c.toNat : Int) :: Md.asc m
  unfold Md.attrName
  dsimp only
  rw [if_neg (by rw [over_low (by omega)]; decide)]
  congr 1
  have hm := fun x hx => hn.2 x (List.mem_cons_of_mem c hx)
  clear hc hn
  induction m with
  | nil =>
    cases X with
    | nil => rfl
    | cons a X =>
      show List.takeWhile _ (a :: X) = []
      rw [List.takeWhile_cons, if_neg]
      rcases hX with hX | hX
      · have hX : Md.over a = true := hX
        simp [hX]
      · have hX : a = 61 := hX
        simp [hX]
  | cons c' m ih =>
    have h1 := hm c' (by simp)
    have := ih (fun x hx => hm x (by simp [hx]))
    show List.takeWhile _ ((c'.toNat : Int) :: (Md.asc m ++ X)) = _
    rw [List.takeWhile_cons, if_pos, this]; rfl
    show (!(Md.over (c'.toNat : Int) || (c'.toNat : Int) == 61)) = true
    rw [over_low (by omega)]; simp; omega
theorem attr_quoted {nm : Md.Str} {g1 g2 body v : List Int} {q : Int} {k : Nat} (hn : lowName nm) (h1 : blanksOk g1) (h2 : blanksOk g2) (hq : q = 34 ∨ q = 39) (hv : Md.valueGo q body [] = (v, true, k)) :
    Md.attr1 (Md.asc nm ++ (g1 ++ 61 :: (g2 ++ q :: body))) = ((nm, Md.encode v), true, nm.length + g1.length + 1 + g2.length + 1 + k) := by
  have hlen : (Md.asc nm).length = nm.length := List.length_map ..
  have hnm : Md.attrName (Md.asc nm ++ (g1 ++ 61 :: (g2 ++ q :: body))) = Md.asc nm := attrName_asc hn (by
    cases g1 with
    | nil => exact .inr rfl
    | cons a g => left; have := h1 a (by simp); show Md.over a = true; simp [Md.over, this])
  have hb1 : Md.blanksN (g1 ++ 61 :: (g2 ++ q :: body)) = g1.length := blanksN_app h1 rfl
  have hqb : Md.blank q = false := by rcases hq with rfl | rfl <;> rfl
  have hb2 : Md.blanksN (g2 ++ q :: body) = g2.length := blanksN_app h2 hqb
  have hval : Md.value (g2 ++ q :: body) = (Md.encode v, true, g2.length + 1 + k) := by
    unfold Md.value
    have eg : (g2 ++ q :: body).getD g2.length (-1) = q := by
      rw [List.getD_eq_getElem?_getD, List.getElem?_append_right (Nat.le_refl _), Nat.sub_self]; rfl
    have ed : (g2 ++ q :: body).drop (g2.length + 1) = body := by rw [← List.drop_drop, List.drop_left]; rfl
    dsimp only
    rw [hb2, eg, if_neg (by rcases hq with rfl | rfl <;> decide), if_pos hq, ed, hv]
  unfold Md.attr1
  dsimp only
  rw [hnm, List.drop_left, hb1]
  have eg : (Md.asc nm ++ (g1 ++ 61 :: (g2 ++ q :: body))).getD ((Md.asc nm).length + g1.length) (-1) = 61 := by
    rw [List.getD_eq_getElem?_getD, List.getElem?_append_right (by omega), Nat.add_sub_cancel_left, List.getElem?_append_right (Nat.le_refl _), Nat.sub_self]; rfl
  have ed : (Md.asc nm ++ (g1 ++ 61 :: (g2 ++ q :: body))).drop ((Md.asc nm).length + g1.length + 1) = g2 ++ q :: body := by
    rw [Nat.add_assoc, ← List.drop_drop, List.drop_left, ← List.drop_drop, List.drop_left]; rfl
  rw [if_pos eg, ed, hval, enc_name hn.2, hlen]
  simp only [Prod.mk.injEq, true_and]; omega
/-- An attribute more. -/
theorem attrs_one {nm : Md.Str} {X T : List Int} {v : Md.Str} {k : Nat} {acc : List (Md.Str × Md.Str)} (hn : lowName nm) (ha : Md.attr1 (Md.asc nm ++ X) = ((nm, v), true, k)) (hk : (Md.asc nm ++ X).drop k = T) :
    Md.attrsGo (Md.asc nm ++ X) acc = ((Md.attrsGo T (Md.putAttr acc (nm, v))).1, (Md.attrsGo T (Md.putAttr acc (nm, v))).2.1, (Md.attrsGo T (Md.putAttr acc (nm, v))).2.2.1, (Md.attrsGo T (Md.putAttr acc (nm, v))).2.2.2 + k) := by
  obtain ⟨c, m, rfl⟩ : ∃ c m, nm = c :: m := by cases nm with
    | nil => exact absurd rfl hn.1
    | cons c m => exact ⟨c, m, rfl⟩
  have hc := hn.2 c (by simp)
  have e : Md.asc (c :: m) ++ X = (c.toNat : Int) :: (Md.asc m ++ X) := rfl
  rw [e] at ha hk ⊢
  rw [attrsGo_attr (by simp [Md.blank]; omega) (by omega) (by omega), ha, if_pos rfl]
  dsimp only
  rw [hk]
end Go.Proofs.YticnenofiibpgaaDoor.Code
/- References by name and by number, in texts and in values. -/
namespace Go.Proofs.YticnenofiibpgaaDoor.Code
open Go.Dm
set_option linter.unusedSimpArgs false
set_option linter.unusedVariables false
theorem name_facts : ∀ e ∈ Md.table, e.name.all (· != 34) = true := by decide +kernel
theorem matchStep_ext {rs l : List Int} {a : Int × Nat × Bool} {i : Nat} {e : Md.Entry} (he : e ∈ Md.table) : Md.matchStep runeBytes (rs ++ 34 :: l) a i e = Md.matchStep runeBytes rs a i e := by
  unfold Md.matchStep
  dsimp only
  by_cases hl : e.name.length ≤ rs.length
  · have e1 : (rs ++ 34 :: l).take e.name.length = rs.take e.name.length := List.take_append_of_le_length hl
    have e2 : (decide (e.name.length < (rs ++ 34 :: l).length) && (rs ++ 34 :: l).getD e.name.length 0 == 59) = (decide (e.name.length < rs.length) && rs.getD e.name.length 0 == 59) := by
      by_cases h2 : e.name.length < rs.length
      · rw [decide_eq_true h2, decide_eq_true (by rw [List.length_append]; omega), List.getD_eq_getElem?_getD, List.getElem?_append_left h2, ← List.getD_eq_getElem?_getD]
      · rw [decide_eq_false h2, List.getD_eq_getElem?_getD, List.getElem?_append_right (by omega), show e.name.length - rs.length = 0 by omega]
        simp
    rw [e1, e2]
    by_cases hc : runeBytes (rs.take e.name.length) ≠ e.name
    · rw [if_pos (.inr hc), if_pos (.inr hc)]
    · have hn1 : ¬(e.name.length > (rs ++ 34 :: l).length ∨ runeBytes (rs.take e.name.length) ≠ e.name) := fun x => x.elim (fun y => by rw [List.length_append] at y; omega) hc
      have hn2 : ¬(e.name.length > rs.length ∨ runeBytes (rs.take e.name.length) ≠ e.name) := fun x => x.elim (fun y => by omega) hc
      rw [if_neg hn1, if_neg hn2]
  · have hR : e.name.length > rs.length ∨ runeBytes (rs.take e.name.length) ≠ e.name := .inl (by omega)
    have hE : e.name.length > (rs ++ 34 :: l).length ∨ runeBytes ((rs ++ 34 :: l).take e.name.length) ≠ e.name := by
      refine .inr fun hx => ?_
      have hm : (34 : Int) ∈ (rs ++ 34 :: l).take e.name.length := by
        rw [List.take_append, show e.name.length - rs.length = (e.name.length - rs.length - 1) + 1 by omega, List.take_succ_cons]
        simp
      have h34 : (34 : UInt8) ∈ runeBytes ((rs ++ 34 :: l).take e.name.length) := by
        unfold runeBytes
        rw [List.mem_flatMap]
        exact ⟨34, hm, by rw [Md.enc_low (by omega)]; decide⟩
      rw [hx] at h34
      have := List.all_eq_true.1 (name_facts e he) _ h34
      simp at this
    rw [if_pos hE, if_pos hR]
theorem fold_congr {α β : Type} {f g : β → α → β} : ∀ (l : List α) (a : β), (∀ x ∈ l, ∀ b, f b x = g b x) → l.foldl f a = l.foldl g a
  | [], a, _ => rfl
  | x :: l, a, h => by
    rw [List.foldl_cons, List.foldl_cons, h x (by simp)]
    exact fold_congr l _ (fun y hy => h y (by simp [hy]))
theorem match_ext (rs l : List Int) : Md.matchT runeBytes (rs ++ 34 :: l) = Md.matchT runeBytes rs := by
  have e : Md.matchAll runeBytes (rs ++ 34 :: l) = Md.matchAll runeBytes rs := by
    unfold Md.matchAll
    refine fold_congr _ _ fun p hp b => matchStep_ext ?_
    have := List.mem_zipIdx' hp
    rw [this.2]; exact List.getElem_mem _
  unfold Md.matchT
  rw [e]
/-- What stands behind the &. -/
def refRs (W : Md.Str) (semi : Bool) (C : UInt8) : Md.Str := W ++ (if semi then [59] else []) ++ [C]
def refM (R : Md.Str) : List Int × Nat × Bool := Md.matchT runeBytes (Md.asc R)
def refWant (R : Md.Str) : Md.Str := if 0 < (refM R).2.1 then Md.encode (refM R).1 ++ R.drop (refM R).2.1 else [38] ++ R
def refOpen (R : Md.Str) : Prop := 0 < (refM R).2.1 ∧ (refM R).2.2 = false ∧ (refM R).2.1 < R.length ∧ ((Md.asc R).getD (refM R).2.1 (-1) = 61 ∨ Md.letter ((Md.asc R).getD (refM R).2.1 (-1)) = true ∨ Md.digit ((Md.asc R).getD (refM R).2.1 (-1)) = true)
instance (R : Md.Str) : Decidable (refOpen R) := by unfold refOpen; exact inferInstance
def refVal (R : Md.Str) : Md.Str := if refOpen R then [38] ++ R else refWant R
structure refOk (R : Md.Str) : Prop where
  low : ∀ c ∈ R, 32 ≤ c.toNat ∧ c.toNat < 128 ∧ c.toNat ≠ 34 ∧ c.toNat ≠ 38 ∧ c.toNat ≠ 60
  first : R.getD 0 0 ≠ 35
  len : R.length ≤ 1000
  ne : R ≠ []
theorem asc_drop (R : Md.Str) (n : Nat) : (Md.asc R).drop n = Md.asc (R.drop n) := by unfold Md.asc; rw [List.map_drop]
theorem asc_len (R : Md.Str) : (Md.asc R).length = R.length := List.length_map ..
variable {R : Md.Str}
theorem ref_first (h : refOk R) (X : List Int) : ¬(Md.asc R ++ X).getD 0 (-1) = 35 := by
  obtain ⟨c, l, rfl⟩ : ∃ c l, R = c :: l := by cases R with
    | nil => exact absurd rfl h.ne
    | cons c l => exact ⟨c, l, rfl⟩
  have := h.first
  show ¬(c.toNat : Int) = 35
  intro e
  apply this
  show c = 35
  apply UInt8.toNat.inj
  have : (35 : UInt8).toNat = 35 := rfl
  omega
theorem enc_drop (h : refOk R) (n : Nat) : Md.encode ((Md.asc R).drop n) = R.drop n := by
  rw [asc_drop]
  exact enc_asc fun c hc => (h.low c (List.mem_of_mem_drop hc)).2.1
theorem low_new {c : Md.Str} (hl : c.length ≤ 1000000000) : NI { Md.Lx.new c with way := 0, last := [], room := false } := by
  have hd := decode_len c
  exact ⟨Nat.le_trans hd hl, fun r hr => (decode_sv c r hr).1.1, Nat.zero_le _, fun _ => Nat.zero_le _, Nat.zero_le _, by show (0 : Nat) ≤ 100; omega, by show (0 : Nat) ≤ _; omega⟩
theorem match_pos (R : Md.Str) : 0 < (refM R).2.1 → (refM R).1 ≠ [] := by
  intro h e
  unfold refM Md.matchT at h e
  dsimp only at h e
  split at h
  · exact absurd h (by decide)
  · rename_i hc
    rw [if_neg hc] at e
    dsimp only at e
    split at e <;> cases e
theorem app_one {d : Md.Str} (h : d ≠ []) : Md.app [] d = [Md.tx d] := by rw [Md.app_emp, if_neg h]
theorem refs_text (h : refOk R) : Md.all ([38] ++ R) = [Md.tx (refWant R)] := by
  refine Rd.start (w := 0) (nm := []) (room := false) (low_new (c := [38] ++ R) (by have := h.len; simp only [List.length_append, List.length_cons, List.length_nil]; omega)) ?_
  have hlow : ∀ c ∈ [38] ++ R, c.toNat < 128 ∧ c.toNat ≠ 13 := fun c hc => by
    rcases List.mem_append.1 hc with hc | hc
    · simp only [List.mem_singleton] at hc; subst hc; decide
    · have := h.low c hc; omega
  rw [dec_asc hlow, asc_app, show Md.asc [38] ++ Md.asc R = 38 :: Md.asc R from rfl]
  have hf := ref_first h []
  rw [List.append_nil] at hf
  have hle := Md.matchT_le (Md.asc R)
  have hr : Md.refer false (Md.asc R) = if (refM R).2.1 = 0 then ([38], 0) else ((refM R).1, (refM R).2.1) := by
    rw [refer_name hf]
    show (if (refM R).2.1 = 0 then _ else _) = _
    by_cases h0 : (refM R).2.1 = 0
    · rw [if_pos h0, if_pos h0]
    · rw [if_neg h0, if_neg h0, if_neg (fun e => by cases e.1.1)]; rfl
  have hfa := refer_facts false (Md.asc R)
  have hok : ∀ n, ∀ c ∈ (Md.asc R).drop n, okSign 0 c := fun n c hc => by
    rw [asc_drop] at hc
    exact asc_plain (fun x hx => by have := h.low x (List.mem_of_mem_drop hx); exact ⟨by omega, by omega, fun e => by omega⟩) c hc
  refine Rd.ref (.inl rfl) hfa.2.2 ?_
  refine Rd.conv (Rd.plain (l := []) ((Md.asc R).drop (Md.refer false (Md.asc R)).2) (hok _) Rd.nil) (List.append_nil _).symm rfl ?_
  rw [Md.app_app, enc_drop h, hr]
  unfold refWant
  by_cases h0 : (refM R).2.1 = 0
  · rw [if_pos h0, if_neg (by omega)]
    have e : Md.encode ([38] : List Int) = [38] := rfl
    rw [e, List.drop_zero, app_one (by simp)]
  · rw [if_neg h0, if_pos (by omega)]
    have hne := match_pos R (by omega)
    rw [app_one]
    intro e
    have := (List.append_eq_nil_iff.1 e).1
    cases hs : (refM R).1 with
    | nil => exact hne hs
    | cons r l =>
      rw [hs, enc_cons] at this
      exact putR_ne r (List.append_eq_nil_iff.1 this).1
theorem refs_value (h : refOk R) : Md.all ([60, 97, 32, 98, 61, 34] ++ ([38] ++ R) ++ [34, 62]) = [startTok [97] [([98], refVal R)] false] := by
  refine Rd.start (w := 0) (nm := []) (room := false) (low_new (c := [60, 97, 32, 98, 61, 34] ++ ([38] ++ R) ++ [34, 62]) (by have := h.len; simp only [List.length_append, List.length_cons, List.length_nil]; omega)) ?_
  have hlow : ∀ c ∈ [60, 97, 32, 98, 61, 34] ++ ([38] ++ R) ++ [34, 62], c.toNat < 128 ∧ c.toNat ≠ 13 := fun c hc => by
    have h1 : ∀ c ∈ ([60, 97, 32, 98, 61, 34] : Md.Str), c.toNat < 128 ∧ c.toNat ≠ 13 := by decide
    have h2 : ∀ c ∈ ([34, 62] : Md.Str), c.toNat < 128 ∧ c.toNat ≠ 13 := by decide
    have h3 : ∀ c ∈ ([38] : Md.Str), c.toNat < 128 ∧ c.toNat ≠ 13 := by decide
    simp only [List.mem_append] at hc
    rcases hc with (hc | hc | hc) | hc
    · exact h1 c hc
    · exact h3 c hc
    · have := h.low c hc; omega
    · exact h2 c hc
  rw [dec_asc hlow, asc_app, asc_app, asc_app]
  show Rd 0 [] false (60 :: (Md.asc [97] ++ (32 :: (Md.asc [98] ++ ([] ++ 61 :: ([] ++ 34 :: 38 :: (Md.asc R ++ [34, 62]))))))) [] _
  have hle : (refM R).2.1 ≤ R.length := by have := Md.matchT_le (Md.asc R); rw [asc_len] at this; exact this
  -- the reference in the value
  have hr : Md.refer true (Md.asc R ++ [34, 62]) = if (refM R).2.1 = 0 then ([38], 0) else if refOpen R then ([38], 0) else ((refM R).1, (refM R).2.1) := by
    rw [refer_name (ref_first h _), match_ext]
    show (if (refM R).2.1 = 0 then _ else if (true = true ∧ (refM R).2.2 = false ∧ (refM R).2.1 < (Md.asc R ++ [34, 62]).length) ∧ ((Md.asc R ++ [34, 62]).getD (refM R).2.1 (-1) = 61 ∨ Md.letter ((Md.asc R ++ [34, 62]).getD (refM R).2.1 (-1)) = true ∨ Md.digit ((Md.asc R ++ [34, 62]).getD (refM R).2.1 (-1)) = true) then _ else ((refM R).1, (refM R).2.1)) = _
    by_cases h0 : (refM R).2.1 = 0
    · rw [if_pos h0, if_pos h0]
    · rw [if_neg h0, if_neg h0]
      have hiff : ((true = true ∧ (refM R).2.2 = false ∧ (refM R).2.1 < (Md.asc R ++ [34, 62]).length) ∧ ((Md.asc R ++ [34, 62]).getD (refM R).2.1 (-1) = 61 ∨ Md.letter ((Md.asc R ++ [34, 62]).getD (refM R).2.1 (-1)) = true ∨ Md.digit ((Md.asc R ++ [34, 62]).getD (refM R).2.1 (-1)) = true)) ↔ refOpen R := by
        unfold refOpen
        by_cases hn : (refM R).2.1 < R.length
        · have e : (Md.asc R ++ [34, 62]).getD (refM R).2.1 (-1) = (Md.asc R).getD (refM R).2.1 (-1) := by
            rw [List.getD_eq_getElem?_getD, List.getElem?_append_left (by rw [asc_len]; exact hn), ← List.getD_eq_getElem?_getD]
          rw [e]
          constructor
          · rintro ⟨⟨_, a, _⟩, c⟩; exact ⟨by omega, a, hn, c⟩
          · rintro ⟨_, a, _, c⟩; exact ⟨⟨rfl, a, by rw [List.length_append, asc_len]; omega⟩, c⟩
        · have e : (Md.asc R ++ [34, 62]).getD (refM R).2.1 (-1) = 34 := by
            rw [List.getD_eq_getElem?_getD, List.getElem?_append_right (by rw [asc_len]; omega), asc_len, show (refM R).2.1 - R.length = 0 by omega]; rfl
          rw [e]
          constructor
          · rintro ⟨_, c⟩
            rcases c with c | c | c
            · exact absurd c (by decide)
            · exact absurd c (by decide)
            · exact absurd c (by decide)
          · rintro ⟨_, _, c, _⟩; exact absurd c hn
      by_cases ho : refOpen R
      · rw [if_pos (hiff.2 ho), if_pos ho]
      · rw [if_neg (fun e => ho (hiff.1 e)), if_neg ho]
  have hfa := refer_facts true (Md.asc R ++ [34, 62])
  -- how much of R it takes
  have hn : (Md.refer true (Md.asc R ++ [34, 62])).2 ≤ R.length := by
    rw [hr]; split
    · exact Nat.zero_le _
    · split
      · exact Nat.zero_le _
      · exact hle
  have hv : Md.encode (Md.refer true (Md.asc R ++ [34, 62])).1 ++ R.drop (Md.refer true (Md.asc R ++ [34, 62])).2 = refVal R := by
    rw [hr]; unfold refVal refWant
    have e : Md.encode ([38] : List Int) = [38] := rfl
    by_cases h0 : (refM R).2.1 = 0
    · rw [if_pos h0, if_neg (fun ho => by have := ho.1; omega), if_neg (by omega), e, List.drop_zero]
    · rw [if_neg h0]
      by_cases ho : refOpen R
      · rw [if_pos ho, if_pos ho, e, List.drop_zero]
      · rw [if_neg ho, if_neg ho, if_pos (by omega)]
  generalize hQ : Md.refer true (Md.asc R ++ [34, 62]) = Q at *
  have hdrop : (Md.asc R ++ [34, 62]).drop Q.2 = (Md.asc R).drop Q.2 ++ 34 :: [62] := by
    rw [List.drop_append, show Q.2 - (Md.asc R).length = 0 by rw [asc_len]; omega]; rfl
  have hbody : Md.valueGo 34 (38 :: (Md.asc R ++ [34, 62])) [] = (Q.1 ++ (Md.asc R).drop Q.2, true, R.length + 2) := by
    rw [value_amp (by decide) (by decide), hQ, hdrop, value_plain (by decide) _ _ _ (fun r hr => ?_), value_end (by decide)]
    · dsimp only
      rw [List.nil_append, List.length_drop, asc_len]
      simp only [Prod.mk.injEq, true_and]; omega
    · rw [asc_drop] at hr
      obtain ⟨c, hc, rfl⟩ := List.mem_map.1 hr
      have := h.low c (List.mem_of_mem_drop hc)
      omega
  have ha := attr_quoted (nm := [98]) (g1 := []) (g2 := []) (q := 34) (by exact ⟨by decide, by decide⟩) (fun r hr => by cases hr) (fun r hr => by cases hr) (.inl rfl) hbody
  have hT : Md.attrsGo (32 :: (Md.asc [98] ++ ([] ++ 61 :: ([] ++ 34 :: 38 :: (Md.asc R ++ [34, 62]))))) [] = ([([98], refVal R)], false, true, R.length + 7) := by
    rw [attrsGo_blank (by rfl), attrs_one (T := [62]) (by exact ⟨by decide, by decide⟩) ha, attrs_gt]
    · rw [enc_app, enc_drop h, hv]
      dsimp only
      simp only [Md.putAttr, Md.hasAttr, List.any_nil, List.length_cons, List.length_nil]
      simp only [Bool.false_eq_true, if_false, List.nil_append, Prod.mk.injEq, true_and]; omega
    · show List.drop _ (98 :: 61 :: 34 :: 38 :: (Md.asc R ++ [34, 62])) = _
      have e : ([98] : Md.Str).length + ([] : List Int).length + 1 + ([] : List Int).length + 1 + (R.length + 2) = 4 + ((Md.asc R).length + 1) := by
        rw [asc_len]; simp only [List.length_cons, List.length_nil]; omega
      rw [e, ← List.drop_drop]
      show List.drop ((Md.asc R).length + 1) (Md.asc R ++ [34, 62]) = _
      rw [← List.drop_drop, List.drop_left]; rfl
  refine Rd.tag (fun acc x hx hS => At.start (m := [97]) (by exact ⟨by decide, by decide⟩) rfl (by rw [hT]) hS) ?_
  rw [hT]
  have e : List.drop (R.length + 7) (32 :: (Md.asc [98] ++ ([] ++ 61 :: ([] ++ 34 :: 38 :: (Md.asc R ++ [34, 62]))))) = [] := by
    apply List.drop_eq_nil_of_le
    simp only [List.length_cons, List.length_append, asc_len, List.length_nil]; omega
  show Rd 0 [97] false (List.drop (R.length + 7) _) _ _
  rw [e]
  exact Rd.conv Rd.nil rfl rfl rfl
/-! ### by a number -/
def decS (k : Nat) : Md.Str := if h : k < 10 then [Md.byteN (48 + k)] else decS (k / 10) ++ [Md.byteN (48 + k % 10)]
  termination_by k
  decreasing_by omega
theorem decS_low : ∀ (n k : Nat), k ≤ n → (∀ c ∈ decS k, 48 ≤ c.toNat ∧ c.toNat ≤ 57) ∧ decS k ≠ [] := by
  intro n
  induction n with
  | zero =>
    intro k hk
    obtain rfl : k = 0 := by omega
    rw [decS, dif_pos (by omega)]
    exact ⟨by decide, by decide⟩
  | succ n ih =>
    intro k hk
    rw [decS]
    split
    · refine ⟨fun c hc => ?_, by simp⟩
      simp only [List.mem_singleton] at hc; subst hc
      rw [byteN_nat (by omega)]; omega
    · obtain ⟨h1, h2⟩ := ih (k / 10) (by omega)
      refine ⟨fun c hc => ?_, by simp⟩
      rcases List.mem_append.1 hc with hc | hc
      · exact h1 c hc
      · simp only [List.mem_singleton] at hc; subst hc
        rw [byteN_nat (by omega)]; omega
theorem hex_dig {d : Nat} (h : d < 10) : Md.hex (((Md.byteN (48 + d)).toNat : Nat) : Int) = d := by
  rw [byteN_nat (by omega)]
  unfold Md.hex
  rw [if_pos (by omega)]; omega
theorem number_dec : ∀ (n k : Nat), k ≤ n → ∀ (l : List Int), Md.number 10 (Md.asc (decS k) ++ l) 0 0 = Md.number 10 l (min (k : Int) 1114112) (decS k).length := by
  intro n
  induction n with
  | zero =>
    intro k hk l
    obtain rfl : k = 0 := by omega
    rw [decS, dif_pos (by omega)]
    show Md.number 10 (((Md.byteN (48 + 0)).toNat : Int) :: l) 0 0 = _
    rw [Md.number, hex_dig (by omega), if_neg (by omega)]; rfl
  | succ n ih =>
    intro k hk l
    rw [decS]
    split
    · rename_i h
      show Md.number 10 (((Md.byteN (48 + k)).toNat : Int) :: l) 0 0 = _
      rw [Md.number, hex_dig h, if_neg (by omega)]
      simp
    · rename_i h
      rw [asc_app, List.append_assoc, ih (k / 10) (by omega)]
      show Md.number 10 (((Md.byteN (48 + k % 10)).toNat : Int) :: l) _ _ = _
      rw [Md.number, hex_dig (by omega), if_neg (by omega), List.length_append, List.length_singleton]
      congr 1
      have : ((k / 10 : Nat) : Int) * 10 + ((k % 10 : Nat) : Int) = k := by omega
      rcases Int.le_total ((k / 10 : Nat) : Int) 1114112 with h1 | h1
      · rw [Int.min_eq_left h1, this]
      · rw [Int.min_eq_right h1]
        omega
theorem numeric_min (k : Int) : Md.numeric (min k 1114112) = Md.numeric k := by
  rcases Int.le_total k 1114112 with h | h
  · rw [Int.min_eq_left h]
  · rw [Int.min_eq_right h]
    unfold Md.numeric
    rw [if_pos (by omega), if_pos (by omega)]
theorem windows_nn : ∀ i, i < 32 → 0 ≤ Md.windows.getD i 0 := by decide
theorem numeric_nn2 (k : Int) : 0 ≤ Md.numeric k := by
  unfold Md.numeric
  split
  · omega
  · split
    · exact windows_nn _ (by omega)
    · omega
theorem refs_number (k : Nat) (hk : k ≤ 100000000) : Md.all ([38, 35] ++ decS k ++ [59, 120]) = [Md.tx (Md.encode [Md.numeric k] ++ [120])] := by
  obtain ⟨hl, hne⟩ := decS_low k k (Nat.le_refl _)
  have hlen : (decS k).length ≤ k + 1 := by
    suffices h : ∀ n k : Nat, k ≤ n → (decS k).length ≤ k + 1 from h k k (Nat.le_refl _)
    intro n
    induction n with
    | zero => intro k hk; obtain rfl : k = 0 := by omega
              rw [decS, dif_pos (by omega)]; simp
    | succ n ih =>
      intro k hk
      rw [decS]
      split
      · simp
      · have := ih (k / 10) (by omega)
        rw [List.length_append, List.length_singleton]; omega
  refine Rd.start (w := 0) (nm := []) (room := false) (low_new (c := [38, 35] ++ decS k ++ [59, 120]) (by simp only [List.length_append, List.length_cons, List.length_nil]; omega)) ?_
  have hlow : ∀ c ∈ [38, 35] ++ decS k ++ [59, 120], c.toNat < 128 ∧ c.toNat ≠ 13 := fun c hc => by
    have h1 : ∀ c ∈ ([38, 35] : Md.Str), c.toNat < 128 ∧ c.toNat ≠ 13 := by decide
    have h2 : ∀ c ∈ ([59, 120] : Md.Str), c.toNat < 128 ∧ c.toNat ≠ 13 := by decide
    simp only [List.mem_append] at hc
    rcases hc with (hc | hc) | hc
    · exact h1 c hc
    · have := hl c hc; omega
    · exact h2 c hc
  rw [dec_asc hlow, asc_app, asc_app]
  show Rd 0 [] false (38 :: (35 :: (Md.asc (decS k) ++ [59, 120]))) [] _
  obtain ⟨c, m, hcm⟩ : ∃ c m, decS k = c :: m := by cases h : decS k with
    | nil => exact absurd h hne
    | cons c m => exact ⟨c, m, rfl⟩
  have hc := hl c (by rw [hcm]; simp)
  have hnum : Md.number 10 (Md.asc (decS k) ++ [59, 120]) 0 0 = (min (k : Int) 1114112, (decS k).length) := by
    rw [number_dec k k (Nat.le_refl _), Md.number, if_pos (.inl (by decide))]
  have hr : Md.refer false (35 :: (Md.asc (decS k) ++ [59, 120])) = ([Md.numeric k], (decS k).length + 2) := by
    rw [refer_dec (by rfl) (by
      rw [hcm]
      show ¬((c.toNat : Int) = 120 ∨ (c.toNat : Int) = 88)
      omega)]
    have hnum' : Md.number 10 ((35 :: (Md.asc (decS k) ++ [59, 120])).drop 1) 0 0 = (min (k : Int) 1114112, (decS k).length) := hnum
    have e59 : (35 :: (Md.asc (decS k) ++ [59, 120])).getD (1 + (decS k).length) (-1) = 59 := by
      rw [Nat.add_comm, List.getD_cons_succ, List.getD_eq_getElem?_getD, List.getElem?_append_right (by rw [asc_len]; omega), asc_len, Nat.sub_self]; rfl
    have hne0 : ¬(decS k).length = 0 := by rw [hcm]; simp
    simp only [hnum', if_neg hne0, if_pos e59, numeric_min, Prod.mk.injEq, true_and]; omega
  refine Rd.ref (.inl rfl) (by rw [hr]; simp [numeric_nn2]) ?_
  rw [hr]
  have ed : List.drop ((decS k).length + 2) (35 :: (Md.asc (decS k) ++ [59, 120])) = [120] := by
    show List.drop ((decS k).length + 1) (Md.asc (decS k) ++ [59, 120]) = _
    rw [← List.drop_drop, ← asc_len, List.drop_left]; rfl
  show Rd 0 [] false (List.drop ((decS k).length + 2) (35 :: (Md.asc (decS k) ++ [59, 120]))) _ _
  rw [ed]
  refine Rd.conv (Rd.plain (d := [120]) (by simp [okSign]) Rd.nil) rfl rfl ?_
  rw [Md.app_app, app_one (by rw [show Md.encode ([120] : List Int) = [120] from rfl]; simp)]; rfl
end Go.Proofs.YticnenofiibpgaaDoor.Code
/- The head of the lexer's laws, by a run from the start. -/
namespace Go.Proofs.YticnenofiibpgaaDoor
namespace Code
open Go.Dm
noncomputable def rhs : Option (DV × Heap) := closed D 3000 13 [] false Heap.start
theorem heads_run : okR rhs (.bool true) = true := by decide +kernel
theorem heads_both : ClC D 13 [] false Heap.start (.bool true) (heapOf rhs) ∧ Nat.ble 2 (heapOf rhs).next = true := by
  have h := heads_run
  unfold rhs at h ⊢
  exact closed_ok h
theorem sat_nil2 {h : Heap} (h2 : Nat.ble 2 h.next = true) : Sat h [] := ⟨Nat.le_of_ble_eq_true h2, fun _ hm => absurd hm List.not_mem_nil, List.Pairwise.nil⟩
theorem headSOk : ∃ h1 : Heap, ClC D 13 [] false Heap.start (.bool true) h1 ∧ Nat.ble 2 h1.next = true ∧ Sat h1 [] := ⟨_, heads_both.1, heads_both.2, sat_nil2 heads_both.2⟩
end Code
end Go.Proofs.YticnenofiibpgaaDoor
