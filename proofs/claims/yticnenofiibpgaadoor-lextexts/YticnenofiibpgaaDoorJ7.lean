/- LexTexts returns true for every input: part 7 of the proof (several texts joined). -/
import Derived.Test.YticnenofiibpgaaDoorCards
import Derived.Test.YticnenofiibpgaaDoorTie
import Derived.WalkKit
import Derived.ProofKit
import Derived.OpenShut
import Derived.Deep.DeepHandedRow
import Derived.Lib.LaidTab
import Derived.Test.YticnenofiibpgaaDoorJ6
/- What the lexer's script does. -/
namespace Go.Proofs.YticnenofiibpgaaDoor.Code
open Go.Dm Go.Dm.C
set_option linter.unusedSimpArgs false
set_option linter.unusedVariables false
set_option linter.unnecessarySimpa false
set_option maxRecDepth 10000
attribute [local irreducible] Go.Dm.F Go.Dm.RS Go.Dm.Y Go.Dm.FD Go.Dm.FZ1 Go.Dm.Hold
variable {id : Nat} {s : Md.Lx} {g : Nat × Nat} {cs : List Ck}
theorem scriptGo_nil (last : Md.Str) (d : Nat) (h : Bool) : Md.scriptGo last [] d h = ([], 0, false) := by rw [Md.scriptGo]
theorem scriptGo_cons (last : Md.Str) (r : Int) (l : List Int) (d : Nat) (h : Bool) : Md.scriptGo last (r :: l) d h =
    if r = 45 then (r :: (Md.scriptGo last l (d + 1) h).1, (Md.scriptGo last l (d + 1) h).2.1 + 1, (Md.scriptGo last l (d + 1) h).2.2)
    else if r = 62 ∧ 2 ≤ d then ([62], 1, false)
    else if r = 60 ∧ h = false then
      if 0 < Md.closes last l then ([], 1, true) else
      (r :: (l.take (Md.word l) ++ (Md.scriptGo last (l.drop (Md.word l)) 0 (decide (0 < Md.word l))).1), (Md.scriptGo last (l.drop (Md.word l)) 0 (decide (0 < Md.word l))).2.1 + Md.word l + 1, (Md.scriptGo last (l.drop (Md.word l)) 0 (decide (0 < Md.word l))).2.2)
    else if r = 60 then
      if l.headD (-1) = 47 then
        (r :: 47 :: (l.tail.take (Md.word l.tail) ++ (Md.scriptGo last (l.tail.drop (Md.word l.tail)) 0 (decide (Md.word l.tail = 0))).1), (Md.scriptGo last (l.tail.drop (Md.word l.tail)) 0 (decide (Md.word l.tail = 0))).2.1 + Md.word l.tail + 2, (Md.scriptGo last (l.tail.drop (Md.word l.tail)) 0 (decide (Md.word l.tail = 0))).2.2)
      else (r :: (Md.scriptGo last l 0 h).1, (Md.scriptGo last l 0 h).2.1 + 1, (Md.scriptGo last l 0 h).2.2)
    else (Md.fixr r :: (Md.scriptGo last l 0 h).1, (Md.scriptGo last l 0 h).2.1 + 1, (Md.scriptGo last l 0 h).2.2) := by rw [Md.scriptGo]
theorem word_le (l : List Int) : Md.word l ≤ l.length := by
  unfold Md.word
  split
  · rename_i h
    have h1 := stands_le _ _ h.1
    simp only [List.length_cons, List.length_nil] at h1
    by_cases h2 : l.length = 6
    · have h3 := h.2
      rw [List.getD_eq_getElem?_getD, List.getElem?_eq_none (by omega)] at h3
      exact absurd h3 (by decide)
    · omega
  · omega
theorem word_in (h : s.pos ≤ s.inp.length) : s.pos + Md.word s.rest ≤ s.inp.length := by
  have h1 := word_le s.rest
  rw [rest_len] at h1; omega
theorem last_say (a : List Int) : (s.say a).last = s.last := rfl
theorem last_adv (n : Nat) : (s.adv n).last = s.last := rfl
theorem MB.say {u : Md.Lx} {i : Nat} {acc : List Int} (h : MB u) (ht : u.text.length ≤ 60000000004) (hp : u.pos + i ≤ u.inp.length) (ha : acc.length ≤ 2 * i) : MB ((u.adv i).say acc) := ⟨h.len, hp, by
  have := filter_le acc
  have := h.len
  simp only [Md.Lx.say, Md.Lx.adv, List.length_append]; omega, h.out, h.last, h.nn⟩
set_option maxHeartbeats 4000000 in
theorem script_F {cs2 : Nat × Nat → List Ck} (hu : Upd (LX id s g) (fun a => LX id s.script a) cs cs2) (hb : MB s) (ht : s.text.length ≤ 60000000000 ∧ s.out.length ≤ 900000) : F D 73 [.ptr id 0] cs (fun v cs' => Hold (∃ a, v = .tup [] ∧ cs2 a = cs')) := by
  refine F.atG hu fun R => F.of rfl rfl rfl ?_
  repeat' first | (show LD _ _ _ _; first | exact LX.ldPos (by (repeat' constructor); first | done | fail) | exact LX.ldWay (by (repeat' constructor); first | done | fail) | exact LX.ldLast (by (repeat' constructor); first | done | fail) | exact LX.ldRoom (by (repeat' constructor); first | done | fail) | exact LX.ldDone (by (repeat' constructor); first | done | fail) | exact LX.ldText (by (repeat' constructor); first | done | fail)) | (apply RR.lxIn; exact rfl; exact rfl; exact rfl; exact (by (repeat' constructor); first | done | fail); refine fun _ => ?_) | (apply RR.lxOut; exact rfl; exact rfl; exact rfl; exact (by (repeat' constructor); first | done | fail); refine fun _ => ?_) | (apply RR.storeS; exact rfl; exact rfl; first | exact LX.stPos 1 rfl (by (repeat' constructor); first | done | fail) | exact LX.stPos 2 rfl (by (repeat' constructor); first | done | fail) | exact LX.stPos 3 rfl (by (repeat' constructor); first | done | fail) | exact LX.stPos 6 rfl (by (repeat' constructor); first | done | fail) | exact LX.stPos 7 rfl (by (repeat' constructor); first | done | fail) | exact LX.stPos _ rfl (by (repeat' constructor); first | done | fail) | exact LX.stPos2 1 _ (by (repeat' constructor); first | done | fail) | exact LX.stPos2 2 _ (by (repeat' constructor); first | done | fail) | exact LX.stWay (by (repeat' constructor); first | done | fail) | exact LX.stLast (by (repeat' constructor); first | done | fail) | exact LX.stRoom (by (repeat' constructor); first | done | fail) | exact LX.stDone (by (repeat' constructor); first | done | fail); exact rfl) | (show FC _ _ _ _ _; first | exact exact_F (by (repeat' constructor); first | done | fail) (by exact hb.b2) (by decide) (by decide) | exact close_F (by (repeat' constructor); first | done | fail) (by exact hb) | exact say_F rfl (by (repeat' constructor); first | done | fail) (by (repeat' constructor); first | done | fail) (by exact hb.b8 (by decide))) | (refine fun _ _ (hq : Hold _) => ?_; replace hq := hq.out; obtain ⟨_, ⟨_, rfl⟩, rfl⟩ := hq) | (refine fun (hc : _ = _) => ?_; (try simp only [BB] at hc); (try (first | contradiction | (exfalso; omega)))) | (show Arith _; exact arith_pos (by exact hb.b1.2) (by decide)) | exact arI | refine Pst.mk ⟨?_, rfl⟩ (by (repeat' constructor); first | done | fail) | constructor | (refine fun _ _ (hq : Hold _) => ?_; replace hq := hq.out; obtain ⟨_, rfl, rfl⟩ := hq) | (refine fun _ _ (hq : Hold _) => ?_; replace hq := hq.out; obtain ⟨_, _, rfl, rfl⟩ := hq) | rintro _ _ ⟨rfl, rfl⟩ | rintro _ _ ⟨_, rfl, rfl⟩ | rintro _ _ ⟨_, _, rfl, rfl⟩ | (refine fun (hc : _ = _) => ?_; (try simp only [BB] at hc)) | refine fun (_ : Nat) => ?_ | refine fun (_ : _ ≤ _) => ?_ | refine fun (_ : _ < _) => ?_
  · rw [Md.Lx.script, if_pos hc]; exact Pst.mk (.mk ⟨_, rfl, rfl⟩) (by (repeat' constructor); first | done | fail)
  rename_i t0 _ tt0
  have hin := in_exact 3 [33, 45, 45] hc rfl hb.pos
  have hsm : s.script = if (Md.scriptGo ((s.say [60, 33, 45, 45]).adv 3).last ((s.say [60, 33, 45, 45]).adv 3).rest 2 false).2.2 = true then ((((s.say [60, 33, 45, 45]).adv 3).say (Md.scriptGo ((s.say [60, 33, 45, 45]).adv 3).last ((s.say [60, 33, 45, 45]).adv 3).rest 2 false).1).adv (Md.scriptGo ((s.say [60, 33, 45, 45]).adv 3).last ((s.say [60, 33, 45, 45]).adv 3).rest 2 false).2.1).flush.close else ((((s.say [60, 33, 45, 45]).adv 3).say (Md.scriptGo ((s.say [60, 33, 45, 45]).adv 3).last ((s.say [60, 33, 45, 45]).adv 3).rest 2 false).1).adv (Md.scriptGo ((s.say [60, 33, 45, 45]).adv 3).last ((s.say [60, 33, 45, 45]).adv 3).rest 2 false).2.1) := by
    rw [Md.Lx.script, if_neg (by rw [hc]; simp)]; rfl
  have hub : MB ((s.say [60, 33, 45, 45]).adv 3) := ⟨hb.len, hin, by
    have := filter_le [60, 33, 45, 45]
    simp only [Md.Lx.say, Md.Lx.adv, List.length_append, List.length_cons, List.length_nil] at this ⊢; omega, hb.out, hb.last, hb.nn⟩
  have hut : ((s.say [60, 33, 45, 45]).adv 3).text.length ≤ 60000000004 := by
    have := filter_le [60, 33, 45, 45]
    simp only [Md.Lx.say, Md.Lx.adv, List.length_append, List.length_cons, List.length_nil] at this ⊢; omega
  have huo : ((s.say [60, 33, 45, 45]).adv 3).out.length ≤ 900000 := ht.2
  rw [hsm]
  clear hsm hin hb ht hu hc
  generalize (s.say [60, 33, 45, 45]).adv 3 = u at *
  have hun := hub.nn
  have hul := hub.len
  have hup := hub.pos
  obtain ⟨V, hV⟩ : ∃ V, V = Md.scriptGo u.last u.rest 2 false := ⟨_, rfl⟩
  rw [← hV]
  refine RS.loopW (α := Nat × Nat × List Int × Nat × Bool) (fun a => [(0, .ptr id 0), (2, .int .i64 (a.2.2.2.1 : Nat)), (3, .bool a.2.2.2.2)]) (fun a => LX id ((u.adv a.1).say a.2.2.1) (g.1, a.2.1) :: R)
    (fun a => a.2.2.1 ++ (Md.scriptGo u.last (u.adv a.1).rest a.2.2.2.1 a.2.2.2.2).1 = V.1 ∧ a.1 + (Md.scriptGo u.last (u.adv a.1).rest a.2.2.2.1 a.2.2.2.2).2.1 = V.2.1 ∧ (Md.scriptGo u.last (u.adv a.1).rest a.2.2.2.1 a.2.2.2.2).2.2 = V.2.2 ∧ a.2.2.1.length ≤ a.1 ∧ u.pos + a.1 ≤ u.inp.length ∧ a.2.2.2.1 ≤ 2 + a.1) (fun a => u.inp.length - (u.pos + a.1)) (0, tt0, [], 2, false) ⟨by simp [adv_zero, hV], by simp [adv_zero, hV], by simp [adv_zero, hV], by simp, by dsimp only; omega, by simp⟩ ⟨rfl, rfl, rfl, trivial⟩ (by simpa [Md.Lx.say, Md.Lx.adv] using KK.drop .refl) ?_
  rintro ⟨i, tt, acc, d, h⟩ ⟨k1, k2, k3, k4, k5, k6⟩ ih
  dsimp only [ents] at *
  (have hst := fun h => rest_adv_cons (s := u) (i := i) h; have hnil := fun h => rest_adv_nil (s := u) (i := i) h; have hpn := fun h => pk_out (s := u) (i := i) h; have hpi := fun h => pk_in (s := u) (i := i) hun h)
  have e0 : ((u.adv i).say acc).pk 0 = u.pk i := by rw [pk_say, pk_adv, Nat.add_zero]
  have e1 : ((((u.adv i).say acc).adv 1).say [((u.adv i).say acc).pk 0]).pk 0 = u.pk (i + 1) := by rw [pk_say, say_adv, pk_say, adv_adv, pk_adv, Nat.add_zero]
  have hpn2 := fun h => pk_out (s := u) (i := i + 1) h
  have hfl2 := filter_le [((u.adv i).say acc).pk 0]
  have hfl3 := filter_le [((((u.adv i).say acc).adv 1).say [((u.adv i).say acc).pk 0]).pk 0]
  rw [List.length_cons, List.length_nil] at hfl2 hfl3
  have mb0 := hub.say (acc := acc) hut k5 (by omega)
  have m1 : u.pk i ≠ -1 → MB ((u.adv (i + 1)).say acc) := fun h => hub.say (acc := acc) hut (by by_cases hx : u.pos + i < u.inp.length; omega; have := hpn (by omega); omega) (by omega)
  have hfl := filter_le acc
  have hut2 := hut
  repeat' first | (show FC _ _ _ _ _; first | exact next_F (by (repeat' constructor); first | done | fail) (by first | omega | ((simp only [Md.Lx.adv, Md.Lx.say, Md.Lx.clr, List.nil_append, List.length_append, List.length_cons, List.length_nil]); omega)) | exact back_F (by (repeat' constructor); first | done | fail) (by first | omega | ((simp only [Md.Lx.adv, Md.Lx.say, Md.Lx.clr, List.nil_append, List.length_append, List.length_cons, List.length_nil]); omega)) | exact take_F (by (repeat' constructor); first | done | fail) (by have h7 := hfl; have h8 := hfl2; have h9 := hfl3; simp only [Md.Lx.adv, Md.Lx.say, List.length_append, List.length_cons, List.length_nil] at h7 h8 h9 ⊢; omega) (by exact word_in (by simp only [Md.Lx.adv, Md.Lx.say]; omega)) | exact closes_F (by (repeat' constructor); first | done | fail) (by exact (m1 (by omega)).b6) | exact word_F (by (repeat' constructor); first | done | fail) (by first | omega | ((simp only [Md.Lx.adv, Md.Lx.say, Md.Lx.clr, List.nil_append, List.length_append, List.length_cons, List.length_nil]); omega)) | exact flush_F (by (repeat' constructor); first | done | fail) (by exact (m1 (by omega)).b7) | exact close_F (by (repeat' constructor); first | done | fail) (by exact (m1 (by omega)).flush (by exact Nat.le_trans huo (by decide))) | exact peek0_F (by (repeat' constructor); first | done | fail) (by first | omega | ((simp only [Md.Lx.adv, Md.Lx.say, Md.Lx.clr, List.nil_append, List.length_append, List.length_cons, List.length_nil]); omega)) | exact say_F rfl (by (repeat' constructor); first | done | fail) (by (repeat' constructor); first | done | fail) (by first | omega | ((simp only [Md.Lx.adv, Md.Lx.say, Md.Lx.clr, List.nil_append, List.length_append, List.length_cons, List.length_nil]); omega)) | exact say_F rfl (by (repeat' constructor); first | done | fail) (by (repeat' constructor); first | done | fail) (by have h7 := hfl; have h8 := hfl2; have h9 := hfl3; simp only [Md.Lx.adv, Md.Lx.say, List.length_append, List.length_cons, List.length_nil] at h7 h8 h9 ⊢; omega)) | (refine fun _ _ (hq : Hold _) => ?_; replace hq := hq.out; obtain ⟨_, ⟨_, rfl⟩, rfl⟩ := hq) | (refine fun (hc : _ = _) => ?_; (try simp only [BB] at hc); (try (first | contradiction | (exfalso; omega)))) | (refine Arith.mk ?_; (try intro _); simp only [Md.Lx.adv, Md.Lx.say, Md.Lx.clr, List.nil_append, List.length_append, List.length_cons, List.length_nil]; omega) | exact arI | refine Pst.mk ⟨?_, rfl⟩ (by (repeat' constructor); first | done | fail) | constructor | (refine fun _ _ (hq : Hold _) => ?_; replace hq := hq.out; obtain ⟨_, rfl, rfl⟩ := hq) | (refine fun _ _ (hq : Hold _) => ?_; replace hq := hq.out; obtain ⟨_, _, rfl, rfl⟩ := hq) | rintro _ _ ⟨rfl, rfl⟩ | rintro _ _ ⟨_, rfl, rfl⟩ | rintro _ _ ⟨_, _, rfl, rfl⟩ | (refine fun (hc : _ = _) => ?_; (try simp only [BB] at hc)) | refine fun (_ : Nat) => ?_ | refine fun (_ : _ ≤ _) => ?_ | refine fun (_ : _ < _) => ?_
  all_goals (try simp only [pk_adv, pk_say, Nat.add_zero, adv_adv, say_say, say_adv, rest_say, last_say, last_adv] at *)
  · have hge : u.inp.length ≤ u.pos + i := by (by_cases h : u.pos + i < u.inp.length; (have := hpi h; omega); omega)
    rw [hnil hge, scriptGo_nil] at k1 k2 k3
    simp only [List.append_nil, Nat.add_zero] at k1 k2 k3
    rw [← k1, ← k2, ← k3, if_neg (by simp)]
    exact Pst.mk (.mk ⟨_, trivial, rfl⟩) (by (repeat' constructor); first | done | fail)
  · have hlt : u.pos + i < u.inp.length := by (by_cases h : u.pos + i < u.inp.length; exact h; have := hpn (by omega); omega)
    rw [hst hlt, scriptGo_cons, if_pos hc] at k1 k2 k3
    dsimp only at k1 k2 k3
    exact ih _ _ (i + 1, _, acc ++ [u.pk i], d + 1, h) ⟨by rw [← k1]; simp, by rw [← k2]; dsimp only; omega, k3, by simp; omega, by dsimp only; omega, by dsimp only; omega⟩ (by dsimp only; omega) ⟨rfl, rfl, rfl, trivial⟩ (by (repeat' constructor); first | done | fail)
  · have hlt : u.pos + i < u.inp.length := by (by_cases h : u.pos + i < u.inp.length; exact h; have := hpn (by omega); omega)
    rename_i hA
    rw [hst hlt, scriptGo_cons, if_neg hA, if_pos ⟨hc.1, by omega⟩] at k1 k2 k3
    dsimp only at k1 k2 k3
    rw [← k1, ← k2, ← k3, if_neg (by simp), ← hc.1]
    exact Pst.mk (.mk ⟨_, trivial, rfl⟩) (by (repeat' constructor); first | done | fail)
  · have hlt : u.pos + i < u.inp.length := by (by_cases h : u.pos + i < u.inp.length; exact h; have := hpn (by omega); omega)
    rename_i hA hB hC
    rw [hst hlt, scriptGo_cons, if_neg hA, if_neg (fun h => hB h.1 (by omega)), if_pos hC, if_pos (by omega)] at k1 k2 k3
    dsimp only at k1 k2 k3
    rw [← k1, ← k2, ← k3, if_pos rfl, List.append_nil]
    exact Pst.mk (.mk ⟨_, trivial, rfl⟩) (by (repeat' constructor); first | done | fail)
  · have hlt : u.pos + i < u.inp.length := by (by_cases h : u.pos + i < u.inp.length; exact h; have := hpn (by omega); omega)
    rename_i hA hB hC hD
    rw [hst hlt, scriptGo_cons, if_neg hA, if_neg (fun h => hB h.1 (by omega)), if_pos hC, if_neg (by omega), ← rest_adv, adv_adv, decide_eq_true (show 0 < Md.word (u.adv (i + 1)).rest by omega)] at k1 k2 k3
    dsimp only at k1 k2 k3
    have hw := word_le (u.adv (i + 1)).rest
    have hwl := rest_len (s := u.adv (i + 1))
    have e5 : (u.adv (i + 1)).inp = u.inp := rfl
    have e6 : (u.adv (i + 1)).pos = u.pos + (i + 1) := rfl
    rw [e5, e6] at hwl
    exact ih _ _ (i + 1 + Md.word (u.adv (i + 1)).rest, _, acc ++ [u.pk i] ++ (u.adv (i + 1)).rest.take (Md.word (u.adv (i + 1)).rest), 0, true) ⟨by rw [← k1]; simp, by rw [← k2]; dsimp only; omega, k3, by simp; omega, by dsimp only; omega, by dsimp only; omega⟩ (by dsimp only; omega) ⟨rfl, rfl, rfl, trivial⟩ (by (repeat' constructor); first | done | fail)
  · have hlt : u.pos + i < u.inp.length := by (by_cases h : u.pos + i < u.inp.length; exact h; have := hpn (by omega); omega)
    rename_i hA hB hC hD
    obtain rfl := hC.2
    have hw0 : Md.word (u.adv (i + 1)).rest = 0 := by omega
    rw [hst hlt, scriptGo_cons, if_neg hA, if_neg (fun h => hB h.1 (by omega)), if_pos hC, if_neg (by omega), hw0] at k1 k2 k3
    simp only [List.drop_zero, List.take_zero, List.nil_append, Nat.lt_irrefl, decide_false] at k1 k2 k3
    exact ih _ _ (i + 1, _, acc ++ [u.pk i], 0, false) ⟨by rw [← k1]; simp, by rw [← k2]; dsimp only; omega, k3, by simp; omega, by dsimp only; omega, by dsimp only; omega⟩ (by dsimp only; omega) ⟨rfl, rfl, rfl, trivial⟩ (by (repeat' constructor); first | done | fail)
  · have hlt : u.pos + i < u.inp.length := by (by_cases h : u.pos + i < u.inp.length; exact h; have := hpn (by omega); omega)
    rename_i hA hB hC hD hE
    have hlt2 : u.pos + (i + 1) < u.inp.length := by (by_cases h : u.pos + (i + 1) < u.inp.length; exact h; have := hpn2 (by omega); omega)
    rw [hst hlt, scriptGo_cons, if_neg hA, if_neg (fun h => hB h.1 (by omega)), if_neg (fun h => by rw [hD.2] at h; cases h.2), if_pos hD.1, headD_adv, if_pos hE, tail_adv, ← rest_adv, adv_adv, decide_eq_false (show ¬Md.word (u.adv (i + 1 + 1)).rest = 0 by omega)] at k1 k2 k3
    dsimp only at k1 k2 k3
    have hw := word_le (u.adv (i + 1 + 1)).rest
    have hwl := rest_len (s := u.adv (i + 1 + 1))
    have e5 : (u.adv (i + 1 + 1)).inp = u.inp := rfl
    have e6 : (u.adv (i + 1 + 1)).pos = u.pos + (i + 1 + 1) := rfl
    rw [e5, e6] at hwl
    rw [← hE] at k1
    exact ih _ _ (i + 1 + 1 + Md.word (u.adv (i + 1 + 1)).rest, _, acc ++ ([u.pk i] ++ ([u.pk (i + 1)] ++ (u.adv (i + 1 + 1)).rest.take (Md.word (u.adv (i + 1 + 1)).rest))), 0, false) ⟨by rw [← k1]; simp, by rw [← k2]; dsimp only; omega, k3, by simp; omega, by dsimp only; omega, by dsimp only; omega⟩ (by dsimp only; omega) ⟨rfl, rfl, rfl, trivial⟩ (by simp only [List.append_assoc]; exact (by (repeat' constructor); first | done | fail))
  · have hlt : u.pos + i < u.inp.length := by (by_cases h : u.pos + i < u.inp.length; exact h; have := hpn (by omega); omega)
    rename_i hA hB hC hD hE
    obtain rfl := hD.2
    have hlt2 : u.pos + (i + 1) < u.inp.length := by (by_cases h : u.pos + (i + 1) < u.inp.length; exact h; have := hpn2 (by omega); omega)
    have hw0 : Md.word (u.adv (i + 1 + 1)).rest = 0 := by omega
    rw [hst hlt, scriptGo_cons, if_neg hA, if_neg (fun h => hB h.1 (by omega)), if_neg (fun h => by cases h.2), if_pos hD.1, headD_adv, if_pos hE, tail_adv, hw0] at k1 k2 k3
    simp only [List.drop_zero, List.take_zero, List.nil_append, decide_true] at k1 k2 k3
    rw [← hE] at k1
    exact ih _ _ (i + 1 + 1, _, acc ++ ([u.pk i] ++ [u.pk (i + 1)]), 0, true) ⟨by rw [← k1]; simp, by rw [← k2]; dsimp only; omega, k3, by simp; omega, by dsimp only; omega, by dsimp only; omega⟩ (by dsimp only; omega) ⟨rfl, rfl, rfl, trivial⟩ (by simp only [List.append_assoc]; exact (by (repeat' constructor); first | done | fail))
  · have hlt : u.pos + i < u.inp.length := by (by_cases h : u.pos + i < u.inp.length; exact h; have := hpn (by omega); omega)
    rename_i hA hB hC hD
    obtain rfl := hD.2
    rw [hst hlt, scriptGo_cons, if_neg hA, if_neg (fun h => hB h.1 (by omega)), if_neg (fun h => by cases h.2), if_pos hD.1, headD_adv, if_neg hc] at k1 k2 k3
    dsimp only at k1 k2 k3
    exact ih _ _ (i + 1, _, acc ++ [u.pk i], 0, true) ⟨by rw [← k1]; simp, by rw [← k2]; dsimp only; omega, k3, by simp; omega, by dsimp only; omega, by dsimp only; omega⟩ (by dsimp only; omega) ⟨rfl, rfl, rfl, trivial⟩ (by (repeat' constructor); first | done | fail)
  all_goals
    have hlt : u.pos + i < u.inp.length := by (by_cases h : u.pos + i < u.inp.length; exact h; have := hpn (by omega); omega)
    rename_i hA hB hC hD
    have h60 : ¬u.pk i = 60 := fun h9 => by have h7 := hC h9; have h8 := hD h9; rw [h7] at h8; cases h8
    rw [hst hlt, scriptGo_cons, if_neg hA, if_neg (fun h => hB h.1 (by omega)), if_neg (fun h => h60 h.1), if_neg h60] at k1 k2 k3
    dsimp only at k1 k2 k3
    first
      | (rw [show Md.fixr (u.pk i) = 65533 from if_pos hc] at k1
         exact ih _ _ (i + 1, _, acc ++ [65533], 0, h) ⟨by rw [← k1]; simp, by rw [← k2]; dsimp only; omega, k3, by simp; omega, by dsimp only; omega, by dsimp only; omega⟩ (by dsimp only; omega) ⟨rfl, rfl, rfl, trivial⟩ (by (repeat' constructor); first | done | fail))
      | (rw [show Md.fixr (u.pk i) = u.pk i from if_neg hc] at k1
         exact ih _ _ (i + 1, _, acc ++ [u.pk i], 0, h) ⟨by rw [← k1]; simp, by rw [← k2]; dsimp only; omega, k3, by simp; omega, by dsimp only; omega, by dsimp only; omega⟩ (by dsimp only; omega) ⟨rfl, rfl, rfl, trivial⟩ (by (repeat' constructor); first | done | fail))
end Go.Proofs.YticnenofiibpgaaDoor.Code
/- How far the lexer's functions go. -/
namespace Go.Proofs.YticnenofiibpgaaDoor.Code
open Go.Dm
set_option linter.unusedSimpArgs false
set_option linter.unusedVariables false
variable {s : Md.Lx}
/-- What a function may turn. -/
structure Bd (s x : Md.Lx) : Prop where
  inp : x.inp = s.inp
  room : x.room = s.room
  done : x.done = s.done
  ge : s.pos ≤ x.pos
  le : x.pos ≤ s.inp.length
  text : x.text.length ≤ s.text.length + 10 * (x.pos - s.pos) + 4
  out : x.out.length ≤ s.out.length + 2
  last : s.last.length ≤ 10000000000 → x.last.length ≤ 10000000000
theorem Bd.emit {n : Nat} {t : Md.Tok} (hn : s.pos + n ≤ s.inp.length) (ht : t.kind = 2 → t.name.length ≤ 10000000000) : Bd s ((s.adv n).emit t) := by
  have hfo := flush_out (s := s.adv n)
  have e : (s.adv n).out = s.out := rfl
  rw [e] at hfo
  refine ⟨?_, ?_, ?_, ?_, ?_, ?_, ?_, ?_⟩ <;> simp only [Md.Lx.emit]
  · rw [flush_inp]; rfl
  · rw [flush_room]; rfl
  · rw [flush_done]; rfl
  · rw [flush_pos]; show s.pos ≤ s.pos + n; omega
  · rw [flush_pos]; exact hn
  · rw [flush_text]; simp
  · rw [List.length_append]; simp; omega
  · intro hl
    split
    · rename_i h; exact ht h
    · rw [flush_last]; exact hl
theorem Bd.adv {n : Nat} (hn : s.pos + n ≤ s.inp.length) : Bd s (s.adv n) := ⟨rfl, rfl, rfl, Nat.le_add_right .., hn, by show s.text.length ≤ _; omega, by show s.out.length ≤ _; omega, fun h => h⟩
theorem Bd.pre {k : Nat} {x : Md.Lx} (h : Bd (s.adv k) x) : s.pos ≤ x.pos ∧ Bd s x := by
  have h1 : s.pos + k ≤ x.pos := h.ge
  have h2 := h.text
  have h3 : (s.adv k).pos = s.pos + k := rfl
  have h4 : (s.adv k).text = s.text := rfl
  rw [h3, h4] at h2
  exact ⟨by omega, h.inp, h.room, h.done, by omega, h.le, by omega, h.out, h.last⟩
theorem Bd.say {n : Nat} {rs : List Int} (hn : s.pos + n ≤ s.inp.length) (hr : rs.length ≤ 10 * n + 4) : Bd s ((s.adv n).say rs) := ⟨rfl, rfl, rfl, Nat.le_add_right .., hn, by
  have h1 := filter_le rs
  show (s.text ++ rs.filter (· != -1)).length ≤ s.text.length + 10 * (s.pos + n - s.pos) + 4
  rw [List.length_append]; omega, by show s.out.length ≤ _; omega, fun h => h⟩
theorem encode_len (rs : List Int) : (Md.encode rs).length ≤ 4 * rs.length := by
  induction rs with
  | nil => simp [Md.encode]
  | cons r rs ih =>
    have e : Md.encode (r :: rs) = Md.putR r ++ Md.encode rs := by simp [Md.encode]
    have h4 := putR_len r
    rw [e, List.length_append, List.length_cons]; omega
theorem rlen (h : s.pos ≤ s.inp.length) : s.pos + s.rest.length = s.inp.length := by rw [rest_len]; omega
theorem attrsGo_le : ∀ (n : Nat) (l : List Int) (acc : List (Md.Str × Md.Str)), l.length ≤ n → (Md.attrsGo l acc).2.2.2 ≤ l.length := by
  intro n
  induction n with
  | zero => intro l acc h; have : l = [] := List.eq_nil_of_length_eq_zero (by omega); subst this; rw [attrsGo_nil]; simp
  | succ n ih =>
    intro l acc h
    cases l with
    | nil => rw [attrsGo_nil]; simp
    | cons r l =>
      simp only [List.length_cons] at h ⊢
      cases hb : Md.blank r with
      | true => rw [attrsGo_blank hb]; have := ih l acc (by omega); dsimp only; omega
      | false =>
        by_cases h1 : r = 62
        · subst h1; rw [attrsGo_end]; simp
        · by_cases h2 : r = 47
          · subst h2
            rw [attrsGo_slash]
            split
            · rename_i h3
              cases l with
              | nil => simp at h3
              | cons a l => simp
            · have := ih l acc (by omega); dsimp only; omega
          · have hl := attr1_le (r :: l)
            have hg : 1 ≤ (Md.attr1 (r :: l)).2.2 := attr1_ge (by rw [over_f]; exact ⟨⟨hb, h2⟩, h1⟩)
            simp only [List.length_cons] at hl
            rw [attrsGo_attr hb h1 h2]
            split
            · have := ih ((r :: l).drop (Md.attr1 (r :: l)).2.2) (Md.putAttr acc (Md.attr1 (r :: l)).1) (by rw [List.length_drop, List.length_cons]; omega)
              rw [List.length_drop, List.length_cons] at this
              dsimp only; omega
            · dsimp only; omega
theorem Bd.tag (k : Int) (h : s.pos ≤ s.inp.length) (hl : s.inp.length ≤ 1000000000) : Bd s (s.tag k) := by
  have h1 := nameOf_le s.rest
  have h2 := attrsGo_le _ (s.rest.drop (Md.nameOf s.rest).length) [] (Nat.le_refl _)
  rw [List.length_drop] at h2
  have h3 := rlen h
  unfold Md.Lx.tag
  dsimp only
  split
  · refine Bd.emit (by omega) fun _ => ?_
    dsimp only
    have := encode_len ((Md.nameOf s.rest).map fun r => Md.small (Md.fixr r))
    rw [List.length_map] at this; omega
  · exact Bd.adv (by omega)
theorem bogusGo_le : ∀ l : List Int, (Md.bogusGo l).2 ≤ l.length
  | [] => by simp [Md.bogusGo]
  | r :: l => by
    have := bogusGo_le l
    simp only [Md.bogusGo, List.length_cons]
    split
    · dsimp only; omega
    · dsimp only; omega
theorem Bd.bogus (h : s.pos ≤ s.inp.length) : Bd s s.bogus := by
  have h1 := bogusGo_le s.rest
  have h3 := rlen h
  exact Bd.emit (by omega) fun h => by cases h
theorem commentGo_le : ∀ l : List Int, (Md.commentGo l).2.1 ≤ l.length
  | [] => by simp [Md.commentGo]
  | r :: l => by
    have := commentGo_le l
    simp only [Md.commentGo, List.length_cons]
    split
    · rename_i h; have := exact_le _ _ h.2; simp only [List.length_cons, List.length_nil] at this; dsimp only; omega
    · split
      · rename_i h; have := exact_le _ _ h.2; simp only [List.length_cons, List.length_nil] at this; dsimp only; omega
      · dsimp only; omega
theorem in_pk {n : Nat} (h : s.pk n ≠ -1) : s.pos + n < s.inp.length := by
  by_cases hl : s.inp.length ≤ s.pos + n
  · exact absurd (pk_out hl) h
  · omega
theorem Bd.comment (h : s.pos ≤ s.inp.length) : Bd s s.comment := by
  have h1 := commentGo_le s.rest
  have h3 := rlen h
  unfold Md.Lx.comment
  split
  · rename_i h4
    have := in_pk (s := s) (n := 0) (by omega)
    exact Bd.emit (by omega) fun h => by cases h
  · split
    · rename_i h4
      have := in_pk (s := s) (n := 1) (by omega)
      exact Bd.emit (by omega) fun h => by cases h
    · exact Bd.emit (by omega) fun h => by cases h
theorem Bd.section_ (h : s.pos ≤ s.inp.length) : Bd s s.section_ := by
  have h1 := sec_len s.rest
  have h3 := rlen h
  have h2 : ∀ l : List Int, (Md.sectionGo l).1.length ≤ (Md.sectionGo l).2 := by
    intro l
    induction l with
    | nil => simp [Md.sectionGo]
    | cons r l ih => simp only [Md.sectionGo]; split <;> simp; omega
  have h4 := h2 s.rest
  exact Bd.say (by omega) (by omega)
theorem Bd.trans0 {k : Nat} {x : Md.Lx} (h : Bd (s.adv k) x) : Bd s x := h.pre.2
theorem dname_le (l : List Int) : (Md.doctypeName l).length ≤ l.length := (List.takeWhile_sublist _).length_le
theorem Bd.emit0 {t : Md.Tok} (h : s.pos ≤ s.inp.length) (ht : t.kind ≠ 2) : Bd s (s.emit t) := Bd.emit (n := 0) h (fun e => absurd e ht)
theorem Bd.sys {t : Md.Tok} (h : s.pos ≤ s.inp.length) (ht : t.kind ≠ 2) : Bd s (s.doctypeSys t) := by
  have h1 := in_quoted h
  unfold Md.Lx.doctypeSys
  dsimp only
  split
  · exact (Bd.emit0 h1 (by exact ht)).trans0
  · split
    · exact (Bd.emit0 (in_blanks h1) (by exact ht)).trans0.trans0
    · exact (Bd.emit0 (in_skip (in_blanks h1)) (by exact ht)).trans0.trans0.trans0
theorem Bd.pub {t : Md.Tok} (h : s.pos ≤ s.inp.length) (ht : t.kind ≠ 2) : Bd s (s.doctypePub t) := by
  have h1 := in_quoted h
  unfold Md.Lx.doctypePub
  dsimp only
  split
  · exact (Bd.emit0 h1 (by exact ht)).trans0
  · split
    · rename_i h4
      exact (Bd.emit0 (in_adv1 (s := (s.adv (Md.quoted s.rest).2.2.2).blanks) (by omega)) (by exact ht)).trans0.trans0.trans0
    · exact (Bd.sys (in_blanks h1) (by exact ht)).trans0.trans0
theorem Bd.rest {t : Md.Tok} (h : s.pos ≤ s.inp.length) (ht : t.kind ≠ 2) : Bd s (s.doctypeRest t) := by
  unfold Md.Lx.doctypeRest
  split
  · exact (Bd.emit0 (in_adv1 (by omega)) (by exact ht)).trans0
  · split
    · exact Bd.emit0 h (by exact ht)
    · split
      · rename_i h5
        exact (Bd.pub (in_blanks (in_stands 6 _ h5 rfl h)) (by exact ht)).trans0.trans0
      · split
        · rename_i h5
          exact (Bd.sys (in_blanks (in_stands 6 _ h5 rfl h)) (by exact ht)).trans0.trans0
        · exact (Bd.emit0 (in_skip h) (by exact ht)).trans0
theorem Bd.doctype (h : s.pos ≤ s.inp.length) : Bd s s.doctype := by
  have hb := in_blanks h
  unfold Md.Lx.doctype
  dsimp only
  split
  · exact (Bd.emit0 (in_adv1 (s := s.blanks) (by omega)) (by decide)).trans0.trans0
  · split
    · exact (Bd.emit0 hb (by decide)).trans0
    · exact (Bd.rest (in_blanks (in_adv hb (dname_le _))) (by show (5 : Int) ≠ 2; decide)).trans0.trans0.trans0
theorem Bd.declare (h : s.pos ≤ s.inp.length) : Bd s s.declare := by
  unfold Md.Lx.declare
  split
  · rename_i h5; exact (Bd.comment (in_stands 2 _ h5 rfl h)).trans0
  · split
    · rename_i h5; exact (Bd.doctype (in_stands 7 _ h5 rfl h)).trans0
    · split
      · rename_i h5; exact (Bd.section_ (in_exact 7 _ h5.2.2 rfl h)).trans0
      · exact Bd.bogus h
theorem Bd.ending (h : s.pos ≤ s.inp.length) (hl : s.inp.length ≤ 1000000000) : Bd s s.ending := by
  unfold Md.Lx.ending
  split
  · exact Bd.tag _ h hl
  · split
    · have := in_pk (s := s) (n := 0) (by omega)
      exact Bd.adv (by omega)
    · split
      · exact Bd.say (n := 0) h (by simp)
      · exact Bd.bogus h
theorem Bd.open_ (h : s.pos ≤ s.inp.length) (hl : s.inp.length ≤ 1000000000) : Bd s s.open_ := by
  unfold Md.Lx.open_
  split
  · exact (Bd.declare (in_adv1 (by omega))).trans0
  · split
    · exact (Bd.ending (in_adv1 (by omega)) hl).trans0
    · split
      · exact Bd.tag _ h hl
      · split
        · exact Bd.bogus h
        · exact Bd.say (n := 0) h (by simp)
theorem Bd.close (h : s.pos ≤ s.inp.length) (hl : s.inp.length ≤ 1000000000) : Bd s s.close := by
  unfold Md.Lx.close
  split
  · exact Bd.say (n := 0) h (by simp)
  · rename_i h5
    have h2 := closes_le s.last s.rest (by omega)
    rw [← pk_rest] at h2
    have h3 := in_pk (s := s) (n := 0) (by omega)
    have h4 := Bd.tag (s := { s.adv 1 with way := 0 }) 3 (show s.pos + 1 ≤ s.inp.length by omega) hl
    have h6 : s.pos + 1 ≤ (Md.Lx.tag { s.adv 1 with way := 0 } 3).pos := h4.ge
    have h7 := h4.text
    exact ⟨h4.inp, h4.room, h4.done, by omega, h4.le, by
      have e1 : ({ s.adv 1 with way := 0 } : Md.Lx).text = s.text := rfl
      have e2 : ({ s.adv 1 with way := 0 } : Md.Lx).pos = s.pos + 1 := rfl
      rw [e1, e2] at h7; omega, h4.out, h4.last⟩
theorem scriptGo_le (last : Md.Str) : ∀ (n : Nat) (l : List Int) (d : Nat) (h : Bool), l.length ≤ n → (Md.scriptGo last l d h).2.1 ≤ l.length ∧ (Md.scriptGo last l d h).1.length ≤ (Md.scriptGo last l d h).2.1 := by
  intro n
  induction n with
  | zero => intro l d h hl; have : l = [] := List.eq_nil_of_length_eq_zero (by omega); subst this; rw [scriptGo_nil]; simp
  | succ n ih =>
    intro l d h hl
    cases l with
    | nil => rw [scriptGo_nil]; simp
    | cons r l =>
      simp only [List.length_cons] at hl ⊢
      have hw := word_le l
      have hwt := word_le l.tail
      rw [List.length_tail] at hwt
      rw [scriptGo_cons]
      split
      · have := ih l (d + 1) h (by omega); simp only [List.length_cons]; omega
      · split
        · simp
        · split
          · split
            · simp
            · have := ih (l.drop (Md.word l)) 0 (decide (0 < Md.word l)) (by rw [List.length_drop]; omega)
              rw [List.length_drop] at this
              simp only [List.length_cons, List.length_append, List.length_take]; omega
          · split
            · split
              · rename_i h3
                have h4 : 1 ≤ l.length := by
                  cases l with
                  | nil => simp at h3
                  | cons a l => simp
                have := ih (l.tail.drop (Md.word l.tail)) 0 (decide (Md.word l.tail = 0)) (by rw [List.length_drop, List.length_tail]; omega)
                rw [List.length_drop, List.length_tail] at this
                simp only [List.length_cons, List.length_append, List.length_take, List.length_tail]; omega
              · have := ih l 0 h (by omega); simp only [List.length_cons]; omega
            · have := ih l 0 h (by omega); simp only [List.length_cons]; omega
/-- What a step may turn. -/
structure Sd (s x : Md.Lx) : Prop where
  inp : x.inp = s.inp
  room : x.room = s.room
  gt : s.pos < x.pos
  le : x.pos ≤ s.inp.length + 1
  le2 : x.done = false → x.pos ≤ s.inp.length
  text : x.text.length ≤ s.text.length + 10 * (x.pos - s.pos)
  out : x.out.length ≤ s.out.length + 6
  last : s.last.length ≤ 10000000000 → x.last.length ≤ 10000000000
theorem Sd.of {x : Md.Lx} (h : Bd (s.adv 1) x) : Sd s x := by
  have h1 : s.pos + 1 ≤ x.pos := h.ge
  have h2 := h.text
  have h3 : (s.adv 1).pos = s.pos + 1 := rfl
  have h4 : (s.adv 1).text = s.text := rfl
  have h5 : x.out.length ≤ s.out.length + 2 := h.out
  have h6 : x.pos ≤ s.inp.length := h.le
  rw [h3, h4] at h2
  exact ⟨h.inp, h.room, by omega, by omega, fun _ => by omega, by omega, by omega, h.last⟩
theorem Sd.fl {x : Md.Lx} (h : Bd (s.adv 1).flush x) : Sd s x := by
  have h1 := h.ge
  rw [flush_pos] at h1
  have h3 : (s.adv 1).pos = s.pos + 1 := rfl
  rw [h3] at h1
  have h2 := h.text
  rw [flush_text, flush_pos, h3] at h2
  have h5 := h.out
  have h7 := flush_out (s := s.adv 1)
  have h4 : (s.adv 1).out = s.out := rfl
  rw [h4] at h7
  have h6 := h.le
  rw [flush_inp] at h6
  have h8 : (s.adv 1).inp = s.inp := rfl
  rw [h8] at h6
  simp only [List.length_nil] at h2
  exact ⟨by rw [h.inp, flush_inp]; rfl, by rw [h.room, flush_room]; rfl, by omega, by omega, fun _ => h6, by omega, by omega, fun hl => h.last (by rw [flush_last]; exact hl)⟩
theorem Sd.script (hp : s.pos < s.inp.length) (hl : s.inp.length ≤ 1000000000) : Sd s (s.adv 1).flush.script := by
  have hp1 : (s.adv 1).flush.pos ≤ (s.adv 1).flush.inp.length := by rw [flush_pos, flush_inp]; exact hp
  have hl1 : (s.adv 1).flush.inp.length ≤ 1000000000 := by rw [flush_inp]; exact hl
  unfold Md.Lx.script
  split
  · exact Sd.fl (Bd.close hp1 hl1)
  · rename_i hx
    have hin := in_exact (s := (s.adv 1).flush) 3 [33, 45, 45] (by simpa using hx) rfl hp1
    dsimp only
    have e1 : (((s.adv 1).flush.say [60, 33, 45, 45]).adv 3).rest = ((s.adv 1).flush.adv 3).rest := rfl
    have e2 : (s.adv 1).flush.last = s.last := by rw [flush_last]; rfl
    have hq := scriptGo_le (s.adv 1).flush.last _ (((s.adv 1).flush.say [60, 33, 45, 45]).adv 3).rest 2 false (Nat.le_refl _)
    rw [e1] at hq ⊢
    have hr := rest_len (s := (s.adv 1).flush.adv 3)
    have e3 : ((s.adv 1).flush.adv 3).inp = s.inp := by show (s.adv 1).flush.inp = _; rw [flush_inp]; rfl
    have e4 : ((s.adv 1).flush.adv 3).pos = s.pos + 1 + 3 := by show (s.adv 1).flush.pos + 3 = _; rw [flush_pos]; rfl
    rw [e3, e4] at hr hin
    generalize Md.scriptGo (s.adv 1).flush.last ((s.adv 1).flush.adv 3).rest 2 false = q at *
    obtain ⟨q1, q2, q3⟩ := q
    dsimp only at hq ⊢
    have hf1 := filter_le [60, 33, 45, 45]
    have hf2 := filter_le q1
    simp only [List.length_cons, List.length_nil] at hf1
    have y1 : (((((s.adv 1).flush.say [60, 33, 45, 45]).adv 3).say q1).adv q2).inp = s.inp := e3
    have y2 : (((((s.adv 1).flush.say [60, 33, 45, 45]).adv 3).say q1).adv q2).pos = s.pos + 4 + q2 := by show ((s.adv 1).flush.adv 3).pos + q2 = _; rw [e4]
    have y3 : (((((s.adv 1).flush.say [60, 33, 45, 45]).adv 3).say q1).adv q2).text.length ≤ 4 + q1.length := by
      show (((s.adv 1).flush.text ++ _) ++ _).length ≤ _
      rw [flush_text, List.length_append, List.length_append, List.length_nil]; omega
    have y4 : (((((s.adv 1).flush.say [60, 33, 45, 45]).adv 3).say q1).adv q2).out.length ≤ s.out.length + 1 := flush_out (s := s.adv 1)
    have y5 : (((((s.adv 1).flush.say [60, 33, 45, 45]).adv 3).say q1).adv q2).last = s.last := e2
    have y6 : (((((s.adv 1).flush.say [60, 33, 45, 45]).adv 3).say q1).adv q2).room = s.room := by show (s.adv 1).flush.room = _; rw [flush_room]; rfl
    generalize ((((s.adv 1).flush.say [60, 33, 45, 45]).adv 3).say q1).adv q2 = y at *
    split
    · have hc := Bd.close (s := y.flush) (by rw [flush_pos, flush_inp, y1, y2]; omega) (by rw [flush_inp, y1]; exact hl)
      have c1 := hc.ge
      have c2 := hc.le
      have c3 := hc.text
      have c4 := hc.out
      have c5 := flush_out (s := y)
      rw [flush_pos, y2] at c1
      rw [flush_inp, y1] at c2
      rw [flush_text, flush_pos, y2] at c3
      simp only [List.length_nil] at c3
      exact ⟨by rw [hc.inp, flush_inp, y1], by rw [hc.room, flush_room, y6], by omega, by omega, fun _ => c2, by omega, by omega, fun h => hc.last (by rw [flush_last, y5]; exact h)⟩
    · exact ⟨y1, y6, by omega, by omega, fun _ => by omega, by omega, by omega, fun h => by rw [y5]; exact h⟩
end Go.Proofs.YticnenofiibpgaaDoor.Code
/- What the lexer's step does. -/
namespace Go.Proofs.YticnenofiibpgaaDoor.Code
open Go.Dm Go.Dm.C
set_option linter.unusedSimpArgs false
set_option linter.unusedVariables false
set_option linter.unnecessarySimpa false
set_option maxRecDepth 10000
attribute [local irreducible] Go.Dm.F Go.Dm.RS Go.Dm.Y Go.Dm.FD Go.Dm.FZ1 Go.Dm.Hold
variable {id : Nat} {s : Md.Lx} {g : Nat × Nat} {cs : List Ck}
def stepEnd : DC := match c_lex_Lexer_step.body with
  | .seq _ (.seq _ e) => e
  | _ => .skip
def stepFin (x : Md.Lx) : Md.Lx := if x.out = [] ∧ x.text ≠ [] ∧ (x.pk 0 = 60 ∨ x.pk 0 = -1) then x.flush else x
def stepMid (s : Md.Lx) : Md.Lx :=
  if s.pk 0 = -1 then { (s.adv 1).flush with done := true }
  else if s.pk 0 = 38 ∧ (s.way = 0 ∨ s.way = 1) then refA (s.adv 1) false
  else if s.pk 0 = 60 ∧ s.way = 0 then (s.adv 1).flush.open_
  else if s.pk 0 = 60 ∧ (s.way = 1 ∨ s.way = 2) then (s.adv 1).flush.close
  else if s.pk 0 = 60 ∧ s.way = 3 then (s.adv 1).flush.script
  else if s.pk 0 = 0 ∧ s.way = 0 then (s.adv 1).say [0]
  else if s.pk 0 = 0 then (s.adv 1).say [65533]
  else ((s.adv 1).adv ((s.adv 1).rest.takeWhile Md.plainSign).length).say (s.pk 0 :: (s.adv 1).rest.takeWhile Md.plainSign)
theorem step_eq : s.step = stepFin (stepMid s) := rfl
set_option maxHeartbeats 1000000 in
theorem stepEnd_R {x y : Md.Lx} {R : List Ck} {es : List En} {cs2 : Nat × Nat → List Ck} (hu : Upd (LX id x g) (fun a => LX id x.flush a) cs cs2) (hk : ∀ a, KK (cs2 a) (LX id x.flush a :: R)) (hm : KK cs (LX id x g :: R)) (hsub : Dm.Sub es [(0, .ptr id 0)]) (he : stepFin x = y)
    (hb : x.inp.length ≤ 1000000000 ∧ x.pos ≤ 100000000000 ∧ x.text.length ≤ 90000000000 ∧ x.out.length ≤ 1000000000) :
    RR D [It.code stepEnd] ⟨151, es, [], none⟩ cs (Fin D (fun v cs' => Hold (∃ a, v = .tup [] ∧ LX id y a :: R = cs')) []) := by
  refine RR.weak _ ?_ hsub
  subst he
  dsimp only [ents]
  have hP : ∀ a, x.out = [] ∧ x.text ≠ [] ∧ (x.pk 0 = 60 ∨ x.pk 0 = -1) → Pst (fun cs' => Hold (∃ a, DV.tup [] = .tup [] ∧ LX id (stepFin x) a :: R = cs')) (cs2 a) := fun a h => by
    rw [stepFin, if_pos h]; exact Pst.mk (.mk ⟨a, rfl, rfl⟩) (hk a)
  have hN : ¬(x.out = [] ∧ x.text ≠ [] ∧ (x.pk 0 = 60 ∨ x.pk 0 = -1)) → Pst (fun cs' => Hold (∃ a, DV.tup [] = .tup [] ∧ LX id (stepFin x) a :: R = cs')) cs := fun h => by
    rw [stepFin, if_neg h]; exact Pst.mk (.mk ⟨g, rfl, rfl⟩) hm
  have hme : Me (LX id x g) cs := Me.mem' hu.mem'
  unfold stepEnd
  dsimp only [c_lex_Lexer_step]
  repeat' first | (show LD _ _ _ _; first | exact LX.ldText hme) | (apply RR.lxOut; exact rfl; exact rfl; exact rfl; exact hme; refine fun _ => ?_) | (show FC _ _ _ _ _; first | exact peek0_F hme ⟨hb.1, hb.2.1⟩ | exact flush_F hu hb.2.2) | (refine fun (hc : _ = _) => ?_; (try simp only [BB] at hc); (try (first | contradiction | (exfalso; omega)))) | exact arI | refine Pst.mk ⟨?_, rfl⟩ (by (repeat' constructor); first | done | fail) | constructor | (refine fun _ _ (hq : Hold _) => ?_; replace hq := hq.out; obtain ⟨_, rfl, rfl⟩ := hq) | (refine fun _ _ (hq : Hold _) => ?_; replace hq := hq.out; obtain ⟨_, _, rfl, rfl⟩ := hq) | rintro _ _ ⟨rfl, rfl⟩ | rintro _ _ ⟨_, rfl, rfl⟩ | rintro _ _ ⟨_, _, rfl, rfl⟩ | (refine fun (hc : _ = _) => ?_; (try simp only [BB] at hc)) | refine fun (_ : Nat) => ?_ | refine fun (_ : _ ≤ _) => ?_ | refine fun (_ : _ < _) => ?_
  all_goals
    have hl : ∀ l : { l : List (Md.Tok × Nat) // l.map Prod.fst = x.out }, (l.1.length : Int) = x.out.length := fun l => by have := congrArg List.length l.2; rw [List.length_map] at this; omega
    have hO : x.out = [] ↔ x.out.length = 0 := List.length_eq_zero_iff.symm
    have hT : x.text = [] ↔ x.text.length = 0 := List.length_eq_zero_iff.symm
  · rename_i l _ _ _
    have := hl l
    exact hP _ ⟨hO.2 (by omega), fun h => by have := hT.1 h; omega, hc.2⟩
  · rename_i l _ _
    have := hl l
    exact hN fun h => by
      have h1 := hO.1 h.1
      have h2 : x.text.length ≠ 0 := fun e => h.2.1 (hT.2 e)
      have h3 := hc ⟨by omega, by omega⟩
      exact h.2.2.elim h3.1 h3.2
  · rename_i l _ _ _
    have := hl l
    exact hP _ ⟨hO.2 (by omega), fun h => by have := hT.1 h; omega, .inl (hc.2.resolve_right (fun h => h))⟩
  · rename_i l h5 _
    have := hl l
    exact hN fun h => by
      have h1 := hO.1 h.1
      have h2 : x.text.length ≠ 0 := fun e => h.2.1 (hT.2 e)
      exact h5 (by omega) (by omega)
theorem plain_cons {r : Int} {l : List Int} : (r :: l).takeWhile Md.plainSign = if r = 38 ∨ r = 60 ∨ r = 0 then [] else r :: l.takeWhile Md.plainSign := by
  simp only [List.takeWhile_cons, Md.plainSign]
  by_cases h1 : r = 38
  · simp [h1]
  · by_cases h2 : r = 60
    · simp [h2]
    · by_cases h3 : r = 0
      · simp [h3]
      · simp [h1, h2, h3]
def stepA : DC := match c_lex_Lexer_step.body with
  | .seq a (.seq _ _) => a
  | _ => .skip
def stepB : DC := match c_lex_Lexer_step.body with
  | .seq _ (.seq b _) => b
  | _ => .skip
attribute [local irreducible] stepEnd
set_option maxHeartbeats 1000000 in
theorem step_F {cs2 : Nat × Nat → List Ck} (hu : Upd (LX id s g) (fun a => LX id s.step a) cs cs2) (hb : MB s) (ht : s.text.length ≤ 50000000000 ∧ s.out.length ≤ 1000) : F D 55 [.ptr id 0] cs (fun v cs' => Hold (∃ a, v = .tup [] ∧ cs2 a = cs')) := by
  rw [step_eq] at hu
  refine F.atG hu fun R => F.of (body := .seq stepA (.seq stepB stepEnd)) rfl (by with_unfolding_all rfl) rfl ?_
  dsimp only [stepA, stepB, c_lex_Lexer_step]
  have m1 : s.pk 0 ≠ -1 → MB (s.adv 1) := fun h => hb.adv (n := 1) (in_adv1 h)
  have mf : s.pk 0 ≠ -1 → MB (s.adv 1).flush := fun h => (m1 h).flush (Nat.le_trans ht.2 (by decide))
  have tf : (s.adv 1).flush.text.length ≤ 60000000000 ∧ (s.adv 1).flush.out.length ≤ 900000 := ⟨by rw [flush_text]; simp, by
    have := flush_out (s := s.adv 1)
    have h2 : (s.adv 1).out = s.out := rfl
    rw [h2] at this; omega⟩
  have ew : (s.adv 1).way = s.way := rfl
  have hbt := hb.text
  have hbo := hb.out
  have hbl := hb.len
  have hbp := hb.pos
  repeat' first | (show LD _ _ _ _; first | exact LX.ldPos (by (repeat' constructor); first | done | fail) | exact LX.ldWay (by (repeat' constructor); first | done | fail) | exact LX.ldLast (by (repeat' constructor); first | done | fail) | exact LX.ldRoom (by (repeat' constructor); first | done | fail) | exact LX.ldDone (by (repeat' constructor); first | done | fail) | exact LX.ldText (by (repeat' constructor); first | done | fail)) | (apply RR.lxIn; exact rfl; exact rfl; exact rfl; exact (by (repeat' constructor); first | done | fail); refine fun _ => ?_) | (apply RR.lxOut; exact rfl; exact rfl; exact rfl; exact (by (repeat' constructor); first | done | fail); refine fun _ => ?_) | (apply RR.storeS; exact rfl; exact rfl; first | exact LX.stPos 1 rfl (by (repeat' constructor); first | done | fail) | exact LX.stPos 2 rfl (by (repeat' constructor); first | done | fail) | exact LX.stPos 3 rfl (by (repeat' constructor); first | done | fail) | exact LX.stPos 6 rfl (by (repeat' constructor); first | done | fail) | exact LX.stPos 7 rfl (by (repeat' constructor); first | done | fail) | exact LX.stPos _ rfl (by (repeat' constructor); first | done | fail) | exact LX.stPos2 1 _ (by (repeat' constructor); first | done | fail) | exact LX.stPos2 2 _ (by (repeat' constructor); first | done | fail) | exact LX.stWay (by (repeat' constructor); first | done | fail) | exact LX.stLast (by (repeat' constructor); first | done | fail) | exact LX.stRoom (by (repeat' constructor); first | done | fail) | exact LX.stDone (by (repeat' constructor); first | done | fail); exact rfl) | (show FC _ _ _ _ _; first | exact next_F (by (repeat' constructor); first | done | fail) (by exact hb.b2) | exact flush_F (by (repeat' constructor); first | done | fail) (by first | omega | ((simp only [Md.Lx.adv, Md.Lx.say, Md.Lx.clr, List.nil_append, List.length_append, List.length_cons, List.length_nil]); omega)) | exact reference_F (by (repeat' constructor); first | done | fail) (by first | omega | ((simp only [Md.Lx.adv, Md.Lx.say, Md.Lx.clr, List.nil_append, List.length_append, List.length_cons, List.length_nil]); omega)) | exact open_F (by (repeat' constructor); first | done | fail) (by exact mf (by omega)) | exact close_F (by (repeat' constructor); first | done | fail) (by exact mf (by omega)) | exact script_F (by (repeat' constructor); first | done | fail) (by exact mf (by omega)) (by exact tf) | exact say_F rfl (by (repeat' constructor); first | done | fail) (by (repeat' constructor); first | done | fail) (by first | omega | ((simp only [Md.Lx.adv, Md.Lx.say, Md.Lx.clr, List.nil_append, List.length_append, List.length_cons, List.length_nil]); omega))) | (refine fun _ _ (hq : Hold _) => ?_; replace hq := hq.out; obtain ⟨_, ⟨_, rfl⟩, rfl⟩ := hq) | (refine fun (hc : _ = _) => ?_; (try simp only [BB] at hc); (try (first | contradiction | (exfalso; omega)))) | (refine Arith.mk ?_; (try intro _); simp only [Md.Lx.adv, Md.Lx.say, Md.Lx.clr, List.nil_append, List.length_append, List.length_cons, List.length_nil]; omega) | exact arI | refine Pst.mk ⟨?_, rfl⟩ (by (repeat' constructor); first | done | fail) | constructor | (refine fun _ _ (hq : Hold _) => ?_; replace hq := hq.out; obtain ⟨_, rfl, rfl⟩ := hq) | (refine fun _ _ (hq : Hold _) => ?_; replace hq := hq.out; obtain ⟨_, _, rfl, rfl⟩ := hq) | rintro _ _ ⟨rfl, rfl⟩ | rintro _ _ ⟨_, rfl, rfl⟩ | rintro _ _ ⟨_, _, rfl, rfl⟩ | (refine fun (hc : _ = _) => ?_; (try simp only [BB] at hc)) | refine fun (_ : Nat) => ?_ | refine fun (_ : _ ≤ _) => ?_ | refine fun (_ : _ < _) => ?_
  · refine (stepEnd_R (by (repeat' constructor); first | done | fail) (fun _ => (by (repeat' constructor); first | done | fail)) (by (repeat' constructor); first | done | fail) (by exact ⟨rfl, trivial⟩) ?_ ?_).sound
    · rw [stepMid, if_pos (by omega)]
    · have h1 := flush_out (s := s.adv 1)
      have e : (s.adv 1).out = s.out := rfl
      rw [e] at h1
      show (s.adv 1).flush.inp.length ≤ _ ∧ (s.adv 1).flush.pos ≤ _ ∧ (s.adv 1).flush.text.length ≤ _ ∧ (s.adv 1).flush.out.length ≤ _
      rw [flush_inp, flush_pos, flush_text]
      exact ⟨hbl, by show s.pos + 1 ≤ _; omega, by simp, by omega⟩
  · refine (stepEnd_R (by (repeat' constructor); first | done | fail) (fun _ => (by (repeat' constructor); first | done | fail)) (by (repeat' constructor); first | done | fail) (by exact ⟨rfl, trivial⟩) ?_ ?_).sound
    · rw [stepMid, if_neg (fun h => by omega), if_pos (by omega)]
    · have h2 := refer_facts false (s.adv 1).rest
      have h3 := rest_len (s := s.adv 1)
      have h4 := filter_le (Md.refer false (s.adv 1).rest).1
      simp only [refA, Md.Lx.adv, Md.Lx.say, List.length_append] at h2 h3 h4 ⊢; omega
  · skip
    have hsd := Sd.fl (s := s) (Bd.open_ (mf (by omega)).pos (mf (by omega)).len)
    refine (stepEnd_R (by (repeat' constructor); first | done | fail) (fun _ => (by (repeat' constructor); first | done | fail)) (by (repeat' constructor); first | done | fail) (by exact ⟨rfl, trivial⟩) ?_ ?_).sound
    · rw [stepMid, if_neg (fun h => by omega), if_neg (fun h => by omega), if_pos (by omega)]
    · rw [hsd.inp]; have h1 := hsd.le; have h2 := hsd.text; have h3 := hsd.out; omega
  · skip
    have hsd := Sd.fl (s := s) (Bd.close (mf (by omega)).pos (mf (by omega)).len)
    refine (stepEnd_R (by (repeat' constructor); first | done | fail) (fun _ => (by (repeat' constructor); first | done | fail)) (by (repeat' constructor); first | done | fail) (by exact ⟨rfl, trivial⟩) ?_ ?_).sound
    · rw [stepMid, if_neg (fun h => by omega), if_neg (fun h => by omega), if_neg (fun h => by omega), if_pos (by omega)]
    · rw [hsd.inp]; have h1 := hsd.le; have h2 := hsd.text; have h3 := hsd.out; omega
  · skip
    have hsd := Sd.script (s := s) (in_pk (n := 0) (by omega)) hbl
    refine (stepEnd_R (by (repeat' constructor); first | done | fail) (fun _ => (by (repeat' constructor); first | done | fail)) (by (repeat' constructor); first | done | fail) (by exact ⟨rfl, trivial⟩) ?_ ?_).sound
    · rw [stepMid, if_neg (fun h => by omega), if_neg (fun h => by omega), if_neg (fun h => by omega), if_neg (fun h => by omega), if_pos (by omega)]
    · rw [hsd.inp]; have h1 := hsd.le; have h2 := hsd.text; have h3 := hsd.out; omega
  · skip
    refine (stepEnd_R (by (repeat' constructor); first | done | fail) (fun _ => (by (repeat' constructor); first | done | fail)) (by (repeat' constructor); first | done | fail) (by exact ⟨rfl, trivial⟩) ?_ ?_).sound
    · rw [stepMid, if_neg (fun h => by omega), if_neg (fun h => by omega), if_neg (fun h => by omega), if_neg (fun h => by omega), if_neg (fun h => by omega), if_pos (by omega)]
    · simp only [Md.Lx.adv, Md.Lx.say, List.length_append]; have := filter_le [0]; rw [List.length_cons, List.length_nil] at this; omega
  · skip
    refine (stepEnd_R (by (repeat' constructor); first | done | fail) (fun _ => (by (repeat' constructor); first | done | fail)) (by (repeat' constructor); first | done | fail) (by exact ⟨rfl, trivial⟩) ?_ ?_).sound
    · rw [stepMid, if_neg (fun h => by omega), if_neg (fun h => by omega), if_neg (fun h => by omega), if_neg (fun h => by omega), if_neg (fun h => by omega), if_neg (fun h => by omega), if_pos (by omega)]
    · simp only [Md.Lx.adv, Md.Lx.say, List.length_append]; have := filter_le [65533]; rw [List.length_cons, List.length_nil] at this; omega
  rename_i hA hB hC hD hE hF t0 _ tt0
  have h0 : s.pos + 0 < s.inp.length := in_pk (n := 0) (by omega)
  have hmid : stepMid s = ((s.adv 1).adv ((s.adv 1).rest.takeWhile Md.plainSign).length).say (s.pk 0 :: (s.adv 1).rest.takeWhile Md.plainSign) := by
    rw [stepMid, if_neg (fun h => by omega), if_neg (fun h => by omega), if_neg (fun h => by omega), if_neg (fun h => by omega), if_neg (fun h => by omega), if_neg (fun h => by omega), if_neg (fun h => by omega)]
  rw [hmid]
  refine RS.loopW (α := Nat × Nat × List Int) (fun a => [(0, .ptr id 0)]) (fun a => LX id ((s.adv a.1).say a.2.2) (g.1, a.2.1) :: R)
    (fun a => a.2.2 ++ (s.adv a.1).rest.takeWhile Md.plainSign = s.pk 0 :: (s.adv 1).rest.takeWhile Md.plainSign ∧ a.2.2.length = a.1 ∧ s.pos + a.1 ≤ s.inp.length) (fun a => s.inp.length - (s.pos + a.1)) (1, tt0, [s.pk 0]) ⟨rfl, rfl, by dsimp only; omega⟩ ⟨rfl, trivial⟩ (.drop .refl) ?_
  clear hA hB hC hD hE hF hc m1 mf tf hmid
  have hn := hb.nn
  rintro ⟨i, tt, acc⟩ ⟨k1, k2, k3⟩ ih
  dsimp only [ents] at *
  (have hst := fun h => rest_adv_cons (s := s) (i := i) h; have hnil := fun h => rest_adv_nil (s := s) (i := i) h; have hpn := fun h => pk_out (s := s) (i := i) h; have hpi := fun h => pk_in (s := s) (i := i) hn h)
  have hfl := filter_le acc
  repeat' first | (show FC _ _ _ _ _; first | exact next_F (by (repeat' constructor); first | done | fail) (by first | omega | ((simp only [Md.Lx.adv, Md.Lx.say, Md.Lx.clr, List.nil_append, List.length_append, List.length_cons, List.length_nil]); omega)) | exact peek0_F (by (repeat' constructor); first | done | fail) (by first | omega | ((simp only [Md.Lx.adv, Md.Lx.say, Md.Lx.clr, List.nil_append, List.length_append, List.length_cons, List.length_nil]); omega)) | exact say_F rfl (by (repeat' constructor); first | done | fail) (by (repeat' constructor); first | done | fail) (by first | omega | ((simp only [Md.Lx.adv, Md.Lx.say, Md.Lx.clr, List.nil_append, List.length_append, List.length_cons, List.length_nil]); omega))) | (refine fun (hc : _ = _) => ?_; (try simp only [BB] at hc); (try (first | contradiction | (exfalso; omega)))) | exact arI | refine Pst.mk ⟨?_, rfl⟩ (by (repeat' constructor); first | done | fail) | constructor | (refine fun _ _ (hq : Hold _) => ?_; replace hq := hq.out; obtain ⟨_, rfl, rfl⟩ := hq) | (refine fun _ _ (hq : Hold _) => ?_; replace hq := hq.out; obtain ⟨_, _, rfl, rfl⟩ := hq) | rintro _ _ ⟨rfl, rfl⟩ | rintro _ _ ⟨_, rfl, rfl⟩ | rintro _ _ ⟨_, _, rfl, rfl⟩ | (refine fun (hc : _ = _) => ?_; (try simp only [BB] at hc)) | refine fun (_ : Nat) => ?_ | refine fun (_ : _ ≤ _) => ?_ | refine fun (_ : _ < _) => ?_
  all_goals (try simp only [pk_adv, pk_say, Nat.add_zero, adv_adv, say_say, say_adv, pk_clr, adv_clr] at *)
  · have hend : (s.adv i).rest.takeWhile Md.plainSign = [] := by
      by_cases h : s.pos + i < s.inp.length
      · rw [hst h, plain_cons, if_pos]
        have := hpi h
        omega
      · rw [hnil (by omega)]; rfl
    rw [hend, List.append_nil] at k1
    refine (stepEnd_R (by (repeat' constructor); first | done | fail) (fun _ => (by (repeat' constructor); first | done | fail)) (by (repeat' constructor); first | done | fail) (by exact ⟨rfl, trivial⟩) ?_ ?_).sound
    · rw [← k1]
      have e : 1 + ((s.adv 1).rest.takeWhile Md.plainSign).length = i := by rw [← k2, k1, List.length_cons]; omega
      rw [e]
    · simp only [Md.Lx.adv, Md.Lx.say, List.length_append]; omega
  · have hlt : s.pos + i < s.inp.length := by by_cases h : s.pos + i < s.inp.length; exact h; have := hpn (by omega); omega
    rw [hst hlt, plain_cons, if_neg (by omega)] at k1
    exact ih _ _ (i + 1, _, acc ++ [s.pk i]) ⟨by rw [← k1]; simp, by simp [k2], by dsimp only; omega⟩ (by dsimp only; omega) ⟨rfl, trivial⟩ (by (repeat' constructor); first | done | fail)
end Go.Proofs.YticnenofiibpgaaDoor.Code
/- What the lexer's Next does; its tokens gone through. -/
namespace Go.Proofs.YticnenofiibpgaaDoor.Code
open Go.Dm Go.Dm.C
set_option linter.unusedSimpArgs false
set_option linter.unusedVariables false
set_option linter.unnecessarySimpa false
set_option maxRecDepth 10000
attribute [local irreducible] Go.Dm.F Go.Dm.RS Go.Dm.Y Go.Dm.FD Go.Dm.FZ1 Go.Dm.Hold
variable {id : Nat} {s : Md.Lx} {g : Nat × Nat} {cs : List Ck}
/-- What holds of a lexer between its tokens. -/
structure NI (s : Md.Lx) : Prop where
  len : s.inp.length ≤ 1000000000
  nn : ∀ r ∈ s.inp, 0 ≤ r
  pos : s.pos ≤ s.inp.length + 1
  pos2 : s.done = false → s.pos ≤ s.inp.length
  text : s.text.length ≤ 10 * s.pos
  out : s.out.length ≤ 100
  last : s.last.length ≤ 10000000000
theorem NI.mb (h : NI s) (hd : s.done = false) : MB s := ⟨h.len, h.pos2 hd, by have := h.text; have := h.pos; have := h.len; omega, by have := h.out; omega, h.last, h.nn⟩
theorem stepMid_sd (h : NI s) (hd : s.done = false) : Sd s (stepMid s) := by
  have mb := h.mb hd
  unfold stepMid
  split
  · refine ⟨flush_inp, flush_room, ?_, ?_, (fun h => (by cases h)), ?_, ?_, (fun hl => ?_)⟩
    · show s.pos < (s.adv 1).flush.pos; rw [flush_pos]; exact Nat.lt_succ_self _
    · show (s.adv 1).flush.pos ≤ _; rw [flush_pos]; have := mb.pos; show s.pos + 1 ≤ _; omega
    · show (s.adv 1).flush.text.length ≤ _; rw [flush_text]; simp
    · have := flush_out (s := s.adv 1); show (s.adv 1).flush.out.length ≤ _
      have e : (s.adv 1).out = s.out := rfl
      rw [e] at this; omega
    · show (s.adv 1).flush.last.length ≤ _; rw [flush_last]; exact hl
  · rename_i h1
    have hp : s.pos + 0 < s.inp.length := in_pk (n := 0) (by omega)
    have mf : MB (s.adv 1).flush := (mb.adv (n := 1) (in_adv1 (by omega))).flush (by have := h.out; show s.out.length ≤ _; omega)
    split
    · have h2 := refer_facts false (s.adv 1).rest
      have h3 := rest_len (s := s.adv 1)
      have e1 : (s.adv 1).inp = s.inp := rfl
      have e2 : (s.adv 1).pos = s.pos + 1 := rfl
      rw [e1, e2] at h3
      have h4 : Bd (s.adv 1) (refA (s.adv 1) false) := Bd.say (by rw [e1, e2]; omega) (by omega)
      exact Sd.of h4
    · split
      · exact Sd.fl (Bd.open_ mf.pos mf.len)
      · split
        · exact Sd.fl (Bd.close mf.pos mf.len)
        · split
          · exact Sd.script hp h.len
          · have hs : ∀ r : Int, Sd s ((s.adv 1).say [r]) := fun r => Sd.of (Bd.say (s := s.adv 1) (n := 0) (by show s.pos + 1 + 0 ≤ s.inp.length; omega) (by simp))
            split
            · exact hs 0
            · split
              · exact hs 65533
              · have hw : ((s.adv 1).rest.takeWhile Md.plainSign).length ≤ (s.adv 1).rest.length := (List.takeWhile_sublist _).length_le
                rw [rest_len] at hw
                have e1 : (s.adv 1).inp = s.inp := rfl
                have e2 : (s.adv 1).pos = s.pos + 1 := rfl
                rw [e1, e2] at hw
                exact Sd.of (Bd.say (by rw [e1, e2]; omega) (by simp; omega))
theorem step_sd (h : NI s) (hd : s.done = false) : Sd s s.step := by
  have h1 := stepMid_sd h hd
  rw [step_eq, stepFin]
  split
  · rename_i hx
    refine ⟨by rw [flush_inp, h1.inp], by rw [flush_room, h1.room], by rw [flush_pos]; exact h1.gt, by rw [flush_pos]; exact h1.le, fun h => by rw [flush_pos]; exact h1.le2 (by rw [flush_done] at h; exact h), by rw [flush_text]; simp, ?_, fun h => by rw [flush_last]; exact h1.last h⟩
    have := flush_out (s := stepMid s)
    rw [hx.1] at this; simp at this; omega
  · exact h1
theorem NI.step (h : NI s) (hd : s.done = false) (ho : s.out = []) : NI s.step := by
  have h1 := step_sd h hd
  have h2 := h1.out
  have h3 := h1.text
  have h4 := h.text
  have h5 := h1.gt
  rw [ho, List.length_nil] at h2
  exact ⟨by rw [h1.inp]; exact h.len, by rw [h1.inp]; exact h.nn, by rw [h1.inp]; exact h1.le, fun hd => by rw [h1.inp]; exact h1.le2 hd, by omega, by omega, h1.last h.last⟩
theorem step_left (h : NI s) (hd : s.done = false) : s.step.left < s.left := by
  have h1 := step_sd h hd
  have := h1.gt
  have := h.pos2 hd
  unfold Md.Lx.left
  rw [h1.inp]; omega
/-- On to where a token is ready. -/
def pull (s : Md.Lx) : Md.Lx := if h : s.out = [] ∧ s.done = false ∧ s.step.left < s.left then pull s.step else s
  termination_by s.left
  decreasing_by exact h.2.2
theorem pull_step (h : NI s) (hd : s.done = false) (ho : s.out = []) : pull s = pull s.step := by
  rw [pull, dif_pos ⟨ho, hd, step_left h hd⟩]
theorem pull_stop (h : s.out ≠ [] ∨ s.done = true) : pull s = s := by
  rw [pull, dif_neg (fun hx => h.elim (fun h => h hx.1) (fun h => by rw [hx.2.1] at h; cases h))]
def nextVal (x : Md.Lx) (tag : Nat) : DV := match x.out with
  | [] => .tup [encT (Md.Tok.zero, 0), .bool false]
  | t :: _ => .tup [encT (t, tag), .bool true]
def nextSt (x : Md.Lx) : Md.Lx := { x with out := x.out.tail }
theorem next1_F {R : List Ck} (hN : NI s) : F D 41 [.ptr id 0] (LX id s g :: R) (fun v cs' => Hold (∃ a tag, v = nextVal (pull s) tag ∧ LX id (nextSt (pull s)) a :: R = cs')) := by
  refine F.of rfl rfl rfl ?_
  repeat' first | exact arI | refine Pst.mk ⟨?_, rfl⟩ (by (repeat' constructor); first | done | fail) | constructor | (refine fun _ _ (hq : Hold _) => ?_; replace hq := hq.out; obtain ⟨_, rfl, rfl⟩ := hq) | (refine fun _ _ (hq : Hold _) => ?_; replace hq := hq.out; obtain ⟨_, _, rfl, rfl⟩ := hq) | rintro _ _ ⟨rfl, rfl⟩ | rintro _ _ ⟨_, rfl, rfl⟩ | rintro _ _ ⟨_, _, rfl, rfl⟩ | (refine fun (hc : _ = _) => ?_; (try simp only [BB] at hc)) | refine fun (_ : Nat) => ?_ | refine fun (_ : _ ≤ _) => ?_ | refine fun (_ : _ < _) => ?_
  rename_i r hr
  refine RS.loopW (α := Md.Lx × (Nat × Nat)) (fun a => [(0, .ptr id 0), (2, .ptr r 0), (3, .bool false)]) (fun a => .obj r (.cells [.int .i64 0, .str [], .lst 0 0 [], .bool false, .str [], .str [], .str [], .bool false, .bool false, .bool false] none) :: LX id a.1 a.2 :: R)
    (fun a => NI a.1 ∧ pull a.1 = pull s) (fun a => a.1.left) (s, g) ⟨hN, rfl⟩ ⟨rfl, rfl, rfl, trivial⟩ .refl ?_
  rintro ⟨x, g⟩ ⟨h1, h2⟩ ih
  dsimp only [ents] at *
  have hl0 : ∀ l : { l : List (Md.Tok × Nat) // l.map Prod.fst = x.out }, l.1.length = x.out.length := fun l => by have := congrArg List.length l.2; rwa [List.length_map] at this
  have ho : x.out.length = 0 → x.out = [] := List.eq_nil_of_length_eq_zero
  have hmb := fun h => h1.mb h
  have hxo := h1.out
  have hxt := h1.text
  have hxl := h1.len
  have hxp := h1.pos
  repeat' first | (show LD _ _ _ _; first | exact LX.ldPos (by (repeat' constructor); first | done | fail) | exact LX.ldWay (by (repeat' constructor); first | done | fail) | exact LX.ldLast (by (repeat' constructor); first | done | fail) | exact LX.ldRoom (by (repeat' constructor); first | done | fail) | exact LX.ldDone (by (repeat' constructor); first | done | fail) | exact LX.ldText (by (repeat' constructor); first | done | fail)) | (apply RR.lxIn; exact rfl; exact rfl; exact rfl; exact (by (repeat' constructor); first | done | fail); refine fun _ => ?_) | (apply RR.lxOut; exact rfl; exact rfl; exact rfl; exact (by (repeat' constructor); first | done | fail); refine fun _ => ?_) | (show FC _ _ _ _ _; first | exact step_F (by (repeat' constructor); first | done | fail) (by exact hmb (by assumption)) (by omega)) | (apply RR.storeS; exact rfl; exact rfl; exact LX.stOut (by (repeat' constructor); first | done | fail) (by rw [List.length_drop, hl0]; omega); exact rfl) | (refine fun (hc : _ = _) => ?_; (try simp only [BB] at hc); (try (first | contradiction | (exfalso; omega)))) | exact arI | refine Pst.mk ⟨?_, rfl⟩ (by (repeat' constructor); first | done | fail) | constructor | (refine fun _ _ (hq : Hold _) => ?_; replace hq := hq.out; obtain ⟨_, rfl, rfl⟩ := hq) | (refine fun _ _ (hq : Hold _) => ?_; replace hq := hq.out; obtain ⟨_, _, rfl, rfl⟩ := hq) | rintro _ _ ⟨rfl, rfl⟩ | rintro _ _ ⟨_, rfl, rfl⟩ | rintro _ _ ⟨_, _, rfl, rfl⟩ | (refine fun (hc : _ = _) => ?_; (try simp only [BB] at hc)) | refine fun (_ : Nat) => ?_ | refine fun (_ : _ ≤ _) => ?_ | refine fun (_ : _ < _) => ?_
  · rename_i l hlc
    have hx := ho (by have := hl0 l; omega)
    have e : nextSt x = x := by unfold nextSt; cases x; simp_all
    rw [← h2, pull_stop (.inr hc), e]
    exact Pst.mk (.mk ⟨g, 0, by rw [nextVal, hx]; rfl, rfl⟩) (by (repeat' constructor); first | done | fail)
  · rename_i l hlc _
    have hx := ho (by have := hl0 l; omega)
    exact ih _ _ (x.step, _) ⟨h1.step hc hx, by rw [← pull_step h1 hc hx]; exact h2⟩ (step_left h1 hc) ⟨rfl, rfl, rfl, trivial⟩ (by (repeat' constructor); first | done | fail)
  · rename_i l1 l2
    have := hl0 l1; have := hl0 l2
    exact Arith.mk fun _ => by omega
  · rename_i l1 l2 _ _ l3
    have := hl0 l1; have := hl0 l3
    exact Arith.mk fun _ => by omega
  · rename_i l1 l2 _ _ l3
    have h1l := hl0 l1
    have hne : x.out ≠ [] := fun e => by
      have h8 : x.out.length = 0 := by rw [e]; rfl
      omega
    obtain ⟨v2, hv2⟩ := l2
    obtain ⟨v3, hv3⟩ := l3
    clear hl0 h1l hc
    dsimp only
    rw [← h2, pull_stop (.inl hne)]
    obtain ⟨t, o, hto⟩ : ∃ t o, x.out = t :: o := by
      cases h : x.out with
      | nil => exact absurd h hne
      | cons t o => exact ⟨t, o, rfl⟩
    have e2 : (v2.getD (Int.toNat 0) default).1 = t := by
      rw [hto] at hv2
      cases v2 with
      | nil => cases hv2
      | cons a b => simp only [List.map_cons, List.cons.injEq] at hv2; exact hv2.1
    have e3 : (v3.drop (Int.toNat 1)).map Prod.fst = x.out.tail := by
      rw [List.map_drop, hv3, hto]; rfl
    unfold nextSt
    rw [← e3]
    refine Pst.mk (.mk ⟨g, (v2.getD (Int.toNat 0) default).2, ?_, rfl⟩) (by (repeat' constructor); first | done | fail)
    rw [nextVal, hto, ← e2]; rfl
theorem next_NI (h : NI s) : NI (pull s) ∧ ((pull s).out = [] → (pull s).done = true) := by
  suffices H : ∀ n (s : Md.Lx), s.left ≤ n → NI s → NI (pull s) ∧ ((pull s).out = [] → (pull s).done = true) from H _ s (Nat.le_refl _) h
  intro n
  induction n with
  | zero =>
    intro s hn h
    by_cases hx : s.out = [] ∧ s.done = false
    · have := step_left h hx.2; omega
    · have e : pull s = s := pull_stop (by by_cases h1 : s.out = []; (right; cases h2 : s.done; (exact absurd ⟨h1, h2⟩ hx); rfl); exact .inl h1)
      rw [e]
      refine ⟨h, fun h1 => ?_⟩
      cases h2 : s.done
      · exact absurd ⟨h1, h2⟩ hx
      · rfl
  | succ n ih =>
    intro s hn h
    by_cases hx : s.out = [] ∧ s.done = false
    · have := step_left h hx.2
      rw [pull_step h hx.2 hx.1]
      exact ih s.step (by omega) (h.step hx.2 hx.1)
    · have e : pull s = s := pull_stop (by by_cases h1 : s.out = []; (right; cases h2 : s.done; (exact absurd ⟨h1, h2⟩ hx); rfl); exact .inl h1)
      rw [e]
      refine ⟨h, fun h1 => ?_⟩
      cases h2 : s.done
      · exact absurd ⟨h1, h2⟩ hx
      · rfl
end Go.Proofs.YticnenofiibpgaaDoor.Code
/- Rounds from a heap of which less is asked. -/
namespace Go.Dm
variable {D : DProg}
theorem Y.from {l : Nat} {args : List DV} {cs cs2 : List Ck} {P : Bool → List Ck → Prop} (hs : ∀ h, Sat h cs → Sat h cs2) (hf : Y D l args cs2 P) : Y D l args cs P := fun h hh => hf h (hs h hh)
end Go.Dm
/- The lexer's tokens gone through; New, Way, Sections. -/
namespace Go.Proofs.YticnenofiibpgaaDoor.Code
open Go.Dm Go.Dm.C
set_option linter.unusedSimpArgs false
set_option linter.unusedVariables false
set_option linter.unnecessarySimpa false
set_option maxRecDepth 10000
attribute [local irreducible] Go.Dm.F Go.Dm.RS Go.Dm.Y Go.Dm.FD Go.Dm.FZ1 Go.Dm.Hold
variable {id : Nat} {s : Md.Lx} {g : Nat × Nat} {cs : List Ck}
theorem toks_done (ho : s.out = []) (hd : s.done = true) : s.toks = [] := by rw [Md.Lx.toks, ho, if_pos hd]; rfl
theorem clearOut (ho : s.out = []) : ({ s with out := [] } : Md.Lx) = s := by cases s; simp_all
theorem toks_step (h : NI s) (hd : s.done = false) (ho : s.out = []) : s.toks = s.step.toks := by
  have hl := step_left h hd
  conv => lhs; rw [Md.Lx.toks, ho, if_neg (by rw [hd]; simp)]
  rw [clearOut ho, dif_pos hl]; rfl
theorem toks_cons {t : Md.Tok} {o : List Md.Tok} (ho : s.out = t :: o) : s.toks = t :: ({ s with out := o } : Md.Lx).toks := by
  conv => lhs; rw [Md.Lx.toks, ho]
  conv => rhs; rw [Md.Lx.toks]
  rfl
theorem toks_pull (h : NI s) : s.toks = (pull s).toks := by
  suffices H : ∀ n (s : Md.Lx), s.left ≤ n → NI s → s.toks = (pull s).toks from H _ s (Nat.le_refl _) h
  intro n
  induction n with
  | zero =>
    intro s hn h
    by_cases hx : s.out = [] ∧ s.done = false
    · have := step_left h hx.2; omega
    · rw [pull_stop (by by_cases h1 : s.out = []; (right; cases h2 : s.done; (exact absurd ⟨h1, h2⟩ hx); rfl); exact .inl h1)]
  | succ n ih =>
    intro s hn h
    by_cases hx : s.out = [] ∧ s.done = false
    · have := step_left h hx.2
      rw [pull_step h hx.2 hx.1, toks_step h hx.2 hx.1]
      exact ih s.step (by omega) (h.step hx.2 hx.1)
    · rw [pull_stop (by by_cases h1 : s.out = []; (right; cases h2 : s.done; (exact absurd ⟨h1, h2⟩ hx); rfl); exact .inl h1)]
theorem NI.next (h : NI s) : NI (nextSt (pull s)) := by
  have h1 := (next_NI h).1
  exact ⟨h1.len, h1.nn, h1.pos, h1.pos2, h1.text, by show (pull s).out.tail.length ≤ 100; rw [List.length_tail]; have := h1.out; omega, h1.last⟩
/-- The tokens, gone through. -/
theorem tokens_it {l q : Nat} (I : List Md.Tok → List Ck → Prop) (E : List Ck → Prop)
    (hy : ∀ t tag ts s g cs, I (t :: ts) cs → Y D l [encT (t, tag)] (.obj q (.cells [.ptr id 0] none) :: LX id s g :: cs) (fun c cs' => Hold (∃ cs1, .obj q (.cells [.ptr id 0] none) :: LX id s g :: cs1 = cs' ∧ ((c = true ∧ I ts cs1) ∨ (c = false ∧ E cs1)))))
    (hN : NI s) (h0 : I s.toks cs) :
    F D 40 [.fn (.yield l) [] [], .ptr q 0] (.obj q (.cells [.ptr id 0] none) :: LX id s g :: cs) (fun v cs' => Hold (∃ s' g' cs1, .obj q (.cells [.ptr id 0] none) :: LX id s' g' :: cs1 = cs' ∧ (I [] cs1 ∨ E cs1))) := by
  refine F.of rfl rfl rfl ?_
  repeat' first | exact arI | refine Pst.mk ⟨?_, rfl⟩ (by (repeat' constructor); first | done | fail) | constructor | (refine fun _ _ (hq : Hold _) => ?_; replace hq := hq.out; obtain ⟨_, rfl, rfl⟩ := hq) | (refine fun _ _ (hq : Hold _) => ?_; replace hq := hq.out; obtain ⟨_, _, rfl, rfl⟩ := hq) | rintro _ _ ⟨rfl, rfl⟩ | rintro _ _ ⟨_, rfl, rfl⟩ | rintro _ _ ⟨_, _, rfl, rfl⟩ | (refine fun (hc : _ = _) => ?_; (try simp only [BB] at hc)) | refine fun (_ : Nat) => ?_ | refine fun (_ : _ ≤ _) => ?_ | refine fun (_ : _ < _) => ?_
  refine RS.loopW (α := Md.Lx × (Nat × Nat) × List Ck) (fun a => [(0, .fn (.yield l) [] []), (1, .ptr q 0)]) (fun a => .obj q (.cells [.ptr id 0] none) :: LX id a.1 a.2.1 :: a.2.2)
    (fun a => NI a.1 ∧ I a.1.toks a.2.2) (fun a => a.1.toks.length) (s, g, cs) ⟨hN, h0⟩ ⟨rfl, rfl, trivial⟩ .refl ?_
  rintro ⟨x, g, cs⟩ ⟨h1, h2⟩ ih
  dsimp only [ents] at *
  rw [toks_pull h1] at h2 ih
  cases hp : (pull x).out with
  | nil =>
    have ht := toks_done hp ((next_NI h1).2 hp)
    rw [ht] at h2
    repeat' first | (show FC _ _ _ _ _; exact F.perm (.swap ..) (next1_F h1)) | (refine fun _ _ (hq : Hold _) => ?_; replace hq := hq.out; obtain ⟨g2, tag, rfl, rfl⟩ := hq; rw [nextVal, hp]) | (refine fun (hc : _ = _) => ?_; (try simp only [BB] at hc); (try (first | contradiction | (exfalso; omega)))) | exact arI | refine Pst.mk ⟨?_, rfl⟩ (by (repeat' constructor); first | done | fail) | constructor | (refine fun _ _ (hq : Hold _) => ?_; replace hq := hq.out; obtain ⟨_, rfl, rfl⟩ := hq) | (refine fun _ _ (hq : Hold _) => ?_; replace hq := hq.out; obtain ⟨_, _, rfl, rfl⟩ := hq) | rintro _ _ ⟨rfl, rfl⟩ | rintro _ _ ⟨_, rfl, rfl⟩ | rintro _ _ ⟨_, _, rfl, rfl⟩ | (refine fun (hc : _ = _) => ?_; (try simp only [BB] at hc)) | refine fun (_ : Nat) => ?_ | refine fun (_ : _ ≤ _) => ?_ | refine fun (_ : _ < _) => ?_
    exact Pst.mkP (.mk ⟨_, g2, cs, rfl, .inl h2⟩) (.drop .refl) (.swap ..)
  | cons t o =>
    have ht := toks_cons hp
    rw [ht] at h2 ih
    have hn : ({ pull x with out := o } : Md.Lx) = nextSt (pull x) := by unfold nextSt; rw [hp]; rfl
    rw [hn] at h2 ih
    repeat' first | (show FC _ _ _ _ _; first | exact F.perm (.swap ..) (next1_F h1) | exact FC.yield (Y.from (fun h hs => (hs.sub (List.sublist_cons_self ..)).perm (.swap ..)) (hy t _ _ (nextSt (pull x)) _ cs h2))) | (refine fun _ _ (hq : Hold _) => ?_; replace hq := hq.out; obtain ⟨g2, tag, rfl, rfl⟩ := hq; rw [nextVal, hp]) | (refine fun _ _ (hq : YPost _ _ _) => ?_; obtain ⟨hq⟩ := hq; replace hq := hq.out; obtain ⟨cs1, rfl, hq⟩ := hq) | (refine fun (hc : _ = _) => ?_; (try simp only [BB] at hc); (try (first | contradiction | (exfalso; omega)))) | exact arI | refine Pst.mk ⟨?_, rfl⟩ (by (repeat' constructor); first | done | fail) | constructor | (refine fun _ _ (hq : Hold _) => ?_; replace hq := hq.out; obtain ⟨_, rfl, rfl⟩ := hq) | (refine fun _ _ (hq : Hold _) => ?_; replace hq := hq.out; obtain ⟨_, _, rfl, rfl⟩ := hq) | rintro _ _ ⟨rfl, rfl⟩ | rintro _ _ ⟨_, rfl, rfl⟩ | rintro _ _ ⟨_, _, rfl, rfl⟩ | (refine fun (hc : _ = _) => ?_; (try simp only [BB] at hc)) | refine fun (_ : Nat) => ?_ | refine fun (_ : _ ≤ _) => ?_ | refine fun (_ : _ < _) => ?_
    · have hq' := hq.resolve_left (fun h => by rw [h.1] at hc; simp at hc)
      exact Pst.mk (.mk ⟨_, g2, cs1, rfl, .inr hq'.2⟩) .refl
    · have hq' := hq.resolve_right (fun h => by rw [h.1] at hc; cases hc)
      exact ih _ _ (nextSt (pull x), g2, cs1) ⟨h1.next, hq'.2⟩ (by simp) ⟨rfl, rfl, trivial⟩ .refl
section
variable {R : List Ck}
theorem tokens_F : F D 24 [.ptr id 0] R (fun v cs' => Hold (∃ q, v = .fn (.func 40) [] [.ptr q 0] ∧ .obj q (.cells [.ptr id 0] none) :: R = cs')) := by
  refine F.of rfl rfl rfl ?_
  repeat' first | exact arI | refine Pst.mk ⟨?_, rfl⟩ (by (repeat' constructor); first | done | fail) | constructor | (refine fun _ _ (hq : Hold _) => ?_; replace hq := hq.out; obtain ⟨_, rfl, rfl⟩ := hq) | (refine fun _ _ (hq : Hold _) => ?_; replace hq := hq.out; obtain ⟨_, _, rfl, rfl⟩ := hq) | rintro _ _ ⟨rfl, rfl⟩ | rintro _ _ ⟨_, rfl, rfl⟩ | rintro _ _ ⟨_, _, rfl, rfl⟩ | (refine fun (hc : _ = _) => ?_; (try simp only [BB] at hc)) | refine fun (_ : Nat) => ?_ | refine fun (_ : _ ≤ _) => ?_ | refine fun (_ : _ < _) => ?_
  exact Pst.mk (.mk ⟨_, rfl, rfl⟩) (by (repeat' constructor); first | done | fail)
theorem way_F {w : Int} {n : Md.Str} {cs2 : List Ck} (hu : Upd1 (LX id s g) (LX id { s with way := w, last := n } g) cs cs2) : F D 23 [.ptr id 0, .int .i64 w, .str n] cs (fun v cs' => v = .tup [] ∧ cs2 = cs') := by
  refine F.at1 hu fun R => F.of rfl rfl rfl ?_
  repeat' first | (show LD _ _ _ _; first | exact LX.ldPos (by (repeat' constructor); first | done | fail) | exact LX.ldWay (by (repeat' constructor); first | done | fail) | exact LX.ldLast (by (repeat' constructor); first | done | fail) | exact LX.ldRoom (by (repeat' constructor); first | done | fail) | exact LX.ldDone (by (repeat' constructor); first | done | fail) | exact LX.ldText (by (repeat' constructor); first | done | fail)) | (apply RR.lxIn; exact rfl; exact rfl; exact rfl; exact (by (repeat' constructor); first | done | fail); refine fun _ => ?_) | (apply RR.lxOut; exact rfl; exact rfl; exact rfl; exact (by (repeat' constructor); first | done | fail); refine fun _ => ?_) | (apply RR.storeS; exact rfl; exact rfl; first | exact LX.stPos 1 rfl (by (repeat' constructor); first | done | fail) | exact LX.stPos 2 rfl (by (repeat' constructor); first | done | fail) | exact LX.stPos 3 rfl (by (repeat' constructor); first | done | fail) | exact LX.stPos 6 rfl (by (repeat' constructor); first | done | fail) | exact LX.stPos 7 rfl (by (repeat' constructor); first | done | fail) | exact LX.stPos _ rfl (by (repeat' constructor); first | done | fail) | exact LX.stPos2 1 _ (by (repeat' constructor); first | done | fail) | exact LX.stPos2 2 _ (by (repeat' constructor); first | done | fail) | exact LX.stWay (by (repeat' constructor); first | done | fail) | exact LX.stLast (by (repeat' constructor); first | done | fail) | exact LX.stRoom (by (repeat' constructor); first | done | fail) | exact LX.stDone (by (repeat' constructor); first | done | fail); exact rfl) | (refine fun (hc : _ = _) => ?_; (try simp only [BB] at hc); (try (first | contradiction | (exfalso; omega)))) | exact arI | refine Pst.mk ⟨?_, rfl⟩ (by (repeat' constructor); first | done | fail) | constructor | (refine fun _ _ (hq : Hold _) => ?_; replace hq := hq.out; obtain ⟨_, rfl, rfl⟩ := hq) | (refine fun _ _ (hq : Hold _) => ?_; replace hq := hq.out; obtain ⟨_, _, rfl, rfl⟩ := hq) | rintro _ _ ⟨rfl, rfl⟩ | rintro _ _ ⟨_, rfl, rfl⟩ | rintro _ _ ⟨_, _, rfl, rfl⟩ | (refine fun (hc : _ = _) => ?_; (try simp only [BB] at hc)) | refine fun (_ : Nat) => ?_ | refine fun (_ : _ ≤ _) => ?_ | refine fun (_ : _ < _) => ?_
  all_goals trace_state
theorem sections_F {b : Bool} {cs2 : List Ck} (hu : Upd1 (LX id s g) (LX id { s with room := b } g) cs cs2) : F D 25 [.ptr id 0, .bool b] cs (fun v cs' => v = .tup [] ∧ cs2 = cs') := by
  refine F.at1 hu fun R => F.of rfl rfl rfl ?_
  repeat' first | (show LD _ _ _ _; first | exact LX.ldPos (by (repeat' constructor); first | done | fail) | exact LX.ldWay (by (repeat' constructor); first | done | fail) | exact LX.ldLast (by (repeat' constructor); first | done | fail) | exact LX.ldRoom (by (repeat' constructor); first | done | fail) | exact LX.ldDone (by (repeat' constructor); first | done | fail) | exact LX.ldText (by (repeat' constructor); first | done | fail)) | (apply RR.lxIn; exact rfl; exact rfl; exact rfl; exact (by (repeat' constructor); first | done | fail); refine fun _ => ?_) | (apply RR.lxOut; exact rfl; exact rfl; exact rfl; exact (by (repeat' constructor); first | done | fail); refine fun _ => ?_) | (apply RR.storeS; exact rfl; exact rfl; first | exact LX.stPos 1 rfl (by (repeat' constructor); first | done | fail) | exact LX.stPos 2 rfl (by (repeat' constructor); first | done | fail) | exact LX.stPos 3 rfl (by (repeat' constructor); first | done | fail) | exact LX.stPos 6 rfl (by (repeat' constructor); first | done | fail) | exact LX.stPos 7 rfl (by (repeat' constructor); first | done | fail) | exact LX.stPos _ rfl (by (repeat' constructor); first | done | fail) | exact LX.stPos2 1 _ (by (repeat' constructor); first | done | fail) | exact LX.stPos2 2 _ (by (repeat' constructor); first | done | fail) | exact LX.stWay (by (repeat' constructor); first | done | fail) | exact LX.stLast (by (repeat' constructor); first | done | fail) | exact LX.stRoom (by (repeat' constructor); first | done | fail) | exact LX.stDone (by (repeat' constructor); first | done | fail); exact rfl) | (refine fun (hc : _ = _) => ?_; (try simp only [BB] at hc); (try (first | contradiction | (exfalso; omega)))) | exact arI | refine Pst.mk ⟨?_, rfl⟩ (by (repeat' constructor); first | done | fail) | constructor | (refine fun _ _ (hq : Hold _) => ?_; replace hq := hq.out; obtain ⟨_, rfl, rfl⟩ := hq) | (refine fun _ _ (hq : Hold _) => ?_; replace hq := hq.out; obtain ⟨_, _, rfl, rfl⟩ := hq) | rintro _ _ ⟨rfl, rfl⟩ | rintro _ _ ⟨_, rfl, rfl⟩ | rintro _ _ ⟨_, _, rfl, rfl⟩ | (refine fun (hc : _ = _) => ?_; (try simp only [BB] at hc)) | refine fun (_ : Nat) => ?_ | refine fun (_ : _ ≤ _) => ?_ | refine fun (_ : _ < _) => ?_
  all_goals trace_state
theorem new_F {t z : Nat} {b : List UInt8} (hz : z = zOf t 1) (hl : b.length ≤ 1000000000) : F D 22 [.lst t z (bytesV b)] R (fun v cs' => Hold (∃ q, v = .ptr q 0 ∧ LX q (Md.Lx.new b) (0, 0) :: R = cs')) := by
  refine F.of rfl rfl rfl ?_
  repeat' first | exact decode_F hz (by omega) | exact arI | refine Pst.mk ⟨?_, rfl⟩ (by (repeat' constructor); first | done | fail) | constructor | (refine fun _ _ (hq : Hold _) => ?_; replace hq := hq.out; obtain ⟨_, rfl, rfl⟩ := hq) | (refine fun _ _ (hq : Hold _) => ?_; replace hq := hq.out; obtain ⟨_, _, rfl, rfl⟩ := hq) | rintro _ _ ⟨rfl, rfl⟩ | rintro _ _ ⟨_, rfl, rfl⟩ | rintro _ _ ⟨_, _, rfl, rfl⟩ | (refine fun (hc : _ = _) => ?_; (try simp only [BB] at hc)) | refine fun (_ : Nat) => ?_ | refine fun (_ : _ ≤ _) => ?_ | refine fun (_ : _ < _) => ?_
  rename_i w x hx
  exact Pst.of (fun h hs => LX.cls (s := Md.Lx.new b) (id := x) (to := 0) (tt := 0) (ti := w) (os := []) ((((hs.sub ((List.sublist_cons_self ..).cons_cons _)).nilOwn 10).nilOwn 1).perm ((((List.Perm.swap ..)).cons _).trans (.swap ..))) rfl) (.mk ⟨x, rfl, rfl⟩)
end
end Go.Proofs.YticnenofiibpgaaDoor.Code
/- The head of the lexer's laws, by a run. -/
namespace Go.Proofs.YticnenofiibpgaaDoor
namespace Code
open Go.Dm
/-- Where a result's cell has been laid. -/
def cellHeap (z : DV) : Heap := Heap.start.add (.cells [z] none)
noncomputable def rh : Option (DV × Heap) := closed D 3000 13 [] false (cellHeap (.bool false))
theorem head_run : okR rh (.bool true) = true := by decide +kernel
theorem head_both : ClC D 13 [] false (cellHeap (.bool false)) (.bool true) (heapOf rh) ∧ Nat.ble 2 (heapOf rh).next = true := by
  have h := head_run
  unfold rh at h ⊢
  exact closed_ok h
def cell2 (h : Heap) : Bool := match h.objs.get 2 with
  | some (.cells [.bool false] none) => Nat.ble 3 h.next
  | _ => false
theorem head_cell : cell2 (heapOf rh) = true := by decide +kernel
theorem cell2_sat {h : Heap} (hc : cell2 h = true) : Sat h [.obj 2 (.cells [.bool false] none)] := by
  unfold cell2 at hc
  split at hc
  · rename_i hg
    have hn := Nat.le_of_ble_eq_true hc
    exact ⟨by omega, fun c hm => by
      simp only [List.mem_singleton] at hm; subst hm
      exact ⟨hg, fun i hi => by cases hi; omega⟩, List.pairwise_singleton ..⟩
  · cases hc
theorem headOk : ∃ h1 : Heap, ClC D 13 [] false (cellHeap (.bool false)) (.bool true) h1 ∧ Nat.ble 2 h1.next = true ∧ Sat h1 [.obj 2 (.cells [.bool false] none)] := ⟨_, head_both.1, head_both.2, cell2_sat head_cell⟩
end Code
end Go.Proofs.YticnenofiibpgaaDoor
/- Signs as bytes and back. -/
namespace Go.Proofs.YticnenofiibpgaaDoor.Code
open Go.Dm
set_option linter.unusedSimpArgs false
set_option linter.unusedVariables false
def sv (r : Int) : Prop := 0 ≤ r ∧ r ≤ 1114111 ∧ ¬(55296 ≤ r ∧ r ≤ 57343)
theorem byteN_nat {n : Nat} (h : n < 256) : (Md.byteN n).toNat = n := by
  unfold Md.byteN; rw [UInt8.toNat_ofNat']; omega
theorem one_putR {r : Int} (hv : sv r) (rest : List UInt8) : Md.one (Md.putR r ++ rest) = (r, (Md.putR r).length) := by
  obtain ⟨h0, h1, h2⟩ := hv
  obtain ⟨n, rfl⟩ := Int.eq_ofNat_of_zero_le h0
  rw [putR_nat (by omega)]
  split
  · rename_i h
    have e := byteN_nat (n := n) (by omega)
    simp only [Md.one, List.cons_append, e, List.length_cons, List.length_nil]
    rw [if_pos h]
  · split
    · rename_i ha hb
      have e1 := byteN_nat (n := 192 + n / 64) (by omega)
      have e2 := byteN_nat (n := 128 + n % 64) (by omega)
      have en : Md.need (192 + n / 64) = (1, 0x80, 0xbf) := by unfold Md.need; rw [if_pos (by omega)]
      simp only [Md.one, List.cons_append, List.nil_append, e1, en, List.length_cons, List.length_nil]
      rw [if_neg (by omega), if_neg (by omega)]
      simp only [Md.oneGo, e2]
      rw [if_neg (by omega)]
      congr 1; simp; omega
    · split
      · rename_i ha hb hc
        have e1 := byteN_nat (n := 224 + n / 4096) (by omega)
        have e2 := byteN_nat (n := 128 + n / 64 % 64) (by omega)
        have e3 := byteN_nat (n := 128 + n % 64) (by omega)
        have en : (Md.need (224 + n / 4096)).1 = 2 ∧ (Md.need (224 + n / 4096)).2.1 ≤ 128 + n / 64 % 64 ∧ 128 + n / 64 % 64 ≤ (Md.need (224 + n / 4096)).2.2 := by
          unfold Md.need
          rw [if_neg (by omega)]
          by_cases x0 : 224 + n / 4096 = 0xe0
          · rw [if_pos x0]; refine ⟨rfl, ?_, ?_⟩ <;> dsimp only <;> omega
          · rw [if_neg x0]
            by_cases x1 : 224 + n / 4096 = 0xed
            · rw [if_pos x1]; refine ⟨rfl, ?_, ?_⟩ <;> dsimp only <;> omega
            · rw [if_neg x1, if_pos (by omega)]; refine ⟨rfl, ?_, ?_⟩ <;> dsimp only <;> omega
        simp only [Md.one, List.cons_append, List.nil_append, e1, en.1, List.length_cons, List.length_nil]
        rw [if_neg (by omega), if_neg (by omega)]
        simp only [Md.oneGo, e2, e3]
        rw [if_neg (by omega), if_neg (by omega)]
        congr 1; simp; omega
      · rename_i ha hb hc
        have e1 := byteN_nat (n := 240 + n / 262144) (by omega)
        have e2 := byteN_nat (n := 128 + n / 4096 % 64) (by omega)
        have e3 := byteN_nat (n := 128 + n / 64 % 64) (by omega)
        have e4 := byteN_nat (n := 128 + n % 64) (by omega)
        have en : (Md.need (240 + n / 262144)).1 = 3 ∧ (Md.need (240 + n / 262144)).2.1 ≤ 128 + n / 4096 % 64 ∧ 128 + n / 4096 % 64 ≤ (Md.need (240 + n / 262144)).2.2 := by
          unfold Md.need
          rw [if_neg (by omega), if_neg (by omega), if_neg (by omega), if_neg (by omega)]
          by_cases x0 : 240 + n / 262144 = 0xf0
          · rw [if_pos x0]; refine ⟨rfl, ?_, ?_⟩ <;> dsimp only <;> omega
          · rw [if_neg x0]
            by_cases x1 : 0xf1 ≤ 240 + n / 262144 ∧ 240 + n / 262144 ≤ 0xf3
            · rw [if_pos x1]; refine ⟨rfl, ?_, ?_⟩ <;> dsimp only <;> omega
            · rw [if_neg x1, if_pos (by omega)]; refine ⟨rfl, ?_, ?_⟩ <;> dsimp only <;> omega
        simp only [Md.one, List.cons_append, List.nil_append, e1, en.1, List.length_cons, List.length_nil]
        rw [if_neg (by omega), if_neg (by omega)]
        simp only [Md.oneGo, e2, e3, e4]
        rw [if_neg (by omega), if_neg (by omega), if_neg (by omega)]
        congr 1; simp; omega
theorem putR_ne (r : Int) : Md.putR r ≠ [] := by
  unfold Md.putR; dsimp only; repeat' split
  all_goals simp
theorem signs_encode : ∀ (l : List Int), (∀ r ∈ l, sv r) → Md.signs (Md.encode l).length (Md.encode l) = l
  | [], _ => rfl
  | r :: l, h => by
    have e : Md.encode (r :: l) = Md.putR r ++ Md.encode l := by simp [Md.encode]
    have hne : Md.encode (r :: l) ≠ [] := by rw [e]; intro h9; exact putR_ne r (List.append_eq_nil_iff.1 h9).1
    rw [signs_cons hne, e, one_putR (h r (by simp))]
    dsimp only
    rw [List.drop_left, signs_encode l (fun x hx => h x (by simp [hx]))]
theorem go1 (l : List UInt8) (i : Nat) (r : Int) (lo hi : Nat) : (Md.oneGo 1 l i r lo hi).1 = 65533 ∨ ∃ c : Nat, lo ≤ c ∧ c ≤ hi ∧ (Md.oneGo 1 l i r lo hi).1 = r * 64 + (c % 64 : Nat) := by
  cases l with
  | nil => exact .inl rfl
  | cons c l =>
    simp only [Md.oneGo]
    by_cases h : c.toNat < lo ∨ hi < c.toNat
    · rw [if_pos h]; exact .inl rfl
    · rw [if_neg h]; exact .inr ⟨c.toNat, by omega, by omega, rfl⟩
theorem goS (k : Nat) (l : List UInt8) (i : Nat) (r : Int) (lo hi : Nat) : (Md.oneGo (k + 1) l i r lo hi).1 = 65533 ∨ ∃ (c : Nat) (l' : List UInt8), lo ≤ c ∧ c ≤ hi ∧ Md.oneGo (k + 1) l i r lo hi = Md.oneGo k l' (i + 1) (r * 64 + (c % 64 : Nat)) 0x80 0xbf := by
  cases l with
  | nil => exact .inl rfl
  | cons c l =>
    simp only [Md.oneGo]
    by_cases h : c.toNat < lo ∨ hi < c.toNat
    · rw [if_pos h]; exact .inl rfl
    · rw [if_neg h]; exact .inr ⟨c.toNat, l, by omega, by omega, rfl⟩
theorem one_sv {b : List UInt8} (h : b ≠ []) : sv (Md.one b).1 := by
  have hr : ∀ x : Int, x = 65533 → sv x := fun x h => by subst h; exact ⟨by omega, by omega, by omega⟩
  cases b with
  | nil => exact absurd rfl h
  | cons c l =>
    have hc := c.toNat_lt
    simp only [Md.one]
    split
    · rename_i h1; refine ⟨?_, ?_, ?_⟩ <;> dsimp only <;> omega
    · split
      · exact hr _ rfl
      · rename_i ha hb
        have k2 : ∀ (r : Int) (lo hi : Nat), (∀ c d : Nat, lo ≤ c → c ≤ hi → sv ((r * 64 + (c % 64 : Nat)) * 64 + (d % 64 : Nat))) → sv (Md.oneGo 2 l 1 r lo hi).1 := fun r lo hi hs => by
          rcases goS 1 l 1 r lo hi with h | ⟨c1, l1, a1, a2, h⟩
          · exact hr _ h
          · rw [h]
            rcases go1 l1 2 (r * 64 + (c1 % 64 : Nat)) 0x80 0xbf with h | ⟨c2, b1, b2, h⟩
            · exact hr _ h
            · rw [h]; exact hs c1 c2 a1 a2
        have k3 : ∀ (r : Int) (lo hi : Nat), (∀ c d e : Nat, lo ≤ c → c ≤ hi → sv (((r * 64 + (c % 64 : Nat)) * 64 + (d % 64 : Nat)) * 64 + (e % 64 : Nat))) → sv (Md.oneGo 3 l 1 r lo hi).1 := fun r lo hi hs => by
          rcases goS 2 l 1 r lo hi with h | ⟨c1, l1, a1, a2, h⟩
          · exact hr _ h
          · rw [h]
            rcases goS 1 l1 2 (r * 64 + (c1 % 64 : Nat)) 0x80 0xbf with h | ⟨c2, l2, b1, b2, h⟩
            · exact hr _ h
            · rw [h]
              rcases go1 l2 3 ((r * 64 + (c1 % 64 : Nat)) * 64 + (c2 % 64 : Nat)) 0x80 0xbf with h | ⟨c3, d1, d2, h⟩
              · exact hr _ h
              · rw [h]; exact hs c1 c2 c3 a1 a2
        by_cases x1 : 0xc2 ≤ c.toNat ∧ c.toNat ≤ 0xdf
        · have en : Md.need c.toNat = (1, 0x80, 0xbf) := by unfold Md.need; rw [if_pos x1]
          rw [en]; dsimp only
          rcases go1 l 1 ((c.toNat % (64 / 2 ^ 1) : Nat) : Int) 0x80 0xbf with h | ⟨c1, a1, a2, h⟩
          · exact hr _ h
          · rw [h]; refine ⟨?_, ?_, ?_⟩ <;> simp <;> omega
        · by_cases x2 : c.toNat = 0xe0
          · have en : Md.need c.toNat = (2, 0xa0, 0xbf) := by unfold Md.need; rw [if_neg x1, if_pos x2]
            rw [en]; dsimp only
            refine k2 _ _ _ fun c1 d1 a1 a2 => ⟨?_, ?_, ?_⟩ <;> rw [x2] <;> simp <;> omega
          · by_cases x3 : c.toNat = 0xed
            · have en : Md.need c.toNat = (2, 0x80, 0x9f) := by unfold Md.need; rw [if_neg x1, if_neg x2, if_pos x3]
              rw [en]; dsimp only
              refine k2 _ _ _ fun c1 d1 a1 a2 => ⟨?_, ?_, ?_⟩ <;> rw [x3] <;> simp <;> omega
            · by_cases x4 : 0xe1 ≤ c.toNat ∧ c.toNat ≤ 0xef
              · have en : Md.need c.toNat = (2, 0x80, 0xbf) := by unfold Md.need; rw [if_neg x1, if_neg x2, if_neg x3, if_pos x4]
                rw [en]; dsimp only
                refine k2 _ _ _ fun c1 d1 a1 a2 => ⟨?_, ?_, ?_⟩ <;> simp <;> omega
              · by_cases x5 : c.toNat = 0xf0
                · have en : Md.need c.toNat = (3, 0x90, 0xbf) := by unfold Md.need; rw [if_neg x1, if_neg x2, if_neg x3, if_neg x4, if_pos x5]
                  rw [en]; dsimp only
                  refine k3 _ _ _ fun c1 d1 e1 a1 a2 => ⟨?_, ?_, ?_⟩ <;> rw [x5] <;> simp <;> omega
                · by_cases x6 : 0xf1 ≤ c.toNat ∧ c.toNat ≤ 0xf3
                  · have en : Md.need c.toNat = (3, 0x80, 0xbf) := by unfold Md.need; rw [if_neg x1, if_neg x2, if_neg x3, if_neg x4, if_neg x5, if_pos x6]
                    rw [en]; dsimp only
                    refine k3 _ _ _ fun c1 d1 e1 a1 a2 => ⟨?_, ?_, ?_⟩ <;> simp <;> omega
                  · by_cases x7 : c.toNat = 0xf4
                    · have en : Md.need c.toNat = (3, 0x80, 0x8f) := by unfold Md.need; rw [if_neg x1, if_neg x2, if_neg x3, if_neg x4, if_neg x5, if_neg x6, if_pos x7]
                      rw [en]; dsimp only
                      refine k3 _ _ _ fun c1 d1 e1 a1 a2 => ⟨?_, ?_, ?_⟩ <;> rw [x7] <;> simp <;> omega
                    · exfalso; apply hb; unfold Md.need; rw [if_neg x1, if_neg x2, if_neg x3, if_neg x4, if_neg x5, if_neg x6, if_neg x7]
theorem signs_sv : ∀ (f : Nat) (b : List UInt8), ∀ r ∈ Md.signs f b, sv r := by
  intro f
  induction f with
  | zero => intro b r h; cases h
  | succ f ih =>
    intro b r h
    cases b with
    | nil => cases h
    | cons c l =>
      simp only [Md.signs, List.mem_cons] at h
      rcases h with rfl | h
      · exact one_sv (by simp)
      · exact ih _ r h
theorem lines_sv : ∀ (l : List Int) (last : Int), (∀ r ∈ l, sv r) → ∀ r ∈ Md.lines last l, sv r ∧ r ≠ 13
  | [], _, _, r, hr => by cases hr
  | x :: l, last, h, r, hr => by
    have hx := h x (by simp)
    have ih := fun la => lines_sv l la (fun y hy => h y (by simp [hy])) r
    simp only [Md.lines] at hr
    split at hr
    · rcases List.mem_cons.1 hr with rfl | hr
      · exact ⟨⟨by omega, by omega, by omega⟩, by omega⟩
      · exact ih _ hr
    · split at hr
      · exact ih _ hr
      · rcases List.mem_cons.1 hr with rfl | hr
        · exact ⟨hx, by assumption⟩
        · exact ih _ hr
theorem decode_sv (b : List UInt8) : ∀ r ∈ Md.decode b, sv r ∧ r ≠ 13 := lines_sv _ _ (signs_sv _ _)
theorem lines_id : ∀ (l : List Int) (last : Int), last ≠ 13 → (∀ r ∈ l, r ≠ 13) → Md.lines last l = l
  | [], _, _, _ => rfl
  | x :: l, last, h, hl => by
    have hx := hl x (by simp)
    simp only [Md.lines]
    rw [if_neg hx, if_neg (fun h2 => h h2.2), lines_id l x hx (fun y hy => hl y (by simp [hy]))]
theorem unmark_id {l : List Int} (h : ∀ r ∈ l, sv r ∧ r ≠ 65279) : Md.unmark (Md.encode l) = Md.encode l := by
  unfold Md.unmark
  split
  · rename_i r he
    exfalso
    cases l with
    | nil => simp [Md.encode] at he
    | cons x l =>
      have e : Md.encode (x :: l) = Md.putR x ++ Md.encode l := by simp [Md.encode]
      have h1 := one_putR (h x (by simp)).1 (Md.encode l)
      rw [← e, he] at h1
      have h2 : Md.one (0xef :: 0xbb :: 0xbf :: r) = (65279, 3) := by
        simp only [Md.one]
        rfl
      rw [h2] at h1
      exact (h x (by simp)).2 (congrArg Prod.fst h1).symm
  · rfl
/-- What is written is read. -/
theorem decode_encode {l : List Int} (h : ∀ r ∈ l, sv r ∧ r ≠ 13 ∧ r ≠ 65279) : Md.decode (Md.encode l) = l := by
  unfold Md.decode
  rw [unmark_id (fun r hr => ⟨(h r hr).1, (h r hr).2.2⟩), signs_encode l (fun r hr => (h r hr).1)]
  exact lines_id l 0 (by decide) (fun r hr => (h r hr).2.1)
end Go.Proofs.YticnenofiibpgaaDoor.Code
/- What begins nothing is a text. -/
namespace Go.Md
def cleanR (l : List Int) : List Int := (l.map fun r => if r = 65279 then 120 else r).filter (· != 0)
def clean (s : Str) : Str := encode (cleanR (decode s))
def noBrk (s : Str) : Str := s.filter fun b => b.toNat != 60 && b.toNat != 38
end Go.Md
namespace Go.Proofs.YticnenofiibpgaaDoor.Code
open Go.Dm
set_option linter.unusedSimpArgs false
set_option linter.unusedVariables false
theorem encode_append (a b : List Int) : Md.encode (a ++ b) = Md.encode a ++ Md.encode b := by simp [Md.encode]
theorem encode_nil : Md.encode [] = [] := rfl
theorem encode_cons (r : Int) (l : List Int) : Md.encode (r :: l) = Md.putR r ++ Md.encode l := by simp [Md.encode]
theorem clean_ok (s : Md.Str) : ∀ r ∈ Md.cleanR (Md.decode s), (sv r ∧ r ≠ 13 ∧ r ≠ 65279) ∧ r ≠ 0 := by
  intro r hr
  simp only [Md.cleanR, List.mem_filter, List.mem_map, bne_iff_ne, ne_eq] at hr
  obtain ⟨⟨x, hx, he⟩, h0⟩ := hr
  have h1 := decode_sv s x hx
  split at he
  · subst he; exact ⟨⟨⟨by omega, by omega, by omega⟩, by omega, by omega⟩, h0⟩
  · subst he; exact ⟨⟨h1.1, h1.2, by assumption⟩, h0⟩
theorem putR_bytes {r : Int} (h : sv r) : (r < 128 ∧ Md.putR r = [Md.byteN r.toNat]) ∨ (128 ≤ r ∧ ∀ b ∈ Md.putR r, 128 ≤ b.toNat) := by
  obtain ⟨h0, h1, h2⟩ := h
  obtain ⟨n, rfl⟩ := Int.eq_ofNat_of_zero_le h0
  rw [putR_nat (by omega)]
  split
  · left; exact ⟨by omega, rfl⟩
  · right
    refine ⟨by omega, fun b hb => ?_⟩
    split at hb
    · simp only [List.mem_cons, List.not_mem_nil, or_false] at hb
      rcases hb with rfl | rfl <;> rw [byteN_nat (by omega)] <;> omega
    · split at hb
      · simp only [List.mem_cons, List.not_mem_nil, or_false] at hb
        rcases hb with rfl | rfl | rfl <;> rw [byteN_nat (by omega)] <;> omega
      · simp only [List.mem_cons, List.not_mem_nil, or_false] at hb
        rcases hb with rfl | rfl | rfl | rfl <;> rw [byteN_nat (by omega)] <;> omega
theorem noBrk_encode : ∀ l : List Int, (∀ r ∈ l, sv r) → Md.noBrk (Md.encode l) = Md.encode (l.filter fun r => r != 60 && r != 38)
  | [], _ => rfl
  | r :: l, h => by
    have ih := noBrk_encode l (fun x hx => h x (by simp [hx]))
    have hs : Md.noBrk (Md.encode (r :: l)) = Md.noBrk (Md.putR r) ++ Md.noBrk (Md.encode l) := by rw [encode_cons]; simp [Md.noBrk]
    rw [hs, ih]
    rcases putR_bytes (h r (by simp)) with ⟨h1, h2⟩ | ⟨h1, h2⟩
    · have h0 := (h r (by simp)).1
      have hb := byteN_nat (n := r.toNat) (by omega)
      rw [h2]
      by_cases hx : r = 60 ∨ r = 38
      · have e1 : Md.noBrk [Md.byteN r.toNat] = [] := by
          simp only [Md.noBrk, List.filter_cons, hb]
          rcases hx with rfl | rfl <;> rfl
        have e2 : (r :: l).filter (fun r => r != 60 && r != 38) = l.filter (fun r => r != 60 && r != 38) := by
          rw [List.filter_cons, if_neg]; rcases hx with rfl | rfl <;> simp
        rw [e1, e2]; rfl
      · have e1 : Md.noBrk [Md.byteN r.toNat] = [Md.byteN r.toNat] := by
          simp only [Md.noBrk, List.filter_cons, hb]
          rw [if_pos (by simp; omega)]; rfl
        have e2 : (r :: l).filter (fun r => r != 60 && r != 38) = r :: l.filter (fun r => r != 60 && r != 38) := by
          rw [List.filter_cons, if_pos]; simp; omega
        rw [e1, e2, encode_cons, h2]
    · have e1 : Md.noBrk (Md.putR r) = Md.putR r := by
        unfold Md.noBrk
        rw [List.filter_eq_self]
        intro b hb
        have := h2 b hb
        simp; omega
      have e2 : (r :: l).filter (fun r => r != 60 && r != 38) = r :: l.filter (fun r => r != 60 && r != 38) := by
        rw [List.filter_cons, if_pos]; simp; omega
      rw [e1, e2, encode_cons]
theorem NI.new {c : Md.Str} {w : Int} {n : Md.Str} (hl : c.length ≤ 1000000000) (hn : n.length ≤ 10000000000) (hd : (Md.decode c).length ≤ c.length) : NI { Md.Lx.new c with way := w, last := n } :=
  ⟨Nat.le_trans hd hl, fun r hr => (decode_sv c r hr).1.1, Nat.zero_le _, fun _ => Nat.zero_le _, Nat.zero_le _, by show (0 : Nat) ≤ 100; omega, hn⟩
theorem toks_out (s : Md.Lx) : s.toks = s.out ++ ({ s with out := [] } : Md.Lx).toks := by
  conv => lhs; rw [Md.Lx.toks]
  conv => rhs; rw [Md.Lx.toks]
  rfl
theorem flush_cases (x : Md.Lx) : (x.text = [] ∧ x.flush = x) ∨ (x.text ≠ [] ∧ x.flush = { x with out := x.out ++ [Md.textTok x.text], text := [] }) := by
  unfold Md.Lx.flush
  by_cases h : x.text = []
  · rw [if_pos h]; exact .inl ⟨h, rfl⟩
  · rw [if_neg h]; exact .inr ⟨h, rfl⟩
theorem span_plain (l : List Int) : l = l.takeWhile Md.plainSign ++ l.drop (l.takeWhile Md.plainSign).length := by
  induction l with
  | nil => rfl
  | cons r l ih =>
    rw [List.takeWhile_cons]
    split
    · simp only [List.length_cons, List.drop_succ_cons, List.cons_append]; rw [← ih]
    · simp
/-- Texts alone, their bytes all there. -/
def TT (x : Md.Lx) (ts : List Md.Tok) : Prop := (∀ t ∈ ts, t.kind = 1) ∧ (ts.map Md.Tok.data).flatten = Md.encode (x.text ++ x.rest)
theorem texts_toks : ∀ (n : Nat) (x : Md.Lx), x.left ≤ n → NI x → x.out = [] → x.done = false → (x.way = 4 ∨ (x.way = 0 ∧ ∀ r ∈ x.inp, r ≠ 38 ∧ r ≠ 60)) → (∀ r ∈ x.inp, r ≠ 0) → TT x x.toks := by
  intro n
  induction n with
  | zero => intro x hl hN ho hd _ _; have := step_left hN hd; omega
  | succ n ih =>
    intro x hl hN ho hd hw hz
    have hsl := step_left hN hd
    have hNs := hN.step hd ho
    rw [toks_step hN hd ho, toks_out]
    by_cases hp : x.inp.length ≤ x.pos
    · have hpk : x.pk 0 = -1 := pk_nil hp
      have hmid : stepMid x = { (x.adv 1).flush with done := true } := by rw [stepMid, if_pos hpk]
      have hr : x.rest = [] := rest_nil hp
      rcases flush_cases (x.adv 1) with ⟨h1, h2⟩ | ⟨h1, h2⟩
      · have h1 : x.text = [] := h1
        have hst : x.step = { (x.adv 1).flush with done := true } := by
          rw [step_eq, stepFin, hmid, if_neg]
          intro h; apply h.2.1; show (x.adv 1).flush.text = []; exact flush_text
        rw [hst, h2]
        have ht : ({ ({ x.adv 1 with done := true } : Md.Lx) with out := [] } : Md.Lx).toks = [] := toks_done rfl rfl
        have e : (({ x.adv 1 with done := true } : Md.Lx)).out = [] := ho
        rw [ht, e]
        exact ⟨fun t ht => (by simp at ht), (by rw [h1, hr]; rfl)⟩
      · have hst : x.step = { (x.adv 1).flush with done := true } := by
          rw [step_eq, stepFin, hmid, if_neg]
          intro h; apply h.2.1; show (x.adv 1).flush.text = []; exact flush_text
        rw [hst, h2]
        have ht : ({ ({ ({ x.adv 1 with out := (x.adv 1).out ++ [Md.textTok (x.adv 1).text], text := [] } : Md.Lx) with done := true } : Md.Lx) with out := [] } : Md.Lx).toks = [] := toks_done rfl rfl
        have e : ({ ({ x.adv 1 with out := (x.adv 1).out ++ [Md.textTok (x.adv 1).text], text := [] } : Md.Lx) with done := true } : Md.Lx).out = [Md.textTok x.text] := by show x.out ++ _ = _; rw [ho]; rfl
        rw [ht, e]
        refine ⟨fun t ht => ?_, ?_⟩
        · simp only [List.append_nil, List.mem_singleton] at ht; subst ht; rfl
        · rw [hr]; simp [Md.textTok]
    · have hp : x.pos < x.inp.length := by omega
      have hmem : x.pk 0 ∈ x.inp := by
        rw [Md.Lx.pk, Nat.add_zero, List.getD_eq_getElem?_getD, List.getElem?_eq_getElem hp]; exact List.getElem_mem _
      have h0 := hN.nn _ hmem
      have hz0 := hz _ hmem
      have hmid : stepMid x = ((x.adv 1).adv ((x.adv 1).rest.takeWhile Md.plainSign).length).say (x.pk 0 :: (x.adv 1).rest.takeWhile Md.plainSign) := by
        rw [stepMid, if_neg (by omega), if_neg, if_neg, if_neg, if_neg, if_neg (fun h => hz0 h.1), if_neg hz0]
        · rintro ⟨h1, h2⟩; rcases hw with hw | hw <;> omega
        · rintro ⟨h1, h2⟩; rcases hw with hw | hw <;> omega
        · rintro ⟨h1, h2⟩; rcases hw with hw | ⟨_, hw⟩; omega; exact (hw _ hmem).2 h1
        · rintro ⟨h1, h2⟩; rcases hw with hw | ⟨_, hw⟩; omega; exact (hw _ hmem).1 h1
      have hrc := rest_cons hp
      have hsp := span_plain (x.adv 1).rest
      have hT : ∀ r ∈ (x.adv 1).rest.takeWhile Md.plainSign, 0 ≤ r := fun r hr => hN.nn r (List.mem_of_mem_drop ((List.takeWhile_sublist _).subset hr))
      generalize hTd : (x.adv 1).rest.takeWhile Md.plainSign = T at *
      have hfil : (x.pk 0 :: T).filter (· != -1) = x.pk 0 :: T := filter_nn (fun r hr => by rcases List.mem_cons.1 hr with rfl | hr; exact h0; exact hT r hr)
      have hrest : (stepMid x).rest = (x.adv 1).rest.drop T.length := by rw [hmid, rest_say, rest_adv]
      have htext : (stepMid x).text = x.text ++ x.pk 0 :: T := by rw [hmid]; show x.text ++ _ = _; rw [hfil]
      have hall : (stepMid x).text ++ (stepMid x).rest = x.text ++ x.rest := by
        rw [htext, hrest, List.append_assoc, List.cons_append, ← hsp, hrc, rest_adv]
      have hmo : (stepMid x).out = [] := by rw [hmid]; exact ho
      have hmd : (stepMid x).done = false := by rw [hmid]; exact hd
      have hmw : (stepMid x).way = x.way := by rw [hmid]; rfl
      have hmi : (stepMid x).inp = x.inp := by rw [hmid]; rfl
      clear hmid
      have hss : x.step = stepFin (stepMid x) := step_eq
      rw [hss] at hsl hNs ⊢
      generalize stepMid x = y at *
      have fin : ∀ y', y'.done = false → y'.way = x.way → y'.inp = x.inp → y'.left < x.left → NI y' → TT { y' with out := [] } ({ y' with out := [] } : Md.Lx).toks := fun y' f1 f2 f3 f4 f5 => by
        refine ih { y' with out := [] } (by show y'.left ≤ n; omega) ⟨f5.len, f5.nn, f5.pos, f5.pos2, f5.text, by show (0 : Nat) ≤ 100; omega, f5.last⟩ rfl f1 (by show y'.way = 4 ∨ (y'.way = 0 ∧ ∀ r ∈ y'.inp, _); rw [f2, f3]; exact hw) (by show ∀ r ∈ y'.inp, _; rw [f3]; exact hz)
      unfold stepFin at hsl hNs ⊢
      split
      · rename_i hc
        rw [if_pos hc] at hsl hNs
        rcases flush_cases y with ⟨h1, _⟩ | ⟨h1, h2⟩
        · exact absurd h1 hc.2.1
        · have h3 := fin y.flush (by rw [flush_done]; exact hmd) (by rw [flush_way]; exact hmw) (by rw [flush_inp]; exact hmi) hsl hNs
          rw [h2] at h3 ⊢
          obtain ⟨q1, q2⟩ := h3
          rw [show (({ y with out := y.out ++ [Md.textTok y.text], text := [] } : Md.Lx)).out = [Md.textTok y.text] by show y.out ++ _ = _; rw [hmo]; rfl]
          refine ⟨fun t ht => ?_, ?_⟩
          · rcases List.mem_append.1 ht with ht | ht
            · simp only [List.mem_singleton] at ht; subst ht; rfl
            · exact q1 t ht
          · rw [List.map_append, List.flatten_append, q2, ← hall]
            have e1 : ((([Md.textTok y.text] : List Md.Tok).map Md.Tok.data)).flatten = Md.encode y.text := by simp [Md.textTok]
            rw [e1, encode_append, encode_append]; rfl
      · rename_i hc
        rw [if_neg hc] at hsl hNs
        have h3 := fin y hmd hmw hmi hsl hNs
        rw [hmo, List.nil_append]
        exact ⟨h3.1, by rw [h3.2, ← hall]; rfl⟩
theorem texts_pure {s : Md.Str} {w : Int} (h : w = 4 ∨ w = 0) {c : Md.Str} (hc : c = if w = 4 then Md.clean s else Md.noBrk (Md.clean s)) (n : Md.Str) (hN : NI { Md.Lx.new c with way := w, last := n }) : (∀ t ∈ ({ Md.Lx.new c with way := w, last := n } : Md.Lx).toks, t.kind = 1) ∧ ((({ Md.Lx.new c with way := w, last := n } : Md.Lx).toks).map Md.Tok.data).flatten = c := by
  obtain ⟨o, ho, hoc, hob⟩ : ∃ o : List Int, (∀ r ∈ o, (sv r ∧ r ≠ 13 ∧ r ≠ 65279) ∧ r ≠ 0) ∧ c = Md.encode o ∧ (w = 0 → ∀ r ∈ o, r ≠ 38 ∧ r ≠ 60) := by
    rcases h with rfl | rfl
    · exact ⟨_, clean_ok s, by rw [hc]; rfl, fun h => by omega⟩
    · refine ⟨(Md.cleanR (Md.decode s)).filter (fun r => r != 60 && r != 38), fun r hr => clean_ok s r (List.mem_filter.1 hr).1, ?_, fun _ r hr => ?_⟩
      · rw [hc, if_neg (by decide), Md.clean, noBrk_encode _ (fun r hr => (clean_ok s r hr).1.1)]
      · have := (List.mem_filter.1 hr).2
        simp at this; omega
  have hd : Md.decode c = o := by rw [hoc]; exact decode_encode (fun r hr => (ho r hr).1)
  have ht := texts_toks _ { Md.Lx.new c with way := w, last := n } (Nat.le_refl _) hN rfl rfl (by
    show w = 4 ∨ (w = 0 ∧ ∀ r ∈ Md.decode c, r ≠ 38 ∧ r ≠ 60)
    rw [hd]
    rcases h with h | h
    · exact .inl h
    · exact .inr ⟨h, hob h⟩) (by show ∀ r ∈ Md.decode c, r ≠ 0; rw [hd]; exact fun r hr => (ho r hr).2)
  refine ⟨ht.1, ?_⟩
  rw [ht.2]
  show Md.encode ([] ++ Md.decode c) = c
  rw [hd, hoc]; rfl
end Go.Proofs.YticnenofiibpgaaDoor.Code
/- What LexTexts does on typed values. -/
namespace Go.Proofs.YticnenofiibpgaaDoor.Code
open Go.Dm Go.Dm.C
set_option linter.unusedSimpArgs false
set_option linter.unusedVariables false
set_option linter.unnecessarySimpa false
set_option maxRecDepth 10000
attribute [local irreducible] Go.Dm.F Go.Dm.RS Go.Dm.Y Go.Dm.FD Go.Dm.FZ1 Go.Dm.Hold
variable {R : List Ck}
theorem decode_len (b : List UInt8) : (Md.decode b).length ≤ b.length := by
  have h1 : ∀ (f : Nat) (b : List UInt8), b.length ≤ f → (Md.signs f b).length ≤ b.length := by
    intro f
    induction f with
    | zero => intro b h; have : b = [] := List.eq_nil_of_length_eq_zero (by omega); subst this; simp [Md.signs]
    | succ f ih =>
      intro b h
      cases b with
      | nil => simp [Md.signs]
      | cons c l =>
        have hp := one_pos (b := c :: l) (by simp)
        simp only [List.length_cons] at hp h
        have := ih ((c :: l).drop (Md.one (c :: l)).2) (by rw [List.length_drop, List.length_cons]; omega)
        rw [List.length_drop, List.length_cons] at this
        simp only [Md.signs, List.length_cons]; omega
  have h2 := lines_len (Md.signs (Md.unmark b).length (Md.unmark b)) 0
  have h3 := h1 _ (Md.unmark b) (Nat.le_refl _)
  have h4 : (Md.unmark b).length ≤ b.length := by
    unfold Md.unmark; split
    · simp; omega
    · exact Nat.le_refl _
  unfold Md.decode; omega
theorem cleanR_take {l : List Int} {i : Nat} (h : i < l.length) : Md.cleanR (l.take (i + 1)) = Md.cleanR (l.take i) ++ (if (if l.getD i default = 65279 then 120 else l.getD i default) = 0 then [] else [if l.getD i default = 65279 then 120 else l.getD i default]) := by
  have e : l.getD i default = l[i] := by simp [List.getD_eq_getElem?_getD, List.getElem?_eq_getElem h]
  rw [e, List.take_add_one, List.getElem?_eq_getElem h]
  simp only [Md.cleanR, Option.toList_some, List.map_append, List.filter_append, List.map_cons, List.map_nil]
  congr 1
  by_cases h2 : (if l[i] = 65279 then (120 : Int) else l[i]) = 0
  · rw [if_pos h2]; simp [h2]
  · rw [if_neg h2]; simp [h2]
theorem clean_F {s : Md.Str} (hl : s.length ≤ 100000000) : F D 21 [.str s] R (fun v cs' => v = .str (Md.clean s) ∧ R = cs') := by
  refine F.of rfl rfl rfl ?_
  have hdl := decode_len s
  repeat' first | exact decode_F rfl (by omega) | exact arI | refine Pst.mk ⟨?_, rfl⟩ (by (repeat' constructor); first | done | fail) | constructor | (refine fun _ _ (hq : Hold _) => ?_; replace hq := hq.out; obtain ⟨_, rfl, rfl⟩ := hq) | (refine fun _ _ (hq : Hold _) => ?_; replace hq := hq.out; obtain ⟨_, _, rfl, rfl⟩ := hq) | rintro _ _ ⟨rfl, rfl⟩ | rintro _ _ ⟨_, rfl, rfl⟩ | rintro _ _ ⟨_, _, rfl, rfl⟩ | (refine fun (hc : _ = _) => ?_; (try simp only [BB] at hc)) | refine fun (_ : Nat) => ?_ | refine fun (_ : _ ≤ _) => ?_ | refine fun (_ : _ < _) => ?_
  rename_i t0 _ tb _ td
  refine RS.loopW (α := Nat × Nat) (fun a => [(9, .lst td (zOf td 1) ((Md.decode s).map I32)), (10, .int .i64 (Md.decode s).length), (11, .int .i64 (a.1 : Nat)), (3, .lst a.2 (zOf a.2 1) ((Md.cleanR ((Md.decode s).take a.1)).map I32))]) (fun a => .own a.2 1 ((Md.cleanR ((Md.decode s).take a.1)).map I32) :: R)
    (fun a => a.1 ≤ (Md.decode s).length ∧ (Md.cleanR ((Md.decode s).take a.1)).length ≤ a.1) (fun a => (Md.decode s).length - a.1) (0, t0) ⟨by simp, by simp [Md.cleanR]⟩ ⟨rfl, rfl, rfl, rfl, trivial⟩ (by (repeat' constructor); first | done | fail) ?_
  rintro ⟨i, t1⟩ ⟨h1, h2⟩ ih
  dsimp only [ents] at *
  have hct := fun h => cleanR_take (l := Md.decode s) (i := i) h
  repeat' first | (show FC _ _ _ _ _; exact encode_F rfl (by omega)) | (refine fun (hc : _ = _) => ?_; (try simp only [BB] at hc); (try (first | contradiction | (exfalso; omega)))) | exact arI | refine Pst.mk ⟨?_, rfl⟩ (by (repeat' constructor); first | done | fail) | constructor | (refine fun _ _ (hq : Hold _) => ?_; replace hq := hq.out; obtain ⟨_, rfl, rfl⟩ := hq) | (refine fun _ _ (hq : Hold _) => ?_; replace hq := hq.out; obtain ⟨_, _, rfl, rfl⟩ := hq) | rintro _ _ ⟨rfl, rfl⟩ | rintro _ _ ⟨_, rfl, rfl⟩ | rintro _ _ ⟨_, _, rfl, rfl⟩ | (refine fun (hc : _ = _) => ?_; (try simp only [BB] at hc)) | refine fun (_ : Nat) => ?_ | refine fun (_ : _ ≤ _) => ?_ | refine fun (_ : _ < _) => ?_
  rotate_right
  · obtain rfl : i = (Md.decode s).length := by omega
    rw [List.take_length]; rfl
  all_goals have hct := hct (by omega)
  · rename_i h9 _ _ t9
    rw [if_pos h9, if_neg hc] at hct
    refine ih _ _ (i + 1, t9) ⟨by dsimp only; omega, by rw [hct]; simp; omega⟩ (by dsimp only; omega) (by rw [hct]; exact ⟨rfl, rfl, rfl, rfl, trivial⟩) (by rw [hct]; exact (by (repeat' constructor); first | done | fail))
  · rename_i h9 _ _ t9
    rw [if_neg h9, if_neg hc] at hct
    refine ih _ _ (i + 1, t9) ⟨by dsimp only; omega, by rw [hct]; simp; omega⟩ (by dsimp only; omega) (by rw [hct]; exact ⟨rfl, rfl, rfl, rfl, trivial⟩) (by rw [hct]; exact (by (repeat' constructor); first | done | fail))
  · rename_i h9
    rw [if_neg h9, if_pos hc, List.append_nil] at hct
    refine ih _ _ (i + 1, t1) ⟨by dsimp only; omega, by rw [hct]; dsimp only; omega⟩ (by dsimp only; omega) (by rw [hct]; exact ⟨rfl, rfl, rfl, rfl, trivial⟩) (by rw [hct]; exact (by (repeat' constructor); first | done | fail))
theorem clean_len (s : Md.Str) : (Md.clean s).length ≤ 4 * s.length := by
  have h1 := encode_len (Md.cleanR (Md.decode s))
  have h2 := decode_len s
  have h3 : (Md.cleanR (Md.decode s)).length ≤ (Md.decode s).length := by
    unfold Md.cleanR
    refine Nat.le_trans (List.length_filter_le ..) ?_
    rw [List.length_map]; exact Nat.le_refl _
  unfold Md.clean; omega
theorem noBrk_len (s : Md.Str) : (Md.noBrk s).length ≤ s.length := List.length_filter_le ..
theorem noBrk_take {s : Md.Str} {i : Nat} (h : i < s.length) : Md.noBrk (s.take (i + 1)) = Md.noBrk (s.take i) ++ (if (s.getD i default).toNat = 60 ∨ (s.getD i default).toNat = 38 then [] else [s.getD i default]) := by
  have e : s.getD i default = s[i] := by simp [List.getD_eq_getElem?_getD, List.getElem?_eq_getElem h]
  rw [e, List.take_add_one, List.getElem?_eq_getElem h]
  simp only [Md.noBrk, Option.toList_some, List.filter_append]
  congr 1
  by_cases h2 : s[i].toNat = 60
  · simp [h2]
  · by_cases h3 : s[i].toNat = 38
    · simp [h3]
    · simp [h2, h3]
set_option maxHeartbeats 1000000 in
theorem textsLaw {s : Md.Str} {plain : Bool} : F0 D 4 [.str s, .bool plain] Heap.start (fun v cs' => v = .bool true) := by
  obtain ⟨hp1, c1, n1, s1⟩ := headOk
  refine F0.of rfl rfl rfl ?_
  have hcl := clean_len s
  have hnl := noBrk_len (Md.clean s)
  cases plain
  all_goals repeat' first | exact c1 | exact n1 | (refine R0.onP s1 ?_) | (show FC _ _ _ _ _; first | exact clean_F (by omega) | exact new_F rfl (by omega) | exact tokens_F | exact way_F (by (repeat' constructor); first | done | fail)) | (refine Arith.mk ?_; omega) | (refine fun (hc : _ = _) => ?_; (try simp only [BB] at hc); (try (first | contradiction | (exfalso; omega)))) | exact arI | refine Pst.mk ⟨?_, rfl⟩ (by (repeat' constructor); first | done | fail) | constructor | (refine fun _ _ (hq : Hold _) => ?_; replace hq := hq.out; obtain ⟨_, rfl, rfl⟩ := hq) | (refine fun _ _ (hq : Hold _) => ?_; replace hq := hq.out; obtain ⟨_, _, rfl, rfl⟩ := hq) | rintro _ _ ⟨rfl, rfl⟩ | rintro _ _ ⟨_, rfl, rfl⟩ | rintro _ _ ⟨_, _, rfl, rfl⟩ | (refine fun (hc : _ = _) => ?_; (try simp only [BB] at hc)) | refine fun (_ : Nat) => ?_ | refine fun (_ : _ ≤ _) => ?_ | refine fun (_ : _ < _) => ?_
  · exact Pst.mk rfl .refl
  rotate_left
  · exact Pst.mk rfl .refl
  rotate_left
  · refine RS.loopW (α := Nat) (fun i => [(1, .bool false), (4, .ptr 2 0), (5, .str (Md.clean s)), (6, .str (Md.noBrk ((Md.clean s).take i))), (7, .int .i64 (i : Nat))]) (fun _ => [.obj 2 (.cells [.bool false] none)])
      (fun i => i ≤ (Md.clean s).length) (fun i => (Md.clean s).length - i) 0 (by simp) ⟨rfl, rfl, rfl, rfl, rfl, trivial⟩ .refl ?_
    rintro i h1 ih
    dsimp only [ents] at *
    have hbt := fun h => noBrk_take (s := Md.clean s) (i := i) h
    have hbl := noBrk_len ((Md.clean s).take i)
    rw [List.length_take] at hbl
    repeat' first | (show FC _ _ _ _ _; first | exact new_F rfl (by omega) | exact tokens_F | exact way_F (by (repeat' constructor); first | done | fail)) | (refine Arith.mk ?_; omega) | (refine fun (hc : _ = _) => ?_; (try simp only [BB] at hc); (try (first | contradiction | (exfalso; omega)))) | exact arI | refine Pst.mk ⟨?_, rfl⟩ (by (repeat' constructor); first | done | fail) | constructor | (refine fun _ _ (hq : Hold _) => ?_; replace hq := hq.out; obtain ⟨_, rfl, rfl⟩ := hq) | (refine fun _ _ (hq : Hold _) => ?_; replace hq := hq.out; obtain ⟨_, _, rfl, rfl⟩ := hq) | rintro _ _ ⟨rfl, rfl⟩ | rintro _ _ ⟨_, rfl, rfl⟩ | rintro _ _ ⟨_, _, rfl, rfl⟩ | (refine fun (hc : _ = _) => ?_; (try simp only [BB] at hc)) | refine fun (_ : Nat) => ?_ | refine fun (_ : _ ≤ _) => ?_ | refine fun (_ : _ < _) => ?_
    · have e := hbt (by omega)
      have e9 : (Md.clean s).getD i default = (Md.clean s).getD i 0 := rfl
      rw [e9, if_neg (by omega)] at e
      have e5 : List.take (((i : Int) + 1).toNat - (i : Int).toNat) (List.drop (i : Int).toNat (Md.clean s)) = [(Md.clean s).getD i 0] := by
        rw [show ((i : Int) + 1).toNat - (i : Int).toNat = 1 by omega, Int.toNat_natCast, drop_get (by omega)]; rfl
      rw [← e5] at e
      refine ih _ _ (i + 1) (by omega) (by omega) ?_ (by (repeat' constructor); first | done | fail)
      rw [e]
      exact ⟨rfl, rfl, rfl, rfl, rfl, trivial⟩
    · have e := hbt (by omega)
      have e9 : (Md.clean s).getD i default = (Md.clean s).getD i 0 := rfl
      rw [e9, if_pos (by omega), List.append_nil] at e
      refine ih _ _ (i + 1) (by omega) (by omega) ?_ (by (repeat' constructor); first | done | fail)
      rw [e]
      exact ⟨rfl, rfl, rfl, rfl, rfl, trivial⟩
    have hall : (Md.clean s).take i = Md.clean s := List.take_of_length_le (by omega)
    rw [hall]
    rename_i t3 _ l0 x9 _ q0
    have hni := NI.new (c := Md.noBrk (Md.clean s)) (w := 0) (n := []) (by omega) (by simp) (decode_len _)
    have hP := texts_pure (s := s) (w := 0) (.inr rfl) (c := Md.noBrk (Md.clean s)) rfl [] hni
    refine RS.rangeO rfl rfl fun m l Lr Lb Ld hL => ?_
    refine F.perm ((Rem.perm' (c := .obj q0 _) (by (repeat' constructor); first | done | fail)).trans ((Rem.perm' (c := LX l0 _ _) (by (repeat' constructor); first | done | fail)).cons _)) ?_
    refine F.mono (tokens_it (l := l) (fun ts cs => ∃ acc, Lr :: .obj m .mark :: .obj x9 (.cells [.str acc] none) :: .own t3 1 (bytesV (Md.noBrk (Md.clean s))) :: [.obj 2 (.cells [.bool false] none)] = cs ∧ acc ++ (ts.map Md.Tok.data).flatten = Md.noBrk (Md.clean s) ∧ ∀ t ∈ ts, t.kind = 1) (fun _ => False) ?_ hni ⟨[], rfl, (by rw [List.nil_append]; exact hP.2), hP.1⟩) ?_
    · rintro t tag ts s2 g2 _ ⟨acc, rfl, ha, hk⟩
      refine hL.y (.tail (.tail .head)) rfl ?_
      have hk1 := hk t (by simp)
      have hlen := congrArg List.length ha
      rw [List.map_cons, List.flatten_cons, List.length_append, List.length_append] at hlen
      repeat' first | (refine Arith.mk ?_; omega) | (refine fun (hc : _ = _) => ?_; (try simp only [BB] at hc); (try (first | contradiction | (exfalso; omega)))) | exact arI | refine Pst.mk ⟨?_, rfl⟩ (by (repeat' constructor); first | done | fail) | constructor | (refine fun _ _ (hq : Hold _) => ?_; replace hq := hq.out; obtain ⟨_, rfl, rfl⟩ := hq) | (refine fun _ _ (hq : Hold _) => ?_; replace hq := hq.out; obtain ⟨_, _, rfl, rfl⟩ := hq) | rintro _ _ ⟨rfl, rfl⟩ | rintro _ _ ⟨_, rfl, rfl⟩ | rintro _ _ ⟨_, _, rfl, rfl⟩ | (refine fun (hc : _ = _) => ?_; (try simp only [BB] at hc)) | refine fun (_ : Nat) => ?_ | refine fun (_ : _ ≤ _) => ?_ | refine fun (_ : _ < _) => ?_
      exact Pst.mk (.mk ⟨_, rfl, .inl ⟨rfl, acc ++ t.data, rfl, by rw [← ha]; simp, fun x hx => hk x (by simp [hx])⟩⟩) (by (repeat' constructor); first | done | fail)
    · rintro v cs' hq
      obtain ⟨s2, g2, cs1, rfl, hq2⟩ := hq.out
      rcases hq2 with ⟨acc, rfl, ha, _⟩ | hq2
      · refine .ready (by (repeat' constructor); first | done | fail) ?_
        rw [List.map_nil, List.flatten_nil, List.append_nil] at ha
        subst ha
        repeat' first | exact arI | refine Pst.mk ⟨?_, rfl⟩ (by (repeat' constructor); first | done | fail) | constructor | (refine fun _ _ (hq : Hold _) => ?_; replace hq := hq.out; obtain ⟨_, rfl, rfl⟩ := hq) | (refine fun _ _ (hq : Hold _) => ?_; replace hq := hq.out; obtain ⟨_, _, rfl, rfl⟩ := hq) | rintro _ _ ⟨rfl, rfl⟩ | rintro _ _ ⟨_, rfl, rfl⟩ | rintro _ _ ⟨_, _, rfl, rfl⟩ | (refine fun (hc : _ = _) => ?_; (try simp only [BB] at hc)) | refine fun (_ : Nat) => ?_ | refine fun (_ : _ ≤ _) => ?_ | refine fun (_ : _ < _) => ?_
        exact Pst.mk (by simp) .refl
      · exact hq2.elim
  rotate_left
  rename_i t3 _ l0 x9 _ q0
  have hni := NI.new (c := Md.clean s) (w := 4) (n := []) (by omega) (by simp) (decode_len _)
  have hP := texts_pure (s := s) (w := 4) (.inl rfl) (c := Md.clean s) rfl [] hni
  refine RS.rangeO rfl rfl fun m l Lr Lb Ld hL => ?_
  refine F.perm ((Rem.perm' (c := .obj q0 _) (by (repeat' constructor); first | done | fail)).trans ((Rem.perm' (c := LX l0 _ _) (by (repeat' constructor); first | done | fail)).cons _)) ?_
  refine F.mono (tokens_it (l := l) (fun ts cs => ∃ acc, Lr :: .obj m .mark :: .obj x9 (.cells [.str acc] none) :: .own t3 1 (bytesV (Md.clean s)) :: [.obj 2 (.cells [.bool false] none)] = cs ∧ acc ++ (ts.map Md.Tok.data).flatten = Md.clean s ∧ ∀ t ∈ ts, t.kind = 1) (fun _ => False) ?_ hni ⟨[], rfl, (by rw [List.nil_append]; exact hP.2), hP.1⟩) ?_
  · rintro t tag ts s2 g2 _ ⟨acc, rfl, ha, hk⟩
    refine hL.y (.tail (.tail .head)) rfl ?_
    have hk1 := hk t (by simp)
    have hlen := congrArg List.length ha
    rw [List.map_cons, List.flatten_cons, List.length_append, List.length_append] at hlen
    repeat' first | (refine Arith.mk ?_; omega) | (refine fun (hc : _ = _) => ?_; (try simp only [BB] at hc); (try (first | contradiction | (exfalso; omega)))) | exact arI | refine Pst.mk ⟨?_, rfl⟩ (by (repeat' constructor); first | done | fail) | constructor | (refine fun _ _ (hq : Hold _) => ?_; replace hq := hq.out; obtain ⟨_, rfl, rfl⟩ := hq) | (refine fun _ _ (hq : Hold _) => ?_; replace hq := hq.out; obtain ⟨_, _, rfl, rfl⟩ := hq) | rintro _ _ ⟨rfl, rfl⟩ | rintro _ _ ⟨_, rfl, rfl⟩ | rintro _ _ ⟨_, _, rfl, rfl⟩ | (refine fun (hc : _ = _) => ?_; (try simp only [BB] at hc)) | refine fun (_ : Nat) => ?_ | refine fun (_ : _ ≤ _) => ?_ | refine fun (_ : _ < _) => ?_
    exact Pst.mk (.mk ⟨_, rfl, .inl ⟨rfl, acc ++ t.data, rfl, by rw [← ha]; simp, fun x hx => hk x (by simp [hx])⟩⟩) (by (repeat' constructor); first | done | fail)
  · rintro v cs' hq
    obtain ⟨s2, g2, cs1, rfl, hq2⟩ := hq.out
    rcases hq2 with ⟨acc, rfl, ha, _⟩ | hq2
    · refine .ready (by (repeat' constructor); first | done | fail) ?_
      rw [List.map_nil, List.flatten_nil, List.append_nil] at ha
      subst ha
      repeat' first | exact arI | refine Pst.mk ⟨?_, rfl⟩ (by (repeat' constructor); first | done | fail) | constructor | (refine fun _ _ (hq : Hold _) => ?_; replace hq := hq.out; obtain ⟨_, rfl, rfl⟩ := hq) | (refine fun _ _ (hq : Hold _) => ?_; replace hq := hq.out; obtain ⟨_, _, rfl, rfl⟩ := hq) | rintro _ _ ⟨rfl, rfl⟩ | rintro _ _ ⟨_, rfl, rfl⟩ | rintro _ _ ⟨_, _, rfl, rfl⟩ | (refine fun (hc : _ = _) => ?_; (try simp only [BB] at hc)) | refine fun (_ : Nat) => ?_ | refine fun (_ : _ ≤ _) => ?_ | refine fun (_ : _ < _) => ?_
      exact Pst.mk (by simp) .refl
    · exact hq2.elim
end Go.Proofs.YticnenofiibpgaaDoor.Code
/- 'woodcutlaw09.LexTexts' returns true for every input; and its card. -/
namespace Go.Proofs.YticnenofiibpgaaDoor.lexTexts
set_option linter.unusedSimpArgs false
set_option linter.unusedVariables false
set_option linter.unnecessarySimpa false
open Go.ChangeShapes Go.WideShapes Go.ChangeAt Go.RowKit

theorem own : ownKnob Tryd.prog.godebug = none := by kernel_rfl
theorem gTab : Tryd.prog.globalNamed "woodcut/chars.windows" = some 0 := by kernel_rfl
theorem gTabType : (Tryd.prog.globals[0]?).map (·.type) = some 69 := by kernel_rfl
theorem cells33 : Tryd.prog.cellsOf 69 = 32 := by kernel_rfl
theorem cells21 : Tryd.prog.cellsOf 21 = 1 := by kernel_rfl

theorem table {W : World} (h : laidMetH Tryd.prog Rows.lexTextsRow.laid W) : Lib.TabIs Tryd.prog W "woodcut/chars.windows" .i32 Code.windows :=
  Lib.tabIs_of_head (rest := []) gTab gTabType Tryd.underlying69 Tryd.underlying21 cells21 cells33 h

theorem globOk {W : World} (h : Lib.TabIs Tryd.prog W "woodcut/chars.windows" .i32 Code.windows) : Dm.GlobOk Code.D (Dm.Cor.start W) := by
  refine ⟨fun g cs hg x hx => ?_, fun g cs hg => ?_⟩
  · simp only [Code.D, Code.glob] at hg
    split at hg <;> cases hg
    obtain ⟨z, _, rfl⟩ := List.mem_map.1 hx
    rfl
  · simp only [Code.D, Code.glob] at hg
    split at hg <;> cases hg
    rename_i hg0
    obtain rfl := Nat.eq_of_beq_eq_true hg0
    refine ⟨Code.windows.map (Value.int .i32), ?_, fun j x hj => ?_⟩
    · generalize Code.windows = ws
      induction ws with
      | nil => exact .nil
      | cons z zs ih => exact .cons (.int _ _) ih
    · show W.cell? ⟨0, j, none⟩ = some x
      have hlt : j < Code.windows.length := by have := (List.getElem?_eq_some_iff.1 hj).1; simpa using this
      have hc := h.cell gTab j hlt
      rw [hc]
      rw [List.getElem?_map, List.getElem?_eq_getElem hlt] at hj
      rw [List.getD_eq_getElem?_getD, List.getElem?_eq_getElem hlt]
      simpa using hj

theorem tys : Dm.tyB Tryd.prog [9, 4, 21] = true := by kernel_rfl
theorem run (dvs : List Dm.DV) (h : Dm.TAs Tryd.prog Tryd.f4.params.toList dvs) : Dm.F0 Code.D 4 dvs Dm.Heap.start (fun v _ => v = .bool true) := by
  rw [Tryd.params4] at h
  cases h with | @cons _ c0 _ _ h0 h =>
  cases h with | @cons _ c1 _ _ h1 h =>
  cases h
  obtain ⟨s, e0, _⟩ := Dm.TC.strV Tryd.underlying9 h0
  obtain ⟨b, e1⟩ := Dm.TC.boolV Tryd.underlying4 h1
  rw [e0, e1]
  exact Code.textsLaw (s := s) (plain := b)

set_option maxRecDepth 100000 in
theorem contract (H : Type) (enc : TypeId × Value → H) (W : World) (base : Nat) (args : Array Value) (ds gs : List (DataW H)) (before : List MemPlace)
    (hval : ∀ (j : Nat) t v, Tryd.f4.params[j]? = some t → args[j]? = some v → Value.okWide Tryd.prog W .any base t v)
    (hW : DataW.Whole enc Tryd.prog Tryd.f4.params.toList Rows.lexTextsSpec.vars false W args.toList ds gs before) (hL : laidMetH Tryd.prog Rows.lexTextsRow.laid W) :
    Calls Tryd.prog 4 args W fun e W' => ∃ v, e = .returned v ∧ Rows.lexTextsSpec.post enc Tryd.prog Tryd.f4 false true false false W args v W' := by
  refine Dm.contract_gen (D := Code.D) (cfg := Code.cfg) tys Code.hm Code.hD Code.hP (by kernel_rfl) rfl (tb := 4) Tryd.underlying4 rfl ?_ run W args ds gs before hval hW (globOk (table hL))
  intro ds hd
  rw [Tryd.params4] at hd
  match ds, hd with
  | [d0, d1], _ => rfl

noncomputable def laidWorld (os : Os) : World :=
  { World.holding Tryd.prog os ⟨#[], #[], []⟩ with heap := (World.holding Tryd.prog os ⟨#[], #[], []⟩).heap.modify 0 fun
      | .cells _ t frozen => .cells (Code.windows.map (Value.int .i32)).toArray t frozen
      | o => o }
theorem laid_met (os : Os) : laidMet Tryd.prog Rows.lexTextsRow.laid ((laidWorld os).forCall (fun _ _ => 0) ⟨#[], #[.string ⟨#[]⟩, .bool false], []⟩).memory :=
  laidMet_of_run' 8 (by kernel_rfl) (by kernel_rfl)
theorem reads (os : Os) {H : Type} (enc : TypeId × Value → H) : ∃ places, DataW.whole enc Tryd.prog ((laidWorld os).forCall (fun _ _ => 0) ⟨#[], #[.string ⟨#[]⟩, .bool false], []⟩).memory Tryd.f4.params.toList Rows.lexTextsSpec.vars false #[.string ⟨#[]⟩, .bool false].toList 8 = some ([.lit (.string []), .lit (.bool false)], [], places) :=
  ⟨[], by kernel_rfl⟩

set_option maxRecDepth 100000 in
theorem lifted (os : Os) (started : os.Started) (H : Type) (enc : TypeId × Value → H) (F : Stop.Interp) :
    ReturnsInHanded {} Tryd.checked os 4 .any ((OpenSpec.ofChange Rows.lexTextsSpec).preRow enc Tryd.prog Tryd.f4 Rows.lexTextsRow.domain false Rows.lexTextsRow.laid) (((OpenSpec.ofChange Rows.lexTextsSpec).at F).post enc Tryd.prog Tryd.f4 false true false false) := by
  obtain ⟨places, hx⟩ := reads os enc
  refine returnsInHanded_of_row (C := Tryd.checked) (s := OpenSpec.ofChange Rows.lexTextsSpec) own started (by kernel_rfl) Tryd.func4
    (witness_row_at (enc := enc) (C := Tryd.checked) false (laidWorld os) #[.string ⟨#[]⟩, .bool false] rfl (by kernel_rfl) (by kernel_rfl) (by kernel_rfl)
      (OpenSpec.preRow_of_cond 8 hx (by kernel_rfl) (fun k hk => by cases hk) (by kernel_rfl) (laid_met os))) ?_
  intro W base args ds gs before hval hW _ _ _ hL _ _
  exact contract H enc W base args ds gs before hval hW hL

theorem said : Rows.LexTextsSaid :=
  OpenClaim.holds_of_cond 4 Tryd.f4 rfl rfl rfl rfl rfl rfl rfl ⟨rfl, rfl, rfl, rfl, rfl⟩ rfl rfl rfl rfl rfl (by kernel_rfl) Tryd.func4 (by kernel_rfl)
    (of_decide_eq_true (by kernel_rfl)) (by unfold Func.isWrapper; first | (rw [if_pos (by decide +kernel)]; kernel_rfl) | (rw [if_neg (by decide +kernel)]; exact ⟨rfl, rfl⟩))
    (fun os started H enc _ F => by rw [OpenClaim.pre_eq_preRow]; exact lifted os started H enc F)

theorem plain (f : FuncId) (fn : Func) (hf : Tryd.pinned.checked.prog.funcNamed "woodcut/woodcutlaw09.LexTexts" = some f) (hfn : Tryd.pinned.checked.prog.funcs[f]? = some fn) :
    false = Tryd.pinned.checked.prog.looks [] ∧ ∀ (j : Nat) t, fn.params[j]? = some t → Tryd.pinned.checked.prog.wantsStandIn t = false := by
  obtain rfl : f = 4 := Option.some.inj ((show Tryd.prog.funcNamed "woodcut/woodcutlaw09.LexTexts" = some 4 by kernel_rfl).symm.trans hf) |>.symm
  obtain rfl : fn = Tryd.f4 := (Option.some.inj (Tryd.func4.symm.trans hfn)).symm
  refine ⟨by kernel_rfl, fun j t ht => ?_⟩
  rw [Tryd.params4] at ht
  have hall : [9, 4].all (fun t => Tryd.prog.wantsStandIn t == false) = true := by kernel_rfl
  have hmem : t ∈ [9, 4] := by have := Array.mem_of_getElem? ht; simpa using this
  exact eq_of_beq (List.all_eq_true.1 hall t hmem)

theorem card : Rows.LexTextsCardSaid :=
  Claim7.holds_tied_plain_at .later [] _ _ _ _ said (fun _ h => by cases h) (by kernel_rfl) (fun _ h => by cases h) lexTexts_row_tie rfl ⟨rfl, rfl⟩ (by kernel_rfl) rfl plain (by kernel_rfl)
end Go.Proofs.YticnenofiibpgaaDoor.lexTexts
