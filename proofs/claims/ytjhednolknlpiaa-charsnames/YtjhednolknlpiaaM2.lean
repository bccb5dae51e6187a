/- The names of chars in order; two looks for the longest name. -/
import Derived.Test.YtjhednolknlpiaaM1
import Derived.Test.YtjhednolknlpiaaDmRb
namespace Go
/-- The names in order, by their places in the table. -/
def Md.ord : List Nat := [4, 27, 28, 6, 5, 29, 31, 33, 50, 0, 41, 34, 53, 35, 9, 13, 18, 39, 36, 45, 25, 2, 42, 8, 52, 26, 14, 47, 56, 59, 54, 1, 43, 21, 23, 7, 44, 58, 15, 49, 37, 60, 51, 38, 22, 19, 10, 3, 24, 48, 57, 17, 55, 12, 16, 20, 32, 30, 46, 40, 11]
def Md.names : List Md.Entry := Md.ord.map (Md.table.getD · default)
/-- How far a name and signs go together. -/
def Md.cpl : List UInt8 → List Int → Nat
  | b :: bs, r :: rs => if r = (b.toNat : Int) then Md.cpl bs rs + 1 else 0
  | _, _ => 0
def Md.lawStep (rs : List Int) (a : Nat × Int × Bool) (e : Md.Entry) : Nat × Int × Bool :=
  let n := Md.cpl e.name rs
  if n < e.name.length then a else
  if n < rs.length ∧ rs.getD n default = 59 then (if n + 1 > a.1 then (n + 1, e.sign, true) else a)
  else if e.bare = true ∧ n > a.1 then (n, e.sign, false) else a
def Md.lawAt (rs : List Int) (k : Nat) : Nat × Int × Bool := (Md.names.take k).foldl (Md.lawStep rs) (0, 0, false)
theorem Md.lawAt_succ {rs : List Int} {k : Nat} (h : k < Md.names.length) : Md.lawAt rs (k + 1) = Md.lawStep rs (Md.lawAt rs k) (Md.names.getD k default) := by
  unfold Md.lawAt
  rw [List.take_add_one, List.getElem?_eq_getElem h, List.foldl_append]
  simp [List.getD_eq_getElem?_getD, List.getElem?_eq_getElem h]
theorem Md.cpl_le : ∀ (bs : List UInt8) (rs : List Int), Md.cpl bs rs ≤ bs.length ∧ Md.cpl bs rs ≤ rs.length
  | [], rs => by simp [Md.cpl]
  | b :: bs, [] => by simp [Md.cpl]
  | b :: bs, r :: rs => by
    have := Md.cpl_le bs rs
    simp only [Md.cpl, List.length_cons]
    split <;> omega

/-! ### plain law -/
open Go.Dm (runeBytes)
theorem Md.enc_low {r : Int} (h : 0 ≤ r ∧ r < 128) : (Utf8.encode r).data.toList = [UInt8.ofNat r.toNat] := by
  have hv : Utf8.valid r = true := by simp [Utf8.valid]; omega
  unfold Utf8.encode
  simp only [hv, if_true]
  rw [if_pos (by omega)]
theorem Md.enc_high {r : Int} (h : ¬(0 ≤ r ∧ r < 128)) : ∃ c t, (Utf8.encode r).data.toList = c :: t ∧ 128 ≤ c.toNat := by
  unfold Utf8.encode
  have hc : 128 ≤ (if Utf8.valid r = true then r.toNat else Utf8.runeError) ∧ (if Utf8.valid r = true then r.toNat else Utf8.runeError) < 2097152 := by
    split
    · rename_i hv
      simp [Utf8.valid] at hv
      omega
    · decide
  dsimp only
  generalize (if Utf8.valid r = true then r.toNat else Utf8.runeError) = c at hc
  rw [if_neg (by omega)]
  split
  · exact ⟨_, _, rfl, by rw [UInt8.toNat_ofNat']; omega⟩
  · split
    · exact ⟨_, _, rfl, by rw [UInt8.toNat_ofNat']; omega⟩
    · exact ⟨_, _, rfl, by rw [UInt8.toNat_ofNat']; omega⟩
theorem Md.cpl_bytes : ∀ (bs : List UInt8) (rs : List Int), bs.all (fun b => decide (b.toNat < 128)) = true → bs.length ≤ rs.length → (runeBytes (rs.take bs.length) = bs ↔ Md.cpl bs rs = bs.length)
  | [], rs, _, _ => by simp [runeBytes, Md.cpl]
  | b :: bs, [], _, h => by simp at h
  | b :: bs, r :: rs, ha, hl => by
    simp only [List.all_cons, Bool.and_eq_true, decide_eq_true_eq] at ha
    have ih := Md.cpl_bytes bs rs ha.2 (by simpa using hl)
    simp only [List.length_cons, List.take_succ_cons, Md.cpl]
    have e : runeBytes (r :: rs.take bs.length) = (Utf8.encode r).data.toList ++ runeBytes (rs.take bs.length) := by simp [runeBytes]
    rw [e]
    by_cases hr : 0 ≤ r ∧ r < 128
    · rw [Md.enc_low hr]
      by_cases hb : r = (b.toNat : Int)
      · rw [if_pos hb]
        have : UInt8.ofNat r.toNat = b := by rw [hb]; simp
        rw [this]
        simp [ih]
      · rw [if_neg hb]
        constructor
        · intro h
          simp only [List.cons_append, List.nil_append, List.cons.injEq] at h
          exfalso; apply hb
          rw [← h.1, UInt8.toNat_ofNat']
          omega
        · intro h; omega
    · obtain ⟨c, t, e1, e2⟩ := Md.enc_high hr
      rw [e1]
      constructor
      · intro h
        simp only [List.cons_append, List.cons.injEq] at h
        rw [h.1] at e2; omega
      · intro h
        split at h
        · rename_i hb; exfalso; apply hr; omega
        · omega
theorem Md.cpl_full : ∀ (bs : List UInt8) (rs : List Int), Md.cpl bs rs = bs.length → bs.length ≤ rs.length ∧ ∀ i, i < bs.length → rs.getD i default = ((bs.getD i 0).toNat : Int)
  | [], rs, _ => by simp
  | b :: bs, [], h => by simp [Md.cpl] at h
  | b :: bs, r :: rs, h => by
    simp only [Md.cpl, List.length_cons] at h
    split at h
    · rename_i hb
      obtain ⟨h1, h2⟩ := Md.cpl_full bs rs (by omega)
      refine ⟨by simpa using h1, fun i hi => ?_⟩
      cases i with
      | zero => simpa using hb
      | succ i => simpa using h2 i (by simpa using hi)
    · omega
/-- How much of the signs a name takes. -/
def Md.hitN (rs : List Int) (e : Md.Entry) : Nat :=
  if Md.cpl e.name rs < e.name.length then 0 else
  if e.name.length < rs.length ∧ rs.getD e.name.length default = 59 then e.name.length + 1 else if e.bare = true then e.name.length else 0
def Md.hitE (rs : List Int) (e : Md.Entry) : Bool := decide (e.name.length < rs.length ∧ rs.getD e.name.length default = 59)
theorem Md.lawStep_hit (rs : List Int) (a : Nat × Int × Bool) (e : Md.Entry) : Md.lawStep rs a e = if Md.hitN rs e > a.1 then (Md.hitN rs e, e.sign, Md.hitE rs e) else a := by
  have hc := (Md.cpl_le e.name rs).1
  simp only [Md.lawStep, Md.hitN, Md.hitE]
  by_cases h1 : Md.cpl e.name rs < e.name.length
  · simp [h1]
  · have h2 : Md.cpl e.name rs = e.name.length := by omega
    simp only [h2, Nat.lt_irrefl, if_false]
    by_cases h3 : e.name.length < rs.length ∧ rs.getD e.name.length default = 59
    · rw [if_pos h3, if_pos h3, decide_eq_true h3]
    · rw [if_neg h3, if_neg h3, decide_eq_false h3]
      by_cases h4 : e.bare = true
      · simp [h4]
      · simp [h4]
theorem Md.matchStep_hit (rs : List Int) (a : Int × Nat × Bool) (i : Nat) (e : Md.Entry) (ha : e.name.all (fun b => decide (b.toNat < 128)) = true) : Md.matchStep runeBytes rs a i e = if Md.hitN rs e > a.2.1 then ((i : Int), Md.hitN rs e, Md.hitE rs e) else a := by
  have hc := Md.cpl_le e.name rs
  have hd : (rs.getD e.name.length 0 == 59) = decide (rs.getD e.name.length default = 59) := rfl
  by_cases h1 : Md.cpl e.name rs < e.name.length
  · have hn : Md.hitN rs e = 0 := by unfold Md.hitN; rw [if_pos h1]
    simp only [hn]
    simp only [Md.matchStep]
    rw [if_pos]
    · simp
    · by_cases hl : e.name.length ≤ rs.length
      · exact .inr fun h => by have := (Md.cpl_bytes e.name rs ha hl).1 h; omega
      · exact .inl (by omega)
  · have h2 : Md.cpl e.name rs = e.name.length := by omega
    have hg : ¬(e.name.length > rs.length ∨ runeBytes (rs.take e.name.length) ≠ e.name) := fun h => h.elim (fun h => by omega) (fun h => h ((Md.cpl_bytes e.name rs ha (by omega)).2 h2))
    by_cases h3 : e.name.length < rs.length ∧ rs.getD e.name.length default = 59
    · have e1 : (decide (e.name.length < rs.length) && decide (rs.getD e.name.length default = 59)) = true := by simp only [Bool.and_eq_true, decide_eq_true_eq]; exact h3
      have hn : Md.hitN rs e = e.name.length + 1 := by unfold Md.hitN; rw [if_neg h1, if_pos h3]
      have he : Md.hitE rs e = true := decide_eq_true h3
      simp only [hn, he]
      simp only [Md.matchStep]
      rw [if_neg hg, hd, e1]
      simp
    · have e1 : (decide (e.name.length < rs.length) && decide (rs.getD e.name.length default = 59)) = false := by
        simp only [Bool.and_eq_false_imp, decide_eq_true_eq, decide_eq_false_iff_not]; exact fun a b => h3 ⟨a, b⟩
      have hn : Md.hitN rs e = if e.bare = true then e.name.length else 0 := by unfold Md.hitN; rw [if_neg h1, if_neg h3]
      have he : Md.hitE rs e = false := decide_eq_false h3
      simp only [hn, he]
      simp only [Md.matchStep]
      rw [if_neg hg, hd, e1]
      by_cases h4 : e.bare = true
      · simp [h4]
      · simp [h4]
theorem Md.hit_unique (rs : List Int) {e e' : Md.Entry} (h : Md.hitN rs e = Md.hitN rs e') (h0 : 0 < Md.hitN rs e) (n1 : e.name.all (· != 59) = true) (n2 : e'.name.all (· != 59) = true) : e.name = e'.name ∧ Md.hitE rs e = Md.hitE rs e' := by
  have key : ∀ e : Md.Entry, 0 < Md.hitN rs e → (∀ i, i < e.name.length → rs.getD i default = ((e.name.getD i 0).toNat : Int)) ∧ Md.hitN rs e = (if Md.hitE rs e = true then e.name.length + 1 else e.name.length) ∧ (Md.hitE rs e = true → rs.getD e.name.length default = 59) := by
    intro e h
    have hc := Md.cpl_le e.name rs
    unfold Md.hitN at h ⊢
    by_cases h1 : Md.cpl e.name rs < e.name.length
    · rw [if_pos h1] at h; omega
    · rw [if_neg h1] at h ⊢
      refine ⟨(Md.cpl_full e.name rs (by omega)).2, ?_, fun h => (of_decide_eq_true h).2⟩
      by_cases h3 : e.name.length < rs.length ∧ rs.getD e.name.length default = 59
      · rw [if_pos h3, Md.hitE, decide_eq_true h3]; rfl
      · rw [if_neg h3] at h ⊢
        rw [Md.hitE, decide_eq_false h3]
        split at h
        · rename_i h4; rw [if_pos h4]; rfl
        · omega
  obtain ⟨a1, a2, a3⟩ := key e h0
  obtain ⟨b1, b2, b3⟩ := key e' (by omega)
  have no59 : ∀ (l : List UInt8), l.all (· != 59) = true → ∀ i, i < l.length → ((l.getD i 0).toNat : Int) ≠ 59 := by
    intro l hl i hi he
    have hm := List.all_eq_true.1 hl (l[i]) (List.getElem_mem hi)
    rw [List.getD_eq_getElem?_getD, List.getElem?_eq_getElem hi] at he
    simp only [Option.getD_some] at he
    have : l[i] = 59 := by apply UInt8.toNat_inj.1; show l[i].toNat = 59; omega
    rw [this] at hm
    exact absurd hm (by decide)
  have hlen : e.name.length = e'.name.length ∧ Md.hitE rs e = Md.hitE rs e' := by
    cases x1 : Md.hitE rs e <;> cases x2 : Md.hitE rs e' <;> rw [x1] at a2 <;> rw [x2] at b2 <;> simp only [Bool.false_eq_true, if_false, if_true] at a2 b2
    · exact ⟨by omega, rfl⟩
    · exfalso
      have q1 := b3 x2
      have q2 := a1 e'.name.length (by omega)
      rw [q1] at q2
      exact no59 e.name n1 e'.name.length (by omega) q2.symm
    · exfalso
      have q1 := a3 x1
      have q2 := b1 e.name.length (by omega)
      rw [q1] at q2
      exact no59 e'.name n2 e.name.length (by omega) q2.symm
    · exact ⟨by omega, rfl⟩
  refine ⟨?_, hlen.2⟩
  apply List.ext_getElem hlen.1
  intro i h1 h2
  have q1 := a1 i h1
  have q2 := b1 i h2
  rw [q1] at q2
  rw [List.getD_eq_getElem?_getD, List.getElem?_eq_getElem h1, List.getD_eq_getElem?_getD, List.getElem?_eq_getElem h2] at q2
  simp only [Option.getD_some] at q2
  apply UInt8.toNat_inj.1
  omega
theorem Md.law_fold (rs : List Int) : ∀ (l : List Md.Entry) (a : Nat × Int × Bool), (∀ e ∈ l, Md.hitN rs e ≤ (l.foldl (Md.lawStep rs) a).1) ∧ a.1 ≤ (l.foldl (Md.lawStep rs) a).1 ∧ (l.foldl (Md.lawStep rs) a = a ∨ ∃ e ∈ l, l.foldl (Md.lawStep rs) a = (Md.hitN rs e, e.sign, Md.hitE rs e))
  | [], a => ⟨fun e h => (by cases h), Nat.le_refl _, .inl rfl⟩
  | e :: l, a => by
    simp only [List.foldl_cons]
    obtain ⟨h1, h2, h3⟩ := Md.law_fold rs l (Md.lawStep rs a e)
    have hs := Md.lawStep_hit rs a e
    have hle : Md.hitN rs e ≤ (Md.lawStep rs a e).1 ∧ a.1 ≤ (Md.lawStep rs a e).1 := by
      rw [hs]; split <;> exact ⟨by omega, by omega⟩
    refine ⟨fun x hx => ?_, by omega, ?_⟩
    · rcases List.mem_cons.1 hx with rfl | hx
      · omega
      · exact h1 x hx
    · rcases h3 with h3 | ⟨x, hx, h3⟩
      · rw [h3, hs]
        split
        · exact .inr ⟨e, by simp, rfl⟩
        · exact .inl rfl
      · exact .inr ⟨x, by simp [hx], h3⟩
theorem Md.match_fold (rs : List Int) : ∀ (l : List (Md.Entry × Nat)) (a : Int × Nat × Bool), (∀ p ∈ l, p.1.name.all (fun b => decide (b.toNat < 128)) = true) →
    (∀ p ∈ l, Md.hitN rs p.1 ≤ (l.foldl (fun a p => Md.matchStep runeBytes rs a p.2 p.1) a).2.1) ∧ a.2.1 ≤ (l.foldl (fun a p => Md.matchStep runeBytes rs a p.2 p.1) a).2.1 ∧
      (l.foldl (fun a p => Md.matchStep runeBytes rs a p.2 p.1) a = a ∨ ∃ p ∈ l, l.foldl (fun a p => Md.matchStep runeBytes rs a p.2 p.1) a = ((p.2 : Int), Md.hitN rs p.1, Md.hitE rs p.1) ∧ a.2.1 < Md.hitN rs p.1)
  | [], a, _ => ⟨fun e h => (by cases h), Nat.le_refl _, .inl rfl⟩
  | p :: l, a, ha => by
    simp only [List.foldl_cons]
    obtain ⟨h1, h2, h3⟩ := Md.match_fold rs l (Md.matchStep runeBytes rs a p.2 p.1) (fun q hq => ha q (by simp [hq]))
    have hs := Md.matchStep_hit rs a p.2 p.1 (ha p (by simp))
    have hle : Md.hitN rs p.1 ≤ (Md.matchStep runeBytes rs a p.2 p.1).2.1 ∧ a.2.1 ≤ (Md.matchStep runeBytes rs a p.2 p.1).2.1 := by
      rw [hs]; split <;> exact ⟨by first | omega | (simp only; omega) | (show _ ≤ Md.hitN rs p.1; omega), by first | omega | (simp only; omega) | (show _ ≤ Md.hitN rs p.1; omega)⟩
    refine ⟨fun x hx => ?_, by omega, ?_⟩
    · rcases List.mem_cons.1 hx with rfl | hx
      · omega
      · exact h1 x hx
    · rcases h3 with h3 | ⟨x, hx, h3, h4⟩
      · rw [h3, hs]
        split
        · rename_i h5; exact .inr ⟨p, by simp, rfl, h5⟩
        · exact .inl rfl
      · exact .inr ⟨x, by simp [hx], h3, by omega⟩
theorem Md.table_facts : (∀ e ∈ Md.table, e.name.all (fun b => decide (b.toNat < 128)) = true ∧ e.name.all (· != 59) = true) ∧ (∀ e ∈ Md.table, ∀ e' ∈ Md.table, e.name = e'.name → e.sign = e'.sign) := by decide +kernel
theorem Md.ord_facts : (∀ i ∈ Md.ord, i < 61) ∧ (∀ i, i < 61 → i ∈ Md.ord) := by decide +kernel
theorem Md.names_mem {e : Md.Entry} : e ∈ Md.names ↔ e ∈ Md.table := by
  have hl : Md.table.length = 61 := rfl
  unfold Md.names
  rw [List.mem_map]
  constructor
  · rintro ⟨i, hi, rfl⟩
    have := Md.ord_facts.1 i hi
    rw [List.getD_eq_getElem?_getD, List.getElem?_eq_getElem (by omega)]
    exact List.getElem_mem _
  · intro h
    obtain ⟨i, hi, rfl⟩ := List.getElem_of_mem h
    refine ⟨i, Md.ord_facts.2 i (by omega), ?_⟩
    rw [List.getD_eq_getElem?_getD, List.getElem?_eq_getElem hi]; rfl
/-- The longest hit is found whatever the order of the names. -/
theorem Md.matches_pure (rs : List Int) {w : Nat} {s : Int} {en : Bool} (h : (w, s, en) = Md.lawAt rs 61) :
    (w = 0 → Md.matchT runeBytes rs = ([], 0, false)) ∧ (w ≠ 0 → ∃ r, Md.matchT runeBytes rs = (s :: r, w, en)) := by
  obtain ⟨a1, _, a3⟩ := Md.law_fold rs (Md.names.take 61) (0, 0, false)
  have hA : (Md.names.take 61).foldl (Md.lawStep rs) (0, 0, false) = (w, s, en) := h.symm
  rw [hA] at a1 a3
  have htk : Md.names.take 61 = Md.names := List.take_of_length_le (by decide)
  rw [htk] at a1 a3
  have hzip : ∀ p ∈ Md.table.zipIdx, Md.table[p.2]? = some p.1 := fun p hp => by
    obtain ⟨e, i⟩ := p
    exact List.mem_zipIdx_iff_getElem?.1 hp
  have hmem : ∀ p ∈ Md.table.zipIdx, p.1 ∈ Md.table := fun p hp => List.mem_of_getElem? (hzip p hp)
  obtain ⟨b1, _, b3⟩ := Md.match_fold rs Md.table.zipIdx (-1, 0, false) (fun p hp => (Md.table_facts.1 p.1 (hmem p hp)).1)
  have hB : Md.table.zipIdx.foldl (fun a p => Md.matchStep runeBytes rs a p.2 p.1) (-1, 0, false) = Md.matchAll runeBytes rs := rfl
  rw [hB] at b1 b3
  have b1' : ∀ e ∈ Md.table, Md.hitN rs e ≤ (Md.matchAll runeBytes rs).2.1 := fun e he => by
    obtain ⟨i, hi, rfl⟩ := List.getElem_of_mem he
    exact b1 (Md.table[i], i) (List.mem_zipIdx_iff_getElem?.2 (List.getElem?_eq_getElem hi))
  constructor
  · intro hw
    subst hw
    rcases b3 with b3 | ⟨p, hp, b3, b4⟩
    · unfold Md.matchT; rw [b3]; rfl
    · have := a1 p.1 (Md.names_mem.2 (hmem p hp)); dsimp only at this b4; omega
  · intro hw
    rcases a3 with a3 | ⟨e, he, a3⟩
    · simp only [Prod.mk.injEq] at a3; omega
    · simp only [Prod.mk.injEq] at a3
      obtain ⟨rfl, rfl, rfl⟩ := a3
      have he' := Md.names_mem.1 he
      have q1 := b1' e he'
      rcases b3 with b3 | ⟨p, hp, b3, b4⟩
      · rw [b3] at q1; dsimp only at q1; omega
      · have hp' := hmem p hp
        have q2 := a1 p.1 (Md.names_mem.2 hp')
        rw [b3] at q1
        dsimp only at q1 q2 b4
        obtain ⟨u1, u2⟩ := Md.hit_unique rs (e := e) (e' := p.1) (by omega) (by omega) (Md.table_facts.1 e he').2 (Md.table_facts.1 p.1 hp').2
        have hs := Md.table_facts.2 e he' p.1 hp' u1
        have hg : Md.table.getD p.2 default = p.1 := by rw [List.getD_eq_getElem?_getD, hzip p hp]; rfl
        unfold Md.matchT
        rw [b3]
        dsimp only
        rw [if_neg (by omega), Int.toNat_natCast, hg, hs, u2, show Md.hitN rs p.1 = Md.hitN rs e by omega]
        split
        · exact ⟨_, rfl⟩
        · exact ⟨_, rfl⟩
theorem Md.lawAt_le (rs : List Int) (k : Nat) : (Md.lawAt rs k).1 ≤ rs.length + 1 := by
  have hN : ∀ e, Md.hitN rs e ≤ rs.length + 1 := fun e => by
    have hc := Md.cpl_le e.name rs
    unfold Md.hitN
    repeat' split
    all_goals omega
  obtain ⟨_, _, h3⟩ := Md.law_fold rs (Md.names.take k) (0, 0, false)
  unfold Md.lawAt
  rcases h3 with h3 | ⟨e, _, h3⟩
  · rw [h3]; exact Nat.zero_le _
  · rw [h3]; exact hN e
theorem Md.names_len : ∀ k, k < 61 → (Md.names.getD k default).name.length ≤ 20 := by decide +kernel
theorem Md.names_sorted : ∀ k, k < 61 → 0 < k → Go.Dm.strLess (Md.names.getD (k - 1) default).name (Md.names.getD k default).name = true := by decide +kernel
/-- What matchT answers, by the hits. -/
theorem Md.matchT_hit (rs : List Int) : (∀ e ∈ Md.table, Md.hitN rs e ≤ (Md.matchT runeBytes rs).2.1) ∧ (Md.matchT runeBytes rs = ([], 0, false) ∨ ∃ e ∈ Md.table, Md.matchT runeBytes rs = (if e.name = [110, 118, 108, 116] then [e.sign, 8402] else [e.sign], Md.hitN rs e, Md.hitE rs e) ∧ 0 < Md.hitN rs e) := by
  have hzip : ∀ p ∈ Md.table.zipIdx, Md.table[p.2]? = some p.1 := fun p hp => by
    obtain ⟨e, i⟩ := p
    exact List.mem_zipIdx_iff_getElem?.1 hp
  have hmem : ∀ p ∈ Md.table.zipIdx, p.1 ∈ Md.table := fun p hp => List.mem_of_getElem? (hzip p hp)
  obtain ⟨b1, _, b3⟩ := Md.match_fold rs Md.table.zipIdx (-1, 0, false) (fun p hp => (Md.table_facts.1 p.1 (hmem p hp)).1)
  have hB : Md.table.zipIdx.foldl (fun a p => Md.matchStep runeBytes rs a p.2 p.1) (-1, 0, false) = Md.matchAll runeBytes rs := rfl
  rw [hB] at b1 b3
  have b1' : ∀ e ∈ Md.table, Md.hitN rs e ≤ (Md.matchAll runeBytes rs).2.1 := fun e he => by
    obtain ⟨i, hi, rfl⟩ := List.getElem_of_mem he
    exact b1 (Md.table[i], i) (List.mem_zipIdx_iff_getElem?.2 (List.getElem?_eq_getElem hi))
  rcases b3 with b3 | ⟨p, hp, b3, b4⟩
  · have e1 : Md.matchT runeBytes rs = ([], 0, false) := by unfold Md.matchT; rw [b3]; rfl
    rw [e1]
    rw [b3] at b1'
    exact ⟨b1', .inl rfl⟩
  · have hg : Md.table.getD p.2 default = p.1 := by rw [List.getD_eq_getElem?_getD, hzip p hp]; rfl
    have e1 : Md.matchT runeBytes rs = (if p.1.name = [110, 118, 108, 116] then [p.1.sign, 8402] else [p.1.sign], Md.hitN rs p.1, Md.hitE rs p.1) := by
      unfold Md.matchT
      rw [b3]
      dsimp only
      rw [if_neg (by omega), Int.toNat_natCast, hg]
    rw [e1]
    rw [b3] at b1'
    exact ⟨b1', .inr ⟨p.1, hmem p hp, rfl, b4⟩⟩
theorem Md.cpl_self : ∀ (bs : List UInt8) (more : List Int), Md.cpl bs (bs.map (fun b => (b.toNat : Int)) ++ more) = bs.length
  | [], more => by simp [Md.cpl]
  | b :: bs, more => by simp [Md.cpl, Md.cpl_self bs more]
/-- A name with its end, whatever follows, is found. -/
theorem Md.names_found {e : Md.Entry} (he : e ∈ Md.table) (more : List Int) : ∃ r, Md.matchT runeBytes (e.name.map (fun b => (b.toNat : Int)) ++ 59 :: more) = (e.sign :: r, e.name.length + 1, true) ∧ (r ≠ [] → e.name = [110, 118, 108, 116]) := by
  obtain ⟨rs, hrs⟩ : ∃ rs, rs = e.name.map (fun b => (b.toNat : Int)) ++ 59 :: more := ⟨_, rfl⟩
  have hl : rs.length = e.name.length + 1 + more.length := by rw [hrs]; simp; omega
  have h59 : rs.getD e.name.length default = 59 := by rw [hrs, List.getD_eq_getElem?_getD, List.getElem?_append_right (by simp)]; simp
  have hN : Md.hitN rs e = e.name.length + 1 := by
    unfold Md.hitN
    rw [hrs, Md.cpl_self, if_neg (by omega), ← hrs, if_pos ⟨by omega, h59⟩]
  have hE : Md.hitE rs e = true := decide_eq_true ⟨by omega, h59⟩
  rw [← hrs]
  obtain ⟨h1, h2⟩ := Md.matchT_hit rs
  have q1 := h1 e he
  rcases h2 with h2 | ⟨p, hp, h2, h3⟩
  · rw [h2] at q1; dsimp only at q1; omega
  · rw [h2] at q1
    dsimp only at q1
    have hle : Md.hitN rs p ≤ e.name.length + 1 := by
      have hc := Md.cpl_le p.name rs
      by_cases hcp : Md.cpl p.name rs < p.name.length
      · unfold Md.hitN; rw [if_pos hcp]; omega
      · have hf := (Md.cpl_full p.name rs (by omega)).2
        have hpl : p.name.length ≤ e.name.length := by
          by_cases hx : e.name.length < p.name.length
          · exfalso
            have := hf e.name.length hx
            rw [h59] at this
            have hm := List.all_eq_true.1 (Md.table_facts.1 p hp).2 (p.name[e.name.length]) (List.getElem_mem hx)
            rw [List.getD_eq_getElem?_getD, List.getElem?_eq_getElem hx] at this
            simp only [Option.getD_some] at this
            have h5 : p.name[e.name.length] = 59 := by apply UInt8.toNat_inj.1; show p.name[e.name.length].toNat = 59; omega
            rw [h5] at hm
            exact absurd hm (by decide)
          · omega
        unfold Md.hitN
        repeat' split
        all_goals omega
    obtain ⟨u1, u2⟩ := Md.hit_unique rs (e := e) (e' := p) (by omega) (by omega) (Md.table_facts.1 e he).2 (Md.table_facts.1 p hp).2
    have hs := Md.table_facts.2 e he p hp u1
    rw [h2, ← u1, ← u2, hE, ← hs, show Md.hitN rs p = e.name.length + 1 by omega]
    split
    · rename_i hn; exact ⟨_, rfl, fun _ => hn⟩
    · exact ⟨_, rfl, fun h => absurd rfl h⟩
theorem Md.alone_facts : ∀ e ∈ Md.table, ∀ p ∈ Md.table, Md.hitE (e.name.map (fun b => (b.toNat : Int))) p = false ∧ Md.hitN (e.name.map (fun b => (b.toNat : Int))) p ≤ e.name.length ∧ (e.bare = false → Md.hitN (e.name.map (fun b => (b.toNat : Int))) p ≠ e.name.length) := by decide +kernel
theorem Md.bare_facts : ∀ e ∈ Md.table, e.bare = true → Md.hitN (e.name.map (fun b => (b.toNat : Int))) e = e.name.length := by decide +kernel
theorem Md.some_facts : ∀ e ∈ Md.table, 0 < e.name.length := by decide +kernel
/-- A name without its end. -/
theorem Md.names_alone {e : Md.Entry} (he : e ∈ Md.table) : (Md.matchT runeBytes (e.name.map (fun b => (b.toNat : Int)))).2.2 = false ∧ (e.bare = true → (Md.matchT runeBytes (e.name.map (fun b => (b.toNat : Int)))).2.1 = e.name.length) ∧ (e.bare = false → (Md.matchT runeBytes (e.name.map (fun b => (b.toNat : Int)))).2.1 ≠ e.name.length) := by
  obtain ⟨h1, h2⟩ := Md.matchT_hit (e.name.map (fun b => (b.toNat : Int)))
  have q1 := h1 e he
  have q0 := Md.some_facts e he
  rcases h2 with h2 | ⟨p, hp, h2, h3⟩
  · rw [h2] at q1 ⊢
    refine ⟨rfl, fun hb => ?_, fun _ => by dsimp only; omega⟩
    have := Md.bare_facts e he hb
    dsimp only at q1; omega
  · obtain ⟨f1, f2, f3⟩ := Md.alone_facts e he p hp
    rw [h2] at q1 ⊢
    refine ⟨f1, fun hb => ?_, fun hb => f3 hb⟩
    have := Md.bare_facts e he hb
    dsimp only at q1 ⊢; omega
theorem Md.names_getD {k : Nat} (h : k < 61) : Md.names.getD k default ∈ Md.table := by
  have hlen : Md.names.length = 61 := rfl
  apply Md.names_mem.1
  rw [List.getD_eq_getElem?_getD, List.getElem?_eq_getElem (by omega)]
  exact List.getElem_mem _
end Go
