/- LexRefs returns true for every input: part 8 of the proof (several texts joined). -/
import Derived.Test.YticnenofiibpgaaDoorJ7
/- What LexRefs does on typed values. -/
namespace Go.Proofs.YticnenofiibpgaaDoor.Code
open Go.Dm Go.Dm.C
set_option linter.unusedSimpArgs false
set_option linter.unusedVariables false
set_option linter.unnecessarySimpa false
set_option maxRecDepth 10000
attribute [local irreducible] Go.Dm.F Go.Dm.RS Go.Dm.Y Go.Dm.FD Go.Dm.FZ1 Go.Dm.Hold
variable {R0 : List Ck}
theorem and_any (n : Int) (m : Nat) (hm : m ≤ 1000000000) : ∃ k : Nat, k ≤ m ∧ ∀ p, BI p .and .any (.int .i64 n) (.int .i64 (m : Int)) (.int .i64 (k : Int)) := by
  have hk : (BitVec.ofInt 64 n &&& BitVec.ofInt 64 (m : Int)).toNat ≤ m := by
    rw [BitVec.toNat_and]
    refine Nat.le_trans Nat.and_le_right ?_
    rw [BitVec.toNat_ofInt]; omega
  refine ⟨_, hk, fun p => .gen ?_⟩
  show some (DV.int .i64 (IntKind.i64.wrap ((BitVec.ofInt 64 n &&& BitVec.ofInt 64 (m : Int)).toNat : Int))) = _
  rw [wrap_i64_in (by omega)]
theorem shr2_any (n : Int) : ∃ m : Int, ∀ p, BI p .shr .any (.int .i64 n) (.int .u64 2) (.int .i64 m) := ⟨_, fun p => .gen rfl⟩
theorem rem5 (c : Int) (h : 0 ≤ c) : ∃ j : Nat, j < 5 ∧ ∀ p, BI p .rem .any (.int .i64 c) (.int .i64 5) (.int .i64 (j : Int)) := by
  refine ⟨(c % 5).toNat, by omega, fun p => .gen ?_⟩
  show some (DV.int .i64 (c.tmod 5)) = _
  rw [Int.tmod_eq_emod_of_nonneg h]
  congr 2; omega
theorem quo10 {k : Nat} {p : Bool} (h : k ≤ 1000000000) : BI p .quo .any (.int .i64 (k : Int)) (.int .i64 10) (.int .i64 ((k / 10 : Nat) : Int)) := .gen (by
  show some (DV.int .i64 (IntKind.i64.wrap ((k : Int).tdiv 10))) = _
  rw [Int.tdiv_eq_ediv_of_nonneg (by omega), wrap_i64_in (by omega)]; rfl)
theorem rem10 {k : Nat} {p : Bool} : BI p .rem .any (.int .i64 (k : Int)) (.int .i64 10) (.int .i64 ((k % 10 : Nat) : Int)) := .gen (by
  show some (DV.int .i64 ((k : Int).tmod 10)) = _
  rw [Int.tmod_eq_emod_of_nonneg (by omega)]; rfl)
theorem matchR_F {X : List Int} {R : Md.Str} {t z : Nat} (hX : X = Md.asc R) (hz : z = zOf t 1) (hl : R.length < 1000000) : F D 16 [.lst t z (X.map I32)] R0 (fun v cs' => Hold (∃ t', v = .tup [.lst t' (zOf t' 1) ((refM R).1.map I32), .int .i64 ((refM R).2.1 : Nat), .bool (refM R).2.2] ∧ R0 = cs')) := by
  subst hX
  exact match_F hz (by rw [asc_len]; omega)
def refNames : List Md.Str := [[97, 109, 112], [108, 116], [99, 111, 112, 121], [110, 111, 116, 105, 110], [101, 117, 114, 111], [116, 105, 109, 101, 115], [97, 112, 111, 115]]
theorem refNames_ok : ∀ i, i < 7 → lowName (refNames.getD i default) ∧ (refNames.getD i default).length ≤ 9 := by
  intro i hi
  have : ∀ i : Fin 7, (refNames.getD i.val default) ≠ [] ∧ (∀ c ∈ refNames.getD i.val default, 97 ≤ c.toNat ∧ c.toNat ≤ 122) ∧ (refNames.getD i.val default).length ≤ 9 := by decide
  have := this ⟨i, hi⟩
  exact ⟨⟨this.1, this.2.1⟩, this.2.2⟩
theorem low_drop {s : Md.Str} (h : lowName s) (hl : 1 < s.length) : lowName (s.drop 1) := by
  refine ⟨fun e => ?_, fun c hc => h.2 c (List.mem_of_mem_drop hc)⟩
  have := congrArg List.length e
  rw [List.length_drop, List.length_nil] at this; omega
theorem refOk_mk {W : Md.Str} {semi : Bool} {C : UInt8} (hW : lowName W) (hl : W.length ≤ 9) (hC : C = 97 ∨ C = 46 ∨ C = 61 ∨ C = 53 ∨ C = 32) : refOk (refRs W semi C) := by
  obtain ⟨c, m, rfl⟩ : ∃ c m, W = c :: m := by cases W with
    | nil => exact absurd rfl hW.1
    | cons c m => exact ⟨c, m, rfl⟩
  have hs : (if semi then ([59] : Md.Str) else []).length ≤ 1 := by cases semi <;> decide
  refine ⟨fun x hx => ?_, ?_, ?_, by unfold refRs; simp⟩
  · unfold refRs at hx
    simp only [List.mem_append] at hx
    rcases hx with (hx | hx) | hx
    · have := hW.2 x hx; omega
    · have h59 : ∀ x ∈ (if semi then ([59] : Md.Str) else []), x = 59 := by cases semi <;> simp
      rw [h59 x hx]; decide
    · simp only [List.mem_singleton] at hx
      subst hx
      rcases hC with rfl | rfl | rfl | rfl | rfl <;> decide
  · have := hW.2 c (by simp)
    show c ≠ 35
    intro e
    subst e
    exact absurd this.1 (by decide)
  · unfold refRs
    simp only [List.length_append, List.length_singleton]; omega
def refT2 : DC := match c_woodcutlaw09_LexRefs.body with
  | .seq _ (.seq _ (.seq _ (.seq _ (.seq _ (.seq _ (.seq _ (.seq _ e))))))) => e
  | _ => .skip
def refT3 : DC := match refT2 with
  | .seq _ (.seq _ (.seq _ (.seq _ (.seq _ (.seq _ (.seq _ (.seq _ (.seq _ (.seq _ (.seq _ (.seq _ (.seq _ e)))))))))))) => e
  | _ => .skip
theorem decS_bd {k : Nat} (h : k ≤ 2097151) : (decS k).length ≤ 8 := by
  have hs : ∀ n, ∀ k, k < 10 ^ n → (decS k).length ≤ max n 1 := by
    intro n
    induction n with
    | zero => intro k hk; obtain rfl : k = 0 := by omega
              rw [decS, dif_pos (by omega)]; simp
    | succ n ih =>
      intro k hk
      rw [decS]
      split
      · simp
      · rename_i h10
        have h1 : k / 10 < 10 ^ n := by rw [Nat.pow_succ] at hk; omega
        have := ih (k / 10) h1
        have hn : n ≠ 0 := by rintro rfl; simp at h1; omega
        rw [List.length_append, List.length_singleton]; omega
  have := hs 8 k (by omega)
  omega
theorem decS_step (k : Nat) : (k / 10 = 0 ∧ decS k = [Md.byteN (48 + k % 10)]) ∨ (0 < k / 10 ∧ decS k = decS (k / 10) ++ [Md.byteN (48 + k % 10)]) := by
  by_cases h : k < 10
  · left
    rw [decS, dif_pos h, Nat.mod_eq_of_lt h]; exact ⟨by omega, rfl⟩
  · right
    refine ⟨by omega, ?_⟩
    conv => lhs; rw [decS, dif_neg h]
set_option maxHeartbeats 4000000 in
theorem refT3_R {cs : List Ck} {es : List En} {n : Int} (hsub : Dm.Sub es [(1, .int .i64 n)]) : RR D [It.code refT3] ⟨244, es, [], none⟩ cs (Dm.Fin D (fun v cs' => v = .bool true) [DRes.tmp 8]) := by
  refine RR.weak _ (RR.drop (cs' := []) (List.nil_sublist _) ?_) hsub
  obtain ⟨N, hN, hAN⟩ := and_any n 2097151 (by omega)
  dsimp only [ents]
  unfold refT3 refT2
  dsimp only [c_woodcutlaw09_LexRefs]
  repeat' first
    | (show BI _ _ _ _ _ _; first | exact hAN _) | (refine Arith.mk ?_; omega) | (refine fun (hc : _ = _) => ?_; (try simp only [BB] at hc); (try (first | contradiction | (exfalso; omega)))) | exact arI | refine Pst.mk ⟨?_, rfl⟩ (by (repeat' constructor); first | done | fail) | constructor | (refine fun _ _ (hq : Hold _) => ?_; replace hq := hq.out; obtain ⟨_, rfl, rfl⟩ := hq) | (refine fun _ _ (hq : Hold _) => ?_; replace hq := hq.out; obtain ⟨_, _, rfl, rfl⟩ := hq) | rintro _ _ ⟨rfl, rfl⟩ | rintro _ _ ⟨_, rfl, rfl⟩ | rintro _ _ ⟨_, _, rfl, rfl⟩ | (refine fun (hc : _ = _) => ?_; (try simp only [BB] at hc)) | refine fun (_ : Nat) => ?_ | refine fun (_ : _ ≤ _) => ?_ | refine fun (_ : _ < _) => ?_
  refine RS.loopW (α := Nat × Md.Str) (fun a => [(1, .int .i64 (N : Nat)), (23, .str a.2), (24, .int .i64 (a.1 : Nat))]) (fun _ => [])
    (fun a => (a.2 = [] ∧ a.1 = N) ∨ (a.2 ≠ [] ∧ 0 < a.1 ∧ a.1 ≤ N ∧ decS N = decS a.1 ++ a.2) ∨ (a.2 ≠ [] ∧ a.1 = 0 ∧ decS N = a.2)) (fun a => 2 * a.1 + (if a.2 = [] then 1 else 0)) (N, []) (.inl ⟨rfl, rfl⟩) ⟨rfl, rfl, rfl, trivial⟩ .refl ?_
  rintro ⟨k, ds⟩ hI ih
  dsimp only [ents] at *
  have hkN : k ≤ N := by rcases hI with h | h | h <;> omega
  have hdl : decS N = ds ∨ ds.length ≤ 8 := by
    have := decS_bd hN
    rcases hI with h | h | h
    · rw [h.1]; exact .inr (by decide)
    · rw [h.2.2.2, List.length_append] at this; exact .inr (by omega)
    · exact .inl h.2.2
  have hdl : ds.length ≤ 8 := by
    rcases hdl with h | h
    · rw [← h]; exact decS_bd hN
    · exact h
  have hP := refs_number N (by omega)
  repeat' first
    | (show BI _ _ _ _ _ _; first | exact quo10 (by omega) | exact rem10)
    | (show FC _ _ _ _ _; first | exact all_F rfl (by simp only [List.length_append, List.length_cons, List.length_nil]; omega) | exact numeric_F (by omega) | exact encode_F (rs := [_]) rfl (by simp))
    | (refine Arith.mk ?_; simp only [List.length_append, List.length_cons, List.length_nil]; omega) | (refine fun (hc : _ = _) => ?_; (try simp only [BB] at hc); (try (first | contradiction | (exfalso; omega)))) | exact arI | refine Pst.mk ⟨?_, rfl⟩ (by (repeat' constructor); first | done | fail) | constructor | (refine fun _ _ (hq : Hold _) => ?_; replace hq := hq.out; obtain ⟨_, rfl, rfl⟩ := hq) | (refine fun _ _ (hq : Hold _) => ?_; replace hq := hq.out; obtain ⟨_, _, rfl, rfl⟩ := hq) | rintro _ _ ⟨rfl, rfl⟩ | rintro _ _ ⟨_, rfl, rfl⟩ | rintro _ _ ⟨_, _, rfl, rfl⟩ | (refine fun (hc : _ = _) => ?_; (try simp only [BB] at hc)) | refine fun (_ : Nat) => ?_ | refine fun (_ : _ ≤ _) => ?_ | refine fun (_ : _ < _) => ?_
  · have e : UInt8.ofNat (IntKind.u8.wrap (48 + ((k % 10 : Nat) : Int))).toNat = Md.byteN (48 + k % 10) := by
      rw [wrap_u8]
      apply UInt8.toNat.inj
      rw [byteN_nat (by omega), UInt8.toNat_ofNat']
      omega
    rw [e]
    refine ih _ _ (k / 10, [Md.byteN (48 + k % 10)] ++ ds) ?_ ?_ ⟨rfl, rfl, rfl, trivial⟩ (by (repeat' constructor); first | done | fail)
    · rcases hI with ⟨rfl, rfl⟩ | ⟨h1, h2, h3, h4⟩ | ⟨h1, rfl, h3⟩
      · rcases decS_step k with ⟨g1, g2⟩ | ⟨g1, g2⟩
        · exact .inr (.inr ⟨by simp, g1, by rw [g2]; rfl⟩)
        · exact .inr (.inl ⟨by simp, g1, by dsimp only; omega, by rw [g2]; rfl⟩)
      · rcases decS_step k with ⟨g1, g2⟩ | ⟨g1, g2⟩
        · exact .inr (.inr ⟨by simp, g1, by rw [h4, g2]⟩)
        · exact .inr (.inl ⟨by simp, g1, by dsimp only; omega, by rw [h4, g2, List.append_assoc]⟩)
      · exact absurd hc (by simp [h1])
    · dsimp only
      rw [if_neg (by simp)]
      by_cases hds : ds = []
      · rw [if_pos hds]; omega
      · rw [if_neg hds]
        have := hc.resolve_right hds
        omega
  · have hds : ds = decS N := by
      rcases hI with h | h | h
      · exact absurd h.1 hc.2
      · exact absurd h.2.1 (by omega)
      · exact h.2.2.symm
    subst hds
    refine fun _ _ (hq : Hold _) => ?_
    replace hq := hq.out
    obtain ⟨tq, osq, rfl, hq0, ha, rfl⟩ := hq
    rw [hP] at ha
    simp only [List.map_eq_cons_iff, List.map_eq_nil_iff] at ha
    obtain ⟨g1, _, rfl, e1, rfl⟩ := ha
    have hel := encode_len [Md.numeric (N : Int)]
    repeat' first
      | (refine Arith.mk fun _ => ?_; simp only [List.length_append, List.length_cons, List.length_nil] at hel ⊢; omega)
      | (refine fun (hc : _ = _) => ?_; exfalso; (try simp only [BB] at hc); simp at hc; done)
      | (show FC _ _ _ _ _; first | exact numeric_F (by omega) | exact encode_F (rs := [Md.numeric N]) rfl (by simp))
      | (refine Arith.mk ?_; simp only [List.length_append, List.length_cons, List.length_nil]; omega) | (refine fun (hc : _ = _) => ?_; (try simp only [BB] at hc); (try (first | contradiction | (exfalso; omega)))) | exact arI | refine Pst.mk ⟨?_, rfl⟩ (by (repeat' constructor); first | done | fail) | constructor | (refine fun _ _ (hq : Hold _) => ?_; replace hq := hq.out; obtain ⟨_, rfl, rfl⟩ := hq) | (refine fun _ _ (hq : Hold _) => ?_; replace hq := hq.out; obtain ⟨_, _, rfl, rfl⟩ := hq) | rintro _ _ ⟨rfl, rfl⟩ | rintro _ _ ⟨_, rfl, rfl⟩ | rintro _ _ ⟨_, _, rfl, rfl⟩ | (refine fun (hc : _ = _) => ?_; (try simp only [BB] at hc)) | refine fun (_ : Nat) => ?_ | refine fun (_ : _ ≤ _) => ?_ | refine fun (_ : _ < _) => ?_
    exact Pst.mk (by simp [e1, Md.tx]) .refl
theorem asc_take {T : Md.Str} {i : Nat} (h : i < T.length) : Md.asc (T.take (i + 1)) = Md.asc (T.take i) ++ [((T.getD i 0).toNat : Int)] := by
  rw [List.take_add_one, List.getElem?_eq_getElem h, asc_app, List.getD_eq_getElem?_getD, List.getElem?_eq_getElem h]; rfl
theorem refVal_len {R : Md.Str} : (refVal R).length ≤ R.length + 9 ∧ (refWant R).length ≤ R.length + 9 := by
  have h1 := Md.matchT_len (Md.asc R)
  have h2 := encode_len (refM R).1
  have h3 : (refM R).1.length ≤ 2 := h1
  have hw : (refWant R).length ≤ R.length + 9 := by
    unfold refWant; split
    · rw [List.length_append, List.length_drop]; omega
    · rw [List.length_append]; simp only [List.length_cons, List.length_nil]; omega
  refine ⟨?_, hw⟩
  unfold refVal; split
  · rw [List.length_append]; simp only [List.length_cons, List.length_nil]; omega
  · exact hw
set_option maxHeartbeats 8000000 in
theorem refT2_R {cs : List Ck} {es : List En} {n c : Int} {W : Md.Str} {semi : Bool} (hc : 0 ≤ c ∧ c < 256) (hW : lowName W) (hWl : W.length ≤ 9) (hsub : Dm.Sub es [(1, .int .i64 n), (2, .int .u8 c), (12, .str ([38] ++ (W ++ if semi then [59] else [])))]) : RR D [It.code refT2] ⟨244, es, [], none⟩ cs (Dm.Fin D (fun v cs' => v = .bool true) [DRes.tmp 8]) := by
  refine RR.weak _ (RR.drop (cs' := []) (List.nil_sublist _) ?_) hsub
  clear hsub
  obtain ⟨j, hj, hrem⟩ := rem5 c hc.1
  obtain ⟨C, hC, hCe⟩ : ∃ C : UInt8, (C = 97 ∨ C = 46 ∨ C = 61 ∨ C = 53 ∨ C = 32) ∧ List.take (((j : Int) + 1).toNat - (j : Int).toNat) (List.drop (j : Int).toNat [97, 46, 61, 53, 32]) = [C] := by
    match j, hj with
    | 0, _ => exact ⟨97, .inl rfl, rfl⟩
    | 1, _ => exact ⟨46, .inr (.inl rfl), rfl⟩
    | 2, _ => exact ⟨61, .inr (.inr (.inl rfl)), rfl⟩
    | 3, _ => exact ⟨53, .inr (.inr (.inr (.inl rfl))), rfl⟩
    | 4, _ => exact ⟨32, .inr (.inr (.inr (.inr rfl))), rfl⟩
  have hok := refOk_mk (semi := semi) hW hWl hC
  have hs1 : (if semi then ([59] : Md.Str) else []).length ≤ 1 := by cases semi <;> decide
  obtain ⟨T, hT⟩ : ∃ T, T = W ++ (if semi then ([59] : Md.Str) else []) := ⟨_, rfl⟩
  have hR : refRs W semi C = T ++ [C] := by rw [hT]; rfl
  rw [← hT]
  rw [hR] at hok
  have hTl : T.length ≤ 10 := by rw [hT, List.length_append]; omega
  have hp1 := refs_text hok
  have hp2 := refs_value hok
  clear hT hR hs1 hW hWl
  dsimp only [ents]
  unfold refT2
  dsimp only [c_woodcutlaw09_LexRefs]
  repeat' first
    | (show BI _ _ _ _ _ _; first | exact hrem _)
    | (show FC _ _ _ _ _; first | exact all_F rfl (by rw [hCe]; simp only [List.length_append, List.length_cons, List.length_nil]; omega))
    | (refine fun _ _ (hq : Hold _) => ?_; replace hq := hq.out; obtain ⟨tq, osq, rfl, hq0, ha, rfl⟩ := hq; rw [hCe, List.append_assoc, hp1] at ha; simp only [List.map_eq_cons_iff, List.map_eq_nil_iff] at ha; obtain ⟨g1, _, rfl, e1, rfl⟩ := ha)
    | (refine Arith.mk ?_; (try rw [hCe]); simp only [List.length_append, List.length_cons, List.length_nil]; omega) | (refine fun (hc : _ = _) => ?_; (try simp only [BB] at hc); (try (first | contradiction | (exfalso; omega)))) | exact arI | refine Pst.mk ⟨?_, rfl⟩ (by (repeat' constructor); first | done | fail) | constructor | (refine fun _ _ (hq : Hold _) => ?_; replace hq := hq.out; obtain ⟨_, rfl, rfl⟩ := hq) | (refine fun _ _ (hq : Hold _) => ?_; replace hq := hq.out; obtain ⟨_, _, rfl, rfl⟩ := hq) | rintro _ _ ⟨rfl, rfl⟩ | rintro _ _ ⟨_, rfl, rfl⟩ | rintro _ _ ⟨_, _, rfl, rfl⟩ | (refine fun (hc : _ = _) => ?_; (try simp only [BB] at hc)) | refine fun (_ : Nat) => ?_ | refine fun (_ : _ ≤ _) => ?_ | refine fun (_ : _ < _) => ?_
  rename_i t5 _ t1 _
  refine RS.loopW (α := Nat × Nat) (fun a => [(1, .int .i64 n), (12, .str ([38] ++ T)), (13, .str [C]), (14, .lst tq (zOf tq 10) ([g1].map encT)), (15, .lst a.2 (zOf a.2 1) ((Md.asc (T.take a.1)).map I32)), (16, .int .i64 (a.1 : Nat))]) (fun a => [.own a.2 1 ((Md.asc (T.take a.1)).map I32)])
    (fun a => a.1 ≤ T.length) (fun a => T.length - a.1) (0, t1) (Nat.zero_le _) ⟨rfl, rfl, (by show some (DV.str _) = some (DV.str _); rw [hCe]), rfl, rfl, rfl, trivial⟩ (by (repeat' constructor); first | done | fail) ?_
  clear hCe
  rintro ⟨i, t9⟩ h1 ih
  dsimp only [ents] at *
  have hat := fun h => asc_take (T := T) (i := i) h
  have hal := asc_len (T.take i)
  rw [List.length_take] at hal
  have hSl : ([38] ++ T : Md.Str).length = T.length + 1 := by rw [List.length_append]; simp only [List.length_cons, List.length_nil]; omega
  by_cases hi : i < T.length
  · repeat' first
      | (refine Arith.mk ?_; (try rw [hSl]); omega) | (refine fun (hc : _ = _) => ?_; (try simp only [BB] at hc); (try (first | contradiction | (exfalso; omega)))) | exact arI | refine Pst.mk ⟨?_, rfl⟩ (by (repeat' constructor); first | done | fail) | constructor | (refine fun _ _ (hq : Hold _) => ?_; replace hq := hq.out; obtain ⟨_, rfl, rfl⟩ := hq) | (refine fun _ _ (hq : Hold _) => ?_; replace hq := hq.out; obtain ⟨_, _, rfl, rfl⟩ := hq) | rintro _ _ ⟨rfl, rfl⟩ | rintro _ _ ⟨_, rfl, rfl⟩ | rintro _ _ ⟨_, _, rfl, rfl⟩ | (refine fun (hc : _ = _) => ?_; (try simp only [BB] at hc)) | refine fun (_ : Nat) => ?_ | refine fun (_ : _ ≤ _) => ?_ | refine fun (_ : _ < _) => ?_
    rename_i t2
    have e := hat hi
    have e2 : (([38] ++ T : Md.Str).getD ((i : Int) + 1).toNat 0).toNat = (T.getD i 0).toNat := by
      rw [show ((i : Int) + 1).toNat = i + 1 by omega]; rfl
    rw [e2, ← e]
    exact ih _ _ (i + 1, t2) (by dsimp only; omega) (by dsimp only; omega) ⟨rfl, rfl, rfl, rfl, rfl, rfl, trivial⟩ (by (repeat' constructor); first | done | fail)
  · obtain rfl : i = T.length := by omega
    rw [List.take_length] at *
    have hrs : Md.asc T ++ [(((([C] : Md.Str).getD (Int.toNat 0) 0).toNat : Nat) : Int)] = Md.asc (T ++ [C]) := by rw [asc_app]; rfl
    have hRl : (T ++ [C]).length = T.length + 1 := by rw [List.length_append]; rfl
    obtain ⟨hv1, hv2⟩ := refVal_len (R := T ++ [C])
    have hle : (refM (T ++ [C])).2.1 ≤ (T ++ [C]).length := by have := Md.matchT_le (Md.asc (T ++ [C])); rw [asc_len] at this; exact this
    have hml : (refM (T ++ [C])).1.length ≤ 2 := Md.matchT_len (Md.asc (T ++ [C]))
    have hel := encode_len (refM (T ++ [C])).1
    have hGe : (refM (T ++ [C])).2.1 < T.length + 1 → (Md.asc (T ++ [C])).getD (refM (T ++ [C])).2.1 (-1) = (Md.asc T ++ [(C.toNat : Int)]).getD (refM (T ++ [C])).2.1 default := fun h => by
      rw [asc_app]
      show (Md.asc T ++ [(C.toNat : Int)]).getD _ _ = _
      have hl : (refM (T ++ [C])).2.1 < (Md.asc T ++ [(C.toNat : Int)]).length := by rw [List.length_append, asc_len]; exact h
      rw [List.getD_eq_getElem?_getD, List.getD_eq_getElem?_getD, List.getElem?_eq_getElem hl]; rfl
    have hLl : (Md.asc T ++ [(C.toNat : Int)]).length = T.length + 1 := by rw [List.length_append, asc_len]; rfl
    have hw1 : 0 < (refM (T ++ [C])).2.1 → refWant (T ++ [C]) = Md.encode (refM (T ++ [C])).1 ++ List.drop (1 + ((refM (T ++ [C])).2.1 : Int)).toNat ([38] ++ T ++ [C]) := fun h => by
      unfold refWant
      rw [if_pos h, show (1 + ((refM (T ++ [C])).2.1 : Int)).toNat = (refM (T ++ [C])).2.1 + 1 by omega, List.append_assoc [38]]; rfl
    have hw0 : ¬0 < (refM (T ++ [C])).2.1 → refWant (T ++ [C]) = [38] ++ T ++ [C] := fun h => by
      unfold refWant; rw [if_neg h, List.append_assoc]
    have hv : refVal (T ++ [C]) = if refOpen (T ++ [C]) then [38] ++ T ++ [C] else refWant (T ++ [C]) := by
      unfold refVal
      by_cases h : refOpen (T ++ [C])
      · rw [if_pos h, if_pos h, List.append_assoc]
      · rw [if_neg h, if_neg h]
    have ho : refOpen (T ++ [C]) ↔ 0 < (refM (T ++ [C])).2.1 ∧ (refM (T ++ [C])).2.2 = false ∧ (refM (T ++ [C])).2.1 < T.length + 1 ∧ ((Md.asc T ++ [(C.toNat : Int)]).getD (refM (T ++ [C])).2.1 default = 61 ∨ Md.letter ((Md.asc T ++ [(C.toNat : Int)]).getD (refM (T ++ [C])).2.1 default) = true ∨ Md.digit ((Md.asc T ++ [(C.toNat : Int)]).getD (refM (T ++ [C])).2.1 default) = true) := by
      unfold refOpen
      rw [hRl]
      constructor
      · rintro ⟨a, b, c, d⟩; rw [hGe c] at d; exact ⟨a, b, c, d⟩
      · rintro ⟨a, b, c, d⟩; rw [← hGe c] at d; exact ⟨a, b, c, d⟩
    clear hGe hok hp1
    generalize hM : refM (T ++ [C]) = M at *
    generalize hG : (Md.asc T ++ [(C.toNat : Int)]).getD M.2.1 default = G at *
    have split : (¬0 < M.2.1 ∧ refVal (T ++ [C]) = [38] ++ T ++ [C] ∧ refWant (T ++ [C]) = [38] ++ T ++ [C])
        ∨ (0 < M.2.1 ∧ refWant (T ++ [C]) = Md.encode M.1 ++ List.drop (1 + (M.2.1 : Int)).toNat ([38] ++ T ++ [C]) ∧
          ((M.2.2 = true ∧ refVal (T ++ [C]) = refWant (T ++ [C])) ∨ (M.2.2 = false ∧ ¬M.2.1 < T.length + 1 ∧ refVal (T ++ [C]) = refWant (T ++ [C])) ∨
            (M.2.2 = false ∧ M.2.1 < T.length + 1 ∧ ((G = 61 ∧ refVal (T ++ [C]) = [38] ++ T ++ [C]) ∨ (G ≠ 61 ∧ Md.letter G = true ∧ refVal (T ++ [C]) = [38] ++ T ++ [C]) ∨ (G ≠ 61 ∧ Md.letter G = false ∧ Md.digit G = true ∧ refVal (T ++ [C]) = [38] ++ T ++ [C]) ∨ (G ≠ 61 ∧ Md.letter G = false ∧ Md.digit G = false ∧ refVal (T ++ [C]) = refWant (T ++ [C])))))) := by
      by_cases hn : 0 < M.2.1
      · right
        refine ⟨hn, hw1 hn, ?_⟩
        cases he : M.2.2 with
        | true => exact .inl ⟨rfl, by rw [hv, if_neg (fun h => by have := (ho.1 h).2.1; rw [he] at this; cases this)]⟩
        | false =>
          right
          by_cases hl : M.2.1 < T.length + 1
          · right
            refine ⟨rfl, hl, ?_⟩
            by_cases h61 : G = 61
            · exact .inl ⟨h61, by rw [hv, if_pos (ho.2 ⟨hn, he, hl, .inl h61⟩)]⟩
            · right
              cases hlt : Md.letter G with
              | true => exact .inl ⟨h61, rfl, by rw [hv, if_pos (ho.2 ⟨hn, he, hl, .inr (.inl hlt)⟩)]⟩
              | false =>
                right
                cases hdg : Md.digit G with
                | true => exact .inl ⟨h61, rfl, rfl, by rw [hv, if_pos (ho.2 ⟨hn, he, hl, .inr (.inr hdg)⟩)]⟩
                | false => exact .inr ⟨h61, rfl, rfl, by rw [hv, if_neg (fun h => by
                    rcases (ho.1 h).2.2.2 with h | h | h
                    · exact h61 h
                    · rw [hlt] at h; cases h
                    · rw [hdg] at h; cases h)]⟩
          · exact .inl ⟨rfl, hl, by rw [hv, if_neg (fun h => hl (ho.1 h).2.2.1)]⟩
      · exact .inl ⟨hn, by rw [hv, if_neg (fun h => hn (ho.1 h).1), hw0 hn], hw0 hn⟩
    clear hw1 hw0 hv ho
    generalize refVal (T ++ [C]) = RV at *
    generalize refWant (T ++ [C]) = RW at *
    have k2 : M.2.2 = M.2.2 := rfl
    have k3 : True := trivial
    have k4 : True := trivial
    have k5 : True := trivial
    have k6 : True := trivial
    rcases split with ⟨k1, kv, kw⟩ | ⟨k1, kw, ⟨k2, kv⟩ | ⟨k2, k3, kv⟩ | ⟨k2, k3, ⟨k4, kv⟩ | ⟨k4, k5, kv⟩ | ⟨k4, k5, k6, kv⟩ | ⟨k4, k5, k6, kv⟩⟩⟩
    all_goals
      (try rw [kw] at kv)
      rw [kw] at e1 hv2
      rw [kv] at hp2 hv1
      clear kv kw
      have n1 : (((M.2.1 : Nat) : Int) > 0) = (0 < M.2.1) := propext (by omega)
      have n3 : (((M.2.1 : Nat) : Int) < (((Md.asc T ++ [(C.toNat : Int)]).length : Nat) : Int)) = (M.2.1 < T.length + 1) := propext (by rw [hLl]; omega)
    all_goals repeat' first
      | (show RR D (It.code refT3 :: _) _ _ _; exact refT3_R ⟨rfl, trivial⟩)
      | (refine fun (hc : _ = _) => ?_; exfalso; (try simp only [BB] at hc); (try simp only [hG, n1, n3, k1, k2, k3, k4, k5, k6] at hc); first | (simp at hc; done) | (simp [e1, Md.tx] at hc; done))
      | (refine fun (hc : _ = _) => ?_; exfalso; (try simp only [BB] at hc); (try simp only [hG, n1, n3, k1, k2, k3, k4, k5, k6] at hc); simp [e1, e2, Md.tx, startTok] at hc; done)
      | (refine fun (hc : _ = _) => ?_; exfalso; (try simp only [BB] at hc); (try simp only [hG, n1, n3, k1, k2, k3, k4, k5, k6] at hc); omega)
      | (refine Arith.mk fun hp => ?_; (try simp only [BB]); simp only [hG]; simp [k4, k5, k6]; done)
      | (refine Arith.mk fun hp => ?_; exfalso; (try simp only [BB] at hp); (try simp only [hG, n1, n3, k1, k2, k3, k4, k5, k6] at hp); first | (simp at hp; done) | omega)
      | (refine fun _ _ (hq : Hold _) => ?_; replace hq := hq.out; obtain ⟨t', rfl, rfl⟩ := hq; (try rw [hM]))
      | (show FC _ _ _ _ _; first | exact matchR_F (R := T ++ [C]) hrs rfl (by omega) | exact encode_F rfl (by omega) | exact letter_F | exact digit_F | exact all_F rfl (by simp only [List.length_append, List.length_cons, List.length_nil]; omega))
      | (refine Arith.mk ?_; (try simp only [List.length_append, List.length_cons, List.length_nil, List.length_drop]); omega) | (refine fun (hc : _ = _) => ?_; (try simp only [BB] at hc); (try (first | contradiction | (exfalso; omega)))) | exact arI | refine Pst.mk ⟨?_, rfl⟩ (by (repeat' constructor); first | done | fail) | constructor | (refine fun _ _ (hq : Hold _) => ?_; replace hq := hq.out; obtain ⟨_, rfl, rfl⟩ := hq) | (refine fun _ _ (hq : Hold _) => ?_; replace hq := hq.out; obtain ⟨_, _, rfl, rfl⟩ := hq) | rintro _ _ ⟨rfl, rfl⟩ | rintro _ _ ⟨_, rfl, rfl⟩ | rintro _ _ ⟨_, _, rfl, rfl⟩ | (refine fun (hc : _ = _) => ?_; (try simp only [BB] at hc)) | refine fun (_ : Nat) => ?_ | refine fun (_ : _ ≤ _) => ?_ | refine fun (_ : _ < _) => ?_
      | (refine fun _ _ (hq : Hold _) => ?_; replace hq := hq.out; obtain ⟨tq, osq, rfl, hq0, ha, rfl⟩ := hq; simp only [List.append_assoc] at ha; simp only [List.append_assoc] at hp2; rw [hp2] at ha; simp only [List.map_eq_cons_iff, List.map_eq_nil_iff] at ha; obtain ⟨g2, _, rfl, e2, rfl⟩ := ha)
    all_goals trace_state
end Go.Proofs.YticnenofiibpgaaDoor.Code
/-
set_option maxHeartbeats 8000000 in
theorem refsLaw {nm : Md.Str} {n c how : Int} (hc : 0 ≤ c ∧ c < 256) : F0 D 3 [.str nm, .int .i64 n, .int .u8 c, .int .i64 how] Heap.start (fun v cs' => v = .bool true) := by
  obtain ⟨hp1, c1, n1, s1⟩ := headSOk
  obtain ⟨a1, ha1, hA1⟩ := and_any how 1 (by omega)
  obtain ⟨a2, ha2, hA2⟩ := and_any how 2 (by omega)
  obtain ⟨h2, hsh⟩ := shr2_any how
  obtain ⟨a7, ha7, hA7⟩ := and_any h2 7 (by omega)
  obtain ⟨N, hN, hAN⟩ := and_any n 2097151 (by omega)
  obtain ⟨j, hj, hrem⟩ := rem5 c hc.1
  have hwl : (Md.word9 nm).length ≤ 9 := by unfold Md.word9; simp only [List.length_cons, List.length_map, List.length_take]; omega
  have hwo := word9_low nm
  refine F0.of rfl rfl rfl ?_
  repeat' first
    | exact c1 | exact n1 | (refine R0.onP s1 ?_) | (show BI _ _ _ _ _ _; first | exact hA1 _ | exact hA2 _ | exact hA7 _ | exact hAN _ | exact hsh _ | exact hrem _)
    | (show FC _ _ _ _ _; first | exact word9_F) | (refine Arith.mk ?_; omega) | (refine fun (hc : _ = _) => ?_; (try simp only [BB] at hc); (try (first | contradiction | (exfalso; omega)))) | exact arI | refine Pst.mk ⟨?_, rfl⟩ (by (repeat' constructor); first | done | fail) | constructor | (refine fun _ _ (hq : Hold _) => ?_; replace hq := hq.out; obtain ⟨_, rfl, rfl⟩ := hq) | (refine fun _ _ (hq : Hold _) => ?_; replace hq := hq.out; obtain ⟨_, _, rfl, rfl⟩ := hq) | rintro _ _ ⟨rfl, rfl⟩ | rintro _ _ ⟨_, rfl, rfl⟩ | rintro _ _ ⟨_, _, rfl, rfl⟩ | (refine fun (hc : _ = _) => ?_; (try simp only [BB] at hc)) | refine fun (_ : Nat) => ?_ | refine fun (_ : _ ≤ _) => ?_ | refine fun (_ : _ < _) => ?_
  · exact Pst.mk rfl .refl
  all_goals
    obtain ⟨W0, hW0, hW0l, hW0e⟩ : ∃ W0, lowName W0 ∧ W0.length ≤ 9 ∧ ((a1 = 1 ∧ 1 < (Md.word9 nm).length) → W0 = (Md.word9 nm).drop 1) ∧ (¬(a1 = 1 ∧ 1 < (Md.word9 nm).length) → W0 = Md.word9 nm) := by
      by_cases h : a1 = 1 ∧ 1 < (Md.word9 nm).length
      · exact ⟨_, low_drop hwo h.2, by rw [List.length_drop]; omega, fun _ => rfl, fun h' => absurd h h'⟩
      · exact ⟨_, hwo, hwl, fun h' => absurd h' h, fun _ => rfl⟩
  · obtain rfl := hW0e.1 (by omega)
    rename_i t7 _
    refine RS.loopW (α := Nat × Md.Str) (fun a => [(1, .int .i64 n), (2, .int .u8 c), (3, .int .i64 how), (43, .lst t7 (zOf t7 1) (refNames.map DV.str)), (44, .int .i64 7), (45, .int .i64 (a.1 : Nat)), (9, .str a.2)]) (fun _ => [])
      (fun a => a.1 ≤ 7 ∧ lowName a.2 ∧ a.2.length ≤ 9) (fun a => 7 - a.1) (0, (Md.word9 nm).drop 1) ⟨Nat.zero_le _, hW0, hW0l⟩ ⟨rfl, rfl, rfl, rfl, rfl, rfl, rfl, trivial⟩ (by (repeat' constructor); first | done | fail) ?_
    rintro ⟨i, W⟩ ⟨h1, hW, hWl⟩ ih
    dsimp only [ents] at *
    exact refsRest
  all_goals trace_state
end Go.Proofs.YticnenofiibpgaaDoor.Code

-/
/- What LexRefs does on typed values: up to the tails. -/
namespace Go.Proofs.YticnenofiibpgaaDoor.Code
open Go.Dm Go.Dm.C
set_option linter.unusedSimpArgs false
set_option linter.unusedVariables false
set_option linter.unnecessarySimpa false
set_option maxRecDepth 10000
attribute [local irreducible] Go.Dm.F Go.Dm.RS Go.Dm.Y Go.Dm.FD Go.Dm.FZ1 Go.Dm.Hold
set_option maxHeartbeats 4000000 in
theorem refsLaw {nm : Md.Str} {n c how : Int} (hcc : 0 ≤ c ∧ c < 256) : F0 D 3 [.str nm, .int .i64 n, .int .u8 c, .int .i64 how] Heap.start (fun v cs' => v = .bool true) := by
  obtain ⟨hp1, c1, n1, s1⟩ := headSOk
  obtain ⟨a1, ha1, hA1⟩ := and_any how 1 (by omega)
  obtain ⟨a2, ha2, hA2⟩ := and_any how 2 (by omega)
  obtain ⟨h2, hsh⟩ := shr2_any how
  obtain ⟨a7, ha7, hA7⟩ := and_any h2 7 (by omega)
  have hwl : (Md.word9 nm).length ≤ 9 := by unfold Md.word9; simp only [List.length_cons, List.length_map, List.length_take]; omega
  have hwo := word9_low nm
  refine F0.of rfl rfl rfl ?_
  repeat' first
    | exact c1 | exact n1 | (refine R0.onP s1 ?_) | (show BI _ _ _ _ _ _; first | exact hA1 _)
    | (show FC _ _ _ _ _; first | exact word9_F) | (refine Arith.mk ?_; omega) | (refine fun (hc : _ = _) => ?_; (try simp only [BB] at hc); (try (first | contradiction | (exfalso; omega)))) | exact arI | refine Pst.mk ⟨?_, rfl⟩ (by (repeat' constructor); first | done | fail) | constructor | (refine fun _ _ (hq : Hold _) => ?_; replace hq := hq.out; obtain ⟨_, rfl, rfl⟩ := hq) | (refine fun _ _ (hq : Hold _) => ?_; replace hq := hq.out; obtain ⟨_, _, rfl, rfl⟩ := hq) | rintro _ _ ⟨rfl, rfl⟩ | rintro _ _ ⟨_, rfl, rfl⟩ | rintro _ _ ⟨_, _, rfl, rfl⟩ | (refine fun (hc : _ = _) => ?_; (try simp only [BB] at hc)) | refine fun (_ : Nat) => ?_ | refine fun (_ : _ ≤ _) => ?_ | refine fun (_ : _ < _) => ?_
  · exact Pst.mk rfl .refl
  · rename_i t7 _
    have hW0 := low_drop hwo (by omega)
    have hW0l : ((Md.word9 nm).drop 1).length ≤ 9 := by rw [List.length_drop]; omega
    refine RS.loopW (α := Nat × Md.Str) (fun a => [(1, .int .i64 n), (2, .int .u8 c), (3, .int .i64 how), (43, .lst t7 (zOf t7 1) (refNames.map DV.str)), (44, .int .i64 7), (45, .int .i64 (a.1 : Nat)), (9, .str a.2)]) (fun _ => [])
      (fun a => a.1 ≤ 7 ∧ lowName a.2 ∧ a.2.length ≤ 9) (fun a => 7 - a.1) (0, (Md.word9 nm).drop 1) ⟨Nat.zero_le _, hW0, hW0l⟩ ⟨rfl, rfl, rfl, rfl, rfl, rfl, rfl, trivial⟩ (by (repeat' constructor); first | done | fail) ?_
    rintro ⟨i, W⟩ ⟨h1, hW, hWl⟩ ih
    dsimp only [ents] at *
    have hno := refNames_ok i
    have hnl : refNames.length = 7 := rfl
    repeat' first
      | (show RR D (It.code refT2 :: _) _ _ _; first | exact refT2_R (semi := true) hcc hW hWl ⟨rfl, rfl, congrArg (fun x => some (DV.str x)) (List.append_assoc [38] W [59]), trivial⟩ | exact refT2_R (semi := false) hcc hW hWl ⟨rfl, rfl, congrArg (fun x => some (DV.str ([38] ++ x))) (List.append_nil W).symm, trivial⟩)
      | (show BI _ _ _ _ _ _; first | exact hA7 _ | exact hsh _ | exact hA2 _)
      | (refine Arith.mk ?_; (try simp only [List.length_append, List.length_cons, List.length_nil]); omega) | (refine fun (hc : _ = _) => ?_; (try simp only [BB] at hc); (try (first | contradiction | (exfalso; omega)))) | exact arI | refine Pst.mk ⟨?_, rfl⟩ (by (repeat' constructor); first | done | fail) | constructor | (refine fun _ _ (hq : Hold _) => ?_; replace hq := hq.out; obtain ⟨_, rfl, rfl⟩ := hq) | (refine fun _ _ (hq : Hold _) => ?_; replace hq := hq.out; obtain ⟨_, _, rfl, rfl⟩ := hq) | rintro _ _ ⟨rfl, rfl⟩ | rintro _ _ ⟨_, rfl, rfl⟩ | rintro _ _ ⟨_, _, rfl, rfl⟩ | (refine fun (hc : _ = _) => ?_; (try simp only [BB] at hc)) | refine fun (_ : Nat) => ?_ | refine fun (_ : _ ≤ _) => ?_ | refine fun (_ : _ < _) => ?_
    · exact ih _ _ (i + 1, refNames.getD i default) ⟨by dsimp only; omega, (hno (by omega)).1, (hno (by omega)).2⟩ (by dsimp only; omega) ⟨rfl, rfl, rfl, rfl, rfl, rfl, rfl, trivial⟩ (by (repeat' constructor); first | done | fail)
    · exact ih _ _ (i + 1, W) ⟨by dsimp only; omega, hW, hWl⟩ (by dsimp only; omega) ⟨rfl, rfl, rfl, rfl, rfl, rfl, rfl, trivial⟩ (by (repeat' constructor); first | done | fail)
  · rename_i t7 _
    have hW0 := hwo
    have hW0l := hwl
    refine RS.loopW (α := Nat × Md.Str) (fun a => [(1, .int .i64 n), (2, .int .u8 c), (3, .int .i64 how), (43, .lst t7 (zOf t7 1) (refNames.map DV.str)), (44, .int .i64 7), (45, .int .i64 (a.1 : Nat)), (9, .str a.2)]) (fun _ => [])
      (fun a => a.1 ≤ 7 ∧ lowName a.2 ∧ a.2.length ≤ 9) (fun a => 7 - a.1) (0, Md.word9 nm) ⟨Nat.zero_le _, hW0, hW0l⟩ ⟨rfl, rfl, rfl, rfl, rfl, rfl, rfl, trivial⟩ (by (repeat' constructor); first | done | fail) ?_
    rintro ⟨i, W⟩ ⟨h1, hW, hWl⟩ ih
    dsimp only [ents] at *
    have hno := refNames_ok i
    have hnl : refNames.length = 7 := rfl
    repeat' first
      | (show RR D (It.code refT2 :: _) _ _ _; first | exact refT2_R (semi := true) hcc hW hWl ⟨rfl, rfl, congrArg (fun x => some (DV.str x)) (List.append_assoc [38] W [59]), trivial⟩ | exact refT2_R (semi := false) hcc hW hWl ⟨rfl, rfl, congrArg (fun x => some (DV.str ([38] ++ x))) (List.append_nil W).symm, trivial⟩)
      | (show BI _ _ _ _ _ _; first | exact hA7 _ | exact hsh _ | exact hA2 _)
      | (refine Arith.mk ?_; (try simp only [List.length_append, List.length_cons, List.length_nil]); omega) | (refine fun (hc : _ = _) => ?_; (try simp only [BB] at hc); (try (first | contradiction | (exfalso; omega)))) | exact arI | refine Pst.mk ⟨?_, rfl⟩ (by (repeat' constructor); first | done | fail) | constructor | (refine fun _ _ (hq : Hold _) => ?_; replace hq := hq.out; obtain ⟨_, rfl, rfl⟩ := hq) | (refine fun _ _ (hq : Hold _) => ?_; replace hq := hq.out; obtain ⟨_, _, rfl, rfl⟩ := hq) | rintro _ _ ⟨rfl, rfl⟩ | rintro _ _ ⟨_, rfl, rfl⟩ | rintro _ _ ⟨_, _, rfl, rfl⟩ | (refine fun (hc : _ = _) => ?_; (try simp only [BB] at hc)) | refine fun (_ : Nat) => ?_ | refine fun (_ : _ ≤ _) => ?_ | refine fun (_ : _ < _) => ?_
    · exact ih _ _ (i + 1, refNames.getD i default) ⟨by dsimp only; omega, (hno (by omega)).1, (hno (by omega)).2⟩ (by dsimp only; omega) ⟨rfl, rfl, rfl, rfl, rfl, rfl, rfl, trivial⟩ (by (repeat' constructor); first | done | fail)
    · exact ih _ _ (i + 1, W) ⟨by dsimp only; omega, hW, hWl⟩ (by dsimp only; omega) ⟨rfl, rfl, rfl, rfl, rfl, rfl, rfl, trivial⟩ (by (repeat' constructor); first | done | fail)
end Go.Proofs.YticnenofiibpgaaDoor.Code
