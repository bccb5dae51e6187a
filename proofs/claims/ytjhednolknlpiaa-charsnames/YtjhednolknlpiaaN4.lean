/- CharsNames: what it does on typed values. -/
import Derived.Test.YtjhednolknlpiaaN3
namespace Go.Proofs.Ytjhednolknlpiaa.Code
open Go.Dm Go.Dm.C
set_option linter.unusedSimpArgs false
set_option linter.unusedVariables false
set_option linter.unnecessarySimpa false
set_option maxRecDepth 10000
attribute [local irreducible] Go.Dm.F Go.Dm.RS Go.Dm.Y Go.Dm.FD Go.Dm.FZ1 Go.Dm.Hold
theorem namesLaw {more : List Int} {t : Nat} : F0 D 3 [.lst t (zOf t 1) (more.map I32)] Heap.start (fun v cs' => v = .bool true ∧ [] = cs') := by
  obtain ⟨hp1, hp2, ⟨c1, n1⟩, c2, n2⟩ := heaps
  refine F0.of rfl rfl rfl ?_
  repeat' first | exact c1 | exact n1 | exact c2 | exact n2 | (refine Arith.mk ?_; (try (intro hc; (try simp only [Bool.or_eq_true, Bool.and_eq_true, Bool.not_eq_true', Bool.not_eq_false', Bool.or_eq_false_iff, Bool.and_eq_false_imp, decide_eq_true_eq, decide_eq_false_iff_not, beq_iff_eq, beq_eq_false_iff_ne, bne_iff_ne, bne_eq_false_iff_eq, ne_eq, Go.Dm.eqB, Int.toNat_zero, Int.toNat_natCast, List.getD_cons_zero, List.getD_cons_succ, Bool.false_eq_true, and_false, false_and, true_and, and_true, true_implies, implies_true, false_implies, not_true_eq_false, not_false_eq_true] at hc))); first | done | omega | (simp only [List.length_cons, List.length_map, List.length_append, List.length_nil, List.length_take, List.length_drop, Go.Dm.bytesV, Go.Dm.wid, Go.Dm.top, List.getD_cons_zero, Int.toNat_zero, Int.toNat_natCast, Int.reduceToNat, Int.reducePow, Nat.reducePow, Go.Dm.wrap_u8]; omega)) | refine Pst.mk ⟨?_, rfl⟩ (by repeat' constructor) | constructor | (refine fun _ _ (hq : Hold _) => ?_; replace hq := hq.out; obtain ⟨_, rfl, rfl⟩ := hq) | (refine fun _ _ (hq : Hold _) => ?_; replace hq := hq.out; obtain ⟨_, _, rfl, rfl⟩ := hq) | rintro _ _ ⟨rfl, rfl⟩ | rintro _ _ ⟨_, rfl, rfl⟩ | rintro _ _ ⟨_, _, rfl, rfl⟩ | (refine fun (hc : _ = _) => ?_; (try simp only [Bool.or_eq_true, Bool.and_eq_true, Bool.not_eq_true', Bool.not_eq_false', Bool.or_eq_false_iff, Bool.and_eq_false_imp, decide_eq_true_eq, decide_eq_false_iff_not, beq_iff_eq, beq_eq_false_iff_ne, bne_iff_ne, bne_eq_false_iff_eq, ne_eq, Go.Dm.eqB, Int.toNat_zero, Int.toNat_natCast, List.getD_cons_zero, List.getD_cons_succ, Bool.false_eq_true, and_false, false_and, true_and, and_true, true_implies, implies_true, false_implies, not_true_eq_false, not_false_eq_true] at hc)) | refine fun (_ : Nat) => ?_ | refine fun (_ : _ ≤ _) => ?_ | refine fun (_ : _ < _) => ?_
  · cases hc
  · exfalso
    rcases hc with hc | hc
    · exact hc rfl
    · exact hc (by decide)
  clear hc
  refine RS.loopW (α := Nat) (fun k => [(0, .lst t (zOf t 1) (more.map I32)), (3, .lst 1 3 (Md.names.map encE)), (28, .lst 1 3 (Md.names.map encE)), (29, .int .i64 61), (30, .int .i64 (k : Nat))]) (fun _ => [])
    (fun k => k ≤ 61) (fun k => 61 - k) 0 (by simp) ⟨rfl, rfl, rfl, rfl, rfl, trivial⟩ .refl ?_
  rintro k h1 ih
  dsimp only [ents] at *
  have hlen : Md.names.length = 61 := rfl
  obtain ⟨e, he⟩ : ∃ e, e = Md.names.getD k default := ⟨_, rfl⟩
  repeat' first | (refine Arith.mk ?_; (try (intro hc; (try simp only [Bool.or_eq_true, Bool.and_eq_true, Bool.not_eq_true', Bool.not_eq_false', Bool.or_eq_false_iff, Bool.and_eq_false_imp, decide_eq_true_eq, decide_eq_false_iff_not, beq_iff_eq, beq_eq_false_iff_ne, bne_iff_ne, bne_eq_false_iff_eq, ne_eq, Go.Dm.eqB, Int.toNat_zero, Int.toNat_natCast, List.getD_cons_zero, List.getD_cons_succ, Bool.false_eq_true, and_false, false_and, true_and, and_true, true_implies, implies_true, false_implies, not_true_eq_false, not_false_eq_true] at hc))); first | done | omega | (simp only [List.length_cons, List.length_map, List.length_append, List.length_nil, List.length_take, List.length_drop, Go.Dm.bytesV, Go.Dm.wid, Go.Dm.top, List.getD_cons_zero, Int.toNat_zero, Int.toNat_natCast, Int.reduceToNat, Int.reducePow, Nat.reducePow, Go.Dm.wrap_u8]; omega)) | refine Pst.mk ⟨?_, rfl⟩ (by repeat' constructor) | constructor | (refine fun _ _ (hq : Hold _) => ?_; replace hq := hq.out; obtain ⟨_, rfl, rfl⟩ := hq) | (refine fun _ _ (hq : Hold _) => ?_; replace hq := hq.out; obtain ⟨_, _, rfl, rfl⟩ := hq) | rintro _ _ ⟨rfl, rfl⟩ | rintro _ _ ⟨_, rfl, rfl⟩ | rintro _ _ ⟨_, _, rfl, rfl⟩ | (refine fun (hc : _ = _) => ?_; (try simp only [Bool.or_eq_true, Bool.and_eq_true, Bool.not_eq_true', Bool.not_eq_false', Bool.or_eq_false_iff, Bool.and_eq_false_imp, decide_eq_true_eq, decide_eq_false_iff_not, beq_iff_eq, beq_eq_false_iff_ne, bne_iff_ne, bne_eq_false_iff_eq, ne_eq, Go.Dm.eqB, Int.toNat_zero, Int.toNat_natCast, List.getD_cons_zero, List.getD_cons_succ, Bool.false_eq_true, and_false, false_and, true_and, and_true, true_implies, implies_true, false_implies, not_true_eq_false, not_false_eq_true] at hc)) | refine fun (_ : Nat) => ?_ | refine fun (_ : _ ≤ _) => ?_ | refine fun (_ : _ < _) => ?_
  · exfalso
    have h := Md.names_sorted k (by omega) (by omega)
    rw [show (k : Int) - 1 = ((k - 1 : Nat) : Int) by omega, Int.toNat_natCast, h] at hc
    simp at hc
  · have h := Md.names_len k (by omega)
    refine Arith.mk ?_
    rw [Int.toNat_natCast]; omega
  rename_i id hid t0 ht0 t2 ht2
  have hlenk := Md.names_len k (by omega)
  rw [← he] at hlenk
  refine RS.loopW (α := Nat × Nat) (fun a => [(0, .lst t (zOf t 1) (more.map I32)), (3, .lst 1 3 (Md.names.map encE)), (28, .lst 1 3 (Md.names.map encE)), (29, .int .i64 61), (30, .int .i64 (k : Nat)), (4, .int .i64 (k : Nat)), (5, .ptr id 0), (6, .lst a.2 (zOf a.2 1) (((e.name.take a.1).map (fun b => (b.toNat : Int))).map I32)), (51, .lst t2 (zOf t2 1) (bytesV e.name)), (52, .int .i64 e.name.length), (53, .int .i64 (a.1 : Nat))])
    (fun a => [.own a.2 1 (((e.name.take a.1).map (fun b => (b.toNat : Int))).map I32), .obj id (.cells [.str e.name, .int .i32 e.sign, .bool e.bare] none)])
    (fun a => a.1 ≤ e.name.length) (fun a => e.name.length - a.1) (0, t0) (by simp) (by subst he; exact ⟨rfl, rfl, rfl, rfl, rfl, rfl, rfl, rfl, rfl, rfl, rfl, trivial⟩) (by subst he; exact (by repeat' constructor)) ?_
  rintro ⟨i, t1⟩ i1 ih2
  dsimp only [ents] at *
  have hsucc : i < e.name.length → (e.name.take (i + 1)).map (fun b => (b.toNat : Int)) = (e.name.take i).map (fun b => (b.toNat : Int)) ++ [((e.name.getD i default).toNat : Int)] := fun h => by
    rw [List.take_add_one, List.getElem?_eq_getElem h, List.getD_eq_getElem?_getD, List.getElem?_eq_getElem h]; simp only [Option.toList_some, List.map_append, List.map_cons, List.map_nil, Option.getD_some]
  have hmem : e ∈ Md.table := by rw [he]; exact Md.names_getD (by omega)
  obtain ⟨r, hf1, hf2⟩ := Md.names_found hmem more
  obtain ⟨ha1, ha2, ha3⟩ := Md.names_alone hmem
  repeat' first | (refine Arith.mk ?_; (try (intro hc; (try simp only [Bool.or_eq_true, Bool.and_eq_true, Bool.not_eq_true', Bool.not_eq_false', Bool.or_eq_false_iff, Bool.and_eq_false_imp, decide_eq_true_eq, decide_eq_false_iff_not, beq_iff_eq, beq_eq_false_iff_ne, bne_iff_ne, bne_eq_false_iff_eq, ne_eq, Go.Dm.eqB, Int.toNat_zero, Int.toNat_natCast, List.getD_cons_zero, List.getD_cons_succ, Bool.false_eq_true, and_false, false_and, true_and, and_true, true_implies, implies_true, false_implies, not_true_eq_false, not_false_eq_true] at hc))); first | done | omega | (simp only [List.length_cons, List.length_map, List.length_append, List.length_nil, List.length_take, List.length_drop, Go.Dm.bytesV, Go.Dm.wid, Go.Dm.top, List.getD_cons_zero, Int.toNat_zero, Int.toNat_natCast, Int.reduceToNat, Int.reducePow, Nat.reducePow, Go.Dm.wrap_u8]; omega)) | refine Pst.mk ⟨?_, rfl⟩ (by repeat' constructor) | constructor | (refine fun _ _ (hq : Hold _) => ?_; replace hq := hq.out; obtain ⟨_, rfl, rfl⟩ := hq) | (refine fun _ _ (hq : Hold _) => ?_; replace hq := hq.out; obtain ⟨_, _, rfl, rfl⟩ := hq) | rintro _ _ ⟨rfl, rfl⟩ | rintro _ _ ⟨_, rfl, rfl⟩ | rintro _ _ ⟨_, _, rfl, rfl⟩ | (refine fun (hc : _ = _) => ?_; (try simp only [Bool.or_eq_true, Bool.and_eq_true, Bool.not_eq_true', Bool.not_eq_false', Bool.or_eq_false_iff, Bool.and_eq_false_imp, decide_eq_true_eq, decide_eq_false_iff_not, beq_iff_eq, beq_eq_false_iff_ne, bne_iff_ne, bne_eq_false_iff_eq, ne_eq, Go.Dm.eqB, Int.toNat_zero, Int.toNat_natCast, List.getD_cons_zero, List.getD_cons_succ, Bool.false_eq_true, and_false, false_and, true_and, and_true, true_implies, implies_true, false_implies, not_true_eq_false, not_false_eq_true] at hc)) | refine fun (_ : Nat) => ?_ | refine fun (_ : _ ≤ _) => ?_ | refine fun (_ : _ < _) => ?_
  · rename_i t9; refine ih2 _ _ (i + 1, t9) (by dsimp only; omega) (by dsimp only; omega) ?_ ?_
    · rw [hsucc (by omega)]; exact ⟨rfl, rfl, rfl, rfl, rfl, rfl, rfl, rfl, rfl, rfl, rfl, trivial⟩
    · rw [hsucc (by omega)]; exact (by repeat' constructor)
  · exact match_F (rs := (e.name.take i).map (fun b => (b.toNat : Int)) ++ [59] ++ more) rfl (by simp only [List.length_append, List.length_map, List.length_take, List.length_cons, List.length_nil]; omega)
  obtain rfl : i = e.name.length := by omega
  have hE : (e.name.take e.name.length).map (fun b => (b.toNat : Int)) ++ [59] ++ more = e.name.map (fun b => (b.toNat : Int)) ++ 59 :: more := by simp
  have hT : List.take ((((List.map (fun b : UInt8 => (b.toNat : Int)) (List.take e.name.length e.name) ++ [59]).length : Nat) : Int) - 1).toNat (List.map (fun b => (b.toNat : Int)) (List.take e.name.length e.name) ++ [59]) = e.name.map (fun b => (b.toNat : Int)) := by
    rw [List.take_length]
    have hl : ∀ l : List Int, List.take ((((l ++ [59]).length : Nat) : Int) - 1).toNat (l ++ [59]) = l := fun l => by
      have e1 : ((((l ++ [59]).length : Nat) : Int) - 1).toNat = l.length := by simp
      rw [e1, List.take_left]
    exact hl _
  repeat' first | (refine Arith.mk ?_; (try (intro hc; (try simp only [Bool.or_eq_true, Bool.and_eq_true, Bool.not_eq_true', Bool.not_eq_false', Bool.or_eq_false_iff, Bool.and_eq_false_imp, decide_eq_true_eq, decide_eq_false_iff_not, beq_iff_eq, beq_eq_false_iff_ne, bne_iff_ne, bne_eq_false_iff_eq, ne_eq, Go.Dm.eqB, Int.toNat_zero, Int.toNat_natCast, List.getD_cons_zero, List.getD_cons_succ, Bool.false_eq_true, and_false, false_and, true_and, and_true, true_implies, implies_true, false_implies, not_true_eq_false, not_false_eq_true] at hc))); first | done | omega | (simp only [List.length_cons, List.length_map, List.length_append, List.length_nil, List.length_take, List.length_drop, Go.Dm.bytesV, Go.Dm.wid, Go.Dm.top, List.getD_cons_zero, Int.toNat_zero, Int.toNat_natCast, Int.reduceToNat, Int.reducePow, Nat.reducePow, Go.Dm.wrap_u8]; omega)) | refine Pst.mk ⟨?_, rfl⟩ (by repeat' constructor) | constructor | (refine fun _ _ (hq : Hold _) => ?_; replace hq := hq.out; obtain ⟨_, rfl, rfl⟩ := hq) | (refine fun _ _ (hq : Hold _) => ?_; replace hq := hq.out; obtain ⟨_, _, rfl, rfl⟩ := hq) | rintro _ _ ⟨rfl, rfl⟩ | rintro _ _ ⟨_, rfl, rfl⟩ | rintro _ _ ⟨_, _, rfl, rfl⟩ | (refine fun (hc : _ = _) => ?_; (try simp only [Bool.or_eq_true, Bool.and_eq_true, Bool.not_eq_true', Bool.not_eq_false', Bool.or_eq_false_iff, Bool.and_eq_false_imp, decide_eq_true_eq, decide_eq_false_iff_not, beq_iff_eq, beq_eq_false_iff_ne, bne_iff_ne, bne_eq_false_iff_eq, ne_eq, Go.Dm.eqB, Int.toNat_zero, Int.toNat_natCast, List.getD_cons_zero, List.getD_cons_succ, Bool.false_eq_true, and_false, false_and, true_and, and_true, true_implies, implies_true, false_implies, not_true_eq_false, not_false_eq_true] at hc)) | refine fun (_ : Nat) => ?_ | refine fun (_ : _ ≤ _) => ?_ | refine fun (_ : _ < _) => ?_
  · exfalso
    rw [hE, hf1] at hc
    by_cases hr : r = []
    · subst hr
      simp [he] at hc
    · simp [he ▸ hf2 hr, ← he, hf2 hr] at hc
      omega
  · exact match_F rfl (by simp only [List.length_append, List.length_map, List.length_take, List.length_cons, List.length_nil]; omega)
  repeat' first | (refine Arith.mk ?_; (try (intro hc; (try simp only [Bool.or_eq_true, Bool.and_eq_true, Bool.not_eq_true', Bool.not_eq_false', Bool.or_eq_false_iff, Bool.and_eq_false_imp, decide_eq_true_eq, decide_eq_false_iff_not, beq_iff_eq, beq_eq_false_iff_ne, bne_iff_ne, bne_eq_false_iff_eq, ne_eq, Go.Dm.eqB, Int.toNat_zero, Int.toNat_natCast, List.getD_cons_zero, List.getD_cons_succ, Bool.false_eq_true, and_false, false_and, true_and, and_true, true_implies, implies_true, false_implies, not_true_eq_false, not_false_eq_true] at hc))); first | done | omega | (simp only [List.length_cons, List.length_map, List.length_append, List.length_nil, List.length_take, List.length_drop, Go.Dm.bytesV, Go.Dm.wid, Go.Dm.top, List.getD_cons_zero, Int.toNat_zero, Int.toNat_natCast, Int.reduceToNat, Int.reducePow, Nat.reducePow, Go.Dm.wrap_u8]; omega)) | refine Pst.mk ⟨?_, rfl⟩ (by repeat' constructor) | constructor | (refine fun _ _ (hq : Hold _) => ?_; replace hq := hq.out; obtain ⟨_, rfl, rfl⟩ := hq) | (refine fun _ _ (hq : Hold _) => ?_; replace hq := hq.out; obtain ⟨_, _, rfl, rfl⟩ := hq) | rintro _ _ ⟨rfl, rfl⟩ | rintro _ _ ⟨_, rfl, rfl⟩ | rintro _ _ ⟨_, _, rfl, rfl⟩ | (refine fun (hc : _ = _) => ?_; (try simp only [Bool.or_eq_true, Bool.and_eq_true, Bool.not_eq_true', Bool.not_eq_false', Bool.or_eq_false_iff, Bool.and_eq_false_imp, decide_eq_true_eq, decide_eq_false_iff_not, beq_iff_eq, beq_eq_false_iff_ne, bne_iff_ne, bne_eq_false_iff_eq, ne_eq, Go.Dm.eqB, Int.toNat_zero, Int.toNat_natCast, List.getD_cons_zero, List.getD_cons_succ, Bool.false_eq_true, and_false, false_and, true_and, and_true, true_implies, implies_true, false_implies, not_true_eq_false, not_false_eq_true] at hc)) | refine fun (_ : Nat) => ?_ | refine fun (_ : _ ≤ _) => ?_ | refine fun (_ : _ < _) => ?_
  · exfalso
    simp only [hT, ← he, ha1] at hc
    simp only [List.length_append, List.length_map, List.length_take, List.length_cons, List.length_nil, Bool.false_eq_true, false_or] at hc
    rcases hc with hc | hc
    · have := ha2 hc.1; omega
    · have := ha3 hc.1; omega
  · refine ih _ _ (k + 1) (by omega) (by omega) ⟨rfl, rfl, rfl, rfl, rfl, trivial⟩ (by repeat' constructor)
end Go.Proofs.Ytjhednolknlpiaa.Code
