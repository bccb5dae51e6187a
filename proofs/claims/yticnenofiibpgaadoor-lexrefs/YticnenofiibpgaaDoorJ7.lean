/- LexRefs returns true for every input: part 7 of the proof (several texts joined). -/
import Derived.Test.YticnenofiibpgaaDoorCards
import Derived.Test.YticnenofiibpgaaDoorTie
import Derived.WalkKit
import Derived.ProofKit
import Derived.OpenShut
import Derived.Deep.DeepHandedRow
import Derived.Lib.LaidTab
import Derived.Test.YticnenofiibpgaaDoorJ6
/- Tokens in a list that is written into; token.Join. -/
namespace Go.Dm
set_option linter.unusedSimpArgs false
set_option linter.unusedVariables false
/-- The cells of tokens. -/
def cellsT (os : List (Md.Tok × Nat)) : List DV := os.flatMap fun o => (encT o).cells
theorem cellsT_len : ∀ os : List (Md.Tok × Nat), (cellsT os).length = os.length * 10
  | [] => rfl
  | o :: os => by
    have := cellsT_len os
    simp only [cellsT, List.flatMap_cons, List.length_append, List.length_cons] at *
    rw [this, show (encT o).cells.length = 10 from rfl]; omega
theorem cellsT_snoc (os : List (Md.Tok × Nat)) (o : Md.Tok × Nat) : cellsT (os ++ [o]) = cellsT os ++ (encT o).cells := by simp [cellsT]
theorem cellsT_group : ∀ os : List (Md.Tok × Nat), group (some 10) os.length (cellsT os) = os.map encT
  | [] => rfl
  | o :: os => by
    have e : cellsT (o :: os) = (encT o).cells ++ cellsT os := by simp [cellsT]
    have e1 : ((encT o).cells ++ cellsT os).take (Shape.size (some 10)) = (encT o).cells := List.take_left' rfl
    have e2 : ((encT o).cells ++ cellsT os).drop (Shape.size (some 10)) = cellsT os := List.drop_left' rfl
    rw [e]
    simp only [List.length_cons, group, List.map_cons]
    rw [e1, e2, cellsT_group os]; rfl
/-- A list of tokens that is written into. -/
abbrev mobj (id : Nat) (os : List (Md.Tok × Nat)) : Ck := .obj id (.cells (cellsT os) (some 10))
def mval (id : Nat) (os : List (Md.Tok × Nat)) : DV := if os = [] then .lst 0 0 [] else .arr id 10 0 os.length
def mpc (id : Nat) (os : List (Md.Tok × Nat)) : List Ck := if os = [] then [] else [mobj id os]
theorem mval_nil {id : Nat} : mval id [] = .lst 0 0 [] := rfl
theorem mpc_nil {id : Nat} : mpc id [] = [] := rfl
theorem mval_snoc {id : Nat} {os : List (Md.Tok × Nat)} {o : Md.Tok × Nat} : mval id (os ++ [o]) = .arr id 10 0 (os.length + 1) := by rw [mval, if_neg (by simp)]; simp
theorem mpc_snoc {id : Nat} {os : List (Md.Tok × Nat)} {o : Md.Tok × Nat} : mpc id (os ++ [o]) = [mobj id (os ++ [o])] := by rw [mpc, if_neg (by simp)]
theorem ldT {id off k : Nat} {os : List (Md.Tok × Nat)} {o : Md.Tok × Nat} {cs : List Ck} {v : DV} (hm : Me (mobj id (os ++ [o])) cs) (ho : off = os.length * 10 + k) (hv : (encT o).cells[k]? = some v) : LD cs none (.ptr id off) v :=
  .ptr hm (.one (by rw [cellsT_snoc, List.getElem?_append_right (by rw [cellsT_len]; omega), cellsT_len, ho, Nat.add_sub_cancel_left]; exact hv))
theorem stT {id off : Nat} {os : List (Md.Tok × Nat)} {o : Md.Tok × Nat} {d : Md.Str} {cs cs' : List Ck} (hu : Upd1 (mobj id (os ++ [o])) (mobj id (os ++ [({ o.1 with data := d }, o.2)])) cs cs') (ho : off = os.length * 10 + 4) : StS cs 1 id off (.str d) cs' := by
  refine ⟨fun h hs => ?_⟩
  have e := hs.obj (Me.mem' hu.mem)
  have hl : (cellsT (os ++ [o])).length = os.length * 10 + 10 := by rw [cellsT_len]; simp; omega
  have ho4 : overwrite (cellsT (os ++ [o])) off [.str d] = cellsT (os ++ [({ o.1 with data := d }, o.2)]) := by
    unfold overwrite
    rw [cellsT_snoc, cellsT_snoc, ho, List.take_append, List.drop_append, cellsT_len, List.take_of_length_le (by rw [cellsT_len]; omega), List.drop_of_length_le (by rw [cellsT_len]; simp; omega)]
    rw [show os.length * 10 + 4 - os.length * 10 = 4 by omega, show os.length * 10 + 4 + [DV.str d].length - os.length * 10 = 5 by simp only [List.length_cons, List.length_nil]; omega]
    rw [List.append_assoc, List.append_assoc]; rfl
  refine ⟨h.put id (.cells (cellsT (os ++ [({ o.1 with data := d }, o.2)])) (some 10)), ?_, hs.put hu⟩
  simp only [storeD, e]
  rw [if_pos ⟨rfl, by rw [hl]; omega, rfl⟩, ← ho4]; rfl
section
variable {D : DProg}
theorem drop_keep (h : Heap) {i j : Nat} (hn : j ≠ i) : (h.drop i).objs.get j = h.objs.get j ∧ (h.drop i).tags.get j = h.tags.get j := by
  refine ⟨?_, rfl⟩
  simp only [Heap.drop, Tr.get_set]; rw [if_neg hn]
theorem RR.mksT {d : Option Nat} {x : Opd} {zero : DV} {c : List (Opd × Shape × Nat × Option (Nat × Bool))} {os : List ROp} {k : List It} {nt : Nat} {es : List En} {ds : List DDef} {ir : Option Nat} {cs : List Ck} {Q : DX → St → List Ck → Prop} (p : Md.Tok × Nat)
    (h1 : lo D es [] x = some (encT p)) (hd : dstOk nt d = true) (hr : ∀ id, 2 ≤ id → RR D (.chk c :: .ops os :: k) (St.putO ⟨nt, es, ds, ir⟩ d (.arr id 10 0 1)) (mobj id [p] :: cs) Q) :
    RR D (.ops (⟨d, .mks true (some 10) zero 1 [(0, x)], none, c⟩ :: os) :: k) ⟨nt, es, ds, ir⟩ cs Q := .sem fun fr h ha hs => by
  have e1 := lo_ok (D := D) ha.es Tags.nil h1
  refine ops_ev ha (r := .newO (.cells (flat [encT p]) (some 10)) (fun i => .arr i 10 0 1)) (h1 := h.add (.cells (cellsT [p]) (some 10))) (v := .arr h.next 10 0 1) ?_ rfl hd (hs.addO _) (hr h.next hs.two).sound
  simp only [evalOp]
  rw [if_pos ⟨by decide, fun q hq => by
    simp only [List.mem_singleton] at hq; subst hq
    refine ⟨Nat.lt_succ_self 0, ?_, ?_⟩
    · rw [e1]; rfl
    · rw [e1]; rfl⟩]
  simp only [List.map_cons, List.map_nil, e1, fillL]
  rfl
theorem elemsT {h : Heap} {j : Nat} {p : Md.Tok × Nat} (hj : h.objs.get j = some (.cells (cellsT [p]) (some 10))) : elems h (some 10) (.arr j 10 0 1) = some [encT p] := by
  simp only [elems, hj]
  rw [if_pos ⟨trivial, rfl⟩]; rfl
theorem RR.appT0 {d : Option Nat} {x y : Opd} {bytes : Nat} {c : List (Opd × Shape × Nat × Option (Nat × Bool))} {os : List ROp} {k : List It} {nt : Nat} {es : List En} {ds : List DDef} {ir : Option Nat} {cs cs1 : List Ck} {Q : DX → St → List Ck → Prop} {j : Nat} {p : Md.Tok × Nat}
    (h1 : lo D es [] x = some (.lst 0 0 [])) (h2 : lo D es [] y = some (.arr j 10 0 1)) (hm : Rem (mobj j [p]) cs cs1) (hb : bytes ≤ 1000) (hd : dstOk nt d = true) (hr : ∀ id, 2 ≤ id → RR D (.chk c :: .ops os :: k) (St.putO ⟨nt, es, ds, ir⟩ d (.arr id 10 0 1)) (mobj id [p] :: cs1) Q) :
    RR D (.ops (⟨d, .append true (some 10) bytes x y, none, c⟩ :: os) :: k) ⟨nt, es, ds, ir⟩ cs Q := .sem fun fr h ha hs => by
  have e1 := lo_ok (D := D) ha.es Tags.nil h1
  have e2 := lo_ok (D := D) ha.es Tags.nil h2
  refine ops_ev ha (r := .newO (.cells (flat [encT p]) (some 10)) (fun i => .arr i 10 0 1)) (h1 := h.add (.cells (cellsT [p]) (some 10))) (v := .arr h.next 10 0 1) ?_ rfl hd ((hs.sub hm.sublist).addO _) (hr h.next hs.two).sound
  simp only [evalOp, e1, e2, appendD, elemsT (hs.obj (Me.mem' hm.mem))]
  rw [if_neg (by simp), if_pos ⟨.inl trivial, by simp only [List.length_nil, List.length_cons]; omega, by simp⟩]
  rfl
theorem RR.appT1 {d : Option Nat} {x y : Opd} {bytes n : Nat} {c : List (Opd × Shape × Nat × Option (Nat × Bool))} {os : List ROp} {k : List It} {nt : Nat} {es : List En} {ds : List DDef} {ir : Option Nat} {cs cs1 cs2 : List Ck} {Q : DX → St → List Ck → Prop} {i j : Nat} {p : Md.Tok × Nat} {l : List (Md.Tok × Nat)}
    (h1 : lo D es [] x = some (.arr i 10 0 n)) (h2 : lo D es [] y = some (.arr j 10 0 1)) (hm : Rem (mobj j [p]) cs cs1) (hm2 : Rem (mobj i l) cs1 cs2) (hn : n = l.length) (hb : bytes ≤ 1000 ∧ n ≤ 10000000000) (hd : dstOk nt d = true) (hr : ∀ id, 2 ≤ id → RR D (.chk c :: .ops os :: k) (St.putO ⟨nt, es, ds, ir⟩ d (.arr id 10 0 (n + 1))) (mobj id (l ++ [p]) :: cs2) Q) :
    RR D (.ops (⟨d, .append true (some 10) bytes x y, none, c⟩ :: os) :: k) ⟨nt, es, ds, ir⟩ cs Q := .sem fun fr h ha hs => by
  have e1 := lo_ok (D := D) ha.es Tags.nil h1
  have e2 := lo_ok (D := D) ha.es Tags.nil h2
  have hj := hs.obj (Me.mem' hm.mem)
  have hs1 := hs.sub hm.sublist
  have hi := hs1.obj (Me.mem' hm2.mem)
  have hcut : cut (cellsT l) 0 (n * Shape.size (some 10)) = some (cellsT l) := by
    unfold cut
    rw [show n * Shape.size (some 10) = l.length * 10 by rw [hn]; rfl, if_pos (by rw [cellsT_len]; omega), List.drop_zero, List.take_of_length_le (by rw [cellsT_len]; omega)]
  have hdr : Sat (h.drop i) cs2 := hm2.keep hs1 (Nat.le_refl _) fun q _ hq => drop_keep h (fun e => hq e)
  refine ops_ev ha (r := .eff (.arr h.next 10 0 (n + 1)) ((h.drop i).add (.cells (cellsT (l ++ [p])) (some 10)))) (h1 := (h.drop i).add (.cells (cellsT (l ++ [p])) (some 10))) (v := .arr h.next 10 0 (n + 1)) ?_ rfl hd (hdr.addO _) (hr h.next hs.two).sound
  simp only [evalOp, e1, e2, appendD, elemsT hj, hi]
  rw [if_neg (by simp)]
  simp only [hcut]
  have hmul : (n + 1) * bytes ≤ (10000000000 + 1) * 1000 := Nat.mul_le_mul (by omega) hb.1
  rw [if_pos ⟨trivial, rfl, trivial, by simp only [List.length_nil, List.length_cons]; rw [Nat.zero_add]; omega, by simp only [List.length_nil, List.length_cons]; omega⟩, cellsT_snoc]
  rfl
/-- What comes out is written into no more. -/
theorem FZ1.ofT {g : Nat} {args : List DV} {cs R : List Ck} {P : List (Md.Tok × Nat) → Prop} (hF : F D g args cs (fun v cs' => Hold (∃ id os, v = mval id os ∧ mpc id os ++ R = cs' ∧ P os))) :
    FZ1 D g args cs (fun v cs' => Hold (∃ t os, v = .lst t (zOf t 10) (os.map encT) ∧ (t = 0 ∧ os = [] ∨ t = 1) ∧ P os ∧ R = cs')) := fun h hs => by
  obtain ⟨v, h', cs', r1, r2, r3⟩ := hF h hs
  obtain ⟨id, os, rfl, rfl, hp⟩ := r3.out
  by_cases ho : os = []
  · subst ho
    exact ⟨_, h', _, h', R, r1, rfl, r2, Hold.mk ⟨0, [], rfl, .inl ⟨rfl, rfl⟩, hp, rfl⟩⟩
  · have e1 : mval id os = .arr id 10 0 os.length := by rw [mval, if_neg ho]
    have e2 : mpc id os = [mobj id os] := by rw [mpc, if_neg ho]
    rw [e1] at r1
    rw [e2] at r2
    have hi := r2.obj .head
    refine ⟨_, h', .lst 1 10 (os.map encT), h'.drop id, R, r1, ?_, (Rem.head (c := mobj id os) (r := R)).keep r2 (Nat.le_refl _) fun q _ hq => drop_keep h' (fun e => hq e), Hold.mk ⟨1, os, rfl, .inr rfl, hp, rfl⟩⟩
    simp only [frzV, hi]
    have hcut : cut (cellsT os) 0 (os.length * Shape.size (some 10)) = some (cellsT os) := by
      unfold cut
      rw [show os.length * Shape.size (some 10) = os.length * 10 from rfl, if_pos (by rw [cellsT_len]; omega), List.drop_zero, List.take_of_length_le (by rw [cellsT_len]; omega)]
    rw [if_pos ⟨rfl, by decide⟩, hcut, Option.map_some, cellsT_group]; rfl
end
end Go.Dm
/- What token.Join, slices.Collect and lex.All do. -/
namespace Go.Md
theorem joinStep_nil (t : Tok) : joinStep [] t = if t.kind = 1 ∧ t.data = [] then [] else [t] := by simp [joinStep]
theorem joinStep_snoc (l : List Tok) (u t : Tok) : joinStep (l ++ [u]) t = if t.kind = 1 ∧ u.kind = 1 then l ++ [{ u with data := u.data ++ t.data }] else if t.kind = 1 ∧ t.data = [] then l ++ [u] else l ++ [u] ++ [t] := by
  simp only [joinStep, List.getLast?_append, List.getLast?_singleton, Option.some_or, List.dropLast_concat]
theorem joinStep_dl (out : List Tok) (t : Tok) : dl (joinStep out t) = dl out + t.data.length := by
  rcases List.eq_nil_or_concat out with rfl | ⟨l, u, rfl⟩
  · rw [joinStep_nil]; split
    · rename_i h; simp [dl, h.2]
    · simp [dl]
  · rw [List.concat_eq_append, joinStep_snoc]; split
    · simp only [dl_snoc, List.length_append]; omega
    · split
      · rename_i h; simp [h.2]
      · rw [dl_snoc]
theorem join_take {ts : List Tok} {i : Nat} (h : i < ts.length) : join (ts.take (i + 1)) = joinStep (join (ts.take i)) (ts.getD i default) := by
  unfold join
  rw [List.take_add_one, List.getElem?_eq_getElem h, List.foldl_append]
  simp [List.getD_eq_getElem?_getD, List.getElem?_eq_getElem h]
theorem dl_join (ts : List Tok) : dl (join ts) = dl ts := by
  suffices h : ∀ (ts out : List Tok), dl (ts.foldl joinStep out) = dl out + dl ts by
    have := h ts []; rw [dl_nil, Nat.zero_add] at this; exact this
  intro ts
  induction ts with
  | nil => intro out; rfl
  | cons t ts ih =>
    intro out
    rw [List.foldl_cons, ih, joinStep_dl]
    simp only [dl, List.map_cons, List.flatten_cons, List.length_append]; omega
theorem join_len (ts : List Tok) : (join ts).length ≤ ts.length := by
  suffices h : ∀ (ts out : List Tok), (ts.foldl joinStep out).length ≤ out.length + ts.length by
    have := h ts []; simpa [join] using this
  intro ts
  induction ts with
  | nil => intro out; simp
  | cons t ts ih =>
    intro out
    rw [List.foldl_cons]
    refine Nat.le_trans (ih _) ?_
    have : (joinStep out t).length ≤ out.length + 1 := by
      rcases List.eq_nil_or_concat out with rfl | ⟨l, u, rfl⟩
      · rw [joinStep_nil]; split <;> simp
      · rw [List.concat_eq_append, joinStep_snoc]; split
        · simp
        · split <;> simp
    simp only [List.length_cons]; omega
theorem dl_take (ts : List Tok) (i : Nat) : dl (ts.take i) ≤ dl ts := by
  conv => rhs; rw [← List.take_append_drop i ts]
  simp only [dl, List.map_append, List.flatten_append, List.length_append]; omega
theorem data_dl {ts : List Tok} {t : Tok} (h : t ∈ ts) : t.data.length ≤ dl ts := by
  obtain ⟨a, b, rfl⟩ := List.append_of_mem h
  simp only [dl, List.map_append, List.map_cons, List.flatten_append, List.flatten_cons, List.length_append]; omega
end Go.Md
namespace Go.Proofs.YticnenofiibpgaaDoor.Code
open Go.Dm Go.Dm.C
set_option linter.unusedSimpArgs false
set_option linter.unusedVariables false
set_option linter.unnecessarySimpa false
set_option maxRecDepth 10000
attribute [local irreducible] Go.Dm.F Go.Dm.RS Go.Dm.Y Go.Dm.FD Go.Dm.FZ1 Go.Dm.Hold
variable {R : List Ck}
theorem take_fst (ls : List (Md.Tok × Nat)) (i : Nat) : (ls.take i).map Prod.fst = (ls.map Prod.fst).take i := by rw [List.map_take]
theorem getD_fst (ls : List (Md.Tok × Nat)) (i : Nat) : (ls.map Prod.fst).getD i default = (ls.getD i default).1 := by
  simp only [List.getD_eq_getElem?_getD, List.getElem?_map]
  cases ls[i]? <;> rfl
set_option maxHeartbeats 2000000 in
theorem join_F {t z : Nat} {ls : List (Md.Tok × Nat)} (hz : z = zOf t 10) (hn : ls.length ≤ 1000000000) (hd : Md.dl (ls.map Prod.fst) ≤ 1000000000000) :
    F D 26 [.lst t z (ls.map encT)] R (fun v cs' => Hold (∃ id os, v = mval id os ∧ mpc id os ++ R = cs' ∧ os.map Prod.fst = Md.join (ls.map Prod.fst))) := by
  subst hz
  refine F.of rfl rfl rfl ?_
  repeat' first | exact arI | refine Pst.mk ⟨?_, rfl⟩ (by (repeat' constructor); first | done | fail) | constructor | (refine fun _ _ (hq : Hold _) => ?_; replace hq := hq.out; obtain ⟨_, rfl, rfl⟩ := hq) | (refine fun _ _ (hq : Hold _) => ?_; replace hq := hq.out; obtain ⟨_, _, rfl, rfl⟩ := hq) | rintro _ _ ⟨rfl, rfl⟩ | rintro _ _ ⟨_, rfl, rfl⟩ | rintro _ _ ⟨_, _, rfl, rfl⟩ | (refine fun (hc : _ = _) => ?_; (try simp only [BB] at hc)) | refine fun (_ : Nat) => ?_ | refine fun (_ : _ ≤ _) => ?_ | refine fun (_ : _ < _) => ?_
  refine RS.loopW (α := Nat × Nat × List (Md.Tok × Nat)) (fun a => [(7, .lst t (zOf t 10) (ls.map encT)), (8, .int .i64 ls.length), (9, .int .i64 (a.1 : Nat)), (3, mval a.2.1 a.2.2)]) (fun a => mpc a.2.1 a.2.2 ++ R)
    (fun a => a.1 ≤ ls.length ∧ a.2.2.map Prod.fst = Md.join ((ls.map Prod.fst).take a.1)) (fun a => ls.length - a.1) (0, 0, []) ⟨Nat.zero_le _, rfl⟩ ⟨rfl, rfl, rfl, rfl, trivial⟩ (by (repeat' constructor); first | done | fail) ?_
  rintro ⟨i, id, os⟩ ⟨h1, h2⟩ ih
  dsimp only [ents] at *
  have hjt := fun h => Md.join_take (ts := ls.map Prod.fst) (i := i) h
  rw [List.length_map] at hjt
  have hdt := Md.dl_take (ls.map Prod.fst) i
  have hdj := Md.dl_join ((ls.map Prod.fst).take i)
  have hlen := Md.join_len ((ls.map Prod.fst).take i)
  rw [List.length_take, List.length_map] at hlen
  have hdt1 := Md.dl_take (ls.map Prod.fst) (i + 1)
  have hdi : i < ls.length → (ls.getD i default).1.data.length ≤ 1000000000000 := fun h => by
    refine Nat.le_trans (Md.data_dl (ts := ls.map Prod.fst) ?_) hd
    rw [← getD_fst, List.getD_eq_getElem?_getD, List.getElem?_eq_getElem (by rw [List.length_map]; exact h)]
    exact List.getElem_mem _
  rw [← h2] at hjt hdj hlen
  rw [List.length_map] at hlen
  rw [getD_fst] at hjt
  rcases List.eq_nil_or_concat os with rfl | ⟨os, o, rfl⟩
  · rw [mval_nil, mpc_nil, List.nil_append] at *
    rw [List.map_nil, Md.joinStep_nil] at hjt
    repeat' first | (refine fun (hc : _ = _) => ?_; (try simp only [BB, List.length_nil] at hc); first | contradiction | (exfalso; omega)) | (show IA _ _ _ _ _ _; exact IA.map (ys := ([] : List (Md.Tok × Nat))) (f := encT) .zof arI) | (apply RR.mksT (ls.getD i default); exact rfl; exact rfl; refine fun _ _ => ?_) | (apply RR.appT0 (p := ls.getD i default); exact rfl; exact rfl; exact (by (repeat' constructor); first | done | fail); exact (by decide); exact rfl; refine fun _ _ => ?_) | (refine fun (hc : _ = _) => ?_; (try simp only [BB] at hc); (try (first | contradiction | (exfalso; omega)))) | exact arI | refine Pst.mk ⟨?_, rfl⟩ (by (repeat' constructor); first | done | fail) | constructor | (refine fun _ _ (hq : Hold _) => ?_; replace hq := hq.out; obtain ⟨_, rfl, rfl⟩ := hq) | (refine fun _ _ (hq : Hold _) => ?_; replace hq := hq.out; obtain ⟨_, _, rfl, rfl⟩ := hq) | rintro _ _ ⟨rfl, rfl⟩ | rintro _ _ ⟨_, rfl, rfl⟩ | rintro _ _ ⟨_, _, rfl, rfl⟩ | (refine fun (hc : _ = _) => ?_; (try simp only [BB] at hc)) | refine fun (_ : Nat) => ?_ | refine fun (_ : _ ≤ _) => ?_ | refine fun (_ : _ < _) => ?_
    · rw [if_pos hc] at hjt
      exact ih _ _ (i + 1, id, []) ⟨by dsimp only; omega, (hjt (by omega)).symm⟩ (by dsimp only; omega) ⟨rfl, rfl, rfl, rfl, trivial⟩ (by (repeat' constructor); first | done | fail)
    · rw [if_neg (fun h => hc h.1 h.2)] at hjt
      rename_i q _
      exact ih _ _ (i + 1, q, [ls.getD i default]) ⟨by dsimp only; omega, (hjt (by omega)).symm⟩ (by dsimp only; omega) ⟨rfl, rfl, rfl, rfl, trivial⟩ (by (repeat' constructor); first | done | fail)
    · obtain rfl : i = ls.length := by omega
      rw [List.take_of_length_le (by simp)] at h2
      exact Pst.mk (.mk ⟨id, [], rfl, rfl, h2⟩) .refl
  · rw [List.concat_eq_append] at *
    rw [mval_snoc, mpc_snoc, List.singleton_append]
    rw [List.map_append, List.map_cons, List.map_nil, Md.joinStep_snoc] at hjt
    rw [List.map_append, List.map_cons, List.map_nil, Md.dl_snoc] at hdj
    rw [List.length_append, List.length_cons, List.length_nil] at hlen
    repeat' first
      | (apply RR.storeS; exact rfl; exact rfl; exact stT (by (repeat' constructor); first | done | fail) (by omega); exact rfl) | (show LD _ _ _ _; first | exact ldT (k := 0) (by (repeat' constructor); first | done | fail) (by omega) rfl | exact ldT (k := 4) (by (repeat' constructor); first | done | fail) (by omega) rfl) | (apply RR.mksT (ls.getD i default); exact rfl; exact rfl; refine fun _ _ => ?_) | (apply RR.appT1 (p := ls.getD i default) (l := os ++ [o]); exact rfl; exact rfl; exact (by (repeat' constructor); first | done | fail); exact (by (repeat' constructor); first | done | fail); (simp only [List.length_append, List.length_cons, List.length_nil]); exact ⟨by decide, by omega⟩; exact rfl; refine fun _ _ => ?_)
      | (refine fun (hc : _ = _) => ?_; (try simp only [BB] at hc); (try (first | contradiction | (exfalso; omega)))) | exact arI | refine Pst.mk ⟨?_, rfl⟩ (by (repeat' constructor); first | done | fail) | constructor | (refine fun _ _ (hq : Hold _) => ?_; replace hq := hq.out; obtain ⟨_, rfl, rfl⟩ := hq) | (refine fun _ _ (hq : Hold _) => ?_; replace hq := hq.out; obtain ⟨_, _, rfl, rfl⟩ := hq) | rintro _ _ ⟨rfl, rfl⟩ | rintro _ _ ⟨_, rfl, rfl⟩ | rintro _ _ ⟨_, _, rfl, rfl⟩ | (refine fun (hc : _ = _) => ?_; (try simp only [BB] at hc)) | refine fun (_ : Nat) => ?_ | refine fun (_ : _ ≤ _) => ?_ | refine fun (_ : _ < _) => ?_
    · rw [if_pos ⟨hc.1.1, hc.2⟩] at hjt
      refine ih _ _ (i + 1, id, os ++ [({ o.1 with data := o.1.data ++ (ls.getD i default).1.data }, o.2)]) ⟨by dsimp only; omega, ?_⟩ (by dsimp only; omega) ?_ ?_
      · rw [hjt (by omega)]; simp
      · dsimp only; rw [mval_snoc]; exact ⟨rfl, rfl, rfl, rfl, trivial⟩
      · dsimp only; rw [mpc_snoc]; exact (by (repeat' constructor); first | done | fail)
    · rename_i hc1
      rw [if_neg (fun h => hc1 ⟨h.1, by omega⟩ h.2), if_pos hc] at hjt
      refine ih _ _ (i + 1, id, os ++ [o]) ⟨by dsimp only; omega, ?_⟩ (by dsimp only; omega) ?_ ?_
      · rw [hjt (by omega)]; simp
      · dsimp only; rw [mval_snoc]; exact ⟨rfl, rfl, rfl, rfl, trivial⟩
      · dsimp only; rw [mpc_snoc]; exact (by (repeat' constructor); first | done | fail)
    · rename_i hc1 _ _ q _
      rw [if_neg (fun h => hc1 ⟨h.1, by omega⟩ h.2), if_neg (fun h => hc h.1 h.2)] at hjt
      refine ih _ _ (i + 1, q, os ++ [o] ++ [ls.getD i default]) ⟨by dsimp only; omega, ?_⟩ (by dsimp only; omega) ?_ ?_
      · rw [hjt (by omega)]; simp
      · dsimp only; rw [mval_snoc]; simp only [List.length_append, List.length_cons, List.length_nil]; exact ⟨rfl, rfl, rfl, rfl, trivial⟩
      · dsimp only; rw [mpc_snoc]; exact (by (repeat' constructor); first | done | fail)
    · obtain rfl : i = ls.length := by omega
      rw [List.take_of_length_le (by simp)] at h2
      exact Pst.mk (.mk ⟨id, os ++ [o], mval_snoc.symm, by rw [mpc_snoc]; rfl, h2⟩) .refl
end Go.Proofs.YticnenofiibpgaaDoor.Code
/- What slices.Collect of a lexer's tokens and lex.All do; two tokens compared. -/
namespace Go.Proofs.YticnenofiibpgaaDoor.Code
open Go.Dm Go.Dm.C
set_option linter.unusedSimpArgs false
set_option linter.unusedVariables false
set_option linter.unnecessarySimpa false
set_option maxRecDepth 10000
attribute [local irreducible] Go.Dm.F Go.Dm.RS Go.Dm.Y Go.Dm.FD Go.Dm.FZ1 Go.Dm.Hold
variable {id : Nat} {s : Md.Lx} {g : Nat × Nat} {R : List Ck}
theorem joinZ_F {t z : Nat} {ls : List (Md.Tok × Nat)} (hz : z = zOf t 10) (hn : ls.length ≤ 1000000000) (hd : Md.dl (ls.map Prod.fst) ≤ 1000000000000) :
    FZ D (.fn (.func 26) [] []) [.lst t z (ls.map encT)] R (fun v cs' => Hold (∃ (t : Nat) (os : List (Md.Tok × Nat)), v = .lst t (zOf t 10) (os.map encT) ∧ (t = 0 ∧ os = [] ∨ t = 1) ∧ os.map Prod.fst = Md.join (ls.map Prod.fst) ∧ R = cs')) :=
  FZ1.ofT (join_F hz hn hd)
theorem joinZ_F2 {t z : Nat} {ls : List (Md.Tok × Nat)} {ts : List Md.Tok} (hz : z = zOf t 10) (ha : ls.map Prod.fst = ts) (hn : ts.length ≤ 1000000000) (hd : Md.dl ts ≤ 1000000000000) :
    FZ D (.fn (.func 26) [] []) [.lst t z (ls.map encT)] R (fun v cs' => Hold (∃ (t : Nat) (os : List (Md.Tok × Nat)), v = .lst t (zOf t 10) (os.map encT) ∧ (t = 0 ∧ os = [] ∨ t = 1) ∧ os.map Prod.fst = Md.join ts ∧ R = cs')) := by
  subst ha; rw [List.length_map] at hn; exact joinZ_F hz hn hd
theorem seq_F {q : Nat} (hN : NI s) (hn : s.toks.length ≤ 1000000000) : F D 53 [.lst 0 0 [], .fn (.func 40) [] [.ptr q 0]] (.obj q (.cells [.ptr id 0] none) :: LX id s g :: R)
    (fun v cs' => Hold (∃ (t : Nat) (os : List (Md.Tok × Nat)), v = .lst t (zOf t 10) (os.map encT) ∧ .own t 10 (os.map encT) :: R = cs' ∧ os.map Prod.fst = s.toks)) := by
  refine F.of rfl rfl rfl ?_
  repeat' first | exact arI | refine Pst.mk ⟨?_, rfl⟩ (by (repeat' constructor); first | done | fail) | constructor | (refine fun _ _ (hq : Hold _) => ?_; replace hq := hq.out; obtain ⟨_, rfl, rfl⟩ := hq) | (refine fun _ _ (hq : Hold _) => ?_; replace hq := hq.out; obtain ⟨_, _, rfl, rfl⟩ := hq) | rintro _ _ ⟨rfl, rfl⟩ | rintro _ _ ⟨_, rfl, rfl⟩ | rintro _ _ ⟨_, _, rfl, rfl⟩ | (refine fun (hc : _ = _) => ?_; (try simp only [BB] at hc)) | refine fun (_ : Nat) => ?_ | refine fun (_ : _ ≤ _) => ?_ | refine fun (_ : _ < _) => ?_
  rename_i x _
  refine RS.nilOwn 10 ?_
  refine RS.rangeO rfl rfl fun m l Lr Lb Ld hL => ?_
  refine F.perm ((Rem.perm' (c := .obj q _) (by (repeat' constructor); first | done | fail)).trans ((Rem.perm' (c := LX id _ _) (by (repeat' constructor); first | done | fail)).cons _)) ?_
  refine F.mono (tokens_it (l := l) (fun ts cs => ∃ (t : Nat) (os : List (Md.Tok × Nat)), Lr :: .obj m .mark :: .own t 10 (os.map encT) :: .obj x (.cells [.lst t (zOf t 10) (os.map encT)] none) :: R = cs ∧ os.map Prod.fst ++ ts = s.toks) (fun _ => False) ?_ hN ⟨0, [], rfl, rfl⟩) ?_
  · rintro t tag ts s2 g2 _ ⟨t1, os, rfl, ha⟩
    refine hL.y (.tail (.tail .head)) rfl ?_
    have hlen := congrArg List.length ha
    rw [List.length_append, List.length_map, List.length_cons] at hlen
    repeat' first | exact MapL.cons (y := (t, tag)) .nil | (refine Arith.mk ?_; omega) | (refine fun (hc : _ = _) => ?_; (try simp only [BB] at hc); (try (first | contradiction | (exfalso; omega)))) | exact arI | refine Pst.mk ⟨?_, rfl⟩ (by (repeat' constructor); first | done | fail) | constructor | (refine fun _ _ (hq : Hold _) => ?_; replace hq := hq.out; obtain ⟨_, rfl, rfl⟩ := hq) | (refine fun _ _ (hq : Hold _) => ?_; replace hq := hq.out; obtain ⟨_, _, rfl, rfl⟩ := hq) | rintro _ _ ⟨rfl, rfl⟩ | rintro _ _ ⟨_, rfl, rfl⟩ | rintro _ _ ⟨_, _, rfl, rfl⟩ | (refine fun (hc : _ = _) => ?_; (try simp only [BB] at hc)) | refine fun (_ : Nat) => ?_ | refine fun (_ : _ ≤ _) => ?_ | refine fun (_ : _ < _) => ?_
    rename_i t2
    exact Pst.mk (.mk ⟨_, rfl, .inl ⟨rfl, t2, os ++ [(t, tag)], rfl, by rw [← ha]; simp⟩⟩) (by (repeat' constructor); first | done | fail)
  · rintro v cs' hq
    obtain ⟨s2, g2, cs1, rfl, hq2⟩ := hq.out
    rcases hq2 with ⟨t1, os, rfl, ha⟩ | hq2
    · refine .ready (by (repeat' constructor); first | done | fail) ?_
      rw [List.append_nil] at ha
      repeat' first | exact arI | refine Pst.mk ⟨?_, rfl⟩ (by (repeat' constructor); first | done | fail) | constructor | (refine fun _ _ (hq : Hold _) => ?_; replace hq := hq.out; obtain ⟨_, rfl, rfl⟩ := hq) | (refine fun _ _ (hq : Hold _) => ?_; replace hq := hq.out; obtain ⟨_, _, rfl, rfl⟩ := hq) | rintro _ _ ⟨rfl, rfl⟩ | rintro _ _ ⟨_, rfl, rfl⟩ | rintro _ _ ⟨_, _, rfl, rfl⟩ | (refine fun (hc : _ = _) => ?_; (try simp only [BB] at hc)) | refine fun (_ : Nat) => ?_ | refine fun (_ : _ ≤ _) => ?_ | refine fun (_ : _ < _) => ?_
      exact Pst.mk (.mk ⟨t1, os, rfl, rfl, ha⟩) (by (repeat' constructor); first | done | fail)
    · exact hq2.elim
theorem collect_F {q : Nat} (hN : NI s) (hn : s.toks.length ≤ 1000000000) : F D 36 [.fn (.func 40) [] [.ptr q 0]] (.obj q (.cells [.ptr id 0] none) :: LX id s g :: R)
    (fun v cs' => Hold (∃ (t : Nat) (os : List (Md.Tok × Nat)), v = .lst t (zOf t 10) (os.map encT) ∧ .own t 10 (os.map encT) :: R = cs' ∧ os.map Prod.fst = s.toks)) := by
  refine F.of rfl rfl rfl ?_
  repeat' first | (show FC _ _ _ _ _; first | exact seq_F hN hn) | (refine fun _ _ (hq : Hold _) => ?_; replace hq := hq.out; obtain ⟨t1, os, rfl, rfl, ha⟩ := hq) | (refine fun (hc : _ = _) => ?_; (try simp only [BB] at hc); (try (first | contradiction | (exfalso; omega)))) | exact arI | refine Pst.mk ⟨?_, rfl⟩ (by (repeat' constructor); first | done | fail) | constructor | (refine fun _ _ (hq : Hold _) => ?_; replace hq := hq.out; obtain ⟨_, rfl, rfl⟩ := hq) | (refine fun _ _ (hq : Hold _) => ?_; replace hq := hq.out; obtain ⟨_, _, rfl, rfl⟩ := hq) | rintro _ _ ⟨rfl, rfl⟩ | rintro _ _ ⟨_, rfl, rfl⟩ | rintro _ _ ⟨_, _, rfl, rfl⟩ | (refine fun (hc : _ = _) => ?_; (try simp only [BB] at hc)) | refine fun (_ : Nat) => ?_ | refine fun (_ : _ ≤ _) => ?_ | refine fun (_ : _ < _) => ?_
  exact Pst.mk (.mk ⟨t1, os, rfl, rfl, ha⟩) (by (repeat' constructor); first | done | fail)
end Go.Proofs.YticnenofiibpgaaDoor.Code
/- What lex.All does; tokens compared; words. -/
namespace Go.Proofs.YticnenofiibpgaaDoor.Code
open Go.Dm Go.Dm.C
set_option linter.unusedSimpArgs false
set_option linter.unusedVariables false
set_option linter.unnecessarySimpa false
set_option maxRecDepth 10000
attribute [local irreducible] Go.Dm.F Go.Dm.RS Go.Dm.Y Go.Dm.FD Go.Dm.FZ1 Go.Dm.Hold
variable {R : List Ck}
theorem toks_small {s : Md.Lx} {k : Nat} (hN : NI s) (ho : s.out = []) (ht : s.text = []) (hp : s.pos = 0) (hl : s.inp.length ≤ k) : s.toks.length ≤ 6 * (k + 1) ∧ Md.dl s.toks ≤ 40 * (k + 1) := by
  have h := toks_bd s.left s (Nat.le_refl _) hN ho
  rw [ht, List.length_nil] at h
  have e : s.left = s.inp.length + 1 := by unfold Md.Lx.left; rw [hp]; rfl
  rw [e] at h
  omega
theorem new_small {c : Md.Str} {k : Nat} {w : Int} {n : Md.Str} {b : Bool} (hl : c.length ≤ k) (hk : k ≤ 1000000000) (hn : n.length ≤ 10000000000) : NI { Md.Lx.new c with way := w, last := n, room := b } ∧ ({ Md.Lx.new c with way := w, last := n, room := b } : Md.Lx).toks.length ≤ 6 * (k + 1) ∧ Md.dl ({ Md.Lx.new c with way := w, last := n, room := b } : Md.Lx).toks ≤ 40 * (k + 1) := by
  have hd := decode_len c
  have hN : NI { Md.Lx.new c with way := w, last := n, room := b } := ⟨Nat.le_trans hd (Nat.le_trans hl hk), fun r hr => (decode_sv c r hr).1.1, Nat.zero_le _, fun _ => Nat.zero_le _, Nat.zero_le _, by show (0 : Nat) ≤ 100; omega, hn⟩
  exact ⟨hN, toks_small hN rfl rfl rfl (Nat.le_trans hd hl)⟩
theorem all_F {t z : Nat} {b : List UInt8} (hz : z = zOf t 1) (hl : b.length ≤ 100000000) : F D 15 [.lst t z (bytesV b)] R (fun v cs' => Hold (∃ (t : Nat) (os : List (Md.Tok × Nat)), v = .lst t (zOf t 10) (os.map encT) ∧ (t = 0 ∧ os = [] ∨ t = 1) ∧ os.map Prod.fst = Md.all b ∧ R = cs')) := by
  obtain ⟨hN, hb1, hb2⟩ := new_small (w := 0) (n := []) (b := false) hl (by omega) (by simp)
  refine F.of rfl rfl rfl ?_
  repeat' first | (show FC _ _ _ _ _; first | exact new_F hz (by omega) | exact tokens_F | exact collect_F (s := { Md.Lx.new b with way := 0, last := [], room := false }) hN (by omega)) | (show FZ _ _ _ _ _; exact joinZ_F2 rfl (by assumption) (Nat.le_trans hb1 (by decide)) (Nat.le_trans hb2 (by decide))) | (refine fun (hc : _ = _) => ?_; (try simp only [BB] at hc); (try (first | contradiction | (exfalso; omega)))) | exact arI | refine Pst.mk ⟨?_, rfl⟩ (by (repeat' constructor); first | done | fail) | constructor | (refine fun _ _ (hq : Hold _) => ?_; replace hq := hq.out; obtain ⟨_, rfl, rfl⟩ := hq) | (refine fun _ _ (hq : Hold _) => ?_; replace hq := hq.out; obtain ⟨_, _, rfl, rfl⟩ := hq) | rintro _ _ ⟨rfl, rfl⟩ | rintro _ _ ⟨_, rfl, rfl⟩ | rintro _ _ ⟨_, _, rfl, rfl⟩ | (refine fun (hc : _ = _) => ?_; (try simp only [BB] at hc)) | refine fun (_ : Nat) => ?_ | refine fun (_ : _ ≤ _) => ?_ | refine fun (_ : _ < _) => ?_ | (refine fun _ _ (hq : Hold _) => ?_; replace hq := hq.out; first | obtain ⟨t1, os, rfl, rfl, ha⟩ := hq | obtain ⟨t1, os, rfl, h0, ha, rfl⟩ := hq)
  rename_i t1 os h0 ha
  exact Pst.mk (.mk ⟨t1, os, rfl, h0, ha, rfl⟩) (by (repeat' constructor); first | done | fail)
theorem all_bd {c : Md.Str} {k : Nat} (hl : c.length ≤ k) (hk : k ≤ 1000000000) : (Md.all c).length ≤ 6 * (k + 1) ∧ Md.dl (Md.all c) ≤ 40 * (k + 1) := by
  obtain ⟨hN, hb1, hb2⟩ := new_small (w := 0) (n := []) (b := false) hl hk (by simp)
  have h1 := Md.join_len (Md.Lx.new c).toks
  have h2 := Md.dl_join (Md.Lx.new c).toks
  exact ⟨Nat.le_trans h1 hb1, by show Md.dl (Md.join _) ≤ _; rw [h2]; exact hb2⟩
end Go.Proofs.YticnenofiibpgaaDoor.Code
/- Tokens compared; words. -/
namespace Go.Md
def wd (c : UInt8) : UInt8 := byteN (97 + c.toNat % 26)
/-- A name of small letters. -/
def word9 (s : Str) : Str := 119 :: (s.take 8).map wd
end Go.Md
namespace Go.Proofs.YticnenofiibpgaaDoor.Code
open Go.Dm Go.Dm.C
set_option linter.unusedSimpArgs false
set_option linter.unusedVariables false
set_option linter.unnecessarySimpa false
set_option maxRecDepth 10000
attribute [local irreducible] Go.Dm.F Go.Dm.RS Go.Dm.Y Go.Dm.FD Go.Dm.FZ1 Go.Dm.Hold
variable {R : List Ck}
theorem take_eq_step {α : Type} [Inhabited α] {l m : List α} {i : Nat} (h : l.take i = m.take i) (hl : i < l.length) (hm : i < m.length) : l.take (i + 1) = m.take (i + 1) ↔ l.getD i default = m.getD i default := by
  have e1 : l.take (i + 1) = l.take i ++ [l[i]] := by rw [List.take_add_one, List.getElem?_eq_getElem hl]; rfl
  have e2 : m.take (i + 1) = m.take i ++ [m[i]] := by rw [List.take_add_one, List.getElem?_eq_getElem hm]; rfl
  rw [e1, e2, h]
  simp only [List.append_cancel_left_eq, List.cons.injEq, and_true, List.getD_eq_getElem?_getD, List.getElem?_eq_getElem hl, List.getElem?_eq_getElem hm, Option.getD_some]
theorem equal_F {t z t' z' : Nat} {l m : List (Md.Str × Md.Str)} (hz : z = zOf t 2) (hz' : z' = zOf t' 2) (hl : l.length ≤ 1000000000) : F D 42 [.lst t z (l.map encA), .lst t' z' (m.map encA)] R (fun v cs' => v = .bool (decide (l = m)) ∧ R = cs') := by
  subst hz; subst hz'
  refine F.of rfl rfl rfl ?_
  repeat' first | exact arI | refine Pst.mk ⟨?_, rfl⟩ (by (repeat' constructor); first | done | fail) | constructor | (refine fun _ _ (hq : Hold _) => ?_; replace hq := hq.out; obtain ⟨_, rfl, rfl⟩ := hq) | (refine fun _ _ (hq : Hold _) => ?_; replace hq := hq.out; obtain ⟨_, _, rfl, rfl⟩ := hq) | rintro _ _ ⟨rfl, rfl⟩ | rintro _ _ ⟨_, rfl, rfl⟩ | rintro _ _ ⟨_, _, rfl, rfl⟩ | (refine fun (hc : _ = _) => ?_; (try simp only [BB] at hc)) | refine fun (_ : Nat) => ?_ | refine fun (_ : _ ≤ _) => ?_ | refine fun (_ : _ < _) => ?_
  · rw [decide_eq_false]; intro e; subst e; omega
  refine RS.loopW (α := Nat) (fun i => [(0, .lst t (zOf t 2) (l.map encA)), (1, .lst t' (zOf t' 2) (m.map encA)), (12, .int .i64 l.length), (13, .int .i64 (i : Nat))]) (fun _ => R)
    (fun i => i ≤ l.length ∧ l.take i = m.take i) (fun i => l.length - i) 0 ⟨Nat.zero_le _, rfl⟩ ⟨rfl, rfl, rfl, rfl, trivial⟩ .refl ?_
  rintro i ⟨h1, h2⟩ ih
  dsimp only [ents] at *
  have hte := fun a b => take_eq_step h2 (i := i) a b
  repeat' first | (refine fun (hc : _ = _) => ?_; (try simp only [BB] at hc); (try (first | contradiction | (exfalso; omega)))) | exact arI | refine Pst.mk ⟨?_, rfl⟩ (by (repeat' constructor); first | done | fail) | constructor | (refine fun _ _ (hq : Hold _) => ?_; replace hq := hq.out; obtain ⟨_, rfl, rfl⟩ := hq) | (refine fun _ _ (hq : Hold _) => ?_; replace hq := hq.out; obtain ⟨_, _, rfl, rfl⟩ := hq) | rintro _ _ ⟨rfl, rfl⟩ | rintro _ _ ⟨_, rfl, rfl⟩ | rintro _ _ ⟨_, _, rfl, rfl⟩ | (refine fun (hc : _ = _) => ?_; (try simp only [BB] at hc)) | refine fun (_ : Nat) => ?_ | refine fun (_ : _ ≤ _) => ?_ | refine fun (_ : _ < _) => ?_
  · rw [decide_eq_false]; intro e; subst e; simp at hc
  · refine ih _ _ (i + 1) ⟨by omega, (hte (by omega) (by omega)).2 (Prod.ext hc.1 hc.2)⟩ (by omega) ⟨rfl, rfl, rfl, rfl, trivial⟩ .refl
  · rw [decide_eq_true]
    rw [List.take_of_length_le (by omega), List.take_of_length_le (by omega)] at h2
    exact h2
set_option maxHeartbeats 1000000 in
theorem tokSame_F {p q : Md.Tok × Nat} (hl : p.1.attrs.length ≤ 1000000000) : F D 29 [encT p, encT q] R (fun v cs' => v = .bool (decide (p.1 = q.1)) ∧ R = cs') := by
  refine F.of rfl rfl rfl ?_
  repeat' first | (show FC _ _ _ _ _; exact equal_F rfl rfl hl) | (refine fun (hc : _ = _) => ?_; (try simp only [BB] at hc); (try (first | contradiction | (exfalso; omega)))) | exact arI | refine Pst.mk ⟨?_, rfl⟩ (by (repeat' constructor); first | done | fail) | constructor | (refine fun _ _ (hq : Hold _) => ?_; replace hq := hq.out; obtain ⟨_, rfl, rfl⟩ := hq) | (refine fun _ _ (hq : Hold _) => ?_; replace hq := hq.out; obtain ⟨_, _, rfl, rfl⟩ := hq) | rintro _ _ ⟨rfl, rfl⟩ | rintro _ _ ⟨_, rfl, rfl⟩ | rintro _ _ ⟨_, _, rfl, rfl⟩ | (refine fun (hc : _ = _) => ?_; (try simp only [BB] at hc)) | refine fun (_ : Nat) => ?_ | refine fun (_ : _ ≤ _) => ?_ | refine fun (_ : _ < _) => ?_
  obtain ⟨⟨p1, p2, p3, p4, p5, p6, p7, p8, p9, p10⟩, tp⟩ := p
  obtain ⟨⟨q1, q2, q3, q4, q5, q6, q7, q8, q9, q10⟩, tq⟩ := q
  dsimp only
  congr 1
  rw [Bool.eq_iff_iff]
  simp [and_assoc]
  exact ⟨fun ⟨a, b, c, d⟩ => ⟨b, c, a, d⟩, fun ⟨b, c, a, d⟩ => ⟨a, b, c, d⟩⟩
theorem word9_take {s : Md.Str} {i : Nat} (h : i < s.length) : (s.take (i + 1)).map Md.wd = (s.take i).map Md.wd ++ [Md.wd (s.getD i 0)] := by
  rw [List.take_add_one, List.getElem?_eq_getElem h]
  simp only [List.getD_eq_getElem?_getD, List.getElem?_eq_getElem h, Option.getD_some, Option.toList_some, List.map_append, List.map_cons, List.map_nil]
theorem word9_F {s : Md.Str} : F D 14 [.str s] R (fun v cs' => v = .str (Md.word9 s) ∧ R = cs') := by
  refine F.of rfl rfl rfl ?_
  repeat' first | exact arI | refine Pst.mk ⟨?_, rfl⟩ (by (repeat' constructor); first | done | fail) | constructor | (refine fun _ _ (hq : Hold _) => ?_; replace hq := hq.out; obtain ⟨_, rfl, rfl⟩ := hq) | (refine fun _ _ (hq : Hold _) => ?_; replace hq := hq.out; obtain ⟨_, _, rfl, rfl⟩ := hq) | rintro _ _ ⟨rfl, rfl⟩ | rintro _ _ ⟨_, rfl, rfl⟩ | rintro _ _ ⟨_, _, rfl, rfl⟩ | (refine fun (hc : _ = _) => ?_; (try simp only [BB] at hc)) | refine fun (_ : Nat) => ?_ | refine fun (_ : _ ≤ _) => ?_ | refine fun (_ : _ < _) => ?_
  refine RS.loopW (α := Nat) (fun i => [(0, .str s), (3, .str (119 :: (s.take i).map Md.wd)), (4, .int .i64 (i : Nat))]) (fun _ => R)
    (fun i => i ≤ s.length ∧ i ≤ 8) (fun i => 8 - i) 0 ⟨Nat.zero_le _, Nat.zero_le _⟩ ⟨rfl, rfl, rfl, trivial⟩ .refl ?_
  rintro i ⟨h1, h2⟩ ih
  dsimp only [ents] at *
  have hw := fun h => word9_take (s := s) (i := i) h
  repeat' first | (refine fun (hc : _ = _) => ?_; (try simp only [BB] at hc); (try (first | contradiction | (exfalso; omega)))) | exact arI | refine Pst.mk ⟨?_, rfl⟩ (by (repeat' constructor); first | done | fail) | constructor | (refine fun _ _ (hq : Hold _) => ?_; replace hq := hq.out; obtain ⟨_, rfl, rfl⟩ := hq) | (refine fun _ _ (hq : Hold _) => ?_; replace hq := hq.out; obtain ⟨_, _, rfl, rfl⟩ := hq) | rintro _ _ ⟨rfl, rfl⟩ | rintro _ _ ⟨_, rfl, rfl⟩ | rintro _ _ ⟨_, _, rfl, rfl⟩ | (refine fun (hc : _ = _) => ?_; (try simp only [BB] at hc)) | refine fun (_ : Nat) => ?_ | refine fun (_ : _ ≤ _) => ?_ | refine fun (_ : _ < _) => ?_
  · have e := hw (by omega)
    have h26 := (List.getD s i 0).toNat_lt
    have e2 : UInt8.ofNat (IntKind.u8.wrap (97 + (((List.getD s (i : Int).toNat 0).toNat : Int)).tmod 26)).toNat = Md.wd (List.getD s i 0) := by
      rw [Int.toNat_natCast, wrap_u8, Int.tmod_eq_emod_of_nonneg (by omega)]
      apply UInt8.toNat.inj
      rw [Md.wd, byteN_nat (by omega), UInt8.toNat_ofNat']
      omega
    refine ih _ _ (i + 1) (by omega) (by omega) ?_ (by (repeat' constructor); first | done | fail)
    rw [e, ← e2]; exact ⟨rfl, rfl, rfl, trivial⟩
  · unfold Md.word9
    congr 2
    by_cases h8 : i = 8
    · subst h8; rfl
    · rw [List.take_of_length_le (by omega), List.take_of_length_le (by omega)]
theorem indexS_F {t z : Nat} {ns : List Md.Str} {m : Md.Str} (hz : ZK t z 1) (hl : ns.length ≤ 1000000000) : F D 56 [.lst t z (ns.map DV.str), .str m] R (fun v cs' => Hold (∃ k : Int, v = .int .i64 k ∧ R = cs' ∧ (0 ≤ k ↔ m ∈ ns))) := by
  refine F.of rfl rfl rfl ?_
  repeat' first | exact arI | refine Pst.mk ⟨?_, rfl⟩ (by (repeat' constructor); first | done | fail) | constructor | (refine fun _ _ (hq : Hold _) => ?_; replace hq := hq.out; obtain ⟨_, rfl, rfl⟩ := hq) | (refine fun _ _ (hq : Hold _) => ?_; replace hq := hq.out; obtain ⟨_, _, rfl, rfl⟩ := hq) | rintro _ _ ⟨rfl, rfl⟩ | rintro _ _ ⟨_, rfl, rfl⟩ | rintro _ _ ⟨_, _, rfl, rfl⟩ | (refine fun (hc : _ = _) => ?_; (try simp only [BB] at hc)) | refine fun (_ : Nat) => ?_ | refine fun (_ : _ ≤ _) => ?_ | refine fun (_ : _ < _) => ?_
  refine RS.loopW (α := Nat) (fun i => [(0, .lst t z (ns.map DV.str)), (1, .str m), (7, .int .i64 ns.length), (8, .int .i64 (i : Nat))]) (fun _ => R)
    (fun i => i ≤ ns.length ∧ m ∉ ns.take i) (fun i => ns.length - i) 0 ⟨Nat.zero_le _, by simp⟩ ⟨rfl, rfl, rfl, rfl, trivial⟩ .refl ?_
  rintro i ⟨h1, h2⟩ ih
  dsimp only [ents] at *
  repeat' first | (show IA _ _ _ _ _ _; exact IA.map hz arI) | (refine fun (hc : _ = _) => ?_; (try simp only [BB] at hc); (try (first | contradiction | (exfalso; omega)))) | exact arI | refine Pst.mk ⟨?_, rfl⟩ (by (repeat' constructor); first | done | fail) | constructor | (refine fun _ _ (hq : Hold _) => ?_; replace hq := hq.out; obtain ⟨_, rfl, rfl⟩ := hq) | (refine fun _ _ (hq : Hold _) => ?_; replace hq := hq.out; obtain ⟨_, _, rfl, rfl⟩ := hq) | rintro _ _ ⟨rfl, rfl⟩ | rintro _ _ ⟨_, rfl, rfl⟩ | rintro _ _ ⟨_, _, rfl, rfl⟩ | (refine fun (hc : _ = _) => ?_; (try simp only [BB] at hc)) | refine fun (_ : Nat) => ?_ | refine fun (_ : _ ≤ _) => ?_ | refine fun (_ : _ < _) => ?_
  · exact Pst.mk (.mk ⟨_, rfl, rfl, fun _ => by rw [hc, List.getD_eq_getElem?_getD, List.getElem?_eq_getElem (by omega)]; exact List.getElem_mem _, fun _ => by omega⟩) .refl
  · refine ih _ _ (i + 1) ⟨by omega, ?_⟩ (by omega) ⟨rfl, rfl, rfl, rfl, trivial⟩ .refl
    rw [List.take_add_one, List.getElem?_eq_getElem (by omega)]
    rw [List.getD_eq_getElem?_getD, List.getElem?_eq_getElem (by omega)] at hc
    simp only [Option.toList_some, List.mem_append, List.mem_singleton, not_or]
    exact ⟨h2, hc⟩
  · rw [List.take_of_length_le (by omega)] at h2
    exact Pst.mk (.mk ⟨_, rfl, rfl, fun h => by omega, fun h => absurd h h2⟩) .refl
theorem containsS_F {t z : Nat} {ns : List Md.Str} {m : Md.Str} (hz : ZK t z 1) (hl : ns.length ≤ 1000000000) : F D 43 [.lst t z (ns.map DV.str), .str m] R (fun v cs' => v = .bool (decide (m ∈ ns)) ∧ R = cs') := by
  refine F.of rfl rfl rfl ?_
  repeat' first | (show FC _ _ _ _ _; exact indexS_F hz hl) | (refine fun (hc : _ = _) => ?_; (try simp only [BB] at hc); (try (first | contradiction | (exfalso; omega)))) | exact arI | refine Pst.mk ⟨?_, rfl⟩ (by (repeat' constructor); first | done | fail) | constructor | (refine fun _ _ (hq : Hold _) => ?_; replace hq := hq.out; obtain ⟨_, rfl, rfl⟩ := hq) | (refine fun _ _ (hq : Hold _) => ?_; replace hq := hq.out; obtain ⟨_, _, rfl, rfl⟩ := hq) | rintro _ _ ⟨rfl, rfl⟩ | rintro _ _ ⟨_, rfl, rfl⟩ | rintro _ _ ⟨_, _, rfl, rfl⟩ | (refine fun (hc : _ = _) => ?_; (try simp only [BB] at hc)) | refine fun (_ : Nat) => ?_ | refine fun (_ : _ ≤ _) => ?_ | refine fun (_ : _ < _) => ?_ | (refine fun _ _ (hq : Hold _) => ?_; replace hq := hq.out; obtain ⟨k, rfl, rfl, hk⟩ := hq)
  congr 1
  by_cases h : m ∈ ns
  · rw [decide_eq_true h, decide_eq_true (hk.2 h)]
  · rw [decide_eq_false h, decide_eq_false (fun x => h (hk.1 x))]
theorem is_F {p : Md.Tok × Nat} {k : Int} {t : Nat} {n : Md.Str} : F D 30 [encT p, .int .i64 k, .lst t (zOf t 1) [.str n]] R (fun v cs' => v = .bool (decide (p.1.kind = k ∧ p.1.name = n)) ∧ R = cs') := by
  refine F.of rfl rfl rfl ?_
  repeat' first | (show FC _ _ _ _ _; exact containsS_F (ns := [n]) .zof (by simp)) | (refine fun (hc : _ = _) => ?_; (try simp only [BB] at hc); (try (first | contradiction | (exfalso; omega)))) | exact arI | refine Pst.mk ⟨?_, rfl⟩ (by (repeat' constructor); first | done | fail) | constructor | (refine fun _ _ (hq : Hold _) => ?_; replace hq := hq.out; obtain ⟨_, rfl, rfl⟩ := hq) | (refine fun _ _ (hq : Hold _) => ?_; replace hq := hq.out; obtain ⟨_, _, rfl, rfl⟩ := hq) | rintro _ _ ⟨rfl, rfl⟩ | rintro _ _ ⟨_, rfl, rfl⟩ | rintro _ _ ⟨_, _, rfl, rfl⟩ | (refine fun (hc : _ = _) => ?_; (try simp only [BB] at hc)) | refine fun (_ : Nat) => ?_ | refine fun (_ : _ ≤ _) => ?_ | refine fun (_ : _ < _) => ?_
  all_goals (congr 1; simp [hc])
end Go.Proofs.YticnenofiibpgaaDoor.Code
/- How a text is read on, with texts az one: rules. -/
namespace Go.Md
def tx (d : Str) : Tok := { Tok.zero with kind := 1, data := d }
/-- A text more. -/
def app (l : List Tok) (d : Str) : List Tok := joinStep l (tx d)
theorem app_emp (d : Str) : app [] d = if d = [] then [] else [tx d] := by
  unfold app
  rw [joinStep_nil]
  by_cases h : d = []
  · subst h; rfl
  · rw [if_neg (fun x => h x.2), if_neg h]
theorem app_snoc (l : List Tok) (u : Tok) (d : Str) : app (l ++ [u]) d = if u.kind = 1 then l ++ [{ u with data := u.data ++ d }] else if d = [] then l ++ [u] else l ++ [u] ++ [tx d] := by
  unfold app
  rw [joinStep_snoc]
  simp only [tx, true_and]
theorem app_nil (l : List Tok) : app l [] = l := by
  rcases List.eq_nil_or_concat l with rfl | ⟨l, u, rfl⟩
  · rw [app_emp, if_pos rfl]
  · rw [List.concat_eq_append, app_snoc]; split
    · simp
    · rw [if_pos rfl]
theorem app_app (l : List Tok) (a b : Str) : app (app l a) b = app l (a ++ b) := by
  by_cases ha : a = []
  · subst ha; rw [app_nil, List.nil_append]
  · have h2 : a ++ b ≠ [] := by simp [ha]
    rcases List.eq_nil_or_concat l with rfl | ⟨l, u, rfl⟩
    · rw [app_emp, if_neg ha, app_emp, if_neg h2]
      have := app_snoc [] (tx a) b
      rw [List.nil_append] at this
      rw [this, if_pos (show (tx a).kind = 1 from rfl)]; rfl
    · rw [List.concat_eq_append, app_snoc, app_snoc]; split
      · rename_i hk
        rw [app_snoc, if_pos (by exact hk)]; simp
      · (try rw [if_neg ha]); (try rw [if_neg h2]); rw [app_snoc, if_pos (show (tx a).kind = 1 from rfl)]; simp [tx, Tok.zero]
def vt (acc : List Tok) (x : Lx) : List Tok := app (x.out.foldl joinStep acc) (encode x.text)
/-- Where a lexer is, and what it gave. -/
structure At (acc : List Tok) (x : Lx) (w : Int) (n : Str) (b : Bool) (r : List Int) (A : List Tok) : Prop where
  done : x.done = false
  way : x.way = w
  last : x.last = n
  room : x.room = b
  rest : x.rest = r
  vt : vt acc x = A
end Go.Md
namespace Go.Proofs.YticnenofiibpgaaDoor.Code
open Go.Dm
set_option linter.unusedSimpArgs false
set_option linter.unusedVariables false
variable {acc : List Md.Tok} {x : Md.Lx} {w : Int} {n : Md.Str} {b : Bool} {r : List Int} {A B : List Md.Tok}
theorem enc_app (a b : List Int) : Md.encode (a ++ b) = Md.encode a ++ Md.encode b := by simp [Md.encode]
theorem enc_one (r : Int) : Md.encode [r] = Md.putR r := by simp [Md.encode]
theorem enc_cons (r : Int) (l : List Int) : Md.encode (r :: l) = Md.putR r ++ Md.encode l := by simp [Md.encode]
theorem At.adv (h : Md.At acc x w n b r A) (k : Nat) : Md.At acc (x.adv k) w n b (r.drop k) A := ⟨h.done, h.way, h.last, h.room, by rw [rest_adv, h.rest], h.vt⟩
theorem At.say (h : Md.At acc x w n b r A) (d : List Int) : Md.At acc (x.say d) w n b r (Md.app A (Md.encode (d.filter (· != -1)))) := ⟨h.done, h.way, h.last, h.room, h.rest, by
  rw [← h.vt]; unfold Md.vt
  rw [Md.app_app, ← enc_app]; rfl⟩
theorem At.say' (h : Md.At acc x w n b r A) {d : List Int} (hd : ∀ r ∈ d, 0 ≤ r) : Md.At acc (x.say d) w n b r (Md.app A (Md.encode d)) := by
  have := At.say h d
  rwa [filter_nn hd] at this
theorem At.flush (h : Md.At acc x w n b r A) : Md.At acc x.flush w n b r A := by
  unfold Md.Lx.flush
  split
  · exact h
  · refine ⟨h.done, h.way, h.last, h.room, h.rest, ?_⟩
    rw [← h.vt]; unfold Md.vt
    show Md.app ((x.out ++ [Md.textTok x.text]).foldl Md.joinStep acc) [] = _
    rw [Md.app_nil, List.foldl_append]; rfl
theorem flush_text0 : x.flush.text = [] := flush_text
theorem At.emit (h : Md.At acc x w n b r A) (t : Md.Tok) : Md.At acc (x.emit t) w (if t.kind = 2 then t.name else n) b r (Md.joinStep A t) := by
  have h1 := At.flush h
  refine ⟨h1.done, h1.way, ?_, h1.room, h1.rest, ?_⟩
  · show (if t.kind = 2 then t.name else x.flush.last) = _; rw [h1.last]
  · have h2 := h1.vt
    unfold Md.vt at h2 ⊢
    have e : (x.emit t).text = [] := flush_text
    have e0 : x.flush.text = [] := flush_text
    rw [e0] at h2
    rw [e]
    show Md.app ((x.flush.out ++ [t]).foldl Md.joinStep acc) [] = _
    have e2 : Md.encode [] = [] := rfl
    rw [e2, Md.app_nil] at h2
    rw [Md.app_nil, List.foldl_append, h2]; rfl
theorem At.setWay (h : Md.At acc x w n b r A) (w' : Int) : Md.At acc { x with way := w' } w' n b r A := ⟨h.done, rfl, h.last, h.room, h.rest, h.vt⟩
theorem At.pk (h : Md.At acc x w n b r A) (k : Nat) : x.pk k = r.getD k (-1) := by rw [pk_rest, h.rest]
/-- Read from here on, with what is there already: what it all is. -/
def Rd (w : Int) (n : Md.Str) (b : Bool) (r : List Int) (A B : List Md.Tok) : Prop := ∀ acc x, NI x → Md.At acc x w n b r A → x.toks.foldl Md.joinStep acc = B
theorem NI.noOut (h : NI x) : NI { x with out := [] } := ⟨h.len, h.nn, h.pos, h.pos2, h.text, by show (0 : Nat) ≤ 100; omega, h.last⟩
theorem At.noOut (h : Md.At acc x w n b r A) : Md.At (x.out.foldl Md.joinStep acc) { x with out := [] } w n b r A := ⟨h.done, h.way, h.last, h.room, h.rest, h.vt⟩
theorem At.fin (h : Md.At acc x w n b r A) : Md.At acc (stepFin x) w n b r A := by
  unfold stepFin; split
  · exact At.flush h
  · exact h
theorem Rd.step {w' : Int} {n' : Md.Str} {b' : Bool} {r' : List Int} {A' : List Md.Tok} (h : ∀ acc x, NI x → x.out = [] → Md.At acc x w n b r A → Md.At acc (stepMid x) w' n' b' r' A') (hr : Rd w' n' b' r' A' B) : Rd w n b r A B := by
  intro acc x hN hS
  have hN0 := hN.noOut
  have hS0 := At.noOut hS
  rw [toks_out, List.foldl_append]
  have ho : ({ x with out := [] } : Md.Lx).out = [] := rfl
  generalize ({ x with out := [] } : Md.Lx) = y at *
  rw [toks_step hN0 hS0.done ho]
  refine hr _ _ (hN0.step hS0.done ho) ?_
  rw [step_eq]
  exact At.fin (h _ _ hN0 ho hS0)
theorem Rd.nil : Rd w n b [] A A := by
  intro acc x hN hS
  have hN0 := hN.noOut
  have hS0 := At.noOut hS
  rw [toks_out, List.foldl_append]
  have ho : ({ x with out := [] } : Md.Lx).out = [] := rfl
  generalize ({ x with out := [] } : Md.Lx) = y at *
  rw [toks_step hN0 hS0.done ho]
  have hp : y.pk 0 = -1 := by rw [At.pk hS0]; rfl
  have hmid : stepMid y = { (y.adv 1).flush with done := true } := by rw [stepMid, if_pos hp]
  have hst : y.step = { (y.adv 1).flush with done := true } := by
    rw [step_eq, stepFin, hmid, if_neg]
    intro h; apply h.2.1; show (y.adv 1).flush.text = []; exact flush_text
  have hf := (At.flush (At.adv hS0 1)).vt
  rw [toks_out, hst]
  have hd : ({ ({ (y.adv 1).flush with done := true } : Md.Lx) with out := [] } : Md.Lx).toks = [] := toks_done rfl rfl
  rw [hd, List.append_nil]
  unfold Md.vt at hf
  have e : (y.adv 1).flush.text = [] := flush_text
  have e2 : Md.encode [] = [] := rfl
  rw [e, e2, Md.app_nil] at hf
  exact hf
/-- Signs that are a part of the text, in a way. -/
def okSign (w : Int) (c : Int) : Prop := 0 < c ∧ c ≠ 60 ∧ (c = 38 → w ≠ 0 ∧ w ≠ 1)
theorem okSign.of {c : Int} (h : Md.plainSign c = true ∧ 0 ≤ c) : okSign w c := by
  obtain ⟨hc, h0⟩ := h
  simp only [Md.plainSign, Bool.not_eq_true', Bool.or_eq_false_iff, beq_eq_false_iff_ne, ne_eq] at hc
  exact ⟨by omega, hc.1.2, fun h => absurd h hc.1.1⟩
theorem mid_plain {c : Int} {l : List Int} (hc : okSign x.way c) (hr : x.rest = c :: l) : stepMid x = ((x.adv 1).adv (l.takeWhile Md.plainSign).length).say (c :: l.takeWhile Md.plainSign) := by
  have hp : x.pk 0 = c := by rw [pk_rest, hr]; rfl
  have h1 : (x.adv 1).rest = l := by rw [rest_adv, hr]; rfl
  obtain ⟨h0, h60, h38⟩ := hc
  rw [stepMid, hp, h1, if_neg (by omega), if_neg (fun h => by have := h38 h.1; omega), if_neg (fun h => h60 h.1), if_neg (fun h => h60 h.1), if_neg (fun h => h60 h.1), if_neg (by omega), if_neg (by omega)]
theorem Rd.plain1 {c : Int} {l : List Int} (hc : okSign w c) (h : Rd w n b l (Md.app A (Md.putR c)) B) : Rd w n b (c :: l) A B := by
  have h0 : 0 ≤ c := Int.le_of_lt hc.1
  cases l with
  | nil =>
    refine Rd.step (fun acc x hN ho hS => ?_) h
    rw [mid_plain (by rw [hS.way]; exact hc) hS.rest]
    have := At.say' (At.adv (At.adv hS 1) 0) (d := [c]) (by simp [h0])
    rw [enc_one] at this
    exact this
  | cons e l =>
    by_cases he : Md.plainSign e = true
    · intro acc x hN hS
      have hN0 := hN.noOut
      have hS0 := At.noOut hS
      rw [toks_out, List.foldl_append]
      have ho : ({ x with out := [] } : Md.Lx).out = [] := rfl
      generalize ({ x with out := [] } : Md.Lx) = y at *
      have hlt : y.pos < y.inp.length := by
        by_cases hlt : y.pos < y.inp.length
        · exact hlt
        · have := rest_nil (s := y) (by omega); rw [hS0.rest] at this; cases this
      have hNz : NI ((y.adv 1).say [c]) := ⟨hN0.len, hN0.nn, by show y.pos + 1 ≤ _; exact Nat.succ_le_succ (Nat.le_of_lt hlt), fun _ => by show y.pos + 1 ≤ y.inp.length; omega, by
        show (y.text ++ [c].filter (· != -1)).length ≤ 10 * (y.pos + 1)
        have := hN0.text
        rw [filter_nn (by simp [h0]), List.length_append, List.length_singleton]; omega, hN0.out, hN0.last⟩
      have hSz := At.say' (At.adv hS0 1) (d := [c]) (by simp [h0])
      rw [enc_one] at hSz
      have := h _ _ hNz hSz
      rw [← this]
      have he0 : 0 ≤ e := hN0.nn e (by
        have : e ∈ y.rest := by rw [hS0.rest]; simp
        exact List.mem_of_mem_drop this)
      congr 1
      rw [toks_step hN0 hS0.done ho, toks_step hNz hSz.done (by exact ho), step_eq, step_eq]
      congr 2
      rw [mid_plain (by rw [hS0.way]; exact hc) hS0.rest, mid_plain (okSign.of ⟨he, he0⟩) (show ((y.adv 1).say [c]).rest = e :: l by rw [rest_say, rest_adv, hS0.rest]; rfl)]
      rw [List.takeWhile_cons, if_pos he]
      unfold Md.Lx.say Md.Lx.adv
      simp only [List.length_cons, Md.Lx.mk.injEq, true_and, and_true]
      have e1 : (c :: e :: l.takeWhile Md.plainSign).filter (· != -1) = [c].filter (· != -1) ++ (e :: l.takeWhile Md.plainSign).filter (· != -1) := by rw [← List.filter_append]; rfl
      exact ⟨by omega, by rw [e1, List.append_assoc]⟩
    · refine Rd.step (fun acc x hN ho hS => ?_) h
      rw [mid_plain (by rw [hS.way]; exact hc) hS.rest, List.takeWhile_cons, if_neg he]
      have := At.say' (At.adv (At.adv hS 1) 0) (d := [c]) (by simp [h0])
      rw [enc_one] at this
      exact this
theorem Rd.plain {l : List Int} : ∀ (d : List Int) {A : List Md.Tok}, (∀ c ∈ d, okSign w c) → Rd w n b l (Md.app A (Md.encode d)) B → Rd w n b (d ++ l) A B
  | [], A, _, h => by have e : Md.encode [] = [] := rfl; rw [e, Md.app_nil] at h; exact h
  | c :: d, A, hd, h => Rd.plain1 (hd c (by simp)) (Rd.plain d (fun x hx => hd x (by simp [hx])) (by rw [Md.app_app, ← enc_cons]; exact h))
/-- A < where tags may stand. -/
theorem Rd.tag {n' : Md.Str} {w' : Int} {b' : Bool} {l r' : List Int} {A' : List Md.Tok} (h : ∀ acc x, (∀ r ∈ x.inp, 0 ≤ r) → Md.At acc x 0 n b l A → Md.At acc x.open_ w' n' b' r' A') (hr : Rd w' n' b' r' A' B) : Rd 0 n b (60 :: l) A B := by
  refine Rd.step (fun acc x hN ho hS => ?_) hr
  have hp : x.pk 0 = 60 := by rw [At.pk hS]; rfl
  have hw := hS.way
  rw [stepMid, if_neg (by omega), if_neg (by omega), if_pos ⟨hp, hw⟩]
  exact h _ _ (by rw [flush_inp]; exact hN.nn) (At.flush (At.adv hS 1))
/-- A < in the other ways. -/
theorem Rd.shut {n' : Md.Str} {w' : Int} {b' : Bool} {l r' : List Int} {A' : List Md.Tok} (hw : w = 1 ∨ w = 2) (h : ∀ acc x, (∀ r ∈ x.inp, 0 ≤ r) → Md.At acc x w n b l A → Md.At acc x.close w' n' b' r' A') (hr : Rd w' n' b' r' A' B) : Rd w n b (60 :: l) A B := by
  refine Rd.step (fun acc x hN ho hS => ?_) hr
  have hp : x.pk 0 = 60 := by rw [At.pk hS]; rfl
  have hw' := hS.way
  rw [stepMid, if_neg (by omega), if_neg (by omega), if_neg (by omega), if_pos ⟨hp, by omega⟩]
  exact h _ _ (by rw [flush_inp]; exact hN.nn) (At.flush (At.adv hS 1))
theorem Rd.scr {n' : Md.Str} {w' : Int} {b' : Bool} {l r' : List Int} {A' : List Md.Tok} (h : ∀ acc x, (∀ r ∈ x.inp, 0 ≤ r) → Md.At acc x 3 n b l A → Md.At acc x.script w' n' b' r' A') (hr : Rd w' n' b' r' A' B) : Rd 3 n b (60 :: l) A B := by
  refine Rd.step (fun acc x hN ho hS => ?_) hr
  have hp : x.pk 0 = 60 := by rw [At.pk hS]; rfl
  have hw' := hS.way
  rw [stepMid, if_neg (by omega), if_neg (by omega), if_neg (by omega), if_neg (by omega), if_pos ⟨hp, by omega⟩]
  exact h _ _ (by rw [flush_inp]; exact hN.nn) (At.flush (At.adv hS 1))
theorem Rd.ref {l : List Int} (hw : w = 0 ∨ w = 1) (hs : ∀ r ∈ (Md.refer false l).1, 0 ≤ r) (hr : Rd w n b (l.drop (Md.refer false l).2) (Md.app A (Md.encode (Md.refer false l).1)) B) : Rd w n b (38 :: l) A B := by
  refine Rd.step (fun acc x hN ho hS => ?_) hr
  have hp : x.pk 0 = 38 := by rw [At.pk hS]; rfl
  have hw' := hS.way
  rw [stepMid, if_neg (by omega), if_pos ⟨hp, by omega⟩]
  have h1 : (x.adv 1).rest = l := by rw [rest_adv, hS.rest]; rfl
  unfold refA
  rw [h1]
  exact At.say' (At.adv (At.adv hS 1) _) hs
theorem Rd.start {c : Md.Str} {w : Int} {nm : Md.Str} {room : Bool} (hN : NI { Md.Lx.new c with way := w, last := nm, room := room }) (h : Rd w nm room (Md.decode c) [] B) : Md.join ({ Md.Lx.new c with way := w, last := nm, room := room } : Md.Lx).toks = B :=
  h [] _ hN ⟨rfl, rfl, rfl, rfl, rfl, rfl⟩
theorem Rd.conv {r' : List Int} {A' B' : List Md.Tok} (h : Rd w n b r' A' B') (h1 : r = r') (h2 : A = A') (h3 : B' = B) : Rd w n b r A B := by subst h1; subst h2; subst h3; exact h
end Go.Proofs.YticnenofiibpgaaDoor.Code
/- A marked section is a text where it may stand, and a comment where it may not. -/
namespace Go.Md
def asc (b : Str) : List Int := b.map fun c => (c.toNat : Int)
end Go.Md
namespace Go.Proofs.YticnenofiibpgaaDoor.Code
open Go.Dm
set_option linter.unusedSimpArgs false
set_option linter.unusedVariables false
theorem asc_app (a b : Md.Str) : Md.asc (a ++ b) = Md.asc a ++ Md.asc b := List.map_append
theorem putR_asc {c : UInt8} (h : c.toNat < 128) : Md.putR (c.toNat : Int) = [c] := by
  rw [putR_nat (by omega), if_pos (by omega)]
  congr 1
  apply UInt8.toNat.inj
  rw [byteN_nat (by omega)]
theorem enc_asc {b : Md.Str} (h : ∀ c ∈ b, c.toNat < 128) : Md.encode (Md.asc b) = b := by
  induction b with
  | nil => rfl
  | cons c b ih =>
    show Md.encode ((c.toNat : Int) :: Md.asc b) = _
    rw [enc_cons, putR_asc (h c (by simp)), ih (fun x hx => h x (by simp [hx]))]; rfl
theorem dec_asc {b : Md.Str} (h : ∀ c ∈ b, c.toNat < 128 ∧ c.toNat ≠ 13) : Md.decode b = Md.asc b := by
  conv => lhs; rw [← enc_asc (fun c hc => (h c hc).1)]
  refine decode_encode fun r hr => ?_
  obtain ⟨c, hc, rfl⟩ := List.mem_map.1 hr
  have := h c hc
  exact ⟨⟨by omega, by omega, by omega⟩, by omega, by omega⟩
theorem asc_nn {b : Md.Str} : ∀ r ∈ Md.asc b, 0 ≤ r := fun r hr => by obtain ⟨c, hc, rfl⟩ := List.mem_map.1 hr; omega
theorem asc_plain {w : Int} {b : Md.Str} (h : ∀ c ∈ b, c.toNat ≠ 0 ∧ c.toNat ≠ 60 ∧ (c.toNat = 38 → w ≠ 0 ∧ w ≠ 1)) : ∀ r ∈ Md.asc b, okSign w r := fun r hr => by
  obtain ⟨c, hc, rfl⟩ := List.mem_map.1 hr
  have := h c hc
  exact ⟨by omega, by omega, fun h => this.2.2 (by omega)⟩
theorem section_app : ∀ (d l : List Int), (∀ r ∈ d, r ≠ 93) → Md.sectionGo (d ++ 93 :: 93 :: 62 :: l) = (d, d.length + 3)
  | [], l, _ => by simp [Md.sectionGo]
  | r :: d, l, h => by
    have h1 := h r (by simp)
    have := section_app d l (fun x hx => h x (by simp [hx]))
    rw [List.cons_append, Md.sectionGo, if_neg (fun hh => h1 hh.1), this]
    simp only [List.length_cons, Prod.mk.injEq, true_and]
theorem bogus_app : ∀ (d l : List Int), (∀ r ∈ d, r ≠ 62 ∧ r ≠ 0) → Md.bogusGo (d ++ 62 :: l) = (d, d.length + 1)
  | [], l, _ => by simp [Md.bogusGo]
  | r :: d, l, h => by
    have h1 := h r (by simp)
    have := bogus_app d l (fun x hx => h x (by simp [hx]))
    rw [List.cons_append, Md.bogusGo, if_neg h1.1, this]
    simp only [List.length_cons, Prod.mk.injEq, and_true, Md.fixr, if_neg h1.2]
def secOk (c : UInt8) : Bool := decide (32 ≤ c.toNat) && decide (c.toNat < 127) && decide (c.toNat ≠ 93) && decide (c.toNat ≠ 62)
theorem secOk_iff {c : UInt8} : secOk c = true ↔ 32 ≤ c.toNat ∧ c.toNat < 127 ∧ c.toNat ≠ 93 ∧ c.toNat ≠ 62 := by simp [secOk, and_assoc]
def secPre : Md.Str := [60, 33, 91, 67, 68, 65, 84, 65, 91]
def comTok (d : Md.Str) : Md.Tok := { Md.Tok.zero with kind := 4, data := d }
def secRes (may : Bool) (d : Md.Str) : List Md.Tok := if may then [Md.tx (d ++ [120])] else [comTok ([91, 67, 68, 65, 84, 65, 91] ++ d ++ [93, 93]), Md.tx [120]]
theorem sections_pure {d : Md.Str} {may : Bool} (hd : ∀ c ∈ d, secOk c = true) (hN : NI { Md.Lx.new (secPre ++ d ++ [93, 93, 62, 120]) with room := may }) : Md.join ({ Md.Lx.new (secPre ++ d ++ [93, 93, 62, 120]) with room := may } : Md.Lx).toks = secRes may d := by
  have hd' : ∀ c ∈ d, 32 ≤ c.toNat ∧ c.toNat < 127 ∧ c.toNat ≠ 93 ∧ c.toNat ≠ 62 := fun c hc => secOk_iff.1 (hd c hc)
  refine Rd.start (w := 0) (nm := []) (room := may) hN ?_
  rw [dec_asc (by
    intro c hc
    simp only [secPre, List.mem_append] at hc
    rcases hc with (hc | hc) | hc
    · revert hc; revert c; decide
    · have := hd' c hc; omega
    · revert hc; revert c; decide), asc_app, asc_app]
  have hA : ∀ r ∈ Md.asc d, r ≠ 93 ∧ r ≠ 62 ∧ r ≠ 0 := fun r hr => by
    obtain ⟨c, hc, rfl⟩ := List.mem_map.1 hr
    have := hd' c hc; omega
  have hE : Md.encode (Md.asc d) = d := enc_asc (fun c hc => by have := hd' c hc; omega)
  show Rd 0 [] may (60 :: 33 :: 91 :: 67 :: 68 :: 65 :: 84 :: 65 :: 91 :: (Md.asc d ++ [93, 93, 62, 120])) [] _
  have hs1 := section_app (Md.asc d) [120] (fun r hr => (hA r hr).1)
  have hb1 := bogus_app ([91, 67, 68, 65, 84, 65, 91] ++ Md.asc d ++ [93, 93]) [120] (fun r hr => by
    simp only [List.mem_append] at hr
    rcases hr with (hr | hr) | hr
    · revert hr; revert r; decide
    · have := hA r hr; omega
    · revert hr; revert r; decide)
  have e1 : ([91, 67, 68, 65, 84, 65, 91] ++ Md.asc d ++ [93, 93] : List Int) ++ 62 :: [120] = 91 :: 67 :: 68 :: 65 :: 84 :: 65 :: 91 :: (Md.asc d ++ [93, 93, 62, 120]) := by simp
  rw [e1] at hb1
  generalize hL : Md.asc d ++ [93, 93, 62, 120] = L at *
  cases may with
  | true =>
    refine Rd.tag (w' := 0) (n' := []) (b' := true) (r' := [120]) (A' := Md.app [] d) (fun acc x hx hS => ?_) ?_
    · have hp0 : x.pk 0 = 33 := At.pk hS 0
      have h1 := At.adv hS 1
      have hr1 : (x.adv 1).rest = 91 :: 67 :: 68 :: 65 :: 84 :: 65 :: 91 :: L := h1.rest
      have hp1 : (x.adv 1).pk 0 = 91 := At.pk h1 0
      have e : x.open_ = ((x.adv 1).adv 7).section_ := by
        rw [Md.Lx.open_, if_pos hp0, Md.Lx.declare, hr1]
        rw [if_neg (by simp [Md.stands, Md.small]), if_neg (by simp [Md.stands, Md.small]), if_pos ⟨h1.room, hp1, by simp [Md.exact]⟩]
      rw [e]
      have h7 := At.adv h1 7
      have hr7 : ((x.adv 1).adv 7).rest = L := h7.rest
      unfold Md.Lx.section_
      rw [hr7, hs1]
      have h8 := At.say' (At.adv h7 (Md.asc d).length.succ.succ.succ) (d := Md.asc d) asc_nn
      rw [hE] at h8
      have e9 : (List.drop (Md.asc d).length.succ.succ.succ (List.drop 7 (List.drop 1 (33 :: 91 :: 67 :: 68 :: 65 :: 84 :: 65 :: 91 :: L)))) = [120] := by
        show List.drop ((Md.asc d).length + 3) L = _
        rw [← hL, ← List.drop_drop, List.drop_left]; rfl
      rw [e9] at h8
      exact h8
    · refine Rd.conv (Rd.plain (d := [120]) (by simp [okSign]) Rd.nil) rfl rfl ?_
      rw [Md.app_app, show Md.encode [120] = [120] from rfl, Md.app_emp, if_neg (by simp)]; rfl
  | false =>
    refine Rd.tag (w' := 0) (n' := []) (b' := false) (r' := [120]) (A' := [comTok ([91, 67, 68, 65, 84, 65, 91] ++ d ++ [93, 93])]) (fun acc x hx hS => ?_) ?_
    · have hp0 : x.pk 0 = 33 := At.pk hS 0
      have h1 := At.adv hS 1
      have hr1 : (x.adv 1).rest = 91 :: 67 :: 68 :: 65 :: 84 :: 65 :: 91 :: L := h1.rest
      have hp1 : (x.adv 1).pk 0 = 91 := At.pk h1 0
      have hrm : (x.adv 1).room = false := h1.room
      have e : x.open_ = (x.adv 1).bogus := by
        rw [Md.Lx.open_, if_pos hp0, Md.Lx.declare, hr1]
        rw [if_neg (by simp [Md.stands, Md.small]), if_neg (by simp [Md.stands, Md.small]), if_neg (by rw [hrm]; simp)]
      rw [e]
      unfold Md.Lx.bogus
      rw [hr1, hb1]
      have h8 := At.emit (At.adv h1 (([91, 67, 68, 65, 84, 65, 91] ++ Md.asc d ++ [93, 93]).length + 1)) (comTok ([91, 67, 68, 65, 84, 65, 91] ++ d ++ [93, 93]))
      have e9 : List.drop (([91, 67, 68, 65, 84, 65, 91] ++ Md.asc d ++ [93, 93]).length + 1) (List.drop 1 (33 :: 91 :: 67 :: 68 :: 65 :: 84 :: 65 :: 91 :: L)) = [120] := by
        show List.drop _ (91 :: 67 :: 68 :: 65 :: 84 :: 65 :: 91 :: L) = _
        rw [← e1, ← List.drop_drop, List.drop_left]; rfl
      rw [e9] at h8
      have e10 : Md.encode ([91, 67, 68, 65, 84, 65, 91] ++ Md.asc d ++ [93, 93]) = [91, 67, 68, 65, 84, 65, 91] ++ d ++ [93, 93] := by
        rw [enc_app, enc_app, hE]; rfl
      rw [e10]
      exact h8
    · refine Rd.conv (Rd.plain (d := [120]) (by simp [okSign]) Rd.nil) rfl rfl ?_
      rfl
theorem filter_take {f : UInt8 → Bool} {s : Md.Str} {i : Nat} (h : i < s.length) : (s.take (i + 1)).filter f = (s.take i).filter f ++ (if f (s.getD i 0) = true then [s.getD i 0] else []) := by
  rw [List.take_add_one, List.getElem?_eq_getElem h, List.filter_append]
  congr 1
  rw [List.getD_eq_getElem?_getD, List.getElem?_eq_getElem h]
  simp only [Option.toList_some, Option.getD_some, List.filter_cons, List.filter_nil]
theorem one_cut {s : Md.Str} {i : Nat} (h : i < s.length) : List.take (((i : Int) + 1).toNat - (i : Int).toNat) (List.drop (i : Int).toNat s) = [s.getD i 0] := by
  rw [show ((i : Int) + 1).toNat - (i : Int).toNat = 1 by omega, Int.toNat_natCast, drop_get h]; rfl
end Go.Proofs.YticnenofiibpgaaDoor.Code
/- An element's end, where its text is read in the raw way. -/
namespace Go.Proofs.YticnenofiibpgaaDoor.Code
open Go.Dm
set_option linter.unusedSimpArgs false
set_option linter.unusedVariables false
variable {acc : List Md.Tok} {x : Md.Lx} {w : Int} {n : Md.Str} {b : Bool} {r : List Int} {A B : List Md.Tok}
theorem dec1 {s : Md.Str} {i : Nat} (h : i < s.length) (ha : (s.getD i 0).toNat < 128) : Utf8.decode ⟨s.toArray⟩ i = ((s.getD i 0).toNat, 1) := by
  have e : ByteArray.get! ⟨s.toArray⟩ i = s.getD i 0 := by
    show s.toArray[i]! = _
    simp [List.getD_eq_getElem?_getD, h]
  unfold Utf8.decode
  simp only [Nat.add_zero, e]
  rw [if_pos (by omega)]
theorem runesGo_asc {s : Md.Str} (ha : ∀ c ∈ s, c.toNat < 128) : ∀ (f i : Nat), s.length ≤ i + f → Md.runesGo f s i = Md.asc (s.drop i)
  | 0, i, h => by rw [Md.runesGo, List.drop_eq_nil_of_le (by omega)]; rfl
  | f + 1, i, h => by
    rw [Md.runesGo]
    split
    · rename_i hi
      have hm : s.getD i 0 ∈ s := by rw [List.getD_eq_getElem?_getD, List.getElem?_eq_getElem hi]; exact List.getElem_mem _
      rw [dec1 hi (ha _ hm), drop_get hi, runesGo_asc ha f (i + 1) (by omega)]; rfl
    · rw [List.drop_eq_nil_of_le (by omega)]; rfl
theorem runes_asc {s : Md.Str} (ha : ∀ c ∈ s, c.toNat < 128) : Md.runes s = Md.asc s := by
  rw [Md.runes, runesGo_asc ha _ 0 (by omega)]; rfl
def lowName (n : Md.Str) : Prop := n ≠ [] ∧ ∀ c ∈ n, 97 ≤ c.toNat ∧ c.toNat ≤ 122
theorem small_low {c : Int} (h : 97 ≤ c) : Md.small c = c := by
  unfold Md.small; rw [if_neg (by omega)]
theorem goes_asc : ∀ (n : Md.Str) (T : List Int), (∀ c ∈ n, 97 ≤ c.toNat ∧ c.toNat ≤ 122) → Md.goesOn (Md.asc n) (Md.asc n ++ T) = true
  | [], T, _ => rfl
  | c :: n, T, h => by
    have h1 := h c (by simp)
    have := goes_asc n T (fun x hx => h x (by simp [hx]))
    show (Md.small (c.toNat : Int) == (c.toNat : Int) && Md.goesOn (Md.asc n) (Md.asc n ++ T)) = true
    rw [this, small_low (by omega)]; simp
theorem over_low {c : Int} (h : 97 ≤ c) : Md.over c = false := by
  simp [Md.over, Md.blank]; omega
theorem nameOf_asc {n : Md.Str} {T : List Int} (h : ∀ c ∈ n, 97 ≤ c.toNat ∧ c.toNat ≤ 122) (hT : Md.over (T.headD (-1)) = true) : Md.nameOf (Md.asc n ++ T) = Md.asc n := by
  induction n with
  | nil =>
    cases T with
    | nil => rfl
    | cons t T => show List.takeWhile _ (t :: T) = []; rw [List.takeWhile_cons, if_neg]; simpa using hT
  | cons c n ih =>
    have h1 := h c (by simp)
    show List.takeWhile _ ((c.toNat : Int) :: (Md.asc n ++ T)) = _
    rw [List.takeWhile_cons, if_pos (by rw [over_low (by omega)]; rfl)]
    have := ih (fun x hx => h x (by simp [hx]))
    unfold Md.nameOf at this
    rw [this]; rfl
theorem enc_name {n : Md.Str} (h : ∀ c ∈ n, 97 ≤ c.toNat ∧ c.toNat ≤ 122) : Md.encode ((Md.asc n).map fun r => Md.small (Md.fixr r)) = n := by
  have e : (Md.asc n).map (fun r => Md.small (Md.fixr r)) = Md.asc n := by
    rw [List.map_congr_left (g := id), List.map_id]
    intro r hr
    obtain ⟨c, hc, rfl⟩ := List.mem_map.1 hr
    have := h c hc
    rw [Md.fixr, if_neg (by omega), small_low (by omega)]; rfl
  rw [e, enc_asc (fun c hc => by have := h c hc; omega)]
def endTok (n : Md.Str) : Md.Tok := { Md.Tok.zero with kind := 3, name := n }
/-- A tag's rest, for an end. -/
theorem At.tag3 {n' : Md.Str} {T : List Int} (hn : lowName n) (hT : Md.over (T.headD (-1)) = true) (hq : (Md.attrsGo T []).2.2.1 = true) (h : Md.At acc x w n' b (Md.asc n ++ T) A) : Md.At acc (x.tag 3) w n' b (T.drop (Md.attrsGo T []).2.2.2) (Md.joinStep A (endTok n)) := by
  unfold Md.Lx.tag
  dsimp only
  rw [h.rest, nameOf_asc hn.2 hT, List.drop_left, if_pos hq, if_pos rfl, if_pos rfl, enc_name hn.2]
  have h1 := At.emit (At.adv h ((Md.asc n).length + (Md.attrsGo T []).2.2.2)) (endTok n)
  have e3 : ¬(endTok n).kind = 2 := by show ¬(3 : Int) = 2; decide
  rw [if_neg e3, ← List.drop_drop, List.drop_left] at h1
  exact h1
theorem closes_asc {T : List Int} (hn : lowName n) (hT : Md.over (T.headD (-1)) = true) : Md.closes n (47 :: (Md.asc n ++ T)) = 1 + n.length := by
  obtain ⟨h0, h1⟩ := hn
  obtain ⟨c, m, rfl⟩ : ∃ c m, n = c :: m := by cases n with
    | nil => exact absurd rfl h0
    | cons c m => exact ⟨c, m, rfl⟩
  have hl := h1 c (by simp)
  have hr : Md.runes (c :: m) = Md.asc (c :: m) := runes_asc (fun x hx => by have := h1 x hx; omega)
  have hlen : (Md.asc (c :: m)).length = (c :: m).length := List.length_map ..
  unfold Md.closes
  rw [if_neg, hr, if_pos, hlen]
  · refine ⟨goes_asc _ _ h1, ?_⟩
    have e : (47 :: (Md.asc (c :: m) ++ T)).getD (1 + (Md.asc (c :: m)).length) (-1) = T.headD (-1) := by
      rw [Nat.add_comm, List.getD_cons_succ, List.getD_eq_getElem?_getD, List.getElem?_append_right (Nat.le_refl _), Nat.sub_self]
      cases T <;> rfl
    rw [e]; exact hT
  · rintro (h | h | h)
    · exact h rfl
    · have : Md.letter (c.toNat : Int) = false := h
      have h2 : Md.letter (c.toNat : Int) = true := by simp [Md.letter]; omega
      rw [h2] at this; cases this
    · cases h
theorem At.close {T : List Int} (hn : lowName n) (hT : Md.over (T.headD (-1)) = true) (hq : (Md.attrsGo T []).2.2.1 = true) (h : Md.At acc x w n b (47 :: (Md.asc n ++ T)) A) : Md.At acc x.close 0 n b (T.drop (Md.attrsGo T []).2.2.2) (Md.joinStep A (endTok n)) := by
  unfold Md.Lx.close
  rw [h.last, h.rest, if_neg (by rw [closes_asc hn hT]; omega)]
  exact At.tag3 hn hT hq (At.setWay (At.adv h 1) 0)
theorem At.noClose (h : Md.At acc x w n b r A) (hc : Md.closes n r = 0) : Md.At acc x.close w n b r (Md.app A [60]) := by
  unfold Md.Lx.close
  rw [h.last, h.rest, if_pos hc]
  exact At.say' h (by simp)
theorem attrs_gt (l : List Int) (a : List (Md.Str × Md.Str)) : Md.attrsGo (62 :: l) a = (a, false, true, 1) := by
  rw [Md.attrsGo]; simp [Md.blank]
end Go.Proofs.YticnenofiibpgaaDoor.Code
/- An element's text that is read in the raw way goes on to its own end. -/
namespace Go.Proofs.YticnenofiibpgaaDoor.Code
open Go.Dm
set_option linter.unusedSimpArgs false
set_option linter.unusedVariables false
variable {acc : List Md.Tok} {x : Md.Lx} {w : Int} {n : Md.Str} {b : Bool} {r : List Int} {A B : List Md.Tok}
def rawGi (d : List Int) (r : Int) : List Int := if r = 38 ∨ (d.getLast? = some 60 ∧ (r = 47 ∨ r = 33)) then d else d ++ [r]
def rawG (d : Md.Str) (c : UInt8) : Md.Str := if c.toNat = 38 ∨ (d.getLast? = some 60 ∧ (c.toNat = 47 ∨ c.toNat = 33)) then d else d ++ [c]
def rawD (s : Md.Str) : Md.Str := (Md.clean s).foldl rawG []
def rawOk : List Int → Prop
  | [] => True
  | r :: l => (r ≠ 38 ∧ 0 < r ∧ (r = 60 → l.headD 60 ≠ 47 ∧ l.headD 60 ≠ 33)) ∧ rawOk l
theorem rawOk_snoc : ∀ (d : List Int) (r : Int), rawOk d → r ≠ 38 → 0 < r → (d.getLast? = some 60 → r ≠ 47 ∧ r ≠ 33) → rawOk (d ++ [r])
  | [], r, _, h1, h2, _ => ⟨⟨h1, h2, fun _ => by simp⟩, trivial⟩
  | [a], r, h, h1, h2, h3 => ⟨⟨h.1.1, h.1.2.1, fun e => h3 (by simp [e])⟩, ⟨h1, h2, fun _ => by simp⟩, trivial⟩
  | a :: c :: d, r, h, h1, h2, h3 => ⟨h.1, rawOk_snoc (c :: d) r h.2 h1 h2 (fun e => h3 (by rw [List.getLast?_cons_cons]; exact e))⟩
theorem rawGi_ok : ∀ (l d : List Int), rawOk d → (∀ r ∈ l, 0 < r) → rawOk (l.foldl rawGi d)
  | [], d, h, _ => h
  | r :: l, d, h, hl => by
    rw [List.foldl_cons]
    refine rawGi_ok l _ ?_ (fun x hx => hl x (by simp [hx]))
    unfold rawGi
    split
    · exact h
    · rename_i hc
      exact rawOk_snoc d r h (by omega) (hl r (by simp)) (fun e => by
        refine ⟨fun e2 => hc (.inr ⟨e, .inl e2⟩), fun e2 => hc (.inr ⟨e, .inr e2⟩)⟩)
theorem rawGi_sub : ∀ (l d : List Int) (q : Int → Prop), (∀ r ∈ d, q r) → (∀ r ∈ l, q r) → ∀ r ∈ l.foldl rawGi d, q r
  | [], d, q, h, _ => h
  | r :: l, d, q, h, hl => by
    rw [List.foldl_cons]
    refine rawGi_sub l _ q ?_ (fun x hx => hl x (by simp [hx]))
    unfold rawGi
    split
    · exact h
    · intro x hx
      rcases List.mem_append.1 hx with hx | hx
      · exact h x hx
      · simp only [List.mem_singleton] at hx; subst hx; exact hl _ (by simp)
theorem putR_two {r : Int} (h : sv r) : (r < 128 ∧ Md.putR r = [Md.byteN r.toNat]) ∨ (128 ≤ r ∧ ∀ b ∈ Md.putR r, 128 ≤ b.toNat) := by
  obtain ⟨h0, h1, h2⟩ := h
  obtain ⟨n, rfl⟩ := Int.eq_ofNat_of_zero_le h0
  rw [putR_nat (by omega)]
  split
  · left; exact ⟨by omega, rfl⟩
  · right
    refine ⟨by omega, fun b hb => ?_⟩
    split at hb
    · simp only [List.mem_cons, List.not_mem_nil, or_false] at hb
      rcases hb with rfl | rfl <;> rw [byteN_nat (by omega)] <;> omega
    · split at hb
      · simp only [List.mem_cons, List.not_mem_nil, or_false] at hb
        rcases hb with rfl | rfl | rfl <;> rw [byteN_nat (by omega)] <;> omega
      · simp only [List.mem_cons, List.not_mem_nil, or_false] at hb
        rcases hb with rfl | rfl | rfl | rfl <;> rw [byteN_nat (by omega)] <;> omega
theorem enc_last (d : List Int) (h : ∀ r ∈ d, sv r) : (Md.encode d).getLast? = some 60 ↔ d.getLast? = some 60 := by
  rcases List.eq_nil_or_concat d with rfl | ⟨d, r, rfl⟩
  · simp [show Md.encode [] = [] from rfl]
  · rw [List.concat_eq_append] at *
    have hs := h r (by simp)
    rw [enc_app, enc_one]
    rcases putR_two hs with ⟨h1, h2⟩ | ⟨h1, h2⟩
    · rw [h2, List.getLast?_concat, List.getLast?_concat]
      have h0 := hs.1
      have hb := byteN_nat (n := r.toNat) (by omega)
      constructor
      · intro e
        have e : Md.byteN r.toNat = 60 := Option.some.inj e
        rw [e] at hb
        have : (60 : UInt8).toNat = 60 := rfl
        rw [this] at hb
        congr 1; omega
      · intro e
        have e := Option.some.inj e
        subst e; rfl
    · rw [List.getLast?_concat, List.getLast?_append]
      have hn := putR_ne r
      constructor
      · intro e
        cases hl : (Md.putR r).getLast? with
        | none => rw [List.getLast?_eq_none_iff] at hl; exact absurd hl hn
        | some c =>
          rw [hl] at e
          have e := Option.some.inj e
          have := h2 c (List.mem_of_getLast? hl)
          rw [e] at this
          have h60 : (60 : UInt8).toNat = 60 := rfl
          omega
      · intro e
        have := Option.some.inj e
        omega
theorem rawG_high : ∀ (bs d : Md.Str), (∀ c ∈ bs, 128 ≤ c.toNat) → bs.foldl rawG d = d ++ bs
  | [], d, _ => by simp
  | c :: bs, d, h => by
    have h1 := h c (by simp)
    rw [List.foldl_cons, rawG_high bs _ (fun x hx => h x (by simp [hx])), rawG, if_neg (by omega)]; simp
theorem rawG_one {d : List Int} {r : Int} (hd : ∀ r ∈ d, sv r) (hr : sv r) : (Md.putR r).foldl rawG (Md.encode d) = Md.encode (rawGi d r) := by
  rcases putR_two hr with ⟨h1, h2⟩ | ⟨h1, h2⟩
  · have h0 := hr.1
    have hb := byteN_nat (n := r.toNat) (by omega)
    rw [h2, List.foldl_cons, List.foldl_nil, rawG, rawGi, hb]
    have hl := enc_last d hd
    by_cases hc : r = 38 ∨ (d.getLast? = some 60 ∧ (r = 47 ∨ r = 33))
    · rw [if_pos hc, if_pos]
      rcases hc with hc | hc
      · exact .inl (by omega)
      · exact .inr ⟨hl.2 hc.1, by omega⟩
    · rw [if_neg hc, if_neg]
      · rw [enc_app, enc_one, h2]
      · rintro (h | h)
        · exact hc (.inl (by omega))
        · exact hc (.inr ⟨hl.1 h.1, by omega⟩)
  · rw [rawG_high _ _ h2, rawGi, if_neg (by omega), enc_app, enc_one]
theorem rawG_all : ∀ (l d : List Int), (∀ r ∈ d, sv r) → (∀ r ∈ l, sv r) → (Md.encode l).foldl rawG (Md.encode d) = Md.encode (l.foldl rawGi d)
  | [], d, _, _ => rfl
  | r :: l, d, hd, hl => by
    rw [enc_cons, List.foldl_append, rawG_one hd (hl r (by simp)), List.foldl_cons]
    refine rawG_all l _ ?_ (fun x hx => hl x (by simp [hx]))
    have := rawGi_sub [r] d sv hd (fun x hx => by simp only [List.mem_singleton] at hx; subst hx; exact hl _ (by simp))
    simpa using this
/-- What is left of a text. -/
theorem rawD_eq (s : Md.Str) : ∃ o : List Int, rawD s = Md.encode o ∧ rawOk o ∧ ∀ r ∈ o, sv r ∧ r ≠ 13 ∧ r ≠ 65279 := by
  have h := clean_ok s
  refine ⟨(Md.cleanR (Md.decode s)).foldl rawGi [], ?_, rawGi_ok _ _ trivial (fun r hr => ?_), rawGi_sub _ _ _ (fun r hr => by cases hr) (fun r hr => (h r hr).1)⟩
  · exact rawG_all _ [] (fun r hr => by cases hr) (fun r hr => (h r hr).1.1)
  · have := h r hr
    have h0 := this.1.1.1
    have := this.2
    omega
/-- A < that begins no end. -/
theorem Rd.lt (hw : w = 1 ∨ w = 2 ∨ w = 3) (h33 : r.headD (-1) ≠ 33) (hc : Md.closes n r = 0) (h : Rd w n b r (Md.app A [60]) B) : Rd w n b (60 :: r) A B := by
  rcases hw with rfl | rfl | rfl
  · exact Rd.shut (.inl rfl) (fun acc x hx hS => At.noClose hS hc) h
  · exact Rd.shut (.inr rfl) (fun acc x hx hS => At.noClose hS hc) h
  · refine Rd.scr (fun acc x hx hS => ?_) h
    unfold Md.Lx.script
    rw [if_pos]
    · exact At.noClose hS hc
    · rw [hS.rest]
      cases r with
      | nil => rfl
      | cons a r => 
        have : a ≠ 33 := h33
        show (a == 33 && _) = false
        simp [this]
theorem closes_no {l : List Int} (h : l.headD (-1) ≠ 47) : Md.closes n l = 0 := by
  unfold Md.closes
  exact if_pos (.inl (by
    cases l with
    | nil => show (-1 : Int) ≠ 47; decide
    | cons a l => exact h))
/-- The element's own end. -/
theorem Rd.ltClose {T : List Int} (hw : w = 1 ∨ w = 2 ∨ w = 3) (hn : lowName n) (hT : Md.over (T.headD (-1)) = true) (hq : (Md.attrsGo T []).2.2.1 = true) (h : Rd 0 n b (T.drop (Md.attrsGo T []).2.2.2) (Md.joinStep A (endTok n)) B) : Rd w n b (60 :: (47 :: (Md.asc n ++ T))) A B := by
  rcases hw with rfl | rfl | rfl
  · exact Rd.shut (.inl rfl) (fun acc x hx hS => At.close hn hT hq hS) h
  · exact Rd.shut (.inr rfl) (fun acc x hx hS => At.close hn hT hq hS) h
  · refine Rd.scr (fun acc x hx hS => ?_) h
    unfold Md.Lx.script
    rw [if_pos (by rw [hS.rest]; rfl)]
    exact At.close hn hT hq hS
theorem Rd.raw {T : List Int} (hw : w = 1 ∨ w = 2 ∨ w = 3) (hT : T.headD (-1) = 60) : ∀ (o : List Int) {A : List Md.Tok}, rawOk o → Rd w n b T (Md.app A (Md.encode o)) B → Rd w n b (o ++ T) A B
  | [], A, _, h => by have e : Md.encode [] = [] := rfl; rw [e, Md.app_nil] at h; exact h
  | r :: o, A, ho, h => by
    have h' : Rd w n b T (Md.app (Md.app A (Md.putR r)) (Md.encode o)) B := by rw [Md.app_app, ← enc_cons]; exact h
    have hrec := Rd.raw hw hT o ho.2 h'
    by_cases h60 : r = 60
    · subst h60
      have h1 := ho.1.2.2 rfl
      have hh : (o ++ T).headD (-1) = o.headD 60 := by
        cases o with
        | nil => exact hT
        | cons a o => rfl
      exact Rd.lt hw (by show (o ++ T).headD (-1) ≠ 33; rw [hh]; exact h1.2) (closes_no (by show (o ++ T).headD (-1) ≠ 47; rw [hh]; exact h1.1)) hrec
    · exact Rd.plain1 ⟨ho.1.2.1, h60, fun e => absurd e ho.1.1⟩ hrec
/-- A tag that begins. -/
def startTok (m : Md.Str) (al : List (Md.Str × Md.Str)) (self : Bool) : Md.Tok := { Md.Tok.zero with kind := 2, name := m, attrs := al, self := self }
theorem At.start {m : Md.Str} {T : List Int} (hm : lowName m) (hT : Md.over (T.headD (-1)) = true) (hq : (Md.attrsGo T []).2.2.1 = true) (h : Md.At acc x 0 n b (Md.asc m ++ T) A) : Md.At acc x.open_ 0 m b (T.drop (Md.attrsGo T []).2.2.2) (Md.joinStep A (startTok m (Md.attrsGo T []).1 (Md.attrsGo T []).2.1)) := by
  obtain ⟨c, m', rfl⟩ : ∃ c m', m = c :: m' := by cases m with
    | nil => exact absurd rfl hm.1
    | cons c m' => exact ⟨c, m', rfl⟩
  have hl := hm.2 c (by simp)
  have hp : x.pk 0 = (c.toNat : Int) := At.pk h 0
  have hlet : Md.letter (c.toNat : Int) = true := by simp [Md.letter]; omega
  have e : x.open_ = x.tag 2 := by
    unfold Md.Lx.open_
    rw [hp, if_neg (by omega), if_neg (by omega), if_pos hlet]
  rw [e]
  unfold Md.Lx.tag
  dsimp only
  rw [h.rest, nameOf_asc hm.2 hT, List.drop_left, if_pos hq, if_neg (by decide), if_neg (by decide), enc_name hm.2]
  have h1 := At.emit (At.adv h ((Md.asc (c :: m')).length + (Md.attrsGo T []).2.2.2)) (startTok (c :: m') (Md.attrsGo T []).1 (Md.attrsGo T []).2.1)
  have e3 : (startTok (c :: m') (Md.attrsGo T []).1 (Md.attrsGo T []).2.1).kind = 2 := rfl
  rw [if_pos e3, ← List.drop_drop, List.drop_left] at h1
  exact h1
theorem word9_low (s : Md.Str) : lowName (Md.word9 s) := by
  refine ⟨by unfold Md.word9; simp, fun c hc => ?_⟩
  unfold Md.word9 at hc
  rcases List.mem_cons.1 hc with rfl | hc
  · decide
  · obtain ⟨a, _, rfl⟩ := List.mem_map.1 hc
    unfold Md.wd
    rw [byteN_nat (by omega)]; omega
def rawTail : List Int := [32, 97, 61, 39, 62, 39, 62, 98, 60, 105, 62]
theorem rawTail_attrs : (Md.attrsGo rawTail []).2.2 = (true, 7) := by
  unfold rawTail
  rw [Md.attrsGo]
  rw [dif_pos (by decide)]
  dsimp only
  have hv : Md.valueGo 39 [62, 39, 62, 98, 60, 105, 62] [] = ([62], true, 2) := by
    rw [Md.valueGo]; simp only [Md.fixr]
    rw [if_neg (by decide), if_neg (by decide), if_neg (by decide), Md.valueGo, if_pos (by decide)]; rfl
  have ha : Md.attr1 [97, 61, 39, 62, 39, 62, 98, 60, 105, 62] = (([97], [62]), true, 5) := by
    unfold Md.attr1
    have hnm : Md.attrName [97, 61, 39, 62, 39, 62, 98, 60, 105, 62] = [97] := by decide
    rw [hnm]
    have hval : Md.value [39, 62, 39, 62, 98, 60, 105, 62] = ([62], true, 3) := by
      unfold Md.value
      show (if (39 : Int) = 62 then _ else if (39 : Int) = 34 ∨ (39 : Int) = 39 then (Md.encode (Md.valueGo 39 [62, 39, 62, 98, 60, 105, 62] []).1, (Md.valueGo 39 [62, 39, 62, 98, 60, 105, 62] []).2.1, 0 + 1 + (Md.valueGo 39 [62, 39, 62, 98, 60, 105, 62] []).2.2) else _) = _
      rw [if_neg (by decide), if_pos (by decide), hv]; rfl
    dsimp only
    have e1 : List.getD [97, 61, 39, 62, 39, 62, 98, 60, 105, 62] ([(97 : Int)].length + Md.blanksN (List.drop [(97 : Int)].length [97, 61, 39, 62, 39, 62, 98, 60, 105, 62])) (-1) = (61 : Int) := by decide
    have e2 : List.drop ([(97 : Int)].length + Md.blanksN (List.drop [(97 : Int)].length [97, 61, 39, 62, 39, 62, 98, 60, 105, 62]) + 1) [97, 61, 39, 62, 39, 62, 98, 60, 105, 62] = [(39 : Int), 62, 39, 62, 98, 60, 105, 62] := by decide
    rw [if_pos e1, e2, hval]; rfl
  have hg : Md.attrsGo [97, 61, 39, 62, 39, 62, 98, 60, 105, 62] [] = (Md.putAttr [] ([97], [62]), false, true, 6) := by
    rw [Md.attrsGo]
    rw [dif_neg (by decide), dif_neg (by decide), dif_neg (by decide), ha, if_pos rfl]
    dsimp only
    rw [show List.drop 5 [(97 : Int), 61, 39, 62, 39, 62, 98, 60, 105, 62] = [62, 98, 60, 105, 62] from rfl, attrs_gt]
  rw [hg]
def rawAll (d w : Md.Str) : Md.Str := d ++ [60, 47, 120, 62, 60, 47] ++ w ++ [120, 62, 60, 47] ++ w ++ [32, 97, 61, 39, 62, 39, 62, 98, 60, 105, 62]
theorem raws_pure {s nm : Md.Str} {w : Int} (hw : w = 1 ∨ w = 2 ∨ w = 3) (hN : NI { Md.Lx.new (rawAll (rawD s) (Md.word9 nm)) with way := w, last := Md.word9 nm }) :
    Md.join ({ Md.Lx.new (rawAll (rawD s) (Md.word9 nm)) with way := w, last := Md.word9 nm } : Md.Lx).toks = [Md.tx (rawD s ++ [60, 47, 120, 62, 60, 47] ++ Md.word9 nm ++ [120, 62]), endTok (Md.word9 nm), Md.tx [98], startTok [105] [] false] := by
  obtain ⟨o, ho, hok, hos⟩ := rawD_eq s
  have hl := word9_low nm
  have hh : ∃ m, Md.word9 nm = 119 :: m := ⟨_, rfl⟩
  generalize Md.word9 nm = W at *
  have hWe : Md.encode (Md.asc W) = W := enc_asc (fun c hc => by have := hl.2 c hc; omega)
  have hWr : Md.runes W = Md.asc W := runes_asc (fun c hc => by have := hl.2 c hc; omega)
  refine Rd.start (w := w) (nm := W) (room := false) hN ?_
  have e0 : rawAll (rawD s) W = Md.encode (o ++ 60 :: (47 :: 120 :: 62 :: (60 :: (47 :: (Md.asc W ++ 120 :: 62 :: (60 :: (47 :: (Md.asc W ++ rawTail)))))))) := by
    unfold rawAll
    rw [ho, enc_app]
    have e1 : Md.encode (60 :: (47 :: 120 :: 62 :: (60 :: (47 :: (Md.asc W ++ 120 :: 62 :: (60 :: (47 :: (Md.asc W ++ rawTail)))))))) = [60, 47, 120, 62, 60, 47] ++ (W ++ ([120, 62, 60, 47] ++ (W ++ [32, 97, 61, 39, 62, 39, 62, 98, 60, 105, 62]))) := by
      have e2 : (60 :: (47 :: 120 :: 62 :: (60 :: (47 :: (Md.asc W ++ 120 :: 62 :: (60 :: (47 :: (Md.asc W ++ rawTail)))))))) = [60, 47, 120, 62, 60, 47] ++ (Md.asc W ++ ([120, 62, 60, 47] ++ (Md.asc W ++ rawTail))) := rfl
      rw [e2, enc_app, enc_app (Md.asc W), enc_app [120, 62, 60, 47], enc_app (Md.asc W), hWe]; rfl
    rw [e1]; simp only [List.append_assoc]
  have hd : Md.decode (rawAll (rawD s) W) = o ++ 60 :: (47 :: 120 :: 62 :: (60 :: (47 :: (Md.asc W ++ 120 :: 62 :: (60 :: (47 :: (Md.asc W ++ rawTail))))))) := by
    rw [e0]
    refine decode_encode fun r hr => ?_
    have hWs : ∀ r ∈ Md.asc W, sv r ∧ r ≠ 13 ∧ r ≠ 65279 := fun r hr => by
      obtain ⟨c, hc, rfl⟩ := List.mem_map.1 hr
      have := hl.2 c hc
      exact ⟨⟨by omega, by omega, by omega⟩, by omega, by omega⟩
    have hlow : ∀ r : Int, 0 ≤ r → r < 128 → r ≠ 13 → sv r ∧ r ≠ 13 ∧ r ≠ 65279 := fun r h1 h2 h3 => ⟨⟨h1, by omega, by omega⟩, h3, by omega⟩
    have e2 : (60 :: (47 :: 120 :: 62 :: (60 :: (47 :: (Md.asc W ++ 120 :: 62 :: (60 :: (47 :: (Md.asc W ++ rawTail)))))))) = [60, 47, 120, 62, 60, 47] ++ (Md.asc W ++ ([120, 62, 60, 47] ++ (Md.asc W ++ rawTail))) := rfl
    rw [e2] at hr
    simp only [List.mem_append] at hr
    rcases hr with hr | hr | hr | hr | hr | hr
    · exact hos r hr
    · have : 0 ≤ r ∧ r < 128 ∧ r ≠ 13 := by revert hr; revert r; decide
      exact hlow r this.1 this.2.1 this.2.2
    · exact hWs r hr
    · have : 0 ≤ r ∧ r < 128 ∧ r ≠ 13 := by revert hr; revert r; decide
      exact hlow r this.1 this.2.1 this.2.2
    · exact hWs r hr
    · have : 0 ≤ r ∧ r < 128 ∧ r ≠ 13 := by revert hr; revert r; decide
      exact hlow r this.1 this.2.1 this.2.2
  rw [hd]
  obtain ⟨m, hm⟩ := hh
  have hgo : ∀ l, Md.goesOn (Md.runes W) (120 :: l) = false := fun l => by
    rw [hWr, hm]
    show (Md.small 120 == 119 && _) = false
    rw [show Md.small 120 = 120 from rfl]; rfl
  refine Rd.raw hw rfl o hok ?_
  refine Rd.lt hw (by show (47 : Int) ≠ 33; decide) ?_ ?_
  · unfold Md.closes
    split
    · rfl
    · rw [if_neg]
      intro h
      rw [List.tail_cons, hgo] at h
      exact absurd h.1 (by decide)
  have hWo : ∀ c ∈ Md.asc W, okSign w c := asc_plain fun c hc => by have := hl.2 c hc; exact ⟨by omega, by omega, fun h => by omega⟩
  have hlow : ∀ c : Int, 0 < c → c ≠ 60 → c ≠ 38 → okSign w c := fun c h1 h2 h3 => ⟨h1, h2, fun h => absurd h h3⟩
  refine Rd.plain1 (hlow _ (by decide) (by decide) (by decide)) (Rd.plain1 (hlow _ (by decide) (by decide) (by decide)) (Rd.plain1 (hlow _ (by decide) (by decide) (by decide)) ?_))
  refine Rd.lt hw (by show (47 : Int) ≠ 33; decide) ?_ ?_
  · unfold Md.closes
    split
    · rfl
    · rw [if_neg]
      intro h
      have h2 := h.2
      have hlen : (Md.runes W).length = (Md.asc W).length := by rw [hWr]
      rw [hlen, Nat.add_comm, List.getD_cons_succ, List.getD_eq_getElem?_getD, List.getElem?_append_right (Nat.le_refl _), Nat.sub_self] at h2
      exact absurd h2 (by show ¬Md.over 120 = true; decide)
  refine Rd.plain1 (hlow _ (by decide) (by decide) (by decide)) (Rd.plain _ hWo (Rd.plain1 (hlow _ (by decide) (by decide) (by decide)) (Rd.plain1 (hlow _ (by decide) (by decide) (by decide)) ?_)))
  refine Rd.ltClose hw hl (by decide) (by rw [rawTail_attrs]) ?_
  rw [rawTail_attrs]
  show Rd 0 W false (98 :: 60 :: (Md.asc [105] ++ [62])) _ _
  refine Rd.plain1 ⟨by decide, by decide, fun h => by omega⟩ ?_
  refine Rd.tag (fun acc x hx hS => At.start (m := [105]) (T := [62]) ⟨by decide, by decide⟩ (by decide) (by rw [attrs_gt]) hS) ?_
  rw [attrs_gt]
  refine Rd.conv Rd.nil rfl rfl ?_
  rw [Md.app_app, Md.app_app, Md.app_app, Md.app_app, Md.app_app, Md.app_app, Md.app_app, Md.app_app, Md.app_app, Md.app_emp, if_neg (by simp)]
  have e3 : Md.encode o ++ ([60] ++ (Md.putR 47 ++ (Md.putR 120 ++ (Md.putR 62 ++ ([60] ++ (Md.putR 47 ++ (Md.encode (Md.asc W) ++ (Md.putR 120 ++ Md.putR 62)))))))) = rawD s ++ [60, 47, 120, 62, 60, 47] ++ W ++ [120, 62] := by
    rw [hWe, ho]; simp only [List.append_assoc]; rfl
  rw [e3]; rfl
end Go.Proofs.YticnenofiibpgaaDoor.Code
/- Attributes read. -/
namespace Go.Proofs.YticnenofiibpgaaDoor.Code
open Go.Dm
set_option linter.unusedSimpArgs false
set_option linter.unusedVariables false
/-- Signs that are a part of a value, just so. -/
theorem value_plain {q : Int} (hq : q ≠ 0) : ∀ (d l acc : List Int), (∀ r ∈ d, r ≠ q ∧ r ≠ 38 ∧ r ≠ 0) → Md.valueGo q (d ++ l) acc = ((Md.valueGo q l (acc ++ d)).1, (Md.valueGo q l (acc ++ d)).2.1, (Md.valueGo q l (acc ++ d)).2.2 + d.length)
  | [], l, acc, _ => by simp
  | r :: d, l, acc, h => by
    have h1 := h r (by simp)
    have ih := value_plain hq d l (acc ++ [r]) (fun x hx => h x (by simp [hx]))
    rw [List.cons_append, valueGo_cons, if_neg (fun e => h1.1 e.2), if_neg (fun e => hq e.1), if_neg h1.2.1, Md.fixr, if_neg h1.2.2, ih]
    simp only [List.append_assoc, List.singleton_append, List.length_cons, Prod.mk.injEq, true_and]; omega
theorem value_end {q : Int} (hq : q ≠ 0) (l acc : List Int) : Md.valueGo q (q :: l) acc = (acc, true, 1) := by
  rw [valueGo_cons, if_pos ⟨hq, rfl⟩]
theorem value_amp {q : Int} (hq : q ≠ 0) (h38 : q ≠ 38) (l acc : List Int) : Md.valueGo q (38 :: l) acc = ((Md.valueGo q (l.drop (Md.refer true l).2) (acc ++ (Md.refer true l).1)).1, (Md.valueGo q (l.drop (Md.refer true l).2) (acc ++ (Md.refer true l).1)).2.1, (Md.valueGo q (l.drop (Md.refer true l).2) (acc ++ (Md.refer true l).1)).2.2 + (Md.refer true l).2 + 1) := by
  rw [valueGo_cons, if_neg (fun e => h38 e.2.symm), if_neg (fun e => hq e.1), if_pos rfl]
def blanksOk (g : List Int) : Prop := ∀ r ∈ g, Md.blank r = true
theorem blanksN_app {g l : List Int} (hg : blanksOk g) (hl : Md.blank (l.headD (-1)) = false) : Md.blanksN (g ++ l) = g.length := by
  induction g with
  | nil =>
    cases l with
    | nil => rfl
    | cons a l =>
      have hl : Md.blank a = false := hl
      show (List.takeWhile Md.blank (a :: l)).length = 0
      rw [List.takeWhile_cons, if_neg (by rw [hl]; decide)]; rfl
  | cons a g ih =>
    have ha := hg a (by simp)
    have := ih (fun x hx => hg x (by simp [hx]))
    unfold Md.blanksN at this ⊢
    rw [List.cons_append, List.takeWhile_cons, if_pos ha, List.length_cons, this]; rfl
theorem attrName_asc {nm : Md.Str} {X : List Int} (hn : lowName nm) (hX : Md.over (X.headD (-1)) = true ∨ X.headD (-1) = 61) : Md.attrName (Md.asc nm ++ X) = Md.asc nm := by
  obtain ⟨c, m, rfl⟩ : ∃ c m, nm = c :: m := by cases nm with
    | nil => exact absurd rfl hn.1
    | cons c m => exact ⟨c, m, rfl⟩
  have hc := hn.2 c (by simp)
  show Md.attrName ((c.toNat : Int) :: (Md.asc m ++ X)) = (c.toNat : Int) :: Md.asc m
  unfold Md.attrName
  dsimp only
  rw [if_neg (by rw [over_low (by omega)]; decide)]
  congr 1
  have hm := fun x hx => hn.2 x (List.mem_cons_of_mem c hx)
  clear hc hn
  induction m with
  | nil =>
    cases X with
    | nil => rfl
    | cons a X =>
      show List.takeWhile _ (a :: X) = []
      rw [List.takeWhile_cons, if_neg]
      rcases hX with hX | hX
      · have hX : Md.over a = true := hX
        simp [hX]
      · have hX : a = 61 := hX
        simp [hX]
  | cons c' m ih =>
    have h1 := hm c' (by simp)
    have := ih (fun x hx => hm x (by simp [hx]))
    show List.takeWhile _ ((c'.toNat : Int) :: (Md.asc m ++ X)) = _
    rw [List.takeWhile_cons, if_pos, this]; rfl
    show (!(Md.over (c'.toNat : Int) || (c'.toNat : Int) == 61)) = true
    rw [over_low (by omega)]; simp; omega
theorem attr_quoted {nm : Md.Str} {g1 g2 body v : List Int} {q : Int} {k : Nat} (hn : lowName nm) (h1 : blanksOk g1) (h2 : blanksOk g2) (hq : q = 34 ∨ q = 39) (hv : Md.valueGo q body [] = (v, true, k)) :
    Md.attr1 (Md.asc nm ++ (g1 ++ 61 :: (g2 ++ q :: body))) = ((nm, Md.encode v), true, nm.length + g1.length + 1 + g2.length + 1 + k) := by
  have hlen : (Md.asc nm).length = nm.length := List.length_map ..
  have hnm : Md.attrName (Md.asc nm ++ (g1 ++ 61 :: (g2 ++ q :: body))) = Md.asc nm := attrName_asc hn (by
    cases g1 with
    | nil => exact .inr rfl
    | cons a g => left; have := h1 a (by simp); show Md.over a = true; simp [Md.over, this])
  have hb1 : Md.blanksN (g1 ++ 61 :: (g2 ++ q :: body)) = g1.length := blanksN_app h1 rfl
  have hqb : Md.blank q = false := by rcases hq with rfl | rfl <;> rfl
  have hb2 : Md.blanksN (g2 ++ q :: body) = g2.length := blanksN_app h2 hqb
  have hval : Md.value (g2 ++ q :: body) = (Md.encode v, true, g2.length + 1 + k) := by
    unfold Md.value
    have eg : (g2 ++ q :: body).getD g2.length (-1) = q := by
      rw [List.getD_eq_getElem?_getD, List.getElem?_append_right (Nat.le_refl _), Nat.sub_self]; rfl
    have ed : (g2 ++ q :: body).drop (g2.length + 1) = body := by rw [← List.drop_drop, List.drop_left]; rfl
    dsimp only
    rw [hb2, eg, if_neg (by rcases hq with rfl | rfl <;> decide), if_pos hq, ed, hv]
  unfold Md.attr1
  dsimp only
  rw [hnm, List.drop_left, hb1]
  have eg : (Md.asc nm ++ (g1 ++ 61 :: (g2 ++ q :: body))).getD ((Md.asc nm).length + g1.length) (-1) = 61 := by
    rw [List.getD_eq_getElem?_getD, List.getElem?_append_right (by omega), Nat.add_sub_cancel_left, List.getElem?_append_right (Nat.le_refl _), Nat.sub_self]; rfl
  have ed : (Md.asc nm ++ (g1 ++ 61 :: (g2 ++ q :: body))).drop ((Md.asc nm).length + g1.length + 1) = g2 ++ q :: body := by
    rw [Nat.add_assoc, ← List.drop_drop, List.drop_left, ← List.drop_drop, List.drop_left]; rfl
  rw [if_pos eg, ed, hval, enc_name hn.2, hlen]
  simp only [Prod.mk.injEq, true_and]; omega
theorem attr_bare {nm : Md.Str} {g1 T : List Int} (hn : lowName nm) (h1 : blanksOk g1) (hT : Md.blank (T.headD (-1)) = false ∧ T.headD (-1) ≠ 61) (hg : g1 ≠ [] ∨ Md.over (T.headD (-1)) = true) :
    Md.attr1 (Md.asc nm ++ (g1 ++ T)) = ((nm, []), true, nm.length + g1.length) := by
  have hlen : (Md.asc nm).length = nm.length := List.length_map ..
  have hnm : Md.attrName (Md.asc nm ++ (g1 ++ T)) = Md.asc nm := attrName_asc hn (by
    cases g1 with
    | nil =>
      rcases hg with hg | hg
      · exact absurd rfl hg
      · exact .inl hg
    | cons a g => left; have := h1 a (by simp); show Md.over a = true; simp [Md.over, this])
  have hb1 : Md.blanksN (g1 ++ T) = g1.length := blanksN_app h1 hT.1
  unfold Md.attr1
  dsimp only
  rw [hnm, List.drop_left, hb1]
  have eg : (Md.asc nm ++ (g1 ++ T)).getD ((Md.asc nm).length + g1.length) (-1) = T.headD (-1) := by
    rw [List.getD_eq_getElem?_getD, List.getElem?_append_right (by omega), Nat.add_sub_cancel_left, List.getElem?_append_right (Nat.le_refl _), Nat.sub_self]
    cases T <;> rfl
  rw [if_neg (by rw [eg]; exact hT.2), enc_name hn.2, hlen]
theorem attrs_blanks : ∀ (g l : List Int) (acc : List (Md.Str × Md.Str)), blanksOk g → Md.attrsGo (g ++ l) acc = ((Md.attrsGo l acc).1, (Md.attrsGo l acc).2.1, (Md.attrsGo l acc).2.2.1, (Md.attrsGo l acc).2.2.2 + g.length)
  | [], l, acc, _ => by simp
  | a :: g, l, acc, h => by
    have ih := attrs_blanks g l acc (fun x hx => h x (by simp [hx]))
    rw [List.cons_append, attrsGo_blank (h a (by simp)), ih]
    simp only [List.length_cons, Prod.mk.injEq, true_and]; omega
/-- An attribute more. -/
theorem attrs_one {nm : Md.Str} {X T : List Int} {v : Md.Str} {k : Nat} {acc : List (Md.Str × Md.Str)} (hn : lowName nm) (ha : Md.attr1 (Md.asc nm ++ X) = ((nm, v), true, k)) (hk : (Md.asc nm ++ X).drop k = T) :
    Md.attrsGo (Md.asc nm ++ X) acc = ((Md.attrsGo T (Md.putAttr acc (nm, v))).1, (Md.attrsGo T (Md.putAttr acc (nm, v))).2.1, (Md.attrsGo T (Md.putAttr acc (nm, v))).2.2.1, (Md.attrsGo T (Md.putAttr acc (nm, v))).2.2.2 + k) := by
  obtain ⟨c, m, rfl⟩ : ∃ c m, nm = c :: m := by cases nm with
    | nil => exact absurd rfl hn.1
    | cons c m => exact ⟨c, m, rfl⟩
  have hc := hn.2 c (by simp)
  have e : Md.asc (c :: m) ++ X = (c.toNat : Int) :: (Md.asc m ++ X) := rfl
  rw [e] at ha hk ⊢
  rw [attrsGo_attr (by simp [Md.blank]; omega) (by omega) (by omega), ha, if_pos rfl]
  dsimp only
  rw [hk]
end Go.Proofs.YticnenofiibpgaaDoor.Code
/- References by name and by number, in texts and in values. -/
namespace Go.Proofs.YticnenofiibpgaaDoor.Code
open Go.Dm
set_option linter.unusedSimpArgs false
set_option linter.unusedVariables false
theorem name_facts : ∀ e ∈ Md.table, e.name.all (· != 34) = true := by decide +kernel
theorem matchStep_ext {rs l : List Int} {a : Int × Nat × Bool} {i : Nat} {e : Md.Entry} (he : e ∈ Md.table) : Md.matchStep runeBytes (rs ++ 34 :: l) a i e = Md.matchStep runeBytes rs a i e := by
  unfold Md.matchStep
  dsimp only
  by_cases hl : e.name.length ≤ rs.length
  · have e1 : (rs ++ 34 :: l).take e.name.length = rs.take e.name.length := List.take_append_of_le_length hl
    have e2 : (decide (e.name.length < (rs ++ 34 :: l).length) && (rs ++ 34 :: l).getD e.name.length 0 == 59) = (decide (e.name.length < rs.length) && rs.getD e.name.length 0 == 59) := by
      by_cases h2 : e.name.length < rs.length
      · rw [decide_eq_true h2, decide_eq_true (by rw [List.length_append]; omega), List.getD_eq_getElem?_getD, List.getElem?_append_left h2, ← List.getD_eq_getElem?_getD]
      · rw [decide_eq_false h2, List.getD_eq_getElem?_getD, List.getElem?_append_right (by omega), show e.name.length - rs.length = 0 by omega]
        simp
    rw [e1, e2]
    by_cases hc : runeBytes (rs.take e.name.length) ≠ e.name
    · rw [if_pos (.inr hc), if_pos (.inr hc)]
    · have hn1 : ¬(e.name.length > (rs ++ 34 :: l).length ∨ runeBytes (rs.take e.name.length) ≠ e.name) := fun x => x.elim (fun y => by rw [List.length_append] at y; omega) hc
      have hn2 : ¬(e.name.length > rs.length ∨ runeBytes (rs.take e.name.length) ≠ e.name) := fun x => x.elim (fun y => by omega) hc
      rw [if_neg hn1, if_neg hn2]
  · have hR : e.name.length > rs.length ∨ runeBytes (rs.take e.name.length) ≠ e.name := .inl (by omega)
    have hE : e.name.length > (rs ++ 34 :: l).length ∨ runeBytes ((rs ++ 34 :: l).take e.name.length) ≠ e.name := by
      refine .inr fun hx => ?_
      have hm : (34 : Int) ∈ (rs ++ 34 :: l).take e.name.length := by
        rw [List.take_append, show e.name.length - rs.length = (e.name.length - rs.length - 1) + 1 by omega, List.take_succ_cons]
        simp
      have h34 : (34 : UInt8) ∈ runeBytes ((rs ++ 34 :: l).take e.name.length) := by
        unfold runeBytes
        rw [List.mem_flatMap]
        exact ⟨34, hm, by rw [Md.enc_low (by omega)]; decide⟩
      rw [hx] at h34
      have := List.all_eq_true.1 (name_facts e he) _ h34
      simp at this
    rw [if_pos hE, if_pos hR]
theorem fold_congr {α β : Type} {f g : β → α → β} : ∀ (l : List α) (a : β), (∀ x ∈ l, ∀ b, f b x = g b x) → l.foldl f a = l.foldl g a
  | [], a, _ => rfl
  | x :: l, a, h => by
    rw [List.foldl_cons, List.foldl_cons, h x (by simp)]
    exact fold_congr l _ (fun y hy => h y (by simp [hy]))
theorem match_ext (rs l : List Int) : Md.matchT runeBytes (rs ++ 34 :: l) = Md.matchT runeBytes rs := by
  have e : Md.matchAll runeBytes (rs ++ 34 :: l) = Md.matchAll runeBytes rs := by
    unfold Md.matchAll
    refine fold_congr _ _ fun p hp b => matchStep_ext ?_
    have := List.mem_zipIdx' hp
    rw [this.2]; exact List.getElem_mem _
  unfold Md.matchT
  rw [e]
/-- What stands behind the &. -/
def refRs (W : Md.Str) (semi : Bool) (C : UInt8) : Md.Str := W ++ (if semi then [59] else []) ++ [C]
def refM (R : Md.Str) : List Int × Nat × Bool := Md.matchT runeBytes (Md.asc R)
def refWant (R : Md.Str) : Md.Str := if 0 < (refM R).2.1 then Md.encode (refM R).1 ++ R.drop (refM R).2.1 else [38] ++ R
def refOpen (R : Md.Str) : Prop := 0 < (refM R).2.1 ∧ (refM R).2.2 = false ∧ (refM R).2.1 < R.length ∧ ((Md.asc R).getD (refM R).2.1 (-1) = 61 ∨ Md.letter ((Md.asc R).getD (refM R).2.1 (-1)) = true ∨ Md.digit ((Md.asc R).getD (refM R).2.1 (-1)) = true)
instance (R : Md.Str) : Decidable (refOpen R) := by unfold refOpen; exact inferInstance
def refVal (R : Md.Str) : Md.Str := if refOpen R then [38] ++ R else refWant R
structure refOk (R : Md.Str) : Prop where
  low : ∀ c ∈ R, 32 ≤ c.toNat ∧ c.toNat < 128 ∧ c.toNat ≠ 34 ∧ c.toNat ≠ 38 ∧ c.toNat ≠ 60
  first : R.getD 0 0 ≠ 35
  len : R.length ≤ 1000
  ne : R ≠ []
theorem asc_drop (R : Md.Str) (n : Nat) : (Md.asc R).drop n = Md.asc (R.drop n) := by unfold Md.asc; rw [List.map_drop]
theorem asc_len (R : Md.Str) : (Md.asc R).length = R.length := List.length_map ..
variable {R : Md.Str}
theorem ref_first (h : refOk R) (X : List Int) : ¬(Md.asc R ++ X).getD 0 (-1) = 35 := by
  obtain ⟨c, l, rfl⟩ : ∃ c l, R = c :: l := by cases R with
    | nil => exact absurd rfl h.ne
    | cons c l => exact ⟨c, l, rfl⟩
  have := h.first
  show ¬(c.toNat : Int) = 35
  intro e
  apply this
  show c = 35
  apply UInt8.toNat.inj
  have : (35 : UInt8).toNat = 35 := rfl
  omega
theorem enc_drop (h : refOk R) (n : Nat) : Md.encode ((Md.asc R).drop n) = R.drop n := by
  rw [asc_drop]
  exact enc_asc fun c hc => (h.low c (List.mem_of_mem_drop hc)).2.1
theorem low_new {c : Md.Str} (hl : c.length ≤ 1000000000) : NI { Md.Lx.new c with way := 0, last := [], room := false } := by
  have hd := decode_len c
  exact ⟨Nat.le_trans hd hl, fun r hr => (decode_sv c r hr).1.1, Nat.zero_le _, fun _ => Nat.zero_le _, Nat.zero_le _, by show (0 : Nat) ≤ 100; omega, by show (0 : Nat) ≤ _; omega⟩
theorem match_pos (R : Md.Str) : 0 < (refM R).2.1 → (refM R).1 ≠ [] := by
  intro h e
  unfold refM Md.matchT at h e
  dsimp only at h e
  split at h
  · exact absurd h (by decide)
  · rename_i hc
    rw [if_neg hc] at e
    dsimp only at e
    split at e <;> cases e
theorem app_one {d : Md.Str} (h : d ≠ []) : Md.app [] d = [Md.tx d] := by rw [Md.app_emp, if_neg h]
theorem refs_text (h : refOk R) : Md.all ([38] ++ R) = [Md.tx (refWant R)] := by
  refine Rd.start (w := 0) (nm := []) (room := false) (low_new (c := [38] ++ R) (by have := h.len; simp only [List.length_append, List.length_cons, List.length_nil]; omega)) ?_
  have hlow : ∀ c ∈ [38] ++ R, c.toNat < 128 ∧ c.toNat ≠ 13 := fun c hc => by
    rcases List.mem_append.1 hc with hc | hc
    · simp only [List.mem_singleton] at hc; subst hc; decide
    · have := h.low c hc; omega
  rw [dec_asc hlow, asc_app, show Md.asc [38] ++ Md.asc R = 38 :: Md.asc R from rfl]
  have hf := ref_first h []
  rw [List.append_nil] at hf
  have hle := Md.matchT_le (Md.asc R)
  have hr : Md.refer false (Md.asc R) = if (refM R).2.1 = 0 then ([38], 0) else ((refM R).1, (refM R).2.1) := by
    rw [refer_name hf]
    show (if (refM R).2.1 = 0 then _ else _) = _
    by_cases h0 : (refM R).2.1 = 0
    · rw [if_pos h0, if_pos h0]
    · rw [if_neg h0, if_neg h0, if_neg (fun e => by cases e.1.1)]; rfl
  have hfa := refer_facts false (Md.asc R)
  have hok : ∀ n, ∀ c ∈ (Md.asc R).drop n, okSign 0 c := fun n c hc => by
    rw [asc_drop] at hc
    exact asc_plain (fun x hx => by have := h.low x (List.mem_of_mem_drop hx); exact ⟨by omega, by omega, fun e => by omega⟩) c hc
  refine Rd.ref (.inl rfl) hfa.2.2 ?_
  refine Rd.conv (Rd.plain (l := []) ((Md.asc R).drop (Md.refer false (Md.asc R)).2) (hok _) Rd.nil) (List.append_nil _).symm rfl ?_
  rw [Md.app_app, enc_drop h, hr]
  unfold refWant
  by_cases h0 : (refM R).2.1 = 0
  · rw [if_pos h0, if_neg (by omega)]
    have e : Md.encode ([38] : List Int) = [38] := rfl
    rw [e, List.drop_zero, app_one (by simp)]
  · rw [if_neg h0, if_pos (by omega)]
    have hne := match_pos R (by omega)
    rw [app_one]
    intro e
    have := (List.append_eq_nil_iff.1 e).1
    cases hs : (refM R).1 with
    | nil => exact hne hs
    | cons r l =>
      rw [hs, enc_cons] at this
      exact putR_ne r (List.append_eq_nil_iff.1 this).1
theorem refs_value (h : refOk R) : Md.all ([60, 97, 32, 98, 61, 34] ++ ([38] ++ R) ++ [34, 62]) = [startTok [97] [([98], refVal R)] false] := by
  refine Rd.start (w := 0) (nm := []) (room := false) (low_new (c := [60, 97, 32, 98, 61, 34] ++ ([38] ++ R) ++ [34, 62]) (by have := h.len; simp only [List.length_append, List.length_cons, List.length_nil]; omega)) ?_
  have hlow : ∀ c ∈ [60, 97, 32, 98, 61, 34] ++ ([38] ++ R) ++ [34, 62], c.toNat < 128 ∧ c.toNat ≠ 13 := fun c hc => by
    have h1 : ∀ c ∈ ([60, 97, 32, 98, 61, 34] : Md.Str), c.toNat < 128 ∧ c.toNat ≠ 13 := by decide
    have h2 : ∀ c ∈ ([34, 62] : Md.Str), c.toNat < 128 ∧ c.toNat ≠ 13 := by decide
    have h3 : ∀ c ∈ ([38] : Md.Str), c.toNat < 128 ∧ c.toNat ≠ 13 := by decide
    simp only [List.mem_append] at hc
    rcases hc with (hc | hc | hc) | hc
    · exact h1 c hc
    · exact h3 c hc
    · have := h.low c hc; omega
    · exact h2 c hc
  rw [dec_asc hlow, asc_app, asc_app, asc_app]
  show Rd 0 [] false (60 :: (Md.asc [97] ++ (32 :: (Md.asc [98] ++ ([] ++ 61 :: ([] ++ 34 :: 38 :: (Md.asc R ++ [34, 62]))))))) [] _
  have hle : (refM R).2.1 ≤ R.length := by have := Md.matchT_le (Md.asc R); rw [asc_len] at this; exact this
  -- the reference in the value
  have hr : Md.refer true (Md.asc R ++ [34, 62]) = if (refM R).2.1 = 0 then ([38], 0) else if refOpen R then ([38], 0) else ((refM R).1, (refM R).2.1) := by
    rw [refer_name (ref_first h _), match_ext]
    show (if (refM R).2.1 = 0 then _ else if (true = true ∧ (refM R).2.2 = false ∧ (refM R).2.1 < (Md.asc R ++ [34, 62]).length) ∧ ((Md.asc R ++ [34, 62]).getD (refM R).2.1 (-1) = 61 ∨ Md.letter ((Md.asc R ++ [34, 62]).getD (refM R).2.1 (-1)) = true ∨ Md.digit ((Md.asc R ++ [34, 62]).getD (refM R).2.1 (-1)) = true) then _ else ((refM R).1, (refM R).2.1)) = _
    by_cases h0 : (refM R).2.1 = 0
    · rw [if_pos h0, if_pos h0]
    · rw [if_neg h0, if_neg h0]
      have hiff : ((true = true ∧ (refM R).2.2 = false ∧ (refM R).2.1 < (Md.asc R ++ [34, 62]).length) ∧ ((Md.asc R ++ [34, 62]).getD (refM R).2.1 (-1) = 61 ∨ Md.letter ((Md.asc R ++ [34, 62]).getD (refM R).2.1 (-1)) = true ∨ Md.digit ((Md.asc R ++ [34, 62]).getD (refM R).2.1 (-1)) = true)) ↔ refOpen R := by
        unfold refOpen
        by_cases hn : (refM R).2.1 < R.length
        · have e : (Md.asc R ++ [34, 62]).getD (refM R).2.1 (-1) = (Md.asc R).getD (refM R).2.1 (-1) := by
            rw [List.getD_eq_getElem?_getD, List.getElem?_append_left (by rw [asc_len]; exact hn), ← List.getD_eq_getElem?_getD]
          rw [e]
          constructor
          · rintro ⟨⟨_, a, _⟩, c⟩; exact ⟨by omega, a, hn, c⟩
          · rintro ⟨_, a, _, c⟩; exact ⟨⟨rfl, a, by rw [List.length_append, asc_len]; omega⟩, c⟩
        · have e : (Md.asc R ++ [34, 62]).getD (refM R).2.1 (-1) = 34 := by
            rw [List.getD_eq_getElem?_getD, List.getElem?_append_right (by rw [asc_len]; omega), asc_len, show (refM R).2.1 - R.length = 0 by omega]; rfl
          rw [e]
          constructor
          · rintro ⟨_, c⟩
            rcases c with c | c | c
            · exact absurd c (by decide)
            · exact absurd c (by decide)
            · exact absurd c (by decide)
          · rintro ⟨_, _, c, _⟩; exact absurd c hn
      by_cases ho : refOpen R
      · rw [if_pos (hiff.2 ho), if_pos ho]
      · rw [if_neg (fun e => ho (hiff.1 e)), if_neg ho]
  have hfa := refer_facts true (Md.asc R ++ [34, 62])
  -- how much of R it takes
  have hn : (Md.refer true (Md.asc R ++ [34, 62])).2 ≤ R.length := by
    rw [hr]; split
    · exact Nat.zero_le _
    · split
      · exact Nat.zero_le _
      · exact hle
  have hv : Md.encode (Md.refer true (Md.asc R ++ [34, 62])).1 ++ R.drop (Md.refer true (Md.asc R ++ [34, 62])).2 = refVal R := by
    rw [hr]; unfold refVal refWant
    have e : Md.encode ([38] : List Int) = [38] := rfl
    by_cases h0 : (refM R).2.1 = 0
    · rw [if_pos h0, if_neg (fun ho => by have := ho.1; omega), if_neg (by omega), e, List.drop_zero]
    · rw [if_neg h0]
      by_cases ho : refOpen R
      · rw [if_pos ho, if_pos ho, e, List.drop_zero]
      · rw [if_neg ho, if_neg ho, if_pos (by omega)]
  generalize hQ : Md.refer true (Md.asc R ++ [34, 62]) = Q at *
  have hdrop : (Md.asc R ++ [34, 62]).drop Q.2 = (Md.asc R).drop Q.2 ++ 34 :: [62] := by
    rw [List.drop_append, show Q.2 - (Md.asc R).length = 0 by rw [asc_len]; omega]; rfl
  have hbody : Md.valueGo 34 (38 :: (Md.asc R ++ [34, 62])) [] = (Q.1 ++ (Md.asc R).drop Q.2, true, R.length + 2) := by
    rw [value_amp (by decide) (by decide), hQ, hdrop, value_plain (by decide) _ _ _ (fun r hr => ?_), value_end (by decide)]
    · dsimp only
      rw [List.nil_append, List.length_drop, asc_len]
      simp only [Prod.mk.injEq, true_and]; omega
    · rw [asc_drop] at hr
      obtain ⟨c, hc, rfl⟩ := List.mem_map.1 hr
      have := h.low c (List.mem_of_mem_drop hc)
      omega
  have ha := attr_quoted (nm := [98]) (g1 := []) (g2 := []) (q := 34) (by exact ⟨by decide, by decide⟩) (fun r hr => by cases hr) (fun r hr => by cases hr) (.inl rfl) hbody
  have hT : Md.attrsGo (32 :: (Md.asc [98] ++ ([] ++ 61 :: ([] ++ 34 :: 38 :: (Md.asc R ++ [34, 62]))))) [] = ([([98], refVal R)], false, true, R.length + 7) := by
    rw [attrsGo_blank (by rfl), attrs_one (T := [62]) (by exact ⟨by decide, by decide⟩) ha, attrs_gt]
    · rw [enc_app, enc_drop h, hv]
      dsimp only
      simp only [Md.putAttr, Md.hasAttr, List.any_nil, List.length_cons, List.length_nil]
      simp only [Bool.false_eq_true, if_false, List.nil_append, Prod.mk.injEq, true_and]; omega
    · show List.drop _ (98 :: 61 :: 34 :: 38 :: (Md.asc R ++ [34, 62])) = _
      have e : ([98] : Md.Str).length + ([] : List Int).length + 1 + ([] : List Int).length + 1 + (R.length + 2) = 4 + ((Md.asc R).length + 1) := by
        rw [asc_len]; simp only [List.length_cons, List.length_nil]; omega
      rw [e, ← List.drop_drop]
      show List.drop ((Md.asc R).length + 1) (Md.asc R ++ [34, 62]) = _
      rw [← List.drop_drop, List.drop_left]; rfl
  refine Rd.tag (fun acc x hx hS => At.start (m := [97]) (by exact ⟨by decide, by decide⟩) rfl (by rw [hT]) hS) ?_
  rw [hT]
  have e : List.drop (R.length + 7) (32 :: (Md.asc [98] ++ ([] ++ 61 :: ([] ++ 34 :: 38 :: (Md.asc R ++ [34, 62]))))) = [] := by
    apply List.drop_eq_nil_of_le
    simp only [List.length_cons, List.length_append, asc_len, List.length_nil]; omega
  show Rd 0 [97] false (List.drop (R.length + 7) _) _ _
  rw [e]
  exact Rd.conv Rd.nil rfl rfl rfl
/-! ### by a number -/
def decS (k : Nat) : Md.Str := if h : k < 10 then [Md.byteN (48 + k)] else decS (k / 10) ++ [Md.byteN (48 + k % 10)]
  termination_by k
  decreasing_by omega
theorem decS_low : ∀ (n k : Nat), k ≤ n → (∀ c ∈ decS k, 48 ≤ c.toNat ∧ c.toNat ≤ 57) ∧ decS k ≠ [] := by
  intro n
  induction n with
  | zero =>
    intro k hk
    obtain rfl : k = 0 := by omega
    rw [decS, dif_pos (by omega)]
    exact ⟨by decide, by decide⟩
  | succ n ih =>
    intro k hk
    rw [decS]
    split
    · refine ⟨fun c hc => ?_, by simp⟩
      simp only [List.mem_singleton] at hc; subst hc
      rw [byteN_nat (by omega)]; omega
    · obtain ⟨h1, h2⟩ := ih (k / 10) (by omega)
      refine ⟨fun c hc => ?_, by simp⟩
      rcases List.mem_append.1 hc with hc | hc
      · exact h1 c hc
      · simp only [List.mem_singleton] at hc; subst hc
        rw [byteN_nat (by omega)]; omega
theorem hex_dig {d : Nat} (h : d < 10) : Md.hex (((Md.byteN (48 + d)).toNat : Nat) : Int) = d := by
  rw [byteN_nat (by omega)]
  unfold Md.hex
  rw [if_pos (by omega)]; omega
theorem number_dec : ∀ (n k : Nat), k ≤ n → ∀ (l : List Int), Md.number 10 (Md.asc (decS k) ++ l) 0 0 = Md.number 10 l (min (k : Int) 1114112) (decS k).length := by
  intro n
  induction n with
  | zero =>
    intro k hk l
    obtain rfl : k = 0 := by omega
    rw [decS, dif_pos (by omega)]
    show Md.number 10 (((Md.byteN (48 + 0)).toNat : Int) :: l) 0 0 = _
    rw [Md.number, hex_dig (by omega), if_neg (by omega)]; rfl
  | succ n ih =>
    intro k hk l
    rw [decS]
    split
    · rename_i h
      show Md.number 10 (((Md.byteN (48 + k)).toNat : Int) :: l) 0 0 = _
      rw [Md.number, hex_dig h, if_neg (by omega)]
      simp
    · rename_i h
      rw [asc_app, List.append_assoc, ih (k / 10) (by omega)]
      show Md.number 10 (((Md.byteN (48 + k % 10)).toNat : Int) :: l) _ _ = _
      rw [Md.number, hex_dig (by omega), if_neg (by omega), List.length_append, List.length_singleton]
      congr 1
      have : ((k / 10 : Nat) : Int) * 10 + ((k % 10 : Nat) : Int) = k := by omega
      rcases Int.le_total ((k / 10 : Nat) : Int) 1114112 with h1 | h1
      · rw [Int.min_eq_left h1, this]
      · rw [Int.min_eq_right h1]
        omega
theorem numeric_min (k : Int) : Md.numeric (min k 1114112) = Md.numeric k := by
  rcases Int.le_total k 1114112 with h | h
  · rw [Int.min_eq_left h]
  · rw [Int.min_eq_right h]
    unfold Md.numeric
    rw [if_pos (by omega), if_pos (by omega)]
theorem windows_nn : ∀ i, i < 32 → 0 ≤ Md.windows.getD i 0 := by decide
theorem numeric_nn2 (k : Int) : 0 ≤ Md.numeric k := by
  unfold Md.numeric
  split
  · omega
  · split
    · exact windows_nn _ (by omega)
    · omega
theorem refs_number (k : Nat) (hk : k ≤ 100000000) : Md.all ([38, 35] ++ decS k ++ [59, 120]) = [Md.tx (Md.encode [Md.numeric k] ++ [120])] := by
  obtain ⟨hl, hne⟩ := decS_low k k (Nat.le_refl _)
  have hlen : (decS k).length ≤ k + 1 := by
    suffices h : ∀ n k : Nat, k ≤ n → (decS k).length ≤ k + 1 from h k k (Nat.le_refl _)
    intro n
    induction n with
    | zero => intro k hk; obtain rfl : k = 0 := by omega
              rw [decS, dif_pos (by omega)]; simp
    | succ n ih =>
      intro k hk
      rw [decS]
      split
      · simp
      · have := ih (k / 10) (by omega)
        rw [List.length_append, List.length_singleton]; omega
  refine Rd.start (w := 0) (nm := []) (room := false) (low_new (c := [38, 35] ++ decS k ++ [59, 120]) (by simp only [List.length_append, List.length_cons, List.length_nil]; omega)) ?_
  have hlow : ∀ c ∈ [38, 35] ++ decS k ++ [59, 120], c.toNat < 128 ∧ c.toNat ≠ 13 := fun c hc => by
    have h1 : ∀ c ∈ ([38, 35] : Md.Str), c.toNat < 128 ∧ c.toNat ≠ 13 := by decide
    have h2 : ∀ c ∈ ([59, 120] : Md.Str), c.toNat < 128 ∧ c.toNat ≠ 13 := by decide
    simp only [List.mem_append] at hc
    rcases hc with (hc | hc) | hc
    · exact h1 c hc
    · have := hl c hc; omega
    · exact h2 c hc
  rw [dec_asc hlow, asc_app, asc_app]
  show Rd 0 [] false (38 :: (35 :: (Md.asc (decS k) ++ [59, 120]))) [] _
  obtain ⟨c, m, hcm⟩ : ∃ c m, decS k = c :: m := by cases h : decS k with
    | nil => exact absurd h hne
    | cons c m => exact ⟨c, m, rfl⟩
  have hc := hl c (by rw [hcm]; simp)
  have hnum : Md.number 10 (Md.asc (decS k) ++ [59, 120]) 0 0 = (min (k : Int) 1114112, (decS k).length) := by
    rw [number_dec k k (Nat.le_refl _), Md.number, if_pos (.inl (by decide))]
  have hr : Md.refer false (35 :: (Md.asc (decS k) ++ [59, 120])) = ([Md.numeric k], (decS k).length + 2) := by
    rw [refer_dec (by rfl) (by
      rw [hcm]
      show ¬((c.toNat : Int) = 120 ∨ (c.toNat : Int) = 88)
      omega)]
    have hnum' : Md.number 10 ((35 :: (Md.asc (decS k) ++ [59, 120])).drop 1) 0 0 = (min (k : Int) 1114112, (decS k).length) := hnum
    have e59 : (35 :: (Md.asc (decS k) ++ [59, 120])).getD (1 + (decS k).length) (-1) = 59 := by
      rw [Nat.add_comm, List.getD_cons_succ, List.getD_eq_getElem?_getD, List.getElem?_append_right (by rw [asc_len]; omega), asc_len, Nat.sub_self]; rfl
    have hne0 : ¬(decS k).length = 0 := by rw [hcm]; simp
    simp only [hnum', if_neg hne0, if_pos e59, numeric_min, Prod.mk.injEq, true_and]; omega
  refine Rd.ref (.inl rfl) (by rw [hr]; simp [numeric_nn2]) ?_
  rw [hr]
  have ed : List.drop ((decS k).length + 2) (35 :: (Md.asc (decS k) ++ [59, 120])) = [120] := by
    show List.drop ((decS k).length + 1) (Md.asc (decS k) ++ [59, 120]) = _
    rw [← List.drop_drop, ← asc_len, List.drop_left]; rfl
  show Rd 0 [] false (List.drop ((decS k).length + 2) (35 :: (Md.asc (decS k) ++ [59, 120]))) _ _
  rw [ed]
  refine Rd.conv (Rd.plain (d := [120]) (by simp [okSign]) Rd.nil) rfl rfl ?_
  rw [Md.app_app, app_one (by rw [show Md.encode ([120] : List Int) = [120] from rfl]; simp)]; rfl
end Go.Proofs.YticnenofiibpgaaDoor.Code
/- The head of the lexer's laws, by a run from the start. -/
namespace Go.Proofs.YticnenofiibpgaaDoor
namespace Code
open Go.Dm
noncomputable def rhs : Option (DV × Heap) := closed D 3000 13 [] false Heap.start
theorem heads_run : okR rhs (.bool true) = true := by decide +kernel
theorem heads_both : ClC D 13 [] false Heap.start (.bool true) (heapOf rhs) ∧ Nat.ble 2 (heapOf rhs).next = true := by
  have h := heads_run
  unfold rhs at h ⊢
  exact closed_ok h
theorem sat_nil2 {h : Heap} (h2 : Nat.ble 2 h.next = true) : Sat h [] := ⟨Nat.le_of_ble_eq_true h2, fun _ hm => absurd hm List.not_mem_nil, List.Pairwise.nil⟩
theorem headSOk : ∃ h1 : Heap, ClC D 13 [] false Heap.start (.bool true) h1 ∧ Nat.ble 2 h1.next = true ∧ Sat h1 [] := ⟨_, heads_both.1, heads_both.2, sat_nil2 heads_both.2⟩
end Code
end Go.Proofs.YticnenofiibpgaaDoor
/- What LexRefs does on typed values. -/
namespace Go.Proofs.YticnenofiibpgaaDoor.Code
open Go.Dm Go.Dm.C
set_option linter.unusedSimpArgs false
set_option linter.unusedVariables false
set_option linter.unnecessarySimpa false
set_option maxRecDepth 10000
attribute [local irreducible] Go.Dm.F Go.Dm.RS Go.Dm.Y Go.Dm.FD Go.Dm.FZ1 Go.Dm.Hold
variable {R0 : List Ck}
theorem and_any (n : Int) (m : Nat) (hm : m ≤ 1000000000) : ∃ k : Nat, k ≤ m ∧ ∀ p, BI p .and .any (.int .i64 n) (.int .i64 (m : Int)) (.int .i64 (k : Int)) := by
  have hk : (BitVec.ofInt 64 n &&& BitVec.ofInt 64 (m : Int)).toNat ≤ m := by
    rw [BitVec.toNat_and]
    refine Nat.le_trans Nat.and_le_right ?_
    rw [BitVec.toNat_ofInt]; omega
  refine ⟨_, hk, fun p => .gen ?_⟩
  show some (DV.int .i64 (IntKind.i64.wrap ((BitVec.ofInt 64 n &&& BitVec.ofInt 64 (m : Int)).toNat : Int))) = _
  rw [wrap_i64_in (by omega)]
theorem shr2_any (n : Int) : ∃ m : Int, ∀ p, BI p .shr .any (.int .i64 n) (.int .u64 2) (.int .i64 m) := ⟨_, fun p => .gen rfl⟩
theorem rem5 (c : Int) (h : 0 ≤ c) : ∃ j : Nat, j < 5 ∧ ∀ p, BI p .rem .any (.int .i64 c) (.int .i64 5) (.int .i64 (j : Int)) := by
  refine ⟨(c % 5).toNat, by omega, fun p => .gen ?_⟩
  show some (DV.int .i64 (c.tmod 5)) = _
  rw [Int.tmod_eq_emod_of_nonneg h]
  congr 2; omega
theorem quo10 {k : Nat} {p : Bool} (h : k ≤ 1000000000) : BI p .quo .any (.int .i64 (k : Int)) (.int .i64 10) (.int .i64 ((k / 10 : Nat) : Int)) := .gen (by
  show some (DV.int .i64 (IntKind.i64.wrap ((k : Int).tdiv 10))) = _
  rw [Int.tdiv_eq_ediv_of_nonneg (by omega), wrap_i64_in (by omega)]; rfl)
theorem rem10 {k : Nat} {p : Bool} : BI p .rem .any (.int .i64 (k : Int)) (.int .i64 10) (.int .i64 ((k % 10 : Nat) : Int)) := .gen (by
  show some (DV.int .i64 ((k : Int).tmod 10)) = _
  rw [Int.tmod_eq_emod_of_nonneg (by omega)]; rfl)
theorem matchR_F {X : List Int} {R : Md.Str} {t z : Nat} (hX : X = Md.asc R) (hz : z = zOf t 1) (hl : R.length < 1000000) : F D 16 [.lst t z (X.map I32)] R0 (fun v cs' => Hold (∃ t', v = .tup [.lst t' (zOf t' 1) ((refM R).1.map I32), .int .i64 ((refM R).2.1 : Nat), .bool (refM R).2.2] ∧ R0 = cs')) := by
  subst hX
  exact match_F hz (by rw [asc_len]; omega)
def refNames : List Md.Str := [[97, 109, 112], [108, 116], [99, 111, 112, 121], [110, 111, 116, 105, 110], [101, 117, 114, 111], [116, 105, 109, 101, 115], [97, 112, 111, 115]]
theorem refNames_ok : ∀ i, i < 7 → lowName (refNames.getD i default) ∧ (refNames.getD i default).length ≤ 9 := by
  intro i hi
  have : ∀ i : Fin 7, (refNames.getD i.val default) ≠ [] ∧ (∀ c ∈ refNames.getD i.val default, 97 ≤ c.toNat ∧ c.toNat ≤ 122) ∧ (refNames.getD i.val default).length ≤ 9 := by decide
  have := this ⟨i, hi⟩
  exact ⟨⟨this.1, this.2.1⟩, this.2.2⟩
def refCs : Md.Str := [97, 46, 61, 53, 32]
theorem low_drop {s : Md.Str} (h : lowName s) (hl : 1 < s.length) : lowName (s.drop 1) := by
  refine ⟨fun e => ?_, fun c hc => h.2 c (List.mem_of_mem_drop hc)⟩
  have := congrArg List.length e
  rw [List.length_drop, List.length_nil] at this; omega
theorem refOk_mk {W : Md.Str} {semi : Bool} {C : UInt8} (hW : lowName W) (hl : W.length ≤ 9) (hC : C = 97 ∨ C = 46 ∨ C = 61 ∨ C = 53 ∨ C = 32) : refOk (refRs W semi C) := by
  obtain ⟨c, m, rfl⟩ : ∃ c m, W = c :: m := by cases W with
    | nil => exact absurd rfl hW.1
    | cons c m => exact ⟨c, m, rfl⟩
  have hs : (if semi then ([59] : Md.Str) else []).length ≤ 1 := by cases semi <;> decide
  refine ⟨fun x hx => ?_, ?_, ?_, by unfold refRs; simp⟩
  · unfold refRs at hx
    simp only [List.mem_append] at hx
    rcases hx with (hx | hx) | hx
    · have := hW.2 x hx; omega
    · have h59 : ∀ x ∈ (if semi then ([59] : Md.Str) else []), x = 59 := by cases semi <;> simp
      rw [h59 x hx]; decide
    · simp only [List.mem_singleton] at hx
      subst hx
      rcases hC with rfl | rfl | rfl | rfl | rfl <;> decide
  · have := hW.2 c (by simp)
    show c ≠ 35
    intro e
    subst e
    exact absurd this.1 (by decide)
  · unfold refRs
    simp only [List.length_append, List.length_singleton]; omega
def refT2 : DC := match c_woodcutlaw09_LexRefs.body with
  | .seq _ (.seq _ (.seq _ (.seq _ (.seq _ (.seq _ (.seq _ (.seq _ e))))))) => e
  | _ => .skip
def refT3 : DC := match refT2 with
  | .seq _ (.seq _ (.seq _ (.seq _ (.seq _ (.seq _ (.seq _ (.seq _ (.seq _ (.seq _ (.seq _ (.seq _ (.seq _ e)))))))))))) => e
  | _ => .skip
theorem decS_bd {k : Nat} (h : k ≤ 2097151) : (decS k).length ≤ 8 := by
  have hs : ∀ n, ∀ k, k < 10 ^ n → (decS k).length ≤ max n 1 := by
    intro n
    induction n with
    | zero => intro k hk; obtain rfl : k = 0 := by omega
              rw [decS, dif_pos (by omega)]; simp
    | succ n ih =>
      intro k hk
      rw [decS]
      split
      · simp
      · rename_i h10
        have h1 : k / 10 < 10 ^ n := by rw [Nat.pow_succ] at hk; omega
        have := ih (k / 10) h1
        have hn : n ≠ 0 := by rintro rfl; simp at h1; omega
        rw [List.length_append, List.length_singleton]; omega
  have := hs 8 k (by omega)
  omega
theorem decS_step (k : Nat) : (k / 10 = 0 ∧ decS k = [Md.byteN (48 + k % 10)]) ∨ (0 < k / 10 ∧ decS k = decS (k / 10) ++ [Md.byteN (48 + k % 10)]) := by
  by_cases h : k < 10
  · left
    rw [decS, dif_pos h, Nat.mod_eq_of_lt h]; exact ⟨by omega, rfl⟩
  · right
    refine ⟨by omega, ?_⟩
    conv => lhs; rw [decS, dif_neg h]
set_option maxHeartbeats 4000000 in
theorem refT3_R {cs : List Ck} {es : List En} {n : Int} (hsub : Dm.Sub es [(1, .int .i64 n)]) : RR D [It.code refT3] ⟨244, es, [], none⟩ cs (Dm.Fin D (fun v cs' => v = .bool true) [DRes.tmp 8]) := by
  refine RR.weak _ (RR.drop (cs' := []) (List.nil_sublist _) ?_) hsub
  obtain ⟨N, hN, hAN⟩ := and_any n 2097151 (by omega)
  dsimp only [ents]
  unfold refT3 refT2
  dsimp only [c_woodcutlaw09_LexRefs]
  repeat' first
    | (show BI _ _ _ _ _ _; first | exact hAN _) | (refine Arith.mk ?_; omega) | (refine fun (hc : _ = _) => ?_; (try simp only [BB] at hc); (try (first | contradiction | (exfalso; omega)))) | exact arI | refine Pst.mk ⟨?_, rfl⟩ (by (repeat' constructor); first | done | fail) | constructor | (refine fun _ _ (hq : Hold _) => ?_; replace hq := hq.out; obtain ⟨_, rfl, rfl⟩ := hq) | (refine fun _ _ (hq : Hold _) => ?_; replace hq := hq.out; obtain ⟨_, _, rfl, rfl⟩ := hq) | rintro _ _ ⟨rfl, rfl⟩ | rintro _ _ ⟨_, rfl, rfl⟩ | rintro _ _ ⟨_, _, rfl, rfl⟩ | (refine fun (hc : _ = _) => ?_; (try simp only [BB] at hc)) | refine fun (_ : Nat) => ?_ | refine fun (_ : _ ≤ _) => ?_ | refine fun (_ : _ < _) => ?_
  refine RS.loopW (α := Nat × Md.Str) (fun a => [(1, .int .i64 (N : Nat)), (23, .str a.2), (24, .int .i64 (a.1 : Nat))]) (fun _ => [])
    (fun a => (a.2 = [] ∧ a.1 = N) ∨ (a.2 ≠ [] ∧ 0 < a.1 ∧ a.1 ≤ N ∧ decS N = decS a.1 ++ a.2) ∨ (a.2 ≠ [] ∧ a.1 = 0 ∧ decS N = a.2)) (fun a => 2 * a.1 + (if a.2 = [] then 1 else 0)) (N, []) (.inl ⟨rfl, rfl⟩) ⟨rfl, rfl, rfl, trivial⟩ .refl ?_
  rintro ⟨k, ds⟩ hI ih
  dsimp only [ents] at *
  have hkN : k ≤ N := by rcases hI with h | h | h <;> omega
  have hdl : decS N = ds ∨ ds.length ≤ 8 := by
    have := decS_bd hN
    rcases hI with h | h | h
    · rw [h.1]; exact .inr (by decide)
    · rw [h.2.2.2, List.length_append] at this; exact .inr (by omega)
    · exact .inl h.2.2
  have hdl : ds.length ≤ 8 := by
    rcases hdl with h | h
    · rw [← h]; exact decS_bd hN
    · exact h
  have hP := refs_number N (by omega)
  repeat' first
    | (show BI _ _ _ _ _ _; first | exact quo10 (by omega) | exact rem10)
    | (show FC _ _ _ _ _; first | exact all_F rfl (by simp only [List.length_append, List.length_cons, List.length_nil]; omega) | exact numeric_F (by omega) | exact encode_F (rs := [_]) rfl (by simp))
    | (refine Arith.mk ?_; simp only [List.length_append, List.length_cons, List.length_nil]; omega) | (refine fun (hc : _ = _) => ?_; (try simp only [BB] at hc); (try (first | contradiction | (exfalso; omega)))) | exact arI | refine Pst.mk ⟨?_, rfl⟩ (by (repeat' constructor); first | done | fail) | constructor | (refine fun _ _ (hq : Hold _) => ?_; replace hq := hq.out; obtain ⟨_, rfl, rfl⟩ := hq) | (refine fun _ _ (hq : Hold _) => ?_; replace hq := hq.out; obtain ⟨_, _, rfl, rfl⟩ := hq) | rintro _ _ ⟨rfl, rfl⟩ | rintro _ _ ⟨_, rfl, rfl⟩ | rintro _ _ ⟨_, _, rfl, rfl⟩ | (refine fun (hc : _ = _) => ?_; (try simp only [BB] at hc)) | refine fun (_ : Nat) => ?_ | refine fun (_ : _ ≤ _) => ?_ | refine fun (_ : _ < _) => ?_
  · have e : UInt8.ofNat (IntKind.u8.wrap (48 + ((k % 10 : Nat) : Int))).toNat = Md.byteN (48 + k % 10) := by
      rw [wrap_u8]
      apply UInt8.toNat.inj
      rw [byteN_nat (by omega), UInt8.toNat_ofNat']
      omega
    rw [e]
    refine ih _ _ (k / 10, [Md.byteN (48 + k % 10)] ++ ds) ?_ ?_ ⟨rfl, rfl, rfl, trivial⟩ (by (repeat' constructor); first | done | fail)
    · rcases hI with ⟨rfl, rfl⟩ | ⟨h1, h2, h3, h4⟩ | ⟨h1, rfl, h3⟩
      · rcases decS_step k with ⟨g1, g2⟩ | ⟨g1, g2⟩
        · exact .inr (.inr ⟨by simp, g1, by rw [g2]; rfl⟩)
        · exact .inr (.inl ⟨by simp, g1, by dsimp only; omega, by rw [g2]; rfl⟩)
      · rcases decS_step k with ⟨g1, g2⟩ | ⟨g1, g2⟩
        · exact .inr (.inr ⟨by simp, g1, by rw [h4, g2]⟩)
        · exact .inr (.inl ⟨by simp, g1, by dsimp only; omega, by rw [h4, g2, List.append_assoc]⟩)
      · exact absurd hc (by simp [h1])
    · dsimp only
      rw [if_neg (by simp)]
      by_cases hds : ds = []
      · rw [if_pos hds]; omega
      · rw [if_neg hds]
        have := hc.resolve_right hds
        omega
  · have hds : ds = decS N := by
      rcases hI with h | h | h
      · exact absurd h.1 hc.2
      · exact absurd h.2.1 (by omega)
      · exact h.2.2.symm
    subst hds
    refine fun _ _ (hq : Hold _) => ?_
    replace hq := hq.out
    obtain ⟨tq, osq, rfl, hq0, ha, rfl⟩ := hq
    rw [hP] at ha
    simp only [List.map_eq_cons_iff, List.map_eq_nil_iff] at ha
    obtain ⟨g1, _, rfl, e1, rfl⟩ := ha
    have hel := encode_len [Md.numeric (N : Int)]
    repeat' first
      | (refine Arith.mk fun _ => ?_; simp only [List.length_append, List.length_cons, List.length_nil] at hel ⊢; omega)
      | (refine fun (hc : _ = _) => ?_; exfalso; (try simp only [BB] at hc); simp at hc; done)
      | (show FC _ _ _ _ _; first | exact numeric_F (by omega) | exact encode_F (rs := [Md.numeric N]) rfl (by simp))
      | (refine Arith.mk ?_; simp only [List.length_append, List.length_cons, List.length_nil]; omega) | (refine fun (hc : _ = _) => ?_; (try simp only [BB] at hc); (try (first | contradiction | (exfalso; omega)))) | exact arI | refine Pst.mk ⟨?_, rfl⟩ (by (repeat' constructor); first | done | fail) | constructor | (refine fun _ _ (hq : Hold _) => ?_; replace hq := hq.out; obtain ⟨_, rfl, rfl⟩ := hq) | (refine fun _ _ (hq : Hold _) => ?_; replace hq := hq.out; obtain ⟨_, _, rfl, rfl⟩ := hq) | rintro _ _ ⟨rfl, rfl⟩ | rintro _ _ ⟨_, rfl, rfl⟩ | rintro _ _ ⟨_, _, rfl, rfl⟩ | (refine fun (hc : _ = _) => ?_; (try simp only [BB] at hc)) | refine fun (_ : Nat) => ?_ | refine fun (_ : _ ≤ _) => ?_ | refine fun (_ : _ < _) => ?_
    exact Pst.mk (by simp [e1, Md.tx]) .refl
theorem asc_take {T : Md.Str} {i : Nat} (h : i < T.length) : Md.asc (T.take (i + 1)) = Md.asc (T.take i) ++ [((T.getD i 0).toNat : Int)] := by
  rw [List.take_add_one, List.getElem?_eq_getElem h, asc_app, List.getD_eq_getElem?_getD, List.getElem?_eq_getElem h]; rfl
theorem refVal_len {R : Md.Str} : (refVal R).length ≤ R.length + 9 ∧ (refWant R).length ≤ R.length + 9 := by
  have h1 := Md.matchT_len (Md.asc R)
  have h2 := encode_len (refM R).1
  have h3 : (refM R).1.length ≤ 2 := h1
  have hw : (refWant R).length ≤ R.length + 9 := by
    unfold refWant; split
    · rw [List.length_append, List.length_drop]; omega
    · rw [List.length_append]; simp only [List.length_cons, List.length_nil]; omega
  refine ⟨?_, hw⟩
  unfold refVal; split
  · rw [List.length_append]; simp only [List.length_cons, List.length_nil]; omega
  · exact hw
set_option maxHeartbeats 8000000 in
theorem refT2_R {cs : List Ck} {es : List En} {n c : Int} {W : Md.Str} {semi : Bool} (hc : 0 ≤ c ∧ c < 256) (hW : lowName W) (hWl : W.length ≤ 9) (hsub : Dm.Sub es [(1, .int .i64 n), (2, .int .u8 c), (12, .str ([38] ++ (W ++ if semi then [59] else [])))]) : RR D [It.code refT2] ⟨244, es, [], none⟩ cs (Dm.Fin D (fun v cs' => v = .bool true) [DRes.tmp 8]) := by
  refine RR.weak _ (RR.drop (cs' := []) (List.nil_sublist _) ?_) hsub
  clear hsub
  obtain ⟨j, hj, hrem⟩ := rem5 c hc.1
  obtain ⟨C, hC, hCe⟩ : ∃ C : UInt8, (C = 97 ∨ C = 46 ∨ C = 61 ∨ C = 53 ∨ C = 32) ∧ List.take (((j : Int) + 1).toNat - (j : Int).toNat) (List.drop (j : Int).toNat [97, 46, 61, 53, 32]) = [C] := by
    match j, hj with
    | 0, _ => exact ⟨97, .inl rfl, rfl⟩
    | 1, _ => exact ⟨46, .inr (.inl rfl), rfl⟩
    | 2, _ => exact ⟨61, .inr (.inr (.inl rfl)), rfl⟩
    | 3, _ => exact ⟨53, .inr (.inr (.inr (.inl rfl))), rfl⟩
    | 4, _ => exact ⟨32, .inr (.inr (.inr (.inr rfl))), rfl⟩
  have hok := refOk_mk (semi := semi) hW hWl hC
  have hs1 : (if semi then ([59] : Md.Str) else []).length ≤ 1 := by cases semi <;> decide
  obtain ⟨T, hT⟩ : ∃ T, T = W ++ (if semi then ([59] : Md.Str) else []) := ⟨_, rfl⟩
  have hR : refRs W semi C = T ++ [C] := by rw [hT]; rfl
  rw [← hT]
  rw [hR] at hok
  have hTl : T.length ≤ 10 := by rw [hT, List.length_append]; omega
  have hp1 := refs_text hok
  have hp2 := refs_value hok
  clear hT hR hs1 hW hWl
  dsimp only [ents]
  unfold refT2
  dsimp only [c_woodcutlaw09_LexRefs]
  repeat' first
    | (show BI _ _ _ _ _ _; first | exact hrem _)
    | (show FC _ _ _ _ _; first | exact all_F rfl (by rw [hCe]; simp only [List.length_append, List.length_cons, List.length_nil]; omega))
    | (refine fun _ _ (hq : Hold _) => ?_; replace hq := hq.out; obtain ⟨tq, osq, rfl, hq0, ha, rfl⟩ := hq; rw [hCe, List.append_assoc, hp1] at ha; simp only [List.map_eq_cons_iff, List.map_eq_nil_iff] at ha; obtain ⟨g1, _, rfl, e1, rfl⟩ := ha)
    | (refine Arith.mk ?_; (try rw [hCe]); simp only [List.length_append, List.length_cons, List.length_nil]; omega) | (refine fun (hc : _ = _) => ?_; (try simp only [BB] at hc); (try (first | contradiction | (exfalso; omega)))) | exact arI | refine Pst.mk ⟨?_, rfl⟩ (by (repeat' constructor); first | done | fail) | constructor | (refine fun _ _ (hq : Hold _) => ?_; replace hq := hq.out; obtain ⟨_, rfl, rfl⟩ := hq) | (refine fun _ _ (hq : Hold _) => ?_; replace hq := hq.out; obtain ⟨_, _, rfl, rfl⟩ := hq) | rintro _ _ ⟨rfl, rfl⟩ | rintro _ _ ⟨_, rfl, rfl⟩ | rintro _ _ ⟨_, _, rfl, rfl⟩ | (refine fun (hc : _ = _) => ?_; (try simp only [BB] at hc)) | refine fun (_ : Nat) => ?_ | refine fun (_ : _ ≤ _) => ?_ | refine fun (_ : _ < _) => ?_
  rename_i t5 _ t1 _
  refine RS.loopW (α := Nat × Nat) (fun a => [(1, .int .i64 n), (12, .str ([38] ++ T)), (13, .str [C]), (14, .lst tq (zOf tq 10) ([g1].map encT)), (15, .lst a.2 (zOf a.2 1) ((Md.asc (T.take a.1)).map I32)), (16, .int .i64 (a.1 : Nat))]) (fun a => [.own a.2 1 ((Md.asc (T.take a.1)).map I32)])
    (fun a => a.1 ≤ T.length) (fun a => T.length - a.1) (0, t1) (Nat.zero_le _) ⟨rfl, rfl, (by show some (DV.str _) = some (DV.str _); rw [hCe]), rfl, rfl, rfl, trivial⟩ (by (repeat' constructor); first | done | fail) ?_
  clear hCe
  rintro ⟨i, t9⟩ h1 ih
  dsimp only [ents] at *
  have hat := fun h => asc_take (T := T) (i := i) h
  have hal := asc_len (T.take i)
  rw [List.length_take] at hal
  have hSl : ([38] ++ T : Md.Str).length = T.length + 1 := by rw [List.length_append]; simp only [List.length_cons, List.length_nil]; omega
  by_cases hi : i < T.length
  · repeat' first
      | (refine Arith.mk ?_; (try rw [hSl]); omega) | (refine fun (hc : _ = _) => ?_; (try simp only [BB] at hc); (try (first | contradiction | (exfalso; omega)))) | exact arI | refine Pst.mk ⟨?_, rfl⟩ (by (repeat' constructor); first | done | fail) | constructor | (refine fun _ _ (hq : Hold _) => ?_; replace hq := hq.out; obtain ⟨_, rfl, rfl⟩ := hq) | (refine fun _ _ (hq : Hold _) => ?_; replace hq := hq.out; obtain ⟨_, _, rfl, rfl⟩ := hq) | rintro _ _ ⟨rfl, rfl⟩ | rintro _ _ ⟨_, rfl, rfl⟩ | rintro _ _ ⟨_, _, rfl, rfl⟩ | (refine fun (hc : _ = _) => ?_; (try simp only [BB] at hc)) | refine fun (_ : Nat) => ?_ | refine fun (_ : _ ≤ _) => ?_ | refine fun (_ : _ < _) => ?_
    rename_i t2
    have e := hat hi
    have e2 : (([38] ++ T : Md.Str).getD ((i : Int) + 1).toNat 0).toNat = (T.getD i 0).toNat := by
      rw [show ((i : Int) + 1).toNat = i + 1 by omega]; rfl
    rw [e2, ← e]
    exact ih _ _ (i + 1, t2) (by dsimp only; omega) (by dsimp only; omega) ⟨rfl, rfl, rfl, rfl, rfl, rfl, trivial⟩ (by (repeat' constructor); first | done | fail)
  · obtain rfl : i = T.length := by omega
    rw [List.take_length] at *
    have hrs : Md.asc T ++ [(((([C] : Md.Str).getD (Int.toNat 0) 0).toNat : Nat) : Int)] = Md.asc (T ++ [C]) := by rw [asc_app]; rfl
    have hRl : (T ++ [C]).length = T.length + 1 := by rw [List.length_append]; rfl
    obtain ⟨hv1, hv2⟩ := refVal_len (R := T ++ [C])
    have hle : (refM (T ++ [C])).2.1 ≤ (T ++ [C]).length := by have := Md.matchT_le (Md.asc (T ++ [C])); rw [asc_len] at this; exact this
    have hml : (refM (T ++ [C])).1.length ≤ 2 := Md.matchT_len (Md.asc (T ++ [C]))
    have hel := encode_len (refM (T ++ [C])).1
    have hGe : (refM (T ++ [C])).2.1 < T.length + 1 → (Md.asc (T ++ [C])).getD (refM (T ++ [C])).2.1 (-1) = (Md.asc T ++ [(C.toNat : Int)]).getD (refM (T ++ [C])).2.1 default := fun h => by
      rw [asc_app]
      show (Md.asc T ++ [(C.toNat : Int)]).getD _ _ = _
      have hl : (refM (T ++ [C])).2.1 < (Md.asc T ++ [(C.toNat : Int)]).length := by rw [List.length_append, asc_len]; exact h
      rw [List.getD_eq_getElem?_getD, List.getD_eq_getElem?_getD, List.getElem?_eq_getElem hl]; rfl
    have hLl : (Md.asc T ++ [(C.toNat : Int)]).length = T.length + 1 := by rw [List.length_append, asc_len]; rfl
    have hw1 : 0 < (refM (T ++ [C])).2.1 → refWant (T ++ [C]) = Md.encode (refM (T ++ [C])).1 ++ List.drop (1 + ((refM (T ++ [C])).2.1 : Int)).toNat ([38] ++ T ++ [C]) := fun h => by
      unfold refWant
      rw [if_pos h, show (1 + ((refM (T ++ [C])).2.1 : Int)).toNat = (refM (T ++ [C])).2.1 + 1 by omega, List.append_assoc [38]]; rfl
    have hw0 : ¬0 < (refM (T ++ [C])).2.1 → refWant (T ++ [C]) = [38] ++ T ++ [C] := fun h => by
      unfold refWant; rw [if_neg h, List.append_assoc]
    have hv : refVal (T ++ [C]) = if refOpen (T ++ [C]) then [38] ++ T ++ [C] else refWant (T ++ [C]) := by
      unfold refVal
      by_cases h : refOpen (T ++ [C])
      · rw [if_pos h, if_pos h, List.append_assoc]
      · rw [if_neg h, if_neg h]
    have ho : refOpen (T ++ [C]) ↔ 0 < (refM (T ++ [C])).2.1 ∧ (refM (T ++ [C])).2.2 = false ∧ (refM (T ++ [C])).2.1 < T.length + 1 ∧ ((Md.asc T ++ [(C.toNat : Int)]).getD (refM (T ++ [C])).2.1 default = 61 ∨ Md.letter ((Md.asc T ++ [(C.toNat : Int)]).getD (refM (T ++ [C])).2.1 default) = true ∨ Md.digit ((Md.asc T ++ [(C.toNat : Int)]).getD (refM (T ++ [C])).2.1 default) = true) := by
      unfold refOpen
      rw [hRl]
      constructor
      · rintro ⟨a, b, c, d⟩; rw [hGe c] at d; exact ⟨a, b, c, d⟩
      · rintro ⟨a, b, c, d⟩; rw [← hGe c] at d; exact ⟨a, b, c, d⟩
    clear hGe hok hp1
    generalize hM : refM (T ++ [C]) = M at *
    generalize hG : (Md.asc T ++ [(C.toNat : Int)]).getD M.2.1 default = G at *
    have split : (¬0 < M.2.1 ∧ refVal (T ++ [C]) = [38] ++ T ++ [C] ∧ refWant (T ++ [C]) = [38] ++ T ++ [C])
        ∨ (0 < M.2.1 ∧ refWant (T ++ [C]) = Md.encode M.1 ++ List.drop (1 + (M.2.1 : Int)).toNat ([38] ++ T ++ [C]) ∧
          ((M.2.2 = true ∧ refVal (T ++ [C]) = refWant (T ++ [C])) ∨ (M.2.2 = false ∧ ¬M.2.1 < T.length + 1 ∧ refVal (T ++ [C]) = refWant (T ++ [C])) ∨
            (M.2.2 = false ∧ M.2.1 < T.length + 1 ∧ ((G = 61 ∧ refVal (T ++ [C]) = [38] ++ T ++ [C]) ∨ (G ≠ 61 ∧ Md.letter G = true ∧ refVal (T ++ [C]) = [38] ++ T ++ [C]) ∨ (G ≠ 61 ∧ Md.letter G = false ∧ Md.digit G = true ∧ refVal (T ++ [C]) = [38] ++ T ++ [C]) ∨ (G ≠ 61 ∧ Md.letter G = false ∧ Md.digit G = false ∧ refVal (T ++ [C]) = refWant (T ++ [C])))))) := by
      by_cases hn : 0 < M.2.1
      · right
        refine ⟨hn, hw1 hn, ?_⟩
        cases he : M.2.2 with
        | true => exact .inl ⟨rfl, by rw [hv, if_neg (fun h => by have := (ho.1 h).2.1; rw [he] at this; cases this)]⟩
        | false =>
          right
          by_cases hl : M.2.1 < T.length + 1
          · right
            refine ⟨rfl, hl, ?_⟩
            by_cases h61 : G = 61
            · exact .inl ⟨h61, by rw [hv, if_pos (ho.2 ⟨hn, he, hl, .inl h61⟩)]⟩
            · right
              cases hlt : Md.letter G with
              | true => exact .inl ⟨h61, rfl, by rw [hv, if_pos (ho.2 ⟨hn, he, hl, .inr (.inl hlt)⟩)]⟩
              | false =>
                right
                cases hdg : Md.digit G with
                | true => exact .inl ⟨h61, rfl, rfl, by rw [hv, if_pos (ho.2 ⟨hn, he, hl, .inr (.inr hdg)⟩)]⟩
                | false => exact .inr ⟨h61, rfl, rfl, by rw [hv, if_neg (fun h => by
                    rcases (ho.1 h).2.2.2 with h | h | h
                    · exact h61 h
                    · rw [hlt] at h; cases h
                    · rw [hdg] at h; cases h)]⟩
          · exact .inl ⟨rfl, hl, by rw [hv, if_neg (fun h => hl (ho.1 h).2.2.1)]⟩
      · exact .inl ⟨hn, by rw [hv, if_neg (fun h => hn (ho.1 h).1), hw0 hn], hw0 hn⟩
    clear hw1 hw0 hv ho
    generalize refVal (T ++ [C]) = RV at *
    generalize refWant (T ++ [C]) = RW at *
    have k2 : M.2.2 = M.2.2 := rfl
    have k3 : True := trivial
    have k4 : True := trivial
    have k5 : True := trivial
    have k6 : True := trivial
    rcases split with ⟨k1, kv, kw⟩ | ⟨k1, kw, ⟨k2, kv⟩ | ⟨k2, k3, kv⟩ | ⟨k2, k3, ⟨k4, kv⟩ | ⟨k4, k5, kv⟩ | ⟨k4, k5, k6, kv⟩ | ⟨k4, k5, k6, kv⟩⟩⟩
    all_goals
      (try rw [kw] at kv)
      rw [kw] at e1 hv2
      rw [kv] at hp2 hv1
      clear kv kw
      have n1 : (((M.2.1 : Nat) : Int) > 0) = (0 < M.2.1) := propext (by omega)
      have n3 : (((M.2.1 : Nat) : Int) < (((Md.asc T ++ [(C.toNat : Int)]).length : Nat) : Int)) = (M.2.1 < T.length + 1) := propext (by rw [hLl]; omega)
    all_goals repeat' first
      | (show RR D (It.code refT3 :: _) _ _ _; exact refT3_R ⟨rfl, trivial⟩)
      | (refine fun (hc : _ = _) => ?_; exfalso; (try simp only [BB] at hc); (try simp only [hG, n1, n3, k1, k2, k3, k4, k5, k6] at hc); first | (simp at hc; done) | (simp [e1, Md.tx] at hc; done))
      | (refine fun (hc : _ = _) => ?_; exfalso; (try simp only [BB] at hc); (try simp only [hG, n1, n3, k1, k2, k3, k4, k5, k6] at hc); simp [e1, e2, Md.tx, startTok] at hc; done)
      | (refine fun (hc : _ = _) => ?_; exfalso; (try simp only [BB] at hc); (try simp only [hG, n1, n3, k1, k2, k3, k4, k5, k6] at hc); omega)
      | (refine Arith.mk fun hp => ?_; (try simp only [BB]); simp only [hG]; simp [k4, k5, k6]; done)
      | (refine Arith.mk fun hp => ?_; exfalso; (try simp only [BB] at hp); (try simp only [hG, n1, n3, k1, k2, k3, k4, k5, k6] at hp); first | (simp at hp; done) | omega)
      | (refine fun _ _ (hq : Hold _) => ?_; replace hq := hq.out; obtain ⟨t', rfl, rfl⟩ := hq; (try rw [hM]))
      | (show FC _ _ _ _ _; first | exact matchR_F (R := T ++ [C]) hrs rfl (by omega) | exact encode_F rfl (by omega) | exact letter_F | exact digit_F | exact all_F rfl (by simp only [List.length_append, List.length_cons, List.length_nil]; omega))
      | (refine Arith.mk ?_; (try simp only [List.length_append, List.length_cons, List.length_nil, List.length_drop]); omega) | (refine fun (hc : _ = _) => ?_; (try simp only [BB] at hc); (try (first | contradiction | (exfalso; omega)))) | exact arI | refine Pst.mk ⟨?_, rfl⟩ (by (repeat' constructor); first | done | fail) | constructor | (refine fun _ _ (hq : Hold _) => ?_; replace hq := hq.out; obtain ⟨_, rfl, rfl⟩ := hq) | (refine fun _ _ (hq : Hold _) => ?_; replace hq := hq.out; obtain ⟨_, _, rfl, rfl⟩ := hq) | rintro _ _ ⟨rfl, rfl⟩ | rintro _ _ ⟨_, rfl, rfl⟩ | rintro _ _ ⟨_, _, rfl, rfl⟩ | (refine fun (hc : _ = _) => ?_; (try simp only [BB] at hc)) | refine fun (_ : Nat) => ?_ | refine fun (_ : _ ≤ _) => ?_ | refine fun (_ : _ < _) => ?_
      | (refine fun _ _ (hq : Hold _) => ?_; replace hq := hq.out; obtain ⟨tq, osq, rfl, hq0, ha, rfl⟩ := hq; simp only [List.append_assoc] at ha; simp only [List.append_assoc] at hp2; rw [hp2] at ha; simp only [List.map_eq_cons_iff, List.map_eq_nil_iff] at ha; obtain ⟨g2, _, rfl, e2, rfl⟩ := ha)
    all_goals trace_state
end Go.Proofs.YticnenofiibpgaaDoor.Code
/-
set_option maxHeartbeats 8000000 in
theorem refsLaw {nm : Md.Str} {n c how : Int} (hc : 0 ≤ c ∧ c < 256) : F0 D 3 [.str nm, .int .i64 n, .int .u8 c, .int .i64 how] Heap.start (fun v cs' => v = .bool true) := by
  obtain ⟨hp1, c1, n1, s1⟩ := headSOk
  obtain ⟨a1, ha1, hA1⟩ := and_any how 1 (by omega)
  obtain ⟨a2, ha2, hA2⟩ := and_any how 2 (by omega)
  obtain ⟨h2, hsh⟩ := shr2_any how
  obtain ⟨a7, ha7, hA7⟩ := and_any h2 7 (by omega)
  obtain ⟨N, hN, hAN⟩ := and_any n 2097151 (by omega)
  obtain ⟨j, hj, hrem⟩ := rem5 c hc.1
  have hwl : (Md.word9 nm).length ≤ 9 := by unfold Md.word9; simp only [List.length_cons, List.length_map, List.length_take]; omega
  have hwo := word9_low nm
  refine F0.of rfl rfl rfl ?_
  repeat' first
    | exact c1 | exact n1 | (refine R0.onP s1 ?_) | (show BI _ _ _ _ _ _; first | exact hA1 _ | exact hA2 _ | exact hA7 _ | exact hAN _ | exact hsh _ | exact hrem _)
    | (show FC _ _ _ _ _; first | exact word9_F) | (refine Arith.mk ?_; omega) | (refine fun (hc : _ = _) => ?_; (try simp only [BB] at hc); (try (first | contradiction | (exfalso; omega)))) | exact arI | refine Pst.mk ⟨?_, rfl⟩ (by (repeat' constructor); first | done | fail) | constructor | (refine fun _ _ (hq : Hold _) => ?_; replace hq := hq.out; obtain ⟨_, rfl, rfl⟩ := hq) | (refine fun _ _ (hq : Hold _) => ?_; replace hq := hq.out; obtain ⟨_, _, rfl, rfl⟩ := hq) | rintro _ _ ⟨rfl, rfl⟩ | rintro _ _ ⟨_, rfl, rfl⟩ | rintro _ _ ⟨_, _, rfl, rfl⟩ | (refine fun (hc : _ = _) => ?_; (try simp only [BB] at hc)) | refine fun (_ : Nat) => ?_ | refine fun (_ : _ ≤ _) => ?_ | refine fun (_ : _ < _) => ?_
  · exact Pst.mk rfl .refl
  all_goals
    obtain ⟨W0, hW0, hW0l, hW0e⟩ : ∃ W0, lowName W0 ∧ W0.length ≤ 9 ∧ ((a1 = 1 ∧ 1 < (Md.word9 nm).length) → W0 = (Md.word9 nm).drop 1) ∧ (¬(a1 = 1 ∧ 1 < (Md.word9 nm).length) → W0 = Md.word9 nm) := by
      by_cases h : a1 = 1 ∧ 1 < (Md.word9 nm).length
      · exact ⟨_, low_drop hwo h.2, by rw [List.length_drop]; omega, fun _ => rfl, fun h' => absurd h h'⟩
      · exact ⟨_, hwo, hwl, fun h' => absurd h' h, fun _ => rfl⟩
  · obtain rfl := hW0e.1 (by omega)
    rename_i t7 _
    refine RS.loopW (α := Nat × Md.Str) (fun a => [(1, .int .i64 n), (2, .int .u8 c), (3, .int .i64 how), (43, .lst t7 (zOf t7 1) (refNames.map DV.str)), (44, .int .i64 7), (45, .int .i64 (a.1 : Nat)), (9, .str a.2)]) (fun _ => [])
      (fun a => a.1 ≤ 7 ∧ lowName a.2 ∧ a.2.length ≤ 9) (fun a => 7 - a.1) (0, (Md.word9 nm).drop 1) ⟨Nat.zero_le _, hW0, hW0l⟩ ⟨rfl, rfl, rfl, rfl, rfl, rfl, rfl, trivial⟩ (by (repeat' constructor); first | done | fail) ?_
    rintro ⟨i, W⟩ ⟨h1, hW, hWl⟩ ih
    dsimp only [ents] at *
    exact refsRest
  all_goals trace_state
end Go.Proofs.YticnenofiibpgaaDoor.Code

-/
/- What LexRefs does on typed values: up to the tails. -/
namespace Go.Proofs.YticnenofiibpgaaDoor.Code
open Go.Dm Go.Dm.C
set_option linter.unusedSimpArgs false
set_option linter.unusedVariables false
set_option linter.unnecessarySimpa false
set_option maxRecDepth 10000
attribute [local irreducible] Go.Dm.F Go.Dm.RS Go.Dm.Y Go.Dm.FD Go.Dm.FZ1 Go.Dm.Hold
set_option maxHeartbeats 4000000 in
theorem refsLaw {nm : Md.Str} {n c how : Int} (hcc : 0 ≤ c ∧ c < 256) : F0 D 3 [.str nm, .int .i64 n, .int .u8 c, .int .i64 how] Heap.start (fun v cs' => v = .bool true) := by
  obtain ⟨hp1, c1, n1, s1⟩ := headSOk
  obtain ⟨a1, ha1, hA1⟩ := and_any how 1 (by omega)
  obtain ⟨a2, ha2, hA2⟩ := and_any how 2 (by omega)
  obtain ⟨h2, hsh⟩ := shr2_any how
  obtain ⟨a7, ha7, hA7⟩ := and_any h2 7 (by omega)
  have hwl : (Md.word9 nm).length ≤ 9 := by unfold Md.word9; simp only [List.length_cons, List.length_map, List.length_take]; omega
  have hwo := word9_low nm
  refine F0.of rfl rfl rfl ?_
  repeat' first
    | exact c1 | exact n1 | (refine R0.onP s1 ?_) | (show BI _ _ _ _ _ _; first | exact hA1 _)
    | (show FC _ _ _ _ _; first | exact word9_F) | (refine Arith.mk ?_; omega) | (refine fun (hc : _ = _) => ?_; (try simp only [BB] at hc); (try (first | contradiction | (exfalso; omega)))) | exact arI | refine Pst.mk ⟨?_, rfl⟩ (by (repeat' constructor); first | done | fail) | constructor | (refine fun _ _ (hq : Hold _) => ?_; replace hq := hq.out; obtain ⟨_, rfl, rfl⟩ := hq) | (refine fun _ _ (hq : Hold _) => ?_; replace hq := hq.out; obtain ⟨_, _, rfl, rfl⟩ := hq) | rintro _ _ ⟨rfl, rfl⟩ | rintro _ _ ⟨_, rfl, rfl⟩ | rintro _ _ ⟨_, _, rfl, rfl⟩ | (refine fun (hc : _ = _) => ?_; (try simp only [BB] at hc)) | refine fun (_ : Nat) => ?_ | refine fun (_ : _ ≤ _) => ?_ | refine fun (_ : _ < _) => ?_
  · exact Pst.mk rfl .refl
  · rename_i t7 _
    have hW0 := low_drop hwo (by omega)
    have hW0l : ((Md.word9 nm).drop 1).length ≤ 9 := by rw [List.length_drop]; omega
    refine RS.loopW (α := Nat × Md.Str) (fun a => [(1, .int .i64 n), (2, .int .u8 c), (3, .int .i64 how), (43, .lst t7 (zOf t7 1) (refNames.map DV.str)), (44, .int .i64 7), (45, .int .i64 (a.1 : Nat)), (9, .str a.2)]) (fun _ => [])
      (fun a => a.1 ≤ 7 ∧ lowName a.2 ∧ a.2.length ≤ 9) (fun a => 7 - a.1) (0, (Md.word9 nm).drop 1) ⟨Nat.zero_le _, hW0, hW0l⟩ ⟨rfl, rfl, rfl, rfl, rfl, rfl, rfl, trivial⟩ (by (repeat' constructor); first | done | fail) ?_
    rintro ⟨i, W⟩ ⟨h1, hW, hWl⟩ ih
    dsimp only [ents] at *
    have hno := refNames_ok i
    have hnl : refNames.length = 7 := rfl
    repeat' first
      | (show RR D (It.code refT2 :: _) _ _ _; first | exact refT2_R (semi := true) hcc hW hWl ⟨rfl, rfl, congrArg (fun x => some (DV.str x)) (List.append_assoc [38] W [59]), trivial⟩ | exact refT2_R (semi := false) hcc hW hWl ⟨rfl, rfl, congrArg (fun x => some (DV.str ([38] ++ x))) (List.append_nil W).symm, trivial⟩)
      | (show BI _ _ _ _ _ _; first | exact hA7 _ | exact hsh _ | exact hA2 _)
      | (refine Arith.mk ?_; (try simp only [List.length_append, List.length_cons, List.length_nil]); omega) | (refine fun (hc : _ = _) => ?_; (try simp only [BB] at hc); (try (first | contradiction | (exfalso; omega)))) | exact arI | refine Pst.mk ⟨?_, rfl⟩ (by (repeat' constructor); first | done | fail) | constructor | (refine fun _ _ (hq : Hold _) => ?_; replace hq := hq.out; obtain ⟨_, rfl, rfl⟩ := hq) | (refine fun _ _ (hq : Hold _) => ?_; replace hq := hq.out; obtain ⟨_, _, rfl, rfl⟩ := hq) | rintro _ _ ⟨rfl, rfl⟩ | rintro _ _ ⟨_, rfl, rfl⟩ | rintro _ _ ⟨_, _, rfl, rfl⟩ | (refine fun (hc : _ = _) => ?_; (try simp only [BB] at hc)) | refine fun (_ : Nat) => ?_ | refine fun (_ : _ ≤ _) => ?_ | refine fun (_ : _ < _) => ?_
    · exact ih _ _ (i + 1, refNames.getD i default) ⟨by dsimp only; omega, (hno (by omega)).1, (hno (by omega)).2⟩ (by dsimp only; omega) ⟨rfl, rfl, rfl, rfl, rfl, rfl, rfl, trivial⟩ (by (repeat' constructor); first | done | fail)
    · exact ih _ _ (i + 1, W) ⟨by dsimp only; omega, hW, hWl⟩ (by dsimp only; omega) ⟨rfl, rfl, rfl, rfl, rfl, rfl, rfl, trivial⟩ (by (repeat' constructor); first | done | fail)
  · rename_i t7 _
    have hW0 := hwo
    have hW0l := hwl
    refine RS.loopW (α := Nat × Md.Str) (fun a => [(1, .int .i64 n), (2, .int .u8 c), (3, .int .i64 how), (43, .lst t7 (zOf t7 1) (refNames.map DV.str)), (44, .int .i64 7), (45, .int .i64 (a.1 : Nat)), (9, .str a.2)]) (fun _ => [])
      (fun a => a.1 ≤ 7 ∧ lowName a.2 ∧ a.2.length ≤ 9) (fun a => 7 - a.1) (0, Md.word9 nm) ⟨Nat.zero_le _, hW0, hW0l⟩ ⟨rfl, rfl, rfl, rfl, rfl, rfl, rfl, trivial⟩ (by (repeat' constructor); first | done | fail) ?_
    rintro ⟨i, W⟩ ⟨h1, hW, hWl⟩ ih
    dsimp only [ents] at *
    have hno := refNames_ok i
    have hnl : refNames.length = 7 := rfl
    repeat' first
      | (show RR D (It.code refT2 :: _) _ _ _; first | exact refT2_R (semi := true) hcc hW hWl ⟨rfl, rfl, congrArg (fun x => some (DV.str x)) (List.append_assoc [38] W [59]), trivial⟩ | exact refT2_R (semi := false) hcc hW hWl ⟨rfl, rfl, congrArg (fun x => some (DV.str ([38] ++ x))) (List.append_nil W).symm, trivial⟩)
      | (show BI _ _ _ _ _ _; first | exact hA7 _ | exact hsh _ | exact hA2 _)
      | (refine Arith.mk ?_; (try simp only [List.length_append, List.length_cons, List.length_nil]); omega) | (refine fun (hc : _ = _) => ?_; (try simp only [BB] at hc); (try (first | contradiction | (exfalso; omega)))) | exact arI | refine Pst.mk ⟨?_, rfl⟩ (by (repeat' constructor); first | done | fail) | constructor | (refine fun _ _ (hq : Hold _) => ?_; replace hq := hq.out; obtain ⟨_, rfl, rfl⟩ := hq) | (refine fun _ _ (hq : Hold _) => ?_; replace hq := hq.out; obtain ⟨_, _, rfl, rfl⟩ := hq) | rintro _ _ ⟨rfl, rfl⟩ | rintro _ _ ⟨_, rfl, rfl⟩ | rintro _ _ ⟨_, _, rfl, rfl⟩ | (refine fun (hc : _ = _) => ?_; (try simp only [BB] at hc)) | refine fun (_ : Nat) => ?_ | refine fun (_ : _ ≤ _) => ?_ | refine fun (_ : _ < _) => ?_
    · exact ih _ _ (i + 1, refNames.getD i default) ⟨by dsimp only; omega, (hno (by omega)).1, (hno (by omega)).2⟩ (by dsimp only; omega) ⟨rfl, rfl, rfl, rfl, rfl, rfl, rfl, trivial⟩ (by (repeat' constructor); first | done | fail)
    · exact ih _ _ (i + 1, W) ⟨by dsimp only; omega, hW, hWl⟩ (by dsimp only; omega) ⟨rfl, rfl, rfl, rfl, rfl, rfl, rfl, trivial⟩ (by (repeat' constructor); first | done | fail)
end Go.Proofs.YticnenofiibpgaaDoor.Code
/- 'woodcutlaw09.LexRefs' returns true for every input; and its card. -/
namespace Go.Proofs.YticnenofiibpgaaDoor.lexRefs
set_option linter.unusedSimpArgs false
set_option linter.unusedVariables false
set_option linter.unnecessarySimpa false
open Go.ChangeShapes Go.WideShapes Go.ChangeAt Go.RowKit

theorem own : ownKnob Tryd.prog.godebug = none := by kernel_rfl
theorem gTab : Tryd.prog.globalNamed "woodcut/chars.windows" = some 0 := by kernel_rfl
theorem gTabType : (Tryd.prog.globals[0]?).map (·.type) = some 69 := by kernel_rfl
theorem cells33 : Tryd.prog.cellsOf 69 = 32 := by kernel_rfl
theorem cells21 : Tryd.prog.cellsOf 21 = 1 := by kernel_rfl

theorem table {W : World} (h : laidMetH Tryd.prog Rows.lexRefsRow.laid W) : Lib.TabIs Tryd.prog W "woodcut/chars.windows" .i32 Code.windows :=
  Lib.tabIs_of_head (rest := []) gTab gTabType Tryd.underlying69 Tryd.underlying21 cells21 cells33 h

theorem globOk {W : World} (h : Lib.TabIs Tryd.prog W "woodcut/chars.windows" .i32 Code.windows) : Dm.GlobOk Code.D (Dm.Cor.start W) := by
  refine ⟨fun g cs hg x hx => ?_, fun g cs hg => ?_⟩
  · simp only [Code.D, Code.glob] at hg
    split at hg <;> cases hg
    obtain ⟨z, _, rfl⟩ := List.mem_map.1 hx
    rfl
  · simp only [Code.D, Code.glob] at hg
    split at hg <;> cases hg
    rename_i hg0
    obtain rfl := Nat.eq_of_beq_eq_true hg0
    refine ⟨Code.windows.map (Value.int .i32), ?_, fun j x hj => ?_⟩
    · generalize Code.windows = ws
      induction ws with
      | nil => exact .nil
      | cons z zs ih => exact .cons (.int _ _) ih
    · show W.cell? ⟨0, j, none⟩ = some x
      have hlt : j < Code.windows.length := by have := (List.getElem?_eq_some_iff.1 hj).1; simpa using this
      have hc := h.cell gTab j hlt
      rw [hc]
      rw [List.getElem?_map, List.getElem?_eq_getElem hlt] at hj
      rw [List.getD_eq_getElem?_getD, List.getElem?_eq_getElem hlt]
      simpa using hj

theorem tys : Dm.tyB Tryd.prog [9, 3, 5, 4, 21] = true := by kernel_rfl
theorem run (dvs : List Dm.DV) (h : Dm.TAs Tryd.prog Tryd.f3.params.toList dvs) : Dm.F0 Code.D 3 dvs Dm.Heap.start (fun v _ => v = .bool true) := by
  rw [Tryd.params3] at h
  cases h with | @cons _ c0 _ _ h0 h =>
  cases h with | @cons _ c1 _ _ h1 h =>
  cases h with | @cons _ c2 _ _ h2 h =>
  cases h with | @cons _ c3 _ _ h3 h =>
  cases h
  obtain ⟨s, e0, _⟩ := Dm.TC.strV Tryd.underlying9 h0
  obtain ⟨n, e1, _⟩ := Dm.TC.intV Tryd.underlying3 h1
  obtain ⟨c, e2, _, hw⟩ := Dm.TC.intV Tryd.underlying5 h2
  obtain ⟨m, e3, _⟩ := Dm.TC.intV Tryd.underlying3 h3
  rw [e0, e1, e2, e3]
  exact Code.refsLaw (nm := s) (n := n) (c := c) (how := m) (by have h9 : 0 ≤ c ∧ c ≤ 255 := (by simpa [Lit.wf, IntKind.min, IntKind.max, IntKind.signed, IntKind.bits] using hw); omega)

set_option maxRecDepth 100000 in
theorem contract (H : Type) (enc : TypeId × Value → H) (W : World) (base : Nat) (args : Array Value) (ds gs : List (DataW H)) (before : List MemPlace)
    (hval : ∀ (j : Nat) t v, Tryd.f3.params[j]? = some t → args[j]? = some v → Value.okWide Tryd.prog W .any base t v)
    (hW : DataW.Whole enc Tryd.prog Tryd.f3.params.toList Rows.lexRefsSpec.vars false W args.toList ds gs before) (hL : laidMetH Tryd.prog Rows.lexRefsRow.laid W) :
    Calls Tryd.prog 3 args W fun e W' => ∃ v, e = .returned v ∧ Rows.lexRefsSpec.post enc Tryd.prog Tryd.f3 false true false false W args v W' := by
  refine Dm.contract_gen (D := Code.D) (cfg := Code.cfg) tys Code.hm Code.hD Code.hP (by kernel_rfl) rfl (tb := 4) Tryd.underlying4 rfl ?_ run W args ds gs before hval hW (globOk (table hL))
  intro ds hd
  rw [Tryd.params3] at hd
  match ds, hd with
  | [d0, d1, d2, d3], _ => rfl

noncomputable def laidWorld (os : Os) : World :=
  { World.holding Tryd.prog os ⟨#[], #[], []⟩ with heap := (World.holding Tryd.prog os ⟨#[], #[], []⟩).heap.modify 0 fun
      | .cells _ t frozen => .cells (Code.windows.map (Value.int .i32)).toArray t frozen
      | o => o }
theorem laid_met (os : Os) : laidMet Tryd.prog Rows.lexRefsRow.laid ((laidWorld os).forCall (fun _ _ => 0) ⟨#[], #[.string ⟨#[]⟩, .int .i64 0, .int .u8 0, .int .i64 0], []⟩).memory :=
  laidMet_of_run' 8 (by kernel_rfl) (by kernel_rfl)
theorem reads (os : Os) {H : Type} (enc : TypeId × Value → H) : ∃ places, DataW.whole enc Tryd.prog ((laidWorld os).forCall (fun _ _ => 0) ⟨#[], #[.string ⟨#[]⟩, .int .i64 0, .int .u8 0, .int .i64 0], []⟩).memory Tryd.f3.params.toList Rows.lexRefsSpec.vars false #[.string ⟨#[]⟩, .int .i64 0, .int .u8 0, .int .i64 0].toList 8 = some ([.lit (.string []), .lit (.int .i64 0), .lit (.int .u8 0), .lit (.int .i64 0)], [], places) :=
  ⟨[], by kernel_rfl⟩

set_option maxRecDepth 100000 in
theorem lifted (os : Os) (started : os.Started) (H : Type) (enc : TypeId × Value → H) (F : Stop.Interp) :
    ReturnsInHanded {} Tryd.checked os 3 .any ((OpenSpec.ofChange Rows.lexRefsSpec).preRow enc Tryd.prog Tryd.f3 Rows.lexRefsRow.domain false Rows.lexRefsRow.laid) (((OpenSpec.ofChange Rows.lexRefsSpec).at F).post enc Tryd.prog Tryd.f3 false true false false) := by
  obtain ⟨places, hx⟩ := reads os enc
  refine returnsInHanded_of_row (C := Tryd.checked) (s := OpenSpec.ofChange Rows.lexRefsSpec) own started (by kernel_rfl) Tryd.func3
    (witness_row_at (enc := enc) (C := Tryd.checked) false (laidWorld os) #[.string ⟨#[]⟩, .int .i64 0, .int .u8 0, .int .i64 0] rfl (by kernel_rfl) (by kernel_rfl) (by kernel_rfl)
      (OpenSpec.preRow_of_cond 8 hx (by kernel_rfl) (fun k hk => by cases hk) (by kernel_rfl) (laid_met os))) ?_
  intro W base args ds gs before hval hW _ _ _ hL _ _
  exact contract H enc W base args ds gs before hval hW hL

theorem said : Rows.LexRefsSaid :=
  OpenClaim.holds_of_cond 3 Tryd.f3 rfl rfl rfl rfl rfl rfl rfl ⟨rfl, rfl, rfl, rfl, rfl⟩ rfl rfl rfl rfl rfl (by kernel_rfl) Tryd.func3 (by kernel_rfl)
    (of_decide_eq_true (by kernel_rfl)) (by unfold Func.isWrapper; first | (rw [if_pos (by decide +kernel)]; kernel_rfl) | (rw [if_neg (by decide +kernel)]; exact ⟨rfl, rfl⟩))
    (fun os started H enc _ F => by rw [OpenClaim.pre_eq_preRow]; exact lifted os started H enc F)

theorem plain (f : FuncId) (fn : Func) (hf : Tryd.pinned.checked.prog.funcNamed "woodcut/woodcutlaw09.LexRefs" = some f) (hfn : Tryd.pinned.checked.prog.funcs[f]? = some fn) :
    false = Tryd.pinned.checked.prog.looks [] ∧ ∀ (j : Nat) t, fn.params[j]? = some t → Tryd.pinned.checked.prog.wantsStandIn t = false := by
  obtain rfl : f = 3 := Option.some.inj ((show Tryd.prog.funcNamed "woodcut/woodcutlaw09.LexRefs" = some 3 by kernel_rfl).symm.trans hf) |>.symm
  obtain rfl : fn = Tryd.f3 := (Option.some.inj (Tryd.func3.symm.trans hfn)).symm
  refine ⟨by kernel_rfl, fun j t ht => ?_⟩
  rw [Tryd.params3] at ht
  have hall : [9, 3, 5, 3].all (fun t => Tryd.prog.wantsStandIn t == false) = true := by kernel_rfl
  have hmem : t ∈ [9, 3, 5, 3] := by have := Array.mem_of_getElem? ht; simpa using this
  exact eq_of_beq (List.all_eq_true.1 hall t hmem)

theorem card : Rows.LexRefsCardSaid :=
  Claim7.holds_tied_plain_at .later [] _ _ _ _ said (fun _ h => by cases h) (by kernel_rfl) (fun _ h => by cases h) lexRefs_row_tie rfl ⟨rfl, rfl⟩ (by kernel_rfl) rfl plain (by kernel_rfl)
end Go.Proofs.YticnenofiibpgaaDoor.lexRefs
