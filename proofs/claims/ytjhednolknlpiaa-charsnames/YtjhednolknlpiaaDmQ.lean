/- The D-machine (17): append, copy, clear. -/
import Derived.Test.YtjhednolknlpiaaDmP
import Derived.Room.Entries
namespace Go.Dm
set_option linter.unusedSimpArgs false
set_option linter.unusedVariables false
set_option linter.unnecessarySimpa false

theorem group_spec {sh : Shape} (hpos : 0 < sh.size) : ∀ (n : Nat) (cs : List DV), cs.length = n * sh.size → (∀ x ∈ cs, x.one = true) → flat (group sh n cs) = cs ∧ (∀ x ∈ group sh n cs, x.cells.length = sh.size) ∧ (group sh n cs).length = n ∧ ∀ x ∈ group sh n cs, x.okv = true
  | 0, cs, hl, _ => by
    have : cs = [] := List.eq_nil_of_length_eq_zero (by simpa using hl)
    subst this; simp [group, flat]
  | n + 1, cs, hl, ho => by
    have hl' : cs.length = n * sh.size + sh.size := by rw [hl, Nat.succ_mul]
    obtain ⟨h1, h2, h3, h4⟩ := group_spec hpos n (cs.drop sh.size) (by simp; omega) (fun x hx => ho x (List.mem_of_mem_drop hx))
    have hhead : ∃ d, mkv sh (cs.take sh.size) = some d ∧ d.cells = cs.take sh.size ∧ d.okv = true := by
      cases sh with
      | some k => exact ⟨.agg (cs.take k), rfl, rfl, rfl⟩
      | none =>
        have : Shape.size none = 1 := rfl
        rw [this] at hl' ⊢
        cases cs with
        | nil => simp at hl'
        | cons x cs =>
          have hx := ho x (by simp)
          refine ⟨x, rfl, ?_, ?_⟩
          · cases x <;> simp_all [DV.cells, DV.one]
          · cases x <;> simp_all [DV.okv, DV.one]
    obtain ⟨d, hd1, hd2, hd3⟩ := hhead
    simp only [group, hd1, Option.getD_some]
    refine ⟨?_, ?_, by simp [h3], ?_⟩
    · simp only [flat, List.flatMap_cons, hd2] at h1 ⊢
      rw [h1, List.take_append_drop]
    · intro x hx
      rcases List.mem_cons.1 hx with rfl | hx
      · rw [hd2]; simp; omega
      · exact h2 x hx
    · intro x hx
      rcases List.mem_cons.1 hx with rfl | hx
      · exact hd3
      · exact h4 x hx

section
variable {P : Program} {CC : Code → DC → Prop} {base : Nat} {c : Cor} {h : Heap} {w : World}

theorem bytes_cells {s : List UInt8} : byteCells ⟨s.toArray⟩ = s.map fun b => Value.int .u8 b.toNat := by simp [byteCells]

/-- What an operand yields, read as elements. -/
structure Reads (P : Program) (c : Cor) (w : World) (size : Nat) (vy : Value) (ys : List DV) (news : List Value) : Prop where
  sz : ∀ x ∈ ys, x.cells.length = size
  rel : VRels c (flat ys) news
  one : ∀ x ∈ flat ys, x.one = true
  len : ∀ w' : World, (Builtin.lenOf vy).run P w' = .ok ys.length w'
  cells : ∀ w' : World, w'.heap = w.heap → ∀ m, m ≤ ys.length → (Builtin.firstCells size m vy).run P w' = .ok (news.take (m * size)).toArray w'
theorem Reads.news_len {size : Nat} {vy : Value} {ys : List DV} {news : List Value} (r : Reads P c w size vy ys news) : news.length = ys.length * size := by rw [← r.rel.length_eq, flat_length _ r.sz]
theorem Reads.src {size : Nat} {vy : Value} {ys : List DV} {news : List Value} (r : Reads P c w size vy ys news) {tx : TypeId} (hk : (∃ e', P.underlying tx = some (.slice e')) ∨ P.underlying tx = some .string) : Src P size tx vy ys.length news w := by
  have hn := r.news_len
  refine ⟨hk, r.len, ?_, ?_, hn, r.rel.all_one r.one⟩
  · have := r.cells w rfl ys.length (Nat.le_refl _)
    rwa [← hn, List.take_length] at this
  · have := r.cells w.drew rfl ys.length (Nat.le_refl _)
    rwa [← hn, List.take_length] at this

theorem cells_take {a : Addr} {vs : List Value} {w' : World} (hb : a.spot = none) (h : ∀ (j : Nat) (x : Value), vs[j]? = some x → w'.cell? ⟨a.block, a.off + j, none⟩ = some x) (m : Nat) (len cap size : Nat) (hm : m * size ≤ vs.length) :
    (Builtin.firstCells size m (.slice (some a) len cap)).run P w' = .ok (vs.take (m * size)).toArray w' := by
  obtain ⟨b, o, s⟩ := a
  simp only at hb h
  subst hb
  exact run_firstCells_some w' size m ⟨b, o, none⟩ len cap _ (by simp; omega) fun j v hj => by
    rw [add_plain]
    refine h j v ?_
    rw [List.getElem?_take] at hj
    split at hj
    · exact hj
    · cases hj

theorem elems_rel (hS : Sim CC base c h w.heap) {sh : Shape} (hpos : 0 < sh.size) {y : DV} {vy : Value} (hy : VRel c y vy) {ys : List DV} (he : elems h sh y = some ys) : ∃ news, Reads P c w sh.size vy ys news := by
  cases y <;> simp only [elems] at he <;> try (cases he; done)
  case lst t sz xs =>
    split at he
    case isFalse => cases he
    rename_i hz
    obtain rfl : xs = ys := by simpa using he
    obtain ⟨a, cap, vs, q1, q2, q3, qo, q4, q5, q6, q7, q8, rfl⟩ := hy.lst_inv
    have hxs : ∀ y ∈ xs, y.cells.length = sh.size := by
      rcases hz with h0 | h0
      · obtain ⟨_, hc0⟩ := q6 h0
        have : xs = [] := List.eq_nil_of_length_eq_zero (by omega)
        subst this; simp
      · subst h0; exact q2
    have hvl : vs.length = xs.length * sh.size := by rw [← q3.length_eq, flat_length _ hxs]
    refine ⟨vs, hxs, q3, qo, fun _ => rfl, fun w' hw m hm => ?_⟩
    cases a with
    | none =>
      have : xs = [] := by
        cases hxs' : xs with
        | nil => rfl
        | cons x xs1 => obtain ⟨b, o, e, _⟩ := q4 (by simp [hxs']); cases e
      subst this
      have hvs : vs = [] := List.eq_nil_of_length_eq_zero (by simpa using hvl)
      subst hvs
      simp [Builtin.firstCells]
    | some a =>
      by_cases hne : xs = []
      · subst hne
        have hvs : vs = [] := List.eq_nil_of_length_eq_zero (by simpa using hvl)
        subst hvs
        have : m = 0 := by simpa using hm
        subst this
        simp [Builtin.firstCells, loadCells, loadCellsFrom]
      · obtain ⟨b, o, e, hp⟩ := q4 hne
        cases e
        refine cells_take rfl (fun j x hj => ?_) m _ _ _ (by rw [hvl]; exact Nat.mul_le_mul_right _ hm)
        obtain ⟨ws, ty, f, hb, hc⟩ := hS.prot _ _ _ (hp j x hj)
        simp [World.cell?, hw, hb, hc]
  case str s =>
    split at he
    case isFalse => cases he
    rename_i h1
    cases he
    have := hy.str_inv
    subst this
    have hlen : (bytesV s).length = s.length := by simp [bytesV]
    refine ⟨s.map fun b => Value.int .u8 b.toNat, by rw [h1]; exact bytesV_cells s, by rw [bytesV_flat]; exact bytesV_rel s, by rw [bytesV_flat]; exact bytesV_one s, fun w' => ?_, fun w' hw m hm => ?_⟩
    · simp [Builtin.lenOf, bytes_size, hlen]
    · rw [hlen] at hm
      simp only [Builtin.firstCells, h1, Nat.mul_one, Sem.run_pure]
      congr 1
      apply Array.ext'
      simp
  case arr id sz off n =>
    split at he <;> try (cases he; done)
    rename_i cs sh' hob
    split at he
    case isFalse => cases he
    rename_i hcond
    obtain ⟨r, hr, rfl⟩ := Option.map_eq_some_iff.1 he
    obtain ⟨cap, b, o, lim, ab, ao, hφ, hlc, hcap, rfl⟩ := hy.arr_inv
    obtain ⟨hb0, q1, q2, ws, e, f, q3, q4, q5, q6, q7⟩ := hS.objs id _ b o lim sz hob hφ
    obtain ⟨hcut, rfl⟩ := cut_some hr
    have hone : ∀ x ∈ (cs.drop off).take (n * sh.size), x.one = true := fun x hx => q6 x (List.mem_of_mem_drop (List.mem_of_mem_take hx))
    have hrl : ((cs.drop off).take (n * sh.size)).length = n * sh.size := cut_length hr
    obtain ⟨g1, g2, g3, g4⟩ := group_spec hpos n _ hrl hone
    let news : List Value := (ws.toList.drop (o + off)).take (n * sh.size)
    have hnl : news.length = n * sh.size := by simp [news]; omega
    have hnw : ∀ (j : Nat) (x : Value), news[j]? = some x → ws[o + off + j]? = some x := fun j x hj => by
      have hlt := (List.getElem?_eq_some_iff.1 hj).1
      rw [hnl] at hlt
      simp only [news, List.getElem?_take, hlt, if_true, List.getElem?_drop] at hj
      simpa using hj
    refine ⟨news, g2, ?_, by rw [g1]; exact hone, fun _ => by rw [g3]; rfl, fun w' hw m hm => ?_⟩
    · rw [g1]
      refine VRels.of_get (by rw [hrl, hnl]) fun j x v hj hv => ?_
      have hlt := (List.getElem?_eq_some_iff.1 hj).1
      rw [hrl] at hlt
      rw [List.getElem?_take, if_pos hlt, List.getElem?_drop] at hj
      obtain ⟨u, hu, hru⟩ := q7 _ _ hj
      have h2 := hnw j v hv
      rw [show o + (off + j) = o + off + j by omega] at hu
      rw [hu] at h2; cases h2
      exact hru
    · rw [g3] at hm
      by_cases h0 : cap = 0
      · have : m = 0 := by omega
        subst this
        simp [Builtin.firstCells, loadCells, loadCellsFrom]
      · rcases hcap with hcap | ⟨rfl, rfl, hfit⟩
        · exact absurd hcap h0
        · refine cells_take rfl (fun j x hj => ?_) m _ _ _ (by rw [hnl]; exact Nat.mul_le_mul_right _ hm)
          have := hnw j x hj
          simp [World.cell?, hw, q3, this]

theorem cap_fits {need old bytes : Nat} (h : old < need) (hb : need * bytes ≤ 140737488355328) : Builtin.nextslicecap need old * bytes ≤ 281474976710656 := by
  have := Nat.mul_le_mul_right bytes (Room.nextslicecap_le' h)
  rw [Nat.mul_assoc] at this
  omega

/-- An append that must lay a new row. -/
theorem append_new {t tx ty e : TypeId} {i : TypeInfo} {z : Value} {sh : Shape} (ht : P.underlying t = some (.slice e)) (hi : P.info? e = some i) (hz : i.zero = some z) (hsz : i.size = sh.size) {base0 : Option Addr} {sLen sCap : Nat} {olds : List Value}
    (hold : (Builtin.firstCells sh.size sLen (.slice base0 sLen sCap)).run P w.drew = .ok olds.toArray w.drew) {x : Value} {n : Nat} {news : List Value} (hs : Src P sh.size tx x n news w)
    (hg : sCap < sLen + n) (h63 : sLen + n ≤ 9223372036854775807) (hb : (sLen + n) * i.bytes ≤ 140737488355328) (hzs : 0 < z.cells.size → z.cells.size = sh.size) (hz0 : 0 < z.cells.size) (hol : olds.length = sLen * sh.size) :
    ∃ cap cs, (Builtin.append_ #[t, tx] ty #[.slice base0 sLen sCap, x]).run P w = .ok (.slice (some ⟨w.heap.size, 0, none⟩) (sLen + n) cap) (w.drew.alloc (.cells cs e)) ∧ sLen + n ≤ cap ∧ cs.size = cap * sh.size ∧ ∀ (j : Nat) (v : Value), (olds ++ news)[j]? = some v → cs[j]? = some v := by
  rw [← hsz] at hold hs
  have := run_append_grow_src (P := P) w t tx ty e i z ht hi hz base0 sLen sCap olds hold x n news hs hg (by omega) (cap_fits hg hb)
  refine ⟨_, _, this, grownCap_ge _ _ _ _, ?_, fun j v hj => ?_⟩
  · have hge := grownCap_ge w (sLen + n) sCap e
    have hnl := hs.newsLen
    have hz' := hzs hz0
    simp [Builtin.zeroCells, hol, hnl, hz', hsz]
    rw [← Nat.add_mul, ← Nat.add_mul]
    congr 1; omega
  · have hlt := (List.getElem?_eq_some_iff.1 hj).1
    rw [Array.getElem?_append_left (by simpa using hlt)]
    simpa using hj
end
end Go.Dm
