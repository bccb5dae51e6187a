/- The D-machine (18): append. -/
import Derived.Test.YtjhednolknlpiaaDmQ
namespace Go.Dm
set_option linter.unusedSimpArgs false
set_option linter.unusedVariables false
set_option linter.unnecessarySimpa false

def stepEv (h : Heap) : EvR → Option (DV × Heap)
  | .val v => some (v, h)
  | .newO b mk => some (mk h.next, h.add b)
  | .newT sz mk => some (mk h.next, h.addTag sz)
  | .eff v h' => some (v, h')
  | _ => none

section
variable {P : Program} {CC : Code → DC → Prop} {base : Nat} {c : Cor} {h : Heap} {w : World}

theorem get_drop_self (h : Heap) (i : Nat) : (h.drop i).objs.get i = none := by simp only [Heap.drop]; exact Tr.get_set_same _ _ _
theorem Out.tagStep {c' : Cor} {w' : World} {t sz : Nat} {x : Nat × Nat × Nat × Nat} (hτ : c.τ t = some x) (hle : c.le c') (hS : Sim CC base c' ((h.spend t).addTag sz) w'.heap) (hk : Keeps base w w')
    (hφ' : ∀ i, c'.φ i = c.φ i) (hτ' : ∀ i, i ≠ h.next → c'.τ i = c.τ i) : Out CC base c h w c' ((h.spend t).addTag sz) w' :=
  ⟨hle, hS, hk, Nat.le_succ _, fun i _ hn => ⟨by rw [hφ']; exact hn, rfl⟩, fun i hi hn => ⟨by rw [hτ' i (by omega)]; exact hn, by
    simp only [Heap.addTag, Heap.spend]
    rw [Tr.get_set_ne _ _ (by omega), Tr.get_set_ne _ _ (fun e => by subst e; rw [hτ] at hn; cases hn)]⟩⟩
theorem Out.objStep {c' : Cor} {w' : World} {t : Nat} {ob : HObj} {x : Nat × Nat × Nat × Nat} (hφ : c.φ t = some x) (hle : c.le c') (hS : Sim CC base c' ((h.drop t).add ob) w'.heap) (hk : Keeps base w w')
    (hτ' : ∀ i, c'.τ i = c.τ i) (hφ' : ∀ i, i ≠ h.next → c'.φ i = c.φ i) : Out CC base c h w c' ((h.drop t).add ob) w' :=
  ⟨hle, hS, hk, Nat.le_succ _, fun i hi hn => ⟨by rw [hφ' i (by omega)]; exact hn, by
    simp only [Heap.add, Heap.drop]
    rw [Tr.get_set_ne _ _ (by omega), Tr.get_set_ne _ _ (fun e => by subst e; rw [hφ] at hn; cases hn)]⟩, fun i _ hn => ⟨by rw [hτ']; exact hn, rfl⟩⟩

theorem append_nothing {t u ty e : TypeId} {sh : Shape} (ht : P.underlying t = some (.slice e)) (hku : (∃ e', P.underlying u = some (.slice e')) ∨ P.underlying u = some .string) (hsh : shapeOf P e = some sh) {a : Option Addr} {len cap : Nat} (hl : len ≤ cap) {vy : Value} {ys : List DV} {news : List Value}
    (hr : Reads P c w sh.size vy ys news) (hy : ys = []) : (Builtin.append_ #[t, u] ty #[.slice a len cap, vy]).run P w = .ok (.slice a len cap) w := by
  subst hy
  obtain ⟨⟨i, hi, hsz⟩, _⟩ := shapeOf_size hsh
  have hs := hr.src hku
  have hn : news = [] := List.eq_nil_of_length_eq_zero (by simpa using hr.news_len)
  subst hn
  rw [← hsz] at hs
  exact run_append_nothing w t u ty e i ht hi a len cap hl vy hs

theorem eff_append (hS : Sim CC base c h w.heap) {t u ty e : TypeId} {i : TypeInfo} {sh : Shape} {z : DV} {mu : Bool} (ht : P.underlying t = some (.slice e)) (hku : (∃ e', P.underlying u = some (.slice e')) ∨ P.underlying u = some .string)
    (hsh : shapeOf P e = some sh) (hi : P.info? e = some i) (hz : zeroOf P e = some z) (hzc : z.cells.length = sh.size) {x y : DV} {vx vy : Value} (hx : VRel c x vx) (hy : VRel c y vy) {r : EvR} (he : appendD h mu sh i.bytes x y = some r) {v : DV} {h' : Heap} (hr : stepEv h r = some (v, h')) :
    EffOk P CC base c h w (do pure (.value (← Builtin.append_ #[t, u] ty #[vx, vy]))) v h' := by
  obtain ⟨⟨i', hi', hsz⟩, hpos⟩ := shapeOf_size hsh
  rw [hi] at hi'; cases hi'
  obtain ⟨i', zv, hi', hizv, hov, _⟩ := zeroOf_some w hz
  rw [hi] at hi'; cases hi'
  have hzr : VRel c z zv := ofVal_rel hov
  have hzs : zv.cells.size = sh.size := by rw [hzr.cells_size, hzc]
  unfold appendD at he
  split at he
  · -- a list
    rename_i t0 sz xs ys hys
    obtain ⟨news, hrd⟩ := elems_rel (P := P) hS hpos hy hys
    have hsrc := hrd.src hku
    have hnl := hrd.news_len
    obtain ⟨a, cap, vs, q1, q2, q3, qo, q4, q5, q6, q7, q8, hvx⟩ := hx.lst_inv
    by_cases hemp : ys = []
    · rw [if_pos hemp] at he
      cases he
      cases hr
      subst hvx
      have := append_nothing (ty := ty) (a := a) ht hku hsh q5 hrd hemp
      exact EffOk.ofVal hS (ValOk.of w ⟨_, this, hx⟩)
    rw [if_neg hemp] at he
    have hyp : 0 < ys.length := List.length_pos_iff.2 hemp
    split at he
    case isFalse => cases he
    rename_i hcond
    obtain ⟨hzsz, hroom1, hroom2⟩ := hcond
    by_cases h0 : t0 = 0
    · -- onto nil
      obtain ⟨ha, hc0⟩ := q6 h0
      subst ha; subst hc0; subst hvx
      have hxs : xs = [] := List.eq_nil_of_length_eq_zero (by omega)
      subst hxs
      obtain ⟨cap', cs, hrun, hcap', hcs, hget⟩ := append_new (P := P) (ty := ty) ht hi hizv hsz (base0 := none) (sLen := 0) (sCap := 0) (olds := []) (by simp [Builtin.firstCells]) hsrc (by omega) (by simpa using hroom2) (by simpa using hroom1) (fun _ => hzs) (by omega) (by simp)
      simp only [Nat.zero_add, List.nil_append] at hrun hcap' hget
      simp only [List.length_nil] at hrun ⊢
      simp only [h0, if_true] at he
      have hle : ys.length * sh.size ≤ cap' * sh.size := Nat.mul_le_mul_right _ hcap'
      by_cases hmu : mu = true
      · simp only [hmu, if_true] at he
        cases he; cases hr
        refine EffOk.ofNewO (exec_valN w ?_)
        have hadd := hS.add (.cells (flat ys) sh)
        obtain ⟨p1, p2, p3, p4⟩ := new_cells w hadd hS.φnext (Nat.lt_succ_self _) (by simp only [Heap.add]; exact Tr.get_set_same _ _ _) (cs := cs) (ty := e) (f := (0, 0)) (.inl rfl) (by rw [flat_length _ hrd.sz]; omega) (fun j x hj => by
          obtain ⟨u, h3, h4⟩ := hrd.rel.get j hj
          exact ⟨u, hget _ _ h3, h4⟩) hrd.one
        exact ⟨_, _, _, hrun, p1, p2, .arr p3 hcap' (.inr ⟨rfl, rfl, by omega⟩), Keeps.drewAlloc w hS.size _, p4⟩
      · simp only [hmu, Bool.false_eq_true, if_false] at he
        cases he; cases hr
        refine EffOk.ofNewT (exec_valN w ?_)
        have hadd := hS.addTag sh.size
        obtain ⟨p1, p2, p3, p4⟩ := new_list w hadd hS.τnext (Nat.lt_succ_self _) hS.next hpos (by simp only [Heap.addTag]; exact Tr.get_set_same _ _ _) (xs := ys) (vs := news) (cs := cs) (ty := e) (f := (0, 0)) (cap := cap') (.inl rfl) hrd.sz hrd.rel hrd.one hget hcap' (by omega)
        exact ⟨_, _, _, hrun, p1, p2, p3, Keeps.drewAlloc w hS.size _, p4⟩
    · -- behind what is there
      have hzsz' : sz = sh.size := hzsz.resolve_left h0
      subst hzsz'
      by_cases hmu : mu = true
      · simp [hmu, h0] at he
      simp only [hmu, h0, Bool.false_eq_true, if_false] at he
      split at he
      case isFalse => cases he
      rename_i htag
      obtain ⟨ht2, htag⟩ := htag
      cases he; cases hr
      obtain ⟨b, o, e0, lim, ha, hτ, hcase⟩ := q8 ht2
      subst ha; subst hvx
      obtain ⟨_, hb0, ⟨ws, ty0, f0, hb, hwl, hfok⟩, hkp⟩ := hS.tags _ _ _ _ _ _ htag hτ
      have hvl : vs.length = xs.length * sh.size := by rw [← q3.length_eq, flat_length _ q2]
      have hall : ∀ x ∈ xs ++ ys, x.cells.length = sh.size := fun x hx => by
        rcases List.mem_append.1 hx with h | h
        · exact q2 x h
        · exact hrd.sz x h
      have hone : ∀ x ∈ flat (xs ++ ys), x.one = true := fun x hx => by
        rw [flat_append] at hx
        rcases List.mem_append.1 hx with h | h
        · exact qo x h
        · exact hrd.one x h
      by_cases hfit : xs.length + ys.length ≤ cap
      · -- there is room
        rcases hcase with hcase | ⟨he0, hlim⟩
        · omega
        subst he0
        have hmul : (xs.length + ys.length) * sh.size ≤ cap * sh.size := Nat.mul_le_mul_right _ hfit
        rw [Nat.add_mul] at hmul
        have hwfit : o + xs.length * sh.size + news.length ≤ ws.size := by omega
        have hsrc' := hsrc
        rw [← hsz] at hsrc'
        have hrun := run_append_room_src (P := P) w t u ty e i ht hi b o xs.length cap vy ys.length news hsrc' hfit (fun j hj => by
          rw [cell_is hb, hsz]; simp; omega) (fun j hj => not_frozen hb (by rw [hwl]; exact hfok) (by rw [hsz]; omega))
        rw [hsz] at hrun
        obtain ⟨s1, s2, s3, s4, s5, s6⟩ := setCells_heap news (o + xs.length * sh.size) w ws ty0 f0 hb hwfit
        have hovl : (ovl ws.toList (o + xs.length * sh.size) news).length = ws.size := by rw [ovl_length _ _ _ (by simpa using hwfit)]; simp
        have hSp := hS.spend t0
        have hno : NoObj c (h.spend t0) b := hS.noObj_tag htag hτ
        have hnt := hS.noTag_spend htag hτ
        have hA := hSp.alter s2 s3 hno hnt (fun j v hk => by
          have hj : j < o + xs.length * sh.size := by
            by_cases hlt : j < o + xs.length * sh.size
            · exact hlt
            · rw [hkp j (by omega)] at hk; cases hk
          obtain ⟨ws', _, _, h1, h2⟩ := hS.prot _ _ _ hk
          rw [hb] at h1; cases h1
          refine ⟨_, _, _, s1, ?_⟩
          rw [List.getElem?_toArray, ovl_get_out (by simpa using hwfit) (.inl hj)]
          simpa using h2)
        have hB := hA.addTag sh.size
        obtain ⟨hle, hC⟩ := hB.tagAt (t := h.next) (sz := sh.size) (b := b) (e0 := o + xs.length * sh.size) hS.τnext (Nat.lt_succ_self _) (by simp only [Heap.addTag, Heap.spend]; exact Tr.get_set_same _ _ _) hb0 (vs := news) s1 (by rw [List.size_toArray, hovl, hwl]; exact hfok)
          hno (fun t1 sz1 b1 e1 lim1 sz1' h1 h2 => by
            simp only [Heap.addTag, Heap.spend, Tr.get_set] at h1
            split at h1
            · rename_i e2; subst e2; rw [hS.τnext] at h2; cases h2
            · refine hnt t1 sz1 b1 e1 lim1 sz1' ?_ h2
              simpa only [Heap.spend, Tr.get_set] using h1)
          hkp (fun j v hj => by
            rw [List.getElem?_toArray, ovl_get_in (by simpa using hwfit) (List.getElem?_eq_some_iff.1 hj).1]; exact hj)
        refine ⟨_, _, _, _, exec_val w hrun, .inl rfl, Out.tagStep hτ hle hC ⟨by omega, fun j hj => s2 j (by omega), s4, s5, s6⟩ (fun _ => rfl) (fun j hj => upd_ne _ _ hj), ?_⟩
        have hv' := VRel.lst (c := c.tag h.next b (o + xs.length * sh.size + news.length) (ovl ws.toList (o + xs.length * sh.size) news).toArray.size sh.size (keep c.kp b (o + xs.length * sh.size) news)) (t := h.next) (sz := sh.size) (xs := xs ++ ys) (a := some ⟨b, o, none⟩) (cap := cap) (vs := vs ++ news)
          (fun _ => hpos) hall (by rw [flat_append]; exact (q3.mono hle).append (hrd.rel.mono hle)) hone
          (fun _ => ⟨b, o, rfl, fun j x hj => by
            by_cases hlt : j < vs.length
            · rw [List.getElem?_append_left hlt] at hj
              refine hle.kp _ _ _ ?_
              have hne : xs ≠ [] := by
                intro e; rw [e] at hvl; simp only [List.length_nil, Nat.zero_mul] at hvl; omega
              obtain ⟨b', o', e', hp⟩ := q4 hne
              cases e'
              exact hp j x hj
            · rw [List.getElem?_append_right (by omega)] at hj
              have := keep_in c.kp b (o + xs.length * sh.size) news hj
              rwa [show o + xs.length * sh.size + (j - vs.length) = o + j by omega] at this⟩)
          (by simp; exact hfit) (fun e => by have := hS.next; omega) (fun _ => ⟨_, _, _, rfl, .inl rfl⟩)
          (fun _ => ⟨b, o, _, _, rfl, upd_same _ _ _, .inr ⟨by rw [List.length_append, Nat.add_mul]; omega, by rw [List.size_toArray, hovl, hwl]; exact hlim⟩⟩)
        rw [List.length_append] at hv'
        exact hv'
      · -- there is none
        have hold : (Builtin.firstCells sh.size xs.length (.slice (some ⟨b, o, none⟩) xs.length cap)).run P w.drew = .ok vs.toArray w.drew := by
          by_cases hne : xs = []
          · subst hne
            have : vs = [] := List.eq_nil_of_length_eq_zero (by simpa using hvl)
            subst this
            simp [Builtin.firstCells, loadCells, loadCellsFrom]
          · obtain ⟨b', o', e', hp⟩ := q4 hne
            cases e'
            have := cells_take (P := P) (a := ⟨b, o, none⟩) (vs := vs) (w' := w.drew) rfl (fun j x hj => by
              obtain ⟨ws', ty', f', h1, h2⟩ := hS.prot _ _ _ (hp j x hj)
              show w.cell? _ = _
              simp [World.cell?, h1, h2]) xs.length xs.length cap sh.size (by omega)
            rwa [← hvl, List.take_length] at this
        obtain ⟨cap', cs, hrun, hcap', hcs, hget⟩ := append_new (P := P) (ty := ty) ht hi hizv hsz hold hsrc (by omega) hroom2 hroom1 (fun _ => hzs) (by omega) hvl
        have hle' : (xs.length + ys.length) * sh.size ≤ cap' * sh.size := Nat.mul_le_mul_right _ hcap'
        have hB := (hS.spend t0).addTag sh.size
        obtain ⟨p1, p2, p3, p4⟩ := new_list w hB hS.τnext (Nat.lt_succ_self _) hS.next hpos (by simp only [Heap.addTag, Heap.spend]; exact Tr.get_set_same _ _ _) (xs := xs ++ ys) (vs := vs ++ news) (cs := cs) (ty := e) (f := (0, 0)) (cap := cap') (.inl rfl) hall (by rw [flat_append]; exact q3.append hrd.rel) hone hget (by simpa using hcap') (by omega)
        refine ⟨_, _, _, _, exec_val w hrun, .inl rfl, Out.tagStep hτ p1 p2 (Keeps.drewAlloc w hS.size _) (fun _ => rfl) (fun j hj => upd_ne _ _ hj), ?_⟩
        rw [List.length_append (as := xs) (bs := ys)] at p3
        exact p3
  · -- a row that is written into
    rename_i i0 sz off n ys hys
    obtain ⟨news, hrd⟩ := elems_rel (P := P) hS hpos hy hys
    have hsrc := hrd.src hku
    have hnl := hrd.news_len
    obtain ⟨cap, b, o, lim, ab, ao, hφ, hlc, hcap, hvx⟩ := hx.arr_inv
    by_cases hemp : ys = []
    · rw [if_pos hemp] at he
      cases he
      cases hr
      subst hvx
      have := append_nothing (ty := ty) (a := some ⟨ab, ao, none⟩) ht hku hsh hlc hrd hemp
      exact EffOk.ofVal hS (ValOk.of w ⟨_, this, hx⟩)
    rw [if_neg hemp] at he
    have hyp : 0 < ys.length := List.length_pos_iff.2 hemp
    split at he <;> try (cases he; done)
    rename_i cs sh' hob
    split at he <;> try (cases he; done)
    rename_i old hcut
    split at he
    case isFalse => cases he
    rename_i hcond
    obtain ⟨hshe, hzz, _, hroom1, hroom2⟩ := hcond
    subst hshe
    cases he; cases hr
    subst hvx
    obtain ⟨hb0, w1, w2, ws, e1, f1, w3, w4, w5, w6, w7⟩ := hS.objs i0 _ b o lim sz hob hφ
    obtain ⟨hcl, hold0⟩ := cut_some hcut
    have holdl := cut_length hcut
    have hone : ∀ x ∈ old ++ flat ys, x.one = true := fun x hx => by
      rcases List.mem_append.1 hx with h | h
      · subst hold0; exact w6 x (List.mem_of_mem_drop (List.mem_of_mem_take h))
      · exact hrd.one x h
    have holdv : ∀ (j : Nat) (x : DV), old[j]? = some x → ∃ v, ws[o + off + j]? = some v ∧ VRel c x v := fun j x hj => by
      have hlt := (List.getElem?_eq_some_iff.1 hj).1
      rw [hold0, List.getElem?_take, if_pos (by omega), List.getElem?_drop] at hj
      obtain ⟨v, h1, h2⟩ := w7 _ _ hj
      exact ⟨v, by rw [← h1]; congr 1; omega, h2⟩
    have hSd := hS.drop i0
    have hno := hS.noObj_drop hob hφ
    have hnt : NoTag c (h.drop i0) b := hS.noTag_obj hob hφ
    have hnk := hS.sep i0 _ b o lim sz hob hφ
    by_cases hfit : n + ys.length ≤ cap
    · rcases hcap with hcap | ⟨rfl, rfl, hlim⟩
      · omega
      have hmul : (n + ys.length) * sh'.size ≤ cap * sh'.size := Nat.mul_le_mul_right _ hfit
      rw [Nat.add_mul] at hmul
      have hlim' : o + off + cap * sh'.size ≤ lim := by rw [← hzz]; exact hlim
      have hwfit : o + off + n * sh'.size + news.length ≤ ws.size := by omega
      have hsrc' := hsrc
      rw [← hsz] at hsrc'
      have hrun := run_append_room_src (P := P) w t u ty e i ht hi ab (o + off) n cap vy ys.length news hsrc' hfit (fun j hj => by
        rw [cell_is w3, hsz]; simp; omega) (fun j hj => not_frozen w3 (by rw [w4]; exact w5) (by rw [hsz]; omega))
      rw [hsz] at hrun
      obtain ⟨s1, s2, s3, s4, s5, s6⟩ := setCells_heap news (o + off + n * sh'.size) w ws e1 f1 w3 hwfit
      have hovl : (ovl ws.toList (o + off + n * sh'.size) news).length = ws.size := by rw [ovl_length _ _ _ (by simpa using hwfit)]; simp
      have hA := hSd.alter s2 s3 hno hnt (fun j v hk => by rw [hnk] at hk; cases hk)
      have hB := hA.add (.cells (old ++ flat ys) sh')
      have hC := hB.objAt (id := h.next) (b := ab) (o := o + off) (lim := lim) (sz := sh'.size) (ob := .cells (old ++ flat ys) sh') hS.φnext (Nat.lt_succ_self _) (by simp only [Heap.add, Heap.drop]; exact Tr.get_set_same _ _ _) hb0
        (fun id1 ob1 b1 o1 lim1 sz1 h1 h2 => by
          simp only [Heap.add, Heap.drop, Tr.get_set] at h1
          split at h1
          · rename_i e2; subst e2; rw [hS.φnext] at h2; cases h2
          · refine hno id1 ob1 b1 o1 lim1 sz1 ?_ h2
            simpa only [Heap.drop, Tr.get_set] using h1)
        hnt hnk
        (by
          refine ⟨rfl, by rw [List.length_append, flat_length _ hrd.sz]; omega, _, e1, f1, s1, by rw [List.size_toArray, hovl, w4], w5, hone, fun j x hj => ?_⟩
          simp only [List.getElem?_toArray]
          by_cases hlt : j < old.length
          · rw [List.getElem?_append_left hlt] at hj
            obtain ⟨v, h1, h2⟩ := holdv j x hj
            refine ⟨v, ?_, h2.mono (Cor.le_obj hS.φnext _ _ _ _)⟩
            rw [ovl_get_out (by simpa using hwfit) (.inl (by omega))]
            simpa using h1
          · rw [List.getElem?_append_right (by omega)] at hj
            obtain ⟨v, h1, h2⟩ := hrd.rel.get _ hj
            refine ⟨v, ?_, h2.mono (Cor.le_obj hS.φnext _ _ _ _)⟩
            rw [show o + off + j = o + off + n * sh'.size + (j - old.length) by omega, ovl_get_in (by simpa using hwfit) (List.getElem?_eq_some_iff.1 h1).1]
            exact h1)
      refine ⟨_, _, _, _, exec_val w hrun, .inl rfl, Out.objStep hφ (Cor.le_obj hS.φnext _ _ _ _) hC ⟨by omega, fun j hj => s2 j (by omega), s4, s5, s6⟩ (fun _ => rfl) (fun j hj => upd_ne _ _ hj), ?_⟩
      exact .arr (upd_same _ _ _) hfit (.inr ⟨rfl, rfl, by omega⟩)
    · have hold : ∃ olds : List Value, olds.length = n * sh'.size ∧ (Builtin.firstCells sh'.size n (.slice (some ⟨ab, ao, none⟩) n cap)).run P w.drew = .ok olds.toArray w.drew ∧ VRels c old olds := by
        refine ⟨(ws.toList.drop (o + off)).take (n * sh'.size), by simp; omega, ?_, ?_⟩
        · by_cases h0 : cap = 0
          · have : n = 0 := by omega
            subst this
            simp [Builtin.firstCells, loadCells, loadCellsFrom]
          · rcases hcap with hcap | ⟨rfl, rfl, _⟩
            · exact absurd hcap h0
            · have := cells_take (P := P) (a := ⟨ab, o + off, none⟩) (vs := (ws.toList.drop (o + off)).take (n * sh'.size)) (w' := w.drew) rfl (fun j x hj => by
                have hlt := (List.getElem?_eq_some_iff.1 hj).1
                simp at hlt
                rw [List.getElem?_take, if_pos (by omega), List.getElem?_drop] at hj
                have : ws[o + off + j]? = some x := by simpa using hj
                show w.cell? _ = _
                simp [World.cell?, w3, this]) n n cap sh'.size (by simp; omega)
              rw [this]
              congr 2
              rw [List.take_of_length_le (by simp; omega)]
        · refine VRels.of_get (by rw [holdl]; simp; omega) fun j x v hj hv => ?_
          obtain ⟨u, h1, h2⟩ := holdv j x hj
          have hlt := (List.getElem?_eq_some_iff.1 hv).1
          simp at hlt
          rw [List.getElem?_take, if_pos (by omega), List.getElem?_drop] at hv
          have : ws[o + off + j]? = some v := by simpa using hv
          rw [h1] at this; cases this
          exact h2
      obtain ⟨olds, hol, hold, holr⟩ := hold
      obtain ⟨cap', cs', hrun, hcap', hcs, hget⟩ := append_new (P := P) (ty := ty) ht hi hizv hsz hold hsrc (by omega) hroom2 hroom1 (fun _ => hzs) (by omega) hol
      have hle' : (n + ys.length) * sh'.size ≤ cap' * sh'.size := Nat.mul_le_mul_right _ hcap'
      have hB := hSd.add (.cells (old ++ flat ys) sh')
      obtain ⟨p1, p2, p3, p4⟩ := new_cells w hB hS.φnext (Nat.lt_succ_self _) (by simp only [Heap.add, Heap.drop]; exact Tr.get_set_same _ _ _) (cs := cs') (ty := e) (f := (0, 0)) (.inl rfl) (by rw [List.length_append, flat_length _ hrd.sz, hcs]; rw [Nat.add_mul] at hle'; omega) (fun j x hj => by
          obtain ⟨u, h3, h4⟩ := (holr.append hrd.rel).get j hj
          exact ⟨u, hget _ _ h3, h4⟩) hone
      refine ⟨_, _, _, _, exec_val w hrun, .inl rfl, Out.objStep hφ p1 p2 (Keeps.drewAlloc w hS.size _) (fun _ => rfl) (fun j hj => upd_ne _ _ hj), ?_⟩
      exact .arr p3 hcap' (.inr ⟨rfl, rfl, by omega⟩)
  · cases he
end
end Go.Dm
