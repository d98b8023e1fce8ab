import Derived.Test.YtkfpoacloidepaaAbsL
set_option linter.all false
/- append. -/
namespace Go.Abs
set_option linter.unusedVariables false

section
variable {P : Program} {w : World} {β : Nat → Hd} {F : Nat → Prop} {N : Nat} {st : St} {a : Act}

/-- The cells of a slice's rows, loaded. -/
theorem run_firstCells {v : Value} {x : V} {es : Nat} (hk : HOK w.heap st.hp β F) (hr : RV (cx w.heap st.hp β F) v x) (ho : okSl st.hp x) (he : x.slEs es) :
    ∃ base m c news, v = .slice base m c ∧ (m : Int) = x.slLen ∧ m ≤ c ∧ (x.rowsOf st.hp).length = m ∧ (∀ row ∈ x.rowsOf st.hp, row.length = es) ∧
      (Builtin.firstCells es m v).run P w = .ok news w ∧ news.size = m * es ∧ (∀ (k : Nat) (u : Value), news[k]? = some u → u.oneCell' = true) ∧
      ∀ (i : Nat) (row : List V) (j : Nat) (y : V), (x.rowsOf st.hp)[i]? = some row → row[j]? = some y → ∃ u, news[i * es + j]? = some u ∧ RV ((cx w.heap st.hp β F).only (x.rowIds st.hp)) u y := by
  obtain ⟨base, m, c, e0, hm, hmc, hnil, hel⟩ := hr.sl hk ho
  have hlenrows : (x.rowsOf st.hp).length = m ∧ (∀ row ∈ x.rowsOf st.hp, row.length = es) ∧ ∀ (i : Nat) (row : List V), (x.rowsOf st.hp)[i]? = some row → ∀ ad, base = some ad → ∀ (j : Nat) (y : V), row[j]? = some y →
      ∃ u, look w.heap ad.block (ad.off + i * es + j) = some u ∧ ad.spot = none ∧ u.oneCell' = true ∧ RV ((cx w.heap st.hp β F).only (x.rowIds st.hp)) u y := by
    subst e0
    cases hr with
    | own hl h =>
      rename_i id es' off len tot
      obtain ⟨h1, h2⟩ := ho
      obtain ⟨fz, refs, rows, hid, hgd⟩ := mem_get' h1
      have he : es' = es := he
      subst he
      simp only [V.rowsOf, V.rowIds]
      rw [hgd] at h2 ⊢
      simp only [O.rows, O.refs] at h2 ⊢
      simp only [V.slLen] at hm
      obtain ⟨g1, g2⟩ := h ((β id).wt rows.length) (by show hdOf st.hp β id = _; simp [hdOf, hid])
      obtain ⟨g3, g4, g5⟩ := g2 h2
      have g3' : (β id).lo ≤ off := g3
      have g4' : (β id).es = es' := g4
      rcases g5 with ⟨g6, g7, g8⟩ | ⟨g6, ad, g7, g8, g9⟩
      · injection g7 with a1 a2 a3
        have : m = 0 := by omega
        subst this
        obtain rfl : len = 0 := by omega
        exact ⟨by simp, by simp, fun i row hi => by simp at hi⟩
      · injection g7 with a1 a2 a3
        have g6' : (β id).nil = false := g6
        have g8' : off + len ≤ rows.length := g8
        obtain rfl : len = m := by omega
        rcases hk.ro id _ hid with hro | ⟨q1, q2, q3, q4, q5, cs, E, fr, q6, q7, q8, q9⟩
        · rw [hro.1] at g6'; cases g6'
        have hget : ∀ (i : Nat) (row : List V), ((rows.drop off).take len)[i]? = some row → rows[off + i]? = some row ∧ i < len := by
          intro i row h
          rw [List.getElem?_take] at h
          split at h
          · rw [List.getElem?_drop] at h; exact ⟨h, by assumption⟩
          · cases h
        refine ⟨by simp; omega, fun row hrow => ?_, fun i row hi ad' hb j y hj => ?_⟩
        · obtain ⟨i, hi⟩ := List.getElem?_of_mem hrow
          rw [← g4']; exact q4 _ _ (hget i row hi).1
        · subst hb
          injection a1 with a1
          subst a1
          obtain ⟨hi1, hi2⟩ := hget i row hi
          obtain ⟨u, e1, e2, e3⟩ := q9 _ _ hi1 (by omega) j y hj
          have g9' : ad' = ⟨(β id).b, (β id).o + (off - (β id).lo) * (β id).es, none⟩ := g9 (by show off - (β id).lo < (β id).cap; omega)
          refine ⟨u, ?_, by rw [g9'], e2, e3⟩
          rw [g9']
          unfold look
          have q6' : w.heap[(β id).b]? = some (.cells cs E fr) := q6
          simp only
          rw [q6']
          rw [g4', show off + i - (β id).lo = (off - (β id).lo) + i from by omega, Nat.add_mul, ← Nat.add_assoc] at e1
          rw [g4']
          exact e1
    | nilv =>
      simp only [V.slLen, List.length_nil] at hm
      exact ⟨by simp [V.rowsOf], by simp [V.rowsOf], fun i row hi => by simp [V.rowsOf] at hi⟩
    | view g hb hcap hlen hg hrr =>
      rename_i es' rows ad
      have he : es' = es := he
      subst he
      refine ⟨rfl, fun row hrow => ?_, fun i row hi ad' hb' j y hj => ?_⟩
      · obtain ⟨i, hi⟩ := List.getElem?_of_mem hrow
        exact hlen i row hi
      · injection hb' with hb'
        subst hb'
        obtain ⟨q1, q2, q3⟩ := hb (by rintro rfl; simp [V.rowsOf] at hi)
        exact ⟨_, (hg i row hi j y hj).1, q3, (hg i row hi j y hj).2, hrr i row hi j y hj⟩
    | a =>
      obtain ⟨rfl, rfl⟩ := hnil (by
        unfold okSl at ho
        split at ho <;> first | exact ho.elim | (rename_i h; cases h; done) | skip
        rename_i h; injection h with h; injection h with h1 h2 h3; subst h1 h2 h3; rfl)
      have : m = 0 := by omega
      subst this
      exact ⟨rfl, by simp [V.rowsOf], fun i row hi => by simp [V.rowsOf] at hi⟩
    | any => exact ho.elim
    | ptr => exact ho.elim
    | mp => exact ho.elim
  obtain ⟨hl1, hl2, hl3⟩ := hlenrows
  subst e0
  cases hbase : base with
  | none =>
    have hm0 : m = 0 := by
      rcases Nat.eq_zero_or_pos m with h | h
      · exact h
      · obtain ⟨ad, h1, _⟩ := hel es he 0 h
        rw [hbase] at h1; cases h1
    subst hm0
    have hr0 : x.rowsOf st.hp = [] := List.length_eq_zero_iff.1 hl1
    refine ⟨_, _, _, #[], rfl, hm, hmc, hl1, hl2, by simp [Builtin.firstCells], by simp, fun k u h => by simp at h, fun i row j y hi => by rw [hr0] at hi; simp at hi⟩
  | some ad =>
    by_cases hm0 : m * es = 0
    · refine ⟨_, _, _, #[], rfl, hm, hmc, hl1, hl2, by simp [Builtin.firstCells, loadCells, hm0, loadCellsFrom], by simp [hm0], fun k u h => by simp at h, fun i row j y hi hj => ?_⟩
      have h1 : i < m := by rw [← hl1]; exact lt_of_get hi
      have h2 : j < es := by rw [← hl2 row (List.mem_of_getElem? hi)]; exact lt_of_get hj
      rcases Nat.mul_eq_zero.1 hm0 with h | h <;> omega
    · have hpos : 0 < m ∧ 0 < es := by
        constructor
        · exact Nat.pos_of_ne_zero fun h => hm0 (by simp [h])
        · exact Nat.pos_of_ne_zero fun h => hm0 (by simp [h])
      have hspot : ad.spot = none := by
        have hi : (x.rowsOf st.hp)[0]? = some ((x.rowsOf st.hp).getD 0 []) := get_of_getD (by omega)
        have hj : ((x.rowsOf st.hp).getD 0 [])[0]? = some (((x.rowsOf st.hp).getD 0 []).getD 0 .any) := get_of_getD (by rw [hl2 _ (List.mem_of_getElem? hi)]; exact hpos.2)
        obtain ⟨u, _, h, _⟩ := hl3 0 _ hi ad hbase 0 _ hj
        exact h
      have had : ad = ⟨ad.block, ad.off, none⟩ := by rw [← hspot]
      -- all cells, in their order
      have hflat : ∀ (k : Nat) (y : V), (x.rowsOf st.hp).flatten[k]? = some y → ∃ u, look w.heap ad.block (ad.off + 0 + k) = some u ∧ u.oneCell' = true ∧ RV ((cx w.heap st.hp β F).only (x.rowIds st.hp)) u y := by
        intro k y hk'
        have key : ∀ (rows : List (List V)) (n k : Nat) (y : V), (∀ row ∈ rows, row.length = es) → rows.flatten[k]? = some y → ∃ i row, rows[i]? = some row ∧ row[k - i * es]? = some y ∧ i * es ≤ k := by
          intro rows
          induction rows with
          | nil => intro n k y _ h; simp at h
          | cons r rows ih =>
            intro n k y hr' h
            rw [List.flatten_cons, List.getElem?_append, hr' r (by simp)] at h
            split at h
            · exact ⟨0, r, rfl, by simpa using h, by omega⟩
            · obtain ⟨i, row, h1, h2, h3⟩ := ih n _ y (fun q hq => hr' q (by simp [hq])) h
              refine ⟨i + 1, row, h1, ?_, ?_⟩
              · rw [Nat.add_mul, ← h2]; congr 1; omega
              · rw [Nat.add_mul]; omega
        obtain ⟨i, row, h1, h2, h3⟩ := key _ 0 k y hl2 hk'
        obtain ⟨u, e1, _, e2, e3⟩ := hl3 i row h1 ad hbase _ y h2
        exact ⟨u, by rw [← e1]; congr 1; omega, e2, e3⟩
      have hfl : (x.rowsOf st.hp).flatten.length = m * es := by
        have key : ∀ (rows : List (List V)), (∀ row ∈ rows, row.length = es) → rows.flatten.length = rows.length * es := by
          intro rows
          induction rows with
          | nil => intro _; simp
          | cons r rows ih => intro hr'; rw [List.flatten_cons, List.length_append, ih fun q hq => hr' q (by simp [hq]), hr' r (by simp), List.length_cons, Nat.add_mul]; omega
        rw [key _ hl2, hl1]
      obtain ⟨vs, r1, r2, r3, r4⟩ := run_loadCellsFrom (P := P) (w := w) (b := ad.block) (o := ad.off) (c := (cx w.heap st.hp β F).only (x.rowIds st.hp)) (x.rowsOf st.hp).flatten (m * es) 0 #[] (by omega) hflat
      refine ⟨_, _, _, vs, rfl, hm, hmc, hl1, hl2, ?_, r2, r3, fun i row j y hi hj => ?_⟩
      · simp only [Builtin.firstCells, loadCells]
        rw [had, r1]; simp
      · have h1 : i < m := by rw [← hl1]; exact lt_of_get hi
        have h2 : j < es := by rw [← hl2 row (List.mem_of_getElem? hi)]; exact lt_of_get hj
        have hlt : i * es + j < vs.size := by
          rw [r2]
          have : (i + 1) * es ≤ m * es := Nat.mul_le_mul_right _ h1
          rw [Nat.add_mul] at this; omega
        have hu := Array.getElem?_eq_getElem hlt
        refine ⟨_, hu, r4 _ _ y hu ?_⟩
        have key : ∀ (rows : List (List V)) (i : Nat), (∀ row ∈ rows, row.length = es) → rows[i]? = some row → rows.flatten[i * es + j]? = some y := by
          intro rows
          induction rows with
          | nil => intro i _ h; simp at h
          | cons r rows ih =>
            intro i hr' h
            rw [List.flatten_cons, List.getElem?_append, hr' r (by simp)]
            cases i with
            | zero => simp at h; subst h; rw [if_pos (by omega)]; simpa using hj
            | succ i =>
              rw [if_neg (by rw [Nat.add_mul]; omega)]
              rw [show (i + 1) * es + j - es = i * es + j from by rw [Nat.add_mul]; omega]
              exact ih i (fun q hq => hr' q (by simp [hq])) h
        exact key _ i hl2 hi

end
end Go.Abs
