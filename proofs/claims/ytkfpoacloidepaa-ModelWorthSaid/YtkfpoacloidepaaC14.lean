import Derived.Test.YtkfpoacloidepaaC13
set_option linter.all false
namespace Go.Abs.G
open Go.Proofs
set_option linter.unusedVariables false
set_option linter.unusedSimpArgs false

theorem solution_spec (m : Model) (values : List Int) (hm' : okModel m) (hv : values.length ≤ maxLen) (hk : ∀ c ∈ m.cons, KindOk c) : Pf Try.prog model_Solution.id [.agg m.cells, vInts values] (.bool (solB m values)) := by
  have hm : (maxLen : Int) ≤ 9223372036854775807 := by decide
  have hmm := hm'
  obtain ⟨⟨hv1, _⟩, ⟨hc, hc'⟩, _, _⟩ := hmm
  refine DC.of model_Solution.ok (by simp) ?_
  unfold model_Solution.ir
  refine vc_cut (fun s => gt s.sl 2 = .ptr 0 1 0 0 ∧ gt s.sl 3 = .ptr 1 1 0 0 ∧ s.hp = [.mem false [] [m.cells], .mem false [] [[vInts values]]]) (by simp [Model.cells, vVars, vCons, vTerms, vInts]) ?_
  rintro ⟨sl, hp, bs⟩ ⟨h2, h3, rfl⟩
  refine vc_cut (fun s => gt s.sl 2 = .ptr 0 1 0 0 ∧ gt s.sl 3 = .ptr 1 1 0 0 ∧ s.hp = [.mem false [] [m.cells], .mem false [] [[vInts values]]] ∧ rightB m = true ∧ values.length = m.vars.length) ?_ ?_
  · simp [h2, h3, Model.cells, vVars, vCons, vTerms, vInts]
    refine (right_spec m hm').use ?_
    cases hr : rightB m
    · simp [solB, hr, model_Solution.rs]
    by_cases hl : values.length = m.vars.length
    · have hl' : (values.length : Int) = m.vars.length := by omega
      simp [hl, hl', h2, h3, Model.cells, vVars, vCons, vTerms, vInts]
    · have hl' : ¬ (values.length : Int) = m.vars.length := by omega
      simp [solB, hr, hl, hl', h2, h3, Model.cells, vVars, vCons, vTerms, vInts, model_Solution.rs]
  rintro ⟨sl, hp, bs⟩ ⟨h2, h3, rfl, hr, hl⟩
  have hS : solB m values = (inBounds m values && m.cons.all fun c => holdsB c values) := by simp [solB, hr, hl]
  rw [hS]
  refine vc_cut (fun s => gt s.sl 2 = .ptr 0 1 0 0 ∧ gt s.sl 3 = .ptr 1 1 0 0 ∧ s.hp = [.mem false [] [m.cells], .mem false [] [[vInts values]]] ∧ inBounds m values = true) ?_ ?_
  · simp [h2, h3, Model.cells, vVars, vCons, vTerms, vInts]
    have hzl : (m.vars.zip values).length = m.vars.length := by simp [hl]
    refine WI.mono (Q := fun e s => (e = .exit 0 ∧ gt s.sl 2 = .ptr 0 1 0 0 ∧ gt s.sl 3 = .ptr 1 1 0 0 ∧ s.hp = [.mem false [] [m.cells], .mem false [] [[vInts values]]] ∧ inBounds m values = true) ∨ (e = .ret ∧ inBounds m values = false ∧ gt s.sl 4 = .bool false)) (WI.loop 2 (by simp) (fun s => ∃ i, i ≤ m.vars.length ∧ gt s.sl 2 = .ptr 0 1 0 0 ∧ gt s.sl 3 = .ptr 1 1 0 0 ∧ gt s.sl 19 = vVars m.vars ∧ gt s.sl 20 = V.i m.vars.length ∧ gt s.sl 21 = V.i i ∧ s.hp = [.mem false [] [m.cells], .mem false [] [[vInts values]]] ∧ (((m.vars.zip values).take i).all fun p => decide (p.1.lo ≤ p.2) && decide (p.2 ≤ p.1.hi)) = true) (fun s => (m.vars.length - (gt s.sl 21).num).toNat) ?_ ?_) ?_
    · exact ⟨0, by simp [h2, h3, Model.cells, vVars, vCons, vTerms, vInts]⟩
    · rintro ⟨sl, hp, bs⟩ ⟨i, hi, h2, h3, h19, h20, h21, rfl, he⟩
      by_cases hil : i < m.vars.length
      · have hil2 : i < values.length := by omega
        have hw : IntKind.i64.wrap ((i : Int) + 1) = ((i + 1 : Nat) : Int) := by rw [wrap64] <;> omega
        have hz : (m.vars.zip values)[i]'(by omega) = (m.vars[i], values[i]) := by simp
        have hs : (((m.vars.zip values).take (i + 1)).all fun p => decide (p.1.lo ≤ p.2) && decide (p.2 ≤ p.1.hi)) = (decide (m.vars[i].lo ≤ values[i]) && decide (values[i] ≤ m.vars[i].hi)) := by
          rw [List.take_succ_eq_append_getElem (by omega), List.all_append, he, hz]; simp
        have hbad : (decide (m.vars[i].lo ≤ values[i]) && decide (values[i] ≤ m.vars[i].hi)) = false → inBounds m values = false := by
          intro h
          unfold inBounds
          rw [List.all_eq_false]
          exact ⟨_, List.getElem_mem (by omega : i < (m.vars.zip values).length), by rw [hz]; simpa using h⟩
        by_cases hlo : values[i] < m.vars[i].lo
        · have hb := hbad (by simp; omega)
          simp [model_Solution.b0, h2, h3, h19, h20, h21, hil, hil2, Var.cells, Model.cells, vVars, vCons, vTerms, vInts, hlo, hb]
        · by_cases hhi : m.vars[i].hi < values[i]
          · have hb := hbad (by simp; omega)
            simp [model_Solution.b0, h2, h3, h19, h20, h21, hil, hil2, Var.cells, Model.cells, vVars, vCons, vTerms, vInts, hlo, hhi, hb]
          · have hs' : (((m.vars.zip values).take (i + 1)).all fun p => decide (p.1.lo ≤ p.2) && decide (p.2 ≤ p.1.hi)) = true := by rw [hs]; simp; omega
            simp [model_Solution.b0, h2, h3, h19, h20, h21, hil, hil2, Var.cells, Model.cells, vVars, vCons, vTerms, vInts, hlo, hhi, hw]
            exact ⟨⟨i + 1, by omega, by omega, by simpa using hs'⟩, by omega⟩
      · obtain rfl : i = m.vars.length := by omega
        have hfin : inBounds m values = true := by
          unfold inBounds
          rw [List.take_of_length_le (by omega)] at he
          exact he
        simp [model_Solution.b0, h2, h3, h19, h20, h21, hfin]
    · rintro e ⟨sl, hp, bs⟩ (⟨rfl, h2, h3, rfl, hb⟩ | ⟨rfl, hb, h4⟩)
      · simp [h2, h3, hb, Model.cells, vVars, vCons, vTerms, vInts]
      · simp [hb, h4, model_Solution.rs]
  rintro ⟨sl, hp, bs⟩ ⟨h2, h3, rfl, hb⟩
  simp [h2, h3, hb, Model.cells, vVars, vCons, vTerms, vInts]
  refine DP.mono (contains_con_spec (p := fun c => !holdsB c values) (cap := [.ref [vInts values] 0]) (l := m.cons) (by simp) (by simp) (fun t ht => solution1_spec t values (hc' t ht) hv (hk t ht)) hc) fun r hr' => ?_
  subst hr'
  simp [model_Solution.rs]
  exact List.not_all_eq_any_not.symm

theorem product_spec (m : Model) (most : Int) (hm' : okModel m) (h64 : I64 most) : Pf Try.prog model_Product.id [.agg m.cells, V.i most] (.tup [V.i (prodB m most).1, .bool (prodB m most).2]) := by
  have hm : (maxLen : Int) ≤ 9223372036854775807 := by decide
  refine DC.of model_Product.ok (by simp) ?_
  unfold model_Product.ir
  refine vc_cut (fun s => gt s.sl 1 = V.i most ∧ gt s.sl 2 = .ptr 0 1 0 0 ∧ s.hp = [.mem false [] [m.cells]]) (by simp [Model.cells, vVars, vCons, vTerms]) ?_
  rintro ⟨sl, hp, bs⟩ ⟨h1, h2, rfl⟩
  refine vc_cut (fun s => gt s.sl 1 = V.i most ∧ gt s.sl 2 = .ptr 0 1 0 0 ∧ s.hp = [.mem false [] [m.cells]] ∧ rightB m = true ∧ ¬ most < 1) ?_ ?_
  · simp [h1, h2, Model.cells, vVars, vCons, vTerms]
    refine (right_spec m hm').use ?_
    cases hr : rightB m
    · simp [prodB, hr, model_Product.rs]
    · by_cases h : most < 1 <;> simp [prodB, hr, h, h1, h2, Model.cells, vVars, vCons, vTerms, model_Product.rs]
  rintro ⟨sl, hp, bs⟩ ⟨h1, h2, rfl, hr, hmost⟩
  have hR := right_iff.1 hr
  have hB : prodB m most = prodFrom most 1 m.vars := by simp [prodB, hr, hmost]
  have hnv := hR.nv
  rw [hB]
  simp [h1, h2, Model.cells, vVars, vCons, vTerms]
  refine WI.mono (Q := fun e s => (e = .exit 0 ∧ ∃ N, prodFrom most 1 m.vars = (N, true) ∧ gt s.sl 6 = V.i N) ∨ (e = .ret ∧ prodFrom most 1 m.vars = (0, false) ∧ gt s.sl 4 = V.i 0 ∧ gt s.sl 5 = .bool false)) (WI.loop 1 (by simp) (fun s => ∃ i N, i ≤ m.vars.length ∧ gt s.sl 1 = V.i most ∧ gt s.sl 6 = V.i N ∧ gt s.sl 18 = vVars m.vars ∧ gt s.sl 19 = V.i m.vars.length ∧ gt s.sl 20 = V.i i ∧ s.hp = [.mem false [] [m.cells]] ∧ 1 ≤ N ∧ N ≤ most ∧ prodFrom most 1 m.vars = prodFrom most N (m.vars.drop i)) (fun s => (m.vars.length - (gt s.sl 20).num).toNat) ?_ ?_) ?_
  · exact ⟨0, 1, by simp [h1, h2, Model.cells, vVars, vCons, vTerms]; exact Int.not_lt.1 hmost⟩
  · rintro ⟨sl, hp, bs⟩ ⟨i, N, hi, h1, h6, h18, h19, h20, rfl, hN1, hN2, he⟩
    by_cases hil : i < m.vars.length
    · have hw : IntKind.i64.wrap ((i : Int) + 1) = ((i + 1 : Nat) : Int) := by rw [wrap64] <;> omega
      have hvo := VarOk.of (hR.var i _ (List.getElem?_eq_getElem hil))
      rw [List.drop_eq_getElem_cons hil] at he
      simp only [prodFrom] at he
      have l1 := hvo.lo; have l2 := hvo.hi; have l3 := hvo.le; have l4 := hvo.dom
      obtain ⟨_, h64⟩ := h64
      generalize hv : m.vars[i] = v at *
      have hw1 : IntKind.i64.wrap (v.hi - v.lo) = v.hi - v.lo := by rw [wrap64] <;> omega
      have hw2 : IntKind.i64.wrap (v.hi - v.lo + 1) = v.hi - v.lo + 1 := by rw [wrap64] <;> omega
      generalize hsz : v.hi - v.lo + 1 = sz at *
      have hsz1 : 1 ≤ sz := by omega
      have hq0 : 0 ≤ most.tdiv sz := Int.tdiv_nonneg (by omega) (by omega)
      have hq1 : most.tdiv sz * sz ≤ most := by
        rw [Int.tdiv_eq_ediv_of_nonneg (by omega)]
        exact Int.ediv_mul_le _ (by omega)
      have hq2 : most.tdiv sz ≤ most := by
        rw [Int.tdiv_eq_ediv_of_nonneg (by omega)]
        exact Int.ediv_le_self _ (by omega)
      have hw3 : IntKind.i64.wrap (most.tdiv sz) = most.tdiv sz := by rw [wrap64] <;> omega
      have hsz0 : ¬ sz = 0 := by omega
      by_cases hlt : most.tdiv sz < N
      · rw [if_pos hlt] at he
        simp [model_Product.b0, h1, h6, h18, h19, h20, hil, hv, Var.cells, vVars, hw1, hsz, hw2, hw3, hsz0, hlt, he]
      · rw [if_neg hlt] at he
        have hle : N * sz ≤ most := Int.le_trans (Int.mul_le_mul_of_nonneg_right (by omega) (by omega)) hq1
        have hge : 1 ≤ N * sz := by
          have := Int.mul_le_mul hN1 hsz1 (by omega) (by omega)
          omega
        have hw4 : IntKind.i64.wrap (N * sz) = N * sz := by rw [wrap64] <;> omega
        simp [model_Product.b0, h1, h6, h18, h19, h20, hil, hv, Var.cells, vVars, hw1, hsz, hw2, hw3, hsz0, hlt, hw4, hw]
        exact ⟨⟨i + 1, by omega, by omega, hge, hle, he⟩, by omega⟩
    · obtain rfl : i = m.vars.length := by omega
      rw [List.drop_length] at he
      simp [model_Product.b0, h1, h6, h18, h19, h20, he, prodFrom]
  · rintro e ⟨sl, hp, bs⟩ (⟨rfl, N, he, h6⟩ | ⟨rfl, he, h4, h5⟩)
    · simp [h6, he, model_Product.rs]
    · simp [h4, h5, he, model_Product.rs]
end Go.Abs.G
